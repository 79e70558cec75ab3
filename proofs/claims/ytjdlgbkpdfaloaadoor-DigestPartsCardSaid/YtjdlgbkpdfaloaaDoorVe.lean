/-
  VALUE LOGIC, part e: indexing, fields, lengths, extraction, picks, min and max.
-/
import Derived.Test.YtjdlgbkpdfaloaaDoorVd
namespace Go.V
set_option linter.unusedVariables false
set_option linter.unusedSimpArgs false

def aidxAddr (P : Program) (t : TypeId) (x i : AV) : Option (Prop × AV) :=
  match i with
  | .val (.int _ i) =>
    match P.underlying t, x with
    | some (.slice e), .sl n cells p =>
      match tsz P e with
      | some sz => some ((cells.length = n * sz ∧ 0 ≤ i ∧ i < (n : Int) ∧ 0 < sz), .cptr (cells.drop (i.toNat * sz)))
      | none => none
    | some (.slice e), .osl r off n cap =>
      match tsz P e with
      | some sz => some ((0 ≤ i ∧ i < (n : Int)), .ptr r (off + i.toNat * sz))
      | none => none
    | some (.array N e), .ptr r off =>
      match tsz P e with
      | some sz => some ((0 ≤ i ∧ i < (N : Int)), .ptr r (off + i.toNat * sz))
      | none => none
    | some (.array N e), .cptr cells =>
      match tsz P e with
      | some sz => some ((0 ≤ i ∧ i < (N : Int) ∧ i.toNat * sz ≤ cells.length), .cptr (cells.drop (i.toNat * sz)))
      | none => none
    | _, _ => none
  | _ => none

theorem RepAt.cptr {E : Env} {g o : Nat} {cells : List AV} (hg : g < E.w.heap.size) (ho : o + cells.length ≤ E.lim g) (hat : RepAt E g o cells) (k : Nat) (hk : k ≤ cells.length) :
    RepV E (.cptr (cells.drop k)) (.pointer (some ((⟨g, o, none⟩ : Addr).add k))) := by
  simp only [RepV]
  refine ⟨g, o + k, by rw [add_off], hg, ?_, hat.drop k⟩
  rw [List.length_drop]
  omega

theorem aidxAddr_sound {P : Program} {E : Env} {t : TypeId} {x i v : AV} {C : Prop} {u j : Value} (h : aidxAddr P t x i = some (C, v)) (hC : C) (hx : RepV E x u) (hi : RepV E i j) :
    ∃ u', RepV E v u' ∧ (Instr.indexAt t u j).run P E.w = .ok u' E.w := by
  unfold aidxAddr at h
  split at h
  case h_2 => cases h
  rename_i k i
  simp only [RepV] at hi
  subst hi
  split at h
  · rename_i e n cells p ht
    split at h
    case h_2 => cases h
    rename_i sz hsz
    simp only [Option.some.injEq, Prod.mk.injEq] at h
    obtain ⟨rfl, rfl⟩ := h
    obtain ⟨hl, h0, h1, h2⟩ := hC
    simp only [RepV] at hx
    obtain ⟨A, cap, rfl, hn, hc, hp⟩ := hx
    have hlt : i.toNat * sz < n * sz := (Nat.mul_lt_mul_right h2).2 (by omega)
    rcases hc with rfl | ⟨g, o, rfl, hg, ho, hat⟩
    · simp at hl; omega
    · refine ⟨_, RepAt.cptr hg ho hat (i.toNat * sz) (by omega), ?_⟩
      simp [Instr.indexAt, run_underlying ht, asIntOf, h0, h1, run_sizeOf hsz]
  · rename_i e r off n cap ht
    split at h
    case h_2 => cases h
    rename_i sz hsz
    simp only [Option.some.injEq, Prod.mk.injEq] at h
    obtain ⟨rfl, rfl⟩ := h
    obtain ⟨h0, h1⟩ := hC
    simp only [RepV] at hx
    obtain ⟨hk, A, c, rfl, hn, hcap, hpos⟩ := hx
    obtain ⟨g, hg, rfl⟩ := hpos (by omega)
    refine ⟨.pointer (some ⟨g, off + i.toNat * sz, none⟩), by simp only [RepV]; exact ⟨hk, g, hg, rfl⟩, ?_⟩
    simp [Instr.indexAt, run_underlying ht, asIntOf, h0, h1, run_sizeOf hsz, add_off]
  · rename_i N e r off ht
    split at h
    case h_2 => cases h
    rename_i sz hsz
    simp only [Option.some.injEq, Prod.mk.injEq] at h
    obtain ⟨rfl, rfl⟩ := h
    obtain ⟨h0, h1⟩ := hC
    simp only [RepV] at hx
    obtain ⟨hk, g, hg, rfl⟩ := hx
    refine ⟨.pointer (some ⟨g, off + i.toNat * sz, none⟩), by simp only [RepV]; exact ⟨hk, g, hg, rfl⟩, ?_⟩
    simp [Instr.indexAt, run_underlying ht, asIntOf, h0, h1, run_sizeOf hsz, add_off, Instr.sureAddr]
  · rename_i N e cells ht
    split at h
    case h_2 => cases h
    rename_i sz hsz
    simp only [Option.some.injEq, Prod.mk.injEq] at h
    obtain ⟨rfl, rfl⟩ := h
    obtain ⟨h0, h1, h2⟩ := hC
    simp only [RepV] at hx
    obtain ⟨g, o, rfl, hg, ho, hat⟩ := hx
    refine ⟨_, RepAt.cptr hg ho hat (i.toNat * sz) h2, ?_⟩
    simp [Instr.indexAt, run_underlying ht, asIntOf, h0, h1, run_sizeOf hsz, Instr.sureAddr]
  · cases h

/-- A part of a value's cells: a value of type t. -/
def apart (P : Program) (t : TypeId) (cs : List AV) (off : Nat) : Option (Prop × AV) :=
  match isAggD (P.underlying t) with
  | some true =>
    match tsz P t with
    | some sz => some (off + sz ≤ cs.length, .agg ((cs.drop off).take sz))
    | none => none
  | some false => some (off < cs.length, cs.getD off .top)
  | none => none

theorem apart_sound {P : Program} {E : Env} {t : TypeId} {cs : List AV} {off : Nat} {v : AV} {C : Prop} {vs : List Value} (h : apart P t cs off = some (C, v)) (hC : C) (hx : RepL E cs vs) :
    ∃ u', RepV E v u' ∧ (part t vs.toArray off).run P E.w = .ok u' E.w := by
  unfold apart at h
  split at h
  · rename_i hag
    split at h
    case h_2 => cases h
    rename_i sz hsz
    simp only [Option.some.injEq, Prod.mk.injEq] at h
    obtain ⟨rfl, rfl⟩ := h
    refine ⟨.agg ((vs.drop off).take sz).toArray, by simp only [RepV]; exact ⟨_, rfl, (hx.drop off).take sz⟩, ?_⟩
    have e : vs.toArray.extract off (off + sz) = ((vs.drop off).take sz).toArray := by
      simp [List.extract_eq_take_drop]
    simp [part, run_isAgg hag, run_sizeOf hsz, e]
  · rename_i hag
    simp only [Option.some.injEq, Prod.mk.injEq] at h
    obtain ⟨rfl, rfl⟩ := h
    have hl := hx.length
    obtain ⟨u', h1, h2⟩ := hx.get off cs[off] (List.getElem?_eq_getElem hC)
    refine ⟨u', by rw [List.getD_eq_getElem?_getD, List.getElem?_eq_getElem hC]; exact h2, ?_⟩
    simp [part, run_isAgg hag, h1]
  · cases h

def aidx (P : Program) (t : TypeId) (x i : AV) : Option (Prop × AV) :=
  match i with
  | .val (.int _ i) =>
    match P.underlying t, x with
    | some (.array N e), .agg cs =>
      match tsz P e with
      | some sz => match apart P e cs (i.toNat * sz) with
        | some (C, v) => some ((0 ≤ i ∧ i < (N : Int)) ∧ C, v)
        | none => none
      | none => none
    | some .string, .val (.string s) => some ((0 ≤ i ∧ i < (s.size : Int)), B (s.data.toList.getD i.toNat 0))
    | _, _ => none
  | _ => none

theorem aidx_sound {P : Program} {E : Env} {t : TypeId} {x i v : AV} {C : Prop} {u j : Value} (h : aidx P t x i = some (C, v)) (hC : C) (hx : RepV E x u) (hi : RepV E i j) :
    ∃ u', RepV E v u' ∧ (Instr.index t u j).run P E.w = .ok u' E.w := by
  unfold aidx at h
  split at h
  case h_2 => cases h
  rename_i k i
  simp only [RepV] at hi
  subst hi
  split at h
  · rename_i N e cs ht
    split at h
    case h_2 => cases h
    rename_i sz hsz
    split at h
    case h_2 => cases h
    rename_i C' v' hp
    simp only [Option.some.injEq, Prod.mk.injEq] at h
    obtain ⟨rfl, rfl⟩ := h
    obtain ⟨⟨h0, h1⟩, h2⟩ := hC
    simp only [RepV] at hx
    obtain ⟨vs, rfl, hl⟩ := hx
    obtain ⟨u', hu, hrun⟩ := apart_sound (P := P) hp h2 hl
    exact ⟨u', hu, by simp [Instr.index, run_underlying ht, asIntOf, h0, h1, run_sizeOf hsz, hrun]⟩
  · rename_i s ht
    simp only [Option.some.injEq, Prod.mk.injEq] at h
    obtain ⟨rfl, rfl⟩ := h
    obtain ⟨h0, h1⟩ := hC
    simp only [RepV] at hx
    subst hx
    have hlt : i.toNat < s.size := by omega
    have e : s[i.toNat]? = some (s.data.toList.getD i.toNat 0) := by
      obtain ⟨⟨l⟩⟩ := s
      have hlt' : i.toNat < l.length := hlt
      show (if h : i.toNat < l.length then some (ByteArray.mk ⟨l⟩)[i.toNat] else none) = _
      rw [dif_pos hlt']
      simp only [List.getD_eq_getElem?_getD, List.getElem?_eq_getElem hlt', Option.getD_some]
      rfl
    refine ⟨_, by simp only [B, RepV]; rfl, ?_⟩
    simp [Instr.index, run_underlying ht, asIntOf, h0, e]
  · cases h

def afield (P : Program) (t : TypeId) (x : AV) (f : Nat) : Option (Prop × AV) :=
  match P.underlying t, x with
  | some (.struct fs), .agg cs => match fs[f]? with
    | some fl => apart P fl.type cs fl.offset
    | none => none
  | _, _ => none

theorem afield_sound {P : Program} {E : Env} {t : TypeId} {x v : AV} {f : Nat} {C : Prop} {u : Value} (h : afield P t x f = some (C, v)) (hC : C) (hx : RepV E x u) :
    ∃ u', RepV E v u' ∧ (Instr.field t u f).run P E.w = .ok u' E.w := by
  unfold afield at h
  split at h
  case h_2 => cases h
  rename_i fs cs ht
  split at h
  case h_2 => cases h
  rename_i fl hf
  simp only [RepV] at hx
  obtain ⟨vs, rfl, hl⟩ := hx
  obtain ⟨u', hu, hrun⟩ := apart_sound (P := P) h hC hl
  exact ⟨u', hu, by simp [Instr.field, run_underlying ht, hf, asAgg, hrun]⟩

def afieldAddr (P : Program) (t : TypeId) (x : AV) (f : Nat) : Option (Prop × AV) :=
  match P.underlying t with
  | some (.struct fs) => match fs[f]? with
    | some fl => match tsz P fl.type with
      | some sz => match x with
        | .ptr r off => some (sz ≠ 0, .ptr r (off + fl.offset))
        | .cptr cells => some (sz ≠ 0 ∧ fl.offset ≤ cells.length, .cptr (cells.drop fl.offset))
        | _ => none
      | none => none
    | none => none
  | _ => none

theorem afieldAddr_sound {P : Program} {E : Env} {t : TypeId} {x v : AV} {f : Nat} {C : Prop} {u : Value} (h : afieldAddr P t x f = some (C, v)) (hC : C) (hx : RepV E x u) :
    ∃ u', RepV E v u' ∧ (Instr.fieldAt t u f).run P E.w = .ok u' E.w := by
  unfold afieldAddr at h
  split at h
  case h_2 => cases h
  rename_i fs ht
  split at h
  case h_2 => cases h
  rename_i fl hf
  split at h
  case h_2 => cases h
  rename_i sz hsz
  split at h
  case h_3 => cases h
  · simp only [Option.some.injEq, Prod.mk.injEq] at h
    obtain ⟨rfl, rfl⟩ := h
    simp only [RepV] at hx
    obtain ⟨hk, g, hg, rfl⟩ := hx
    refine ⟨_, by simp only [RepV]; exact ⟨hk, g, hg, rfl⟩, ?_⟩
    simp [Instr.fieldAt, run_underlying ht, hf, Instr.sureAddr, fieldPlace, run_sizeOf hsz, hC, add_off]
  · simp only [Option.some.injEq, Prod.mk.injEq] at h
    obtain ⟨rfl, rfl⟩ := h
    simp only [RepV] at hx
    obtain ⟨g, o, rfl, hg, ho, hat⟩ := hx
    refine ⟨_, RepAt.cptr hg ho hat _ hC.2, ?_⟩
    simp [Instr.fieldAt, run_underlying ht, hf, Instr.sureAddr, fieldPlace, run_sizeOf hsz, hC.1]

def alen (P : Program) (t : TypeId) (x : AV) : Option AV :=
  match P.underlying t, x with
  | some .string, .val (.string s) => some (.val (.int .i64 (s.size : Int)))
  | some (.array n _), _ => some (.val (.int .i64 (n : Int)))
  | some (.slice _), .sl n _ _ => some (.val (.int .i64 (n : Int)))
  | some (.slice _), .osl _ _ n _ => some (.val (.int .i64 (n : Int)))
  | some (.pointer arr), _ => match P.underlying arr with
    | some (.array n _) => some (.val (.int .i64 (n : Int)))
    | _ => none
  | _, _ => none

theorem alen_sound {P : Program} {E : Env} {t ty : TypeId} {x v : AV} {u : Value} (h : alen P t x = some v) (hx : RepV E x u) :
    ∃ u', RepV E v u' ∧ (Builtin.len_ #[t] ty #[u]).run P E.w = .ok u' E.w := by
  unfold alen at h
  split at h
  · rename_i s ht
    injection h with h
    subst h
    simp only [RepV] at hx
    subst hx
    exact ⟨_, by simp only [RepV]; rfl, by simp [Builtin.len_, run_underlying ht, goInt]⟩
  · rename_i n e ht
    injection h with h
    subst h
    exact ⟨_, by simp only [RepV]; rfl, by simp [Builtin.len_, run_underlying ht, goInt]⟩
  · rename_i e n cells p ht
    injection h with h
    subst h
    simp only [RepV] at hx
    obtain ⟨A, cap, rfl, _⟩ := hx
    exact ⟨_, by simp only [RepV]; rfl, by simp [Builtin.len_, run_underlying ht, goInt]⟩
  · rename_i e r off n cap ht
    injection h with h
    subst h
    simp only [RepV] at hx
    obtain ⟨_, A, cap, rfl, _⟩ := hx
    exact ⟨_, by simp only [RepV]; rfl, by simp [Builtin.len_, run_underlying ht, goInt]⟩
  · rename_i arr ht
    split at h
    case h_2 => cases h
    rename_i n e ha
    injection h with h
    subst h
    exact ⟨_, by simp only [RepV]; rfl, by simp [Builtin.len_, run_underlying ht, run_underlying ha, goInt]⟩
  · cases h

def amin2 (isMin : Bool) : AV → AV → Option AV
  | .val (.int k x), .val (.int _ y) => some (.val (.int k (if isMin then (if y < x then y else x) else (if y > x then y else x))))
  | _, _ => none

theorem amin_sound {P : Program} {E : Env} {x y v : AV} {ts : Array TypeId} {ty : TypeId} {a b : Value} (h : amin2 true x y = some v) (hx : RepV E x a) (hy : RepV E y b) :
    ∃ u', RepV E v u' ∧ (Builtin.min_ ts ty #[a, b]).run P E.w = .ok u' E.w := by
  unfold amin2 at h
  split at h
  case h_2 => cases h
  simp only [RepV] at hx hy
  subst hx hy
  injection h with h
  subst h
  exact ⟨_, by simp only [RepV]; rfl, by simp [Builtin.min_, Builtin.min2]⟩
theorem amax_sound {P : Program} {E : Env} {x y v : AV} {ts : Array TypeId} {ty : TypeId} {a b : Value} (h : amin2 false x y = some v) (hx : RepV E x a) (hy : RepV E y b) :
    ∃ u', RepV E v u' ∧ (Builtin.max_ ts ty #[a, b]).run P E.w = .ok u' E.w := by
  unfold amin2 at h
  split at h
  case h_2 => cases h
  simp only [RepV] at hx hy
  subst hx hy
  injection h with h
  subst h
  exact ⟨_, by simp only [RepV]; rfl, by simp [Builtin.max_, Builtin.max2]⟩

def aext (x : AV) (i : Nat) : Option AV :=
  match x with
  | .tup vs => vs[i]?
  | _ => none

theorem aext_sound {P : Program} {E : Env} {x v : AV} {i : Nat} {u : Value} (h : aext x i = some v) (hx : RepV E x u) :
    ∃ u', RepV E v u' ∧ (Instr.extract u i).run P E.w = .ok u' E.w := by
  unfold aext at h
  split at h
  case h_2 => cases h
  rename_i vs
  simp only [RepV] at hx
  obtain ⟨us, rfl, hl⟩ := hx
  obtain ⟨u', h1, h2⟩ := hl.get i v h
  exact ⟨u', h2, by simp [Instr.extract, h1]⟩

def apick : AV → AV → AV → Option AV
  | .val (.bool c), .val (.bool a), .val (.bool b) => some (.val (.bool (if c then a else b)))
  | .val (.bool c), a, b => some (if c then a else b)
  | _, _, _ => none

theorem apick_sound {P : Program} {E : Env} {c a b v : AV} {uc ua ub : Value} (h : apick c a b = some v) (hc : RepV E c uc) (ha : RepV E a ua) (hb : RepV E b ub) :
    ∃ u', RepV E v u' ∧ (do pure (.value (if ← asBool uc then ua else ub)) : Sem Next).run P E.w = .ok (.value u') E.w := by
  unfold apick at h
  split at h
  case h_3 => cases h
  · simp only [RepV] at hc ha hb
    subst hc ha hb
    injection h with h
    subst h
    refine ⟨_, by simp only [RepV]; rfl, ?_⟩
    rename_i c a b
    cases c <;> simp [asBool]
  · simp only [RepV] at hc
    subst hc
    injection h with h
    subst h
    rename_i c _
    cases c
    · exact ⟨ub, hb, by simp [asBool]⟩
    · exact ⟨ua, ha, by simp [asBool]⟩

def aarrayAt (P : Program) (t : TypeId) (x : AV) : Option (Prop × AV) :=
  match P.underlying t, x with
  | some (.array N e), .sl n cells p => some ((cells.length = n ∧ 0 < n ∧ N ≤ n), .cptr cells)
  | some (.array N e), .osl r off n cap => some (0 < n ∧ N ≤ n, .ptr r off)
  | _, _ => none

theorem aarrayAt_sound {P : Program} {E : Env} {t : TypeId} {x v : AV} {C : Prop} {u : Value} (h : aarrayAt P t x = some (C, v)) (hC : C) (hx : RepV E x u) :
    ∃ u', RepV E v u' ∧ (Instr.arrayAt t u).run P E.w = .ok u' E.w := by
  unfold aarrayAt at h
  split at h
  · rename_i N e n cells p ht
    simp only [Option.some.injEq, Prod.mk.injEq] at h
    obtain ⟨rfl, rfl⟩ := h
    obtain ⟨h1, h2, h3⟩ := hC
    simp only [RepV] at hx
    obtain ⟨A, cap, rfl, hn, hc, hp⟩ := hx
    rcases hc with rfl | ⟨g, o, rfl, hg, ho, hat⟩
    · simp at h1; omega
    · refine ⟨_, by simp only [RepV]; exact ⟨g, o, rfl, hg, ho, hat⟩, ?_⟩
      simp [Instr.arrayAt, run_underlying ht, Nat.not_lt.2 h3]
  · rename_i N e r off n cap ht
    simp only [Option.some.injEq, Prod.mk.injEq] at h
    obtain ⟨rfl, rfl⟩ := h
    obtain ⟨h2, h3⟩ := hC
    simp only [RepV] at hx
    obtain ⟨hk, A, c, rfl, hn, hcap, hpos⟩ := hx
    obtain ⟨g, hg, rfl⟩ := hpos h2
    refine ⟨_, by simp only [RepV]; exact ⟨hk, g, hg, rfl⟩, ?_⟩
    simp [Instr.arrayAt, run_underlying ht, Nat.not_lt.2 h3]
  · cases h

def anil (x : AV) : Option AV :=
  match x with
  | .ptr r off => some (.ptr r off)
  | .cptr cells => some (.cptr cells)
  | _ => none

end Go.V
