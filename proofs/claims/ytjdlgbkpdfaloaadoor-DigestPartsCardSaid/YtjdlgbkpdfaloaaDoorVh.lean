/-
  VALUE LOGIC, part h: append.
-/
import Derived.Test.YtjdlgbkpdfaloaaDoorVg
namespace Go.V
set_option linter.unusedVariables false
set_option linter.unusedSimpArgs false

/-- A token's slice has grown. -/
theorem tok_upd {E E' : Env} {objs : List AObj} (ho : ObjsRep E objs) {r sz n n' : Nat} {u : Value} (hr : objs[r]? = some (.tok sz n))
    (hsize : E.w.heap.size ≤ E'.w.heap.size) (hos : E'.w.os = E.w.os) (htape : E'.w.tape = E.w.tape) (hout : E'.w.output = E.w.output) (hk : E'.k = E.k)
    (hρ : ∀ i, E'.ρ i = if i = r then u else E.ρ i) (hle : RefLe (E.ρ r) u)
    (hb : ∀ b, b < E.w.heap.size → ownBlk (.tok sz n) (E.ρ r) ≠ some b → E'.w.heap[b]? = E.w.heap[b]? ∧ E'.lim b = E.lim b)
    (hb0 : ∀ b, ownBlk (.tok sz n) (E.ρ r) = some b → E.lim b ≤ E'.lim b ∧ ∀ o, o < E.lim b → E'.w.cell? ⟨b, o, none⟩ = E.w.cell? ⟨b, o, none⟩)
    (hrep : ObjRep E' u (.tok sz n')) (hown : ∀ b, ownBlk (.tok sz n') u = some b → ownBlk (.tok sz n) (E.ρ r) = some b ∨ E.w.heap.size ≤ b) :
    ObjsRep E' (objs.set r (.tok sz n')) ∧ Ext E objs E' (objs.set r (.tok sz n')) := by
  obtain ⟨k0, k1, k2⟩ := ho
  have hrl : r < objs.length := (List.getElem?_eq_some_iff.1 hr).1
  have hx0 : Ext0 E E' := by
    refine ⟨hsize, fun g hg => ?_, fun g o hg hlt => ?_, Nat.le_of_eq hk.symm, fun i hi => ?_⟩
    · by_cases e : ownBlk (.tok sz n) (E.ρ r) = some g
      · exact (hb0 g e).1
      · exact Nat.le_of_eq (hb g hg e).2.symm
    · by_cases e : ownBlk (.tok sz n) (E.ρ r) = some g
      · exact (hb0 g e).2 o hlt
      · exact cell_of_heap (hb g hg e).1
    · rw [hρ i]
      split
      · rename_i e; subst e; exact hle
      · exact .refl _
  have hne : ∀ i o b, i ≠ r → objs[i]? = some o → ownBlk o (E.ρ i) = some b → ownBlk (.tok sz n) (E.ρ r) ≠ some b := fun i o b hi hio he he' => hi (k2 i r o _ b hio hr he he')
  have hlt : ∀ i o b, objs[i]? = some o → ownBlk o (E.ρ i) = some b → b < E.w.heap.size := fun i o b hio he => own_lt (k1 i o hio) he
  refine ⟨⟨by simpa [hk] using k0, fun i o hi => ?_, fun i j o o' b hi hj hbi hbj => ?_⟩, { hx0 with os := hos, tape := htape, output := hout, frame := fun b hb' hnow => ?_, own := ?_ }⟩
  · rw [hρ i]
    rcases getElem?_set' hi with ⟨rfl, rfl, _⟩ | ⟨hi', hio⟩
    · rw [if_pos rfl]; exact hrep
    · rw [if_neg hi']
      exact (k1 i o hio).stay hx0 fun b he => hb b (hlt i o b hio he) (hne i o b hi' hio he)
  · rw [hρ i] at hbi
    rw [hρ j] at hbj
    rcases getElem?_set' hi with ⟨rfl, rfl, _⟩ | ⟨hi', hio⟩ <;> rcases getElem?_set' hj with ⟨rfl, rfl, _⟩ | ⟨hj', hjo⟩
    · rfl
    · rw [if_pos rfl] at hbi
      rw [if_neg hj'] at hbj
      rcases hown b hbi with e | e
      · exact absurd e (hne j o' b hj' hjo hbj)
      · have := hlt j o' b hjo hbj; omega
    · rw [if_pos rfl] at hbj
      rw [if_neg hi'] at hbi
      rcases hown b hbj with e | e
      · exact absurd e (hne i o b hi' hio hbi)
      · have := hlt i o b hio hbi; omega
    · rw [if_neg hi'] at hbi
      rw [if_neg hj'] at hbj
      exact k2 i j o o' b hio hjo hbi hbj
  · exact hb b hb' fun e => hnow ⟨r, _, hr, e⟩
  · rintro b ⟨i, o, hi, he⟩ hb'
    rw [hρ i] at he
    rcases getElem?_set' hi with ⟨rfl, rfl, _⟩ | ⟨hi', hio⟩
    · rw [if_pos rfl] at he
      rcases hown b he with e | e
      · exact ⟨i, _, hr, e⟩
      · omega
    · rw [if_neg hi'] at he
      exact ⟨i, o, hio, he⟩

/-- n times a value's cells. -/
def zrep (z : List Value) (n : Nat) : List AV := (List.replicate n (z.map cav)).flatten

theorem zrep_length (z : List Value) (n : Nat) : (zrep z n).length = n * z.length := by simp [zrep]

def zvals (z : List Value) (n : Nat) : List Value := (List.replicate n z).flatten

theorem RepL_zrep (E : Env) (z : List Value) : ∀ n, RepL E (zrep z n) (zvals z n)
  | 0 => by simp [zrep, zvals, RepL]
  | n + 1 => by
    have := RepL_zrep E z n
    unfold zrep zvals at *
    simp only [List.replicate_succ, List.flatten_cons]
    exact (RepL_vals E z).append this

theorem zvals_length (z : List Value) (n : Nat) : (zvals z n).length = n * z.length := by simp [zvals]

theorem zvals_get (z : List Value) : ∀ (n i : Nat), i < n * z.length → (zvals z n)[i]? = z[i % z.length]?
  | 0, i, h => by simp at h
  | n + 1, i, h => by
    unfold zvals
    simp only [List.replicate_succ, List.flatten_cons]
    rcases Nat.lt_or_ge i z.length with hlt | hge
    · rw [List.getElem?_append_left hlt, Nat.mod_eq_of_lt hlt]
    · rw [List.getElem?_append_right hge]
      have h2 : i - z.length < n * z.length := by rw [Nat.succ_mul] at h; omega
      have := zvals_get z n (i - z.length) h2
      unfold zvals at this
      rw [this]
      congr 1
      rw [Nat.mod_eq_sub_mod hge]

theorem zeroCells_eq (z : List Value) (n : Nat) : (Builtin.zeroCells z.toArray n).toList = zvals z n := by
  apply List.ext_getElem?
  intro i
  simp only [Builtin.zeroCells, Array.toList_map, Array.toList_range, List.getElem?_map, List.size_toArray]
  rcases Nat.lt_or_ge i (n * z.length) with hlt | hge
  · rw [zvals_get z n i hlt, List.getElem?_range hlt]
    have : 0 < z.length := Nat.pos_of_ne_zero fun e => by rw [e] at hlt; simp at hlt
    have hm := Nat.mod_lt i this
    simp [getElem!_pos, hm]
  · rw [List.getElem?_eq_none (by simpa using hge), List.getElem?_eq_none (by rw [zvals_length]; exact hge)]
    rfl

/-- What is appended. -/
def appSrc (P : Program) (objs : List AObj) (e : TypeId) (sz : Nat) (xT : TypeId) (x : AV) : Option (Prop × Nat × List AV) :=
  match P.underlying xT with
  | some (.int _) => match x, tzero P e with
    | .val (.int _ m), some z => some (0 ≤ m ∧ m ≤ 4611686018427387904 ∧ z.length = sz, m.toNat, zrep z m.toNat)
    | _, _ => none
  | some _ => srcCells objs sz x
  | none => none

def aappend (P : Program) (sT xT : TypeId) (mt : Bool) (s x : AV) (objs : List AObj) : R :=
  match P.underlying sT with
  | some (.slice e) => match tsz P e, tby P e, tzero P e, s with
    | some sz, some by_, some z, .sl n cells p => match appSrc P objs e sz xT x with
      | some (C, m, more) =>
        match p with
        | .full =>
          if mt then .ok (C ∧ cells.length = n * sz ∧ 0 < sz ∧ z.length = sz ∧ (n + m) * by_ ≤ 140737488355328 ∧ n + m ≤ 9223372036854775807 ∧ more.all oneC = true ∧ n = 0)
            (.osl objs.length 0 (n + m) none) (objs ++ [.cells (cells ++ more)])
          else .ok (C ∧ cells.length = n * sz ∧ 0 < sz ∧ z.length = sz ∧ (n + m) * by_ ≤ 140737488355328 ∧ n + m ≤ 9223372036854775807 ∧ more.all oneC = true)
            (.sl (n + m) (cells ++ more) (.tok objs.length)) (objs ++ [.tok sz (n + m)])
        | .tok r => match objs[r]? with
          | some (.tok sz' n') => .ok (C ∧ cells.length = n * sz ∧ 0 < sz ∧ z.length = sz ∧ (n + m) * by_ ≤ 140737488355328 ∧ n + m ≤ 9223372036854775807 ∧ more.all oneC = true ∧ sz' = sz ∧ n' = n)
            (.sl (n + m) (cells ++ more) (.tok r)) (objs.set r (.tok sz (n + m)))
          | _ => .bad
        | .no => .bad
      | none => .bad
    | _, _, _, _ => .bad
  | _ => .bad

/-- What is appended, as the model reads it. -/
theorem appSrc_sound {P : Program} {E : Env} {objs : List AObj} {xT e : TypeId} {sz m : Nat} {z : List Value} {x : AV} {u : Value} {more : List AV} {C : Prop}
    (hz : tzero P e = some z) (hsrc : appSrc P objs e sz xT x = some (C, m, more)) (hC : C) (ho : ObjsRep E objs) (hx : RepV E x u) :
    ∃ us, RepL E more us ∧ more.length = m * sz ∧
      ((∃ d, P.underlying xT = some d ∧ (∀ k, d ≠ .int k) ∧ (Builtin.lenOf u).run P E.w = .ok m E.w ∧ ∀ w' : World, (∀ a, w'.cell? a = E.w.cell? a) → (Builtin.firstCells sz m u).run P w' = .ok us.toArray w') ∨
       (∃ k kk m', P.underlying xT = some (.int k) ∧ u = .int kk m' ∧ 0 ≤ m' ∧ m' ≤ 4611686018427387904 ∧ m = m'.toNat ∧ us = zvals z m ∧ z.length = sz)) := by
  unfold appSrc at hsrc
  split at hsrc
  · rename_i k hxT
    split at hsrc
    case h_2 => cases hsrc
    rename_i k' m' z' hz'
    simp only [Option.some.injEq, Prod.mk.injEq] at hsrc
    obtain ⟨rfl, rfl, rfl⟩ := hsrc
    rw [hz] at hz'
    injection hz' with hz'
    subst hz'
    obtain ⟨c1, c2, c3⟩ := hC
    simp only [RepV] at hx
    subst hx
    exact ⟨zvals z m'.toNat, RepL_zrep E z _, by rw [zrep_length, c3], .inr ⟨_, _, m', hxT, rfl, c1, c2, rfl, rfl, c3⟩⟩
  · rename_i d hd hxT
    obtain ⟨h1, h2, vs, h3, h4⟩ := srcCells_sound (P := P) hsrc hC ho hx
    have hvl : vs.length = m * sz := by rw [h3.length, h1]
    refine ⟨vs, h3, h1, .inl ⟨_, hxT, fun k e => hd k e, h2, fun w' hw' => ?_⟩⟩
    have h5 := h4 m (Nat.le_refl _) w' hw'
    rw [← hvl, List.take_length] at h5
    exact h5
  · cases hsrc

theorem matches_int {d : TypeDesc} (h : ∀ k, d ≠ .int k) : (match d with | .int _ => true | _ => false) = false := by
  cases d <;> first | rfl | exact absurd rfl (h _)

/-- What append does, in the model's own words: in place, or in a new block. -/
theorem run_append {P : Program} {E : Env} {objs : List AObj} {sT xT ty e : TypeId} {sz by_ n cap m : Nat} {z : List Value} {A : Option Addr} {x : AV} {u : Value} {more olds : List AV} {C : Prop}
    (ht : P.underlying sT = some (.slice e)) (hsz : tsz P e = some sz) (hby : tby P e = some by_) (hz : tzero P e = some z) (hsrc : appSrc P objs e sz xT x = some (C, m, more)) (hC : C)
    (ho : ObjsRep E objs) (hx : RepV E x u) (hnb : (n + m) * by_ ≤ 140737488355328) (hn63 : n + m ≤ 9223372036854775807) (holen : olds.length = n * sz)
    (hold : olds = [] ∨ ∃ g o, A = some ⟨g, o, none⟩ ∧ g < E.w.heap.size ∧ o + olds.length ≤ E.lim g ∧ RepAt E g o olds) :
    ∃ us, RepL E more us ∧ more.length = m * sz ∧
      ((n + m ≤ cap → (Builtin.append_ #[sT, xT] ty #[.slice A n cap, u]).run P E.w =
        (match A with
          | some a => ((storeCells (a.add (n * sz)) us).run P E.w).andThen fun _ w' => .ok (.slice A (n + m) cap) w'
          | none => .ok (.slice A (n + m) cap) E.w)) ∧
       (cap < n + m → ∃ os c, RepL E olds os ∧ n + m ≤ c ∧ (Builtin.append_ #[sT, xT] ty #[.slice A n cap, u]).run P E.w =
        .ok (.slice (some ⟨E.w.heap.size, 0, none⟩) (n + m) c) (E.w.drew.alloc (.cells (os ++ us ++ zvals z (c - (n + m))).toArray e)))) := by
  obtain ⟨i, hi, hib⟩ := run_bytesOf hby
  obtain ⟨us, hus, hlen, hcases⟩ := appSrc_sound hz hsrc hC ho hx
  have hwrap : ∀ m' : Int, 0 ≤ m' → m' ≤ 4611686018427387904 → IntKind.i64.wrap m' = m' := fun m' h0 h1 => by simp [IntKind.wrap, IntKind.bits, IntKind.signed]; omega
  have hbig : ∀ m' : Int, 0 ≤ m' → m = m'.toNat → ¬ (281474976710656 < m' * (i.bytes : Int)) := fun m' c1 hm => by
    have e1 : (m : Int) = m' := by rw [hm]; exact Int.toNat_of_nonneg c1
    have h3 : m * by_ ≤ (n + m) * by_ := Nat.mul_le_mul_right _ (by omega)
    have h4 : ((m * by_ : Nat) : Int) ≤ 140737488355328 := by omega
    rw [Int.natCast_mul, e1] at h4
    rw [hib]
    omega
  have hzc : ∀ w : World, ∃ zv, (zeroValue e).run P w = .ok zv w ∧ zv.cells = z.toArray := fun w => run_zeroValue (P := P) hz w
  have hz0 : z.length = sz → m * sz = 0 → zvals z m = [] := fun h1 h2 => List.eq_nil_of_length_eq_zero (by rw [zvals_length, h1]; exact h2)
  have hzt : ∀ k, Builtin.zeroCells z.toArray k = (zvals z k).toArray := fun k => Array.ext' (by simpa using zeroCells_eq z k)
  refine ⟨us, hus, hlen, fun hle => ?_, fun hlt => ?_⟩
  · rcases hcases with ⟨d, hd, hni, hcount, hread⟩ | ⟨k, kk, m', hd, rfl, h0, h1, hm, rfl, h2⟩
    · have hr := hread E.w (fun _ => rfl)
      cases A <;> simp [Builtin.append_, run_underlying ht, run_sizeOf hsz, run_underlying hd, matches_int hni, hcount, hle, hr, Result.andThen]
    · have w1 := hwrap m' h0 h1
      have w2 : ¬ m' < 0 := by omega
      have w3 := hbig m' h0 hm
      subst hm
      obtain ⟨zv, hzv, hzv'⟩ := hzc E.w
      by_cases h3 : m'.toNat * sz = 0
      · have h4 := hz0 h2 h3
        cases A <;> simp [Builtin.append_, run_underlying ht, run_sizeOf hsz, run_underlying hd, asInt, asIntOf, w1, w2, typeInfo, hi, w3, hle, h3, h4, Result.andThen]
      · cases A <;> simp [Builtin.append_, run_underlying ht, run_sizeOf hsz, run_underlying hd, asInt, asIntOf, w1, w2, typeInfo, hi, w3, hle, h3, hzv, hzv', hzt, Result.andThen]
  · have hfo : ∃ os, RepL E olds os ∧ (Builtin.firstCells sz n (.slice A n cap)).run P E.w.drew = .ok os.toArray E.w.drew := by
      rcases hold with rfl | ⟨g, o, rfl, hg, hl, hat⟩
      · simp only [List.length_nil] at holen
        refine ⟨[], by simp only [RepL], ?_⟩
        cases A with
        | none => simp [Builtin.firstCells]
        | some a => simp [Builtin.firstCells, ← holen, loadCells, loadCellsFrom]
      · obtain ⟨vs, h1, h2⟩ := hat.vals
        refine ⟨vs, h1, ?_⟩
        have := run_loadCells_list (P := P) (w := E.w.drew) ⟨g, o, none⟩ vs (fun j v hj => by
          rw [add_off]
          exact h2 j v hj)
        rw [h1.length, holen] at this
        simp [Builtin.firstCells, this]
    obtain ⟨os, hos, hrun⟩ := hfo
    refine ⟨os, (Question.appendCap (n + m) cap e).cut (E.w.tape E.w.drawn (.appendCap (n + m) cap e)), hos, by simp [Question.cut], ?_⟩
    have n1 : ¬ (n + m ≤ cap) := by omega
    have n2 : ¬ (9223372036854775807 < ((n : Int) + (m : Int))) := by omega
    have n3 : ¬ (281474976710656 < Builtin.nextslicecap (n + m) cap * i.bytes) := by
      have := growslice_fits hlt (by rw [hib]; exact hnb : (n + m) * i.bytes ≤ 140737488355328)
      omega
    have hzd := hzc E.w.drew
    obtain ⟨zd, hzd, hzd'⟩ := hzd
    rcases hcases with ⟨d, hd, hni, hcount, hread⟩ | ⟨k, kk, m', hd, rfl, h0, h1, hm, rfl, h2⟩
    · have hr := hread E.w.drew (fun _ => rfl)
      simp [Builtin.append_, run_underlying ht, run_sizeOf hsz, run_underlying hd, matches_int hni, hcount, n1, n2, n3, typeInfo, hi, Question.forced, hrun, hr, hzd, hzd', hzt, newRow, List.append_assoc]
    · have w1 := hwrap m' h0 h1
      have w2 : ¬ m' < 0 := by omega
      have w3 := hbig m' h0 hm
      subst hm
      have n2' : ¬ (9223372036854775807 < ((n : Int) + max m' 0)) := by omega
      by_cases h3 : m'.toNat * sz = 0
      · have h4 := hz0 h2 h3
        simp [Builtin.append_, run_underlying ht, run_sizeOf hsz, run_underlying hd, asInt, asIntOf, w1, w2, w3, h3, h4, n1, n2, n2', n3, typeInfo, hi, Question.forced, hrun, hzd, hzd', hzt, newRow, List.append_assoc]
      · simp [Builtin.append_, run_underlying ht, run_sizeOf hsz, run_underlying hd, asInt, asIntOf, w1, w2, w3, h3, n1, n2, n2', n3, typeInfo, hi, Question.forced, hrun, hzd, hzd', hzt, newRow, List.append_assoc]

theorem PermOk_tok {E : Env} {r n cap : Nat} {A : Option Addr} {v : Value} (hk : r < E.k) (e : E.ρ r = v) (hv : v = .slice A n cap) : PermOk E n v cap (.tok r) :=
  ⟨hk, A, n, cap, e.trans hv, Nat.le_refl _, fun _ => e.symm⟩

/-- A new block holds what was there and what is appended. -/
theorem grown_cells {E E' : Env} (hx : Ext0 E E') {olds more : List AV} {os us : List Value} {n m c : Nat} {z : List Value} {e : TypeId} (hos : RepL E olds os) (hus : RepL E more us) {g : Nat}
    (hh : E'.w.heap[g]? = some (.cells (os ++ us ++ zvals z (c - (n + m))).toArray e)) : RepAt E' g 0 (olds ++ more) :=
  RepAt.of_cell fun i a ha => by
    obtain ⟨v, hv, hr⟩ := (RepL.mono hx _ _ (hos.append hus)).get i a ha
    refine ⟨v, ?_, hr⟩
    rw [cell_of_row _ _ _ _ _ _ hh]
    have hlt : i < (os ++ us).length := (List.getElem?_eq_some_iff.1 hv).1
    simp only [List.getElem?_toArray, Nat.zero_add]
    rw [List.getElem?_append_left hlt]
    exact hv

theorem aappend_sound {P : Program} {E : Env} {objs objs' : List AObj} {sT xT ty : TypeId} {mt : Bool} {s x v : AV} {us0 ux : Value} {C : Prop} (h : aappend P sT xT mt s x objs = .ok C v objs') (hC : C) (ho : ObjsRep E objs)
    (hs : RepV E s us0) (hx : RepV E x ux) : ∃ E' u, (Builtin.append_ #[sT, xT] ty #[us0, ux]).run P E.w = .ok u E'.w ∧ RepV E' v u ∧ ObjsRep E' objs' ∧ Ext E objs E' objs' := by
  unfold aappend at h
  split at h
  case h_2 => cases h
  rename_i e ht
  split at h
  case h_2 => cases h
  rename_i sz by_ z n cells p hsz hby hz
  split at h
  case h_2 => cases h
  rename_i C' m more hsrc
  simp only [RepV] at hs
  obtain ⟨A, cap, rfl, hn, hc, hp⟩ := hs
  cases p with
  | no => simp only [reduceCtorEq] at h
  | full =>
    have hcap : cap = n := hp
    subst hcap
    cases mt with
    | true =>
      simp only [if_true] at h
      injection h with h1 h2 h3
      subst h1 h2 h3
      obtain ⟨c1, c2, c3, c4, c5, c6, c7, rfl⟩ := hC
      obtain ⟨us, hus, hml, hin, hout⟩ := run_append (P := P) (ty := ty) (cap := 0) ht hsz hby hz hsrc c1 ho hx c5 c6 c2 hc
      have hcn : cells = [] := List.eq_nil_of_length_eq_zero (by simpa using c2)
      subst hcn
      rcases Nat.eq_zero_or_pos m with rfl | hm
      · have hmore : more = [] := List.eq_nil_of_length_eq_zero (by simpa using hml)
        subst hmore
        simp only [RepL] at hus
        subst hus
        have hadd := ext0_add E (.slice A 0 0)
        obtain ⟨hx2, ho2⟩ := add_obj (o := .cells []) (u := .slice A 0 0) (.refl E objs) ho (.inl rfl) (by intro g hg; simp [ownBlk] at hg)
        refine ⟨E.add (.slice A 0 0), .slice A 0 0, ?_, ?_, ho2, hx2⟩
        · have := hin (by omega)
          cases A <;> simpa [storeCells, Env.add] using this
        · simp only [RepV]
          exact ⟨by simp [Env.add, ho.1], A, 0, rfl, Nat.le_refl _, fun k hk => (by cases hk), fun h => (by omega)⟩
      · obtain ⟨os, c, hos, hcge, hrun⟩ := hout (by omega)
        simp only [RepL] at hos
        subst hos
        obtain ⟨E', eE, hρ, hk, ho', hx', hx0⟩ := new_cells (vs := us ++ zvals z (c - (0 + m))) (t := e) ho (w' := E.w.drew.alloc (.cells ([] ++ us ++ zvals z (c - (0 + m))).toArray e)) (by simpa using Pushed.drew E.w _) (cs := more)
          (by rw [List.length_append, hus.length]; omega) (by rw [← hus.length, List.take_left]; exact hus)
        refine ⟨E', _, by rw [eE]; exact hrun, ?_, by simpa using ho', by simpa using hx'⟩
        simp only [RepV]
        exact ⟨hk, _, c, rfl, hcge, fun k hk => (by cases hk), fun h => ⟨_, hρ, rfl⟩⟩
    | false =>
      simp only [Bool.false_eq_true, if_false] at h
      injection h with h1 h2 h3
      subst h1 h2 h3
      obtain ⟨c1, c2, c3, c4, c5, c6, c7⟩ := hC
      obtain ⟨us, hus, hml, hin, hout⟩ := run_append (P := P) (ty := ty) (cap := cap) ht hsz hby hz hsrc c1 ho hx c5 c6 c2 hc
      rcases Nat.eq_zero_or_pos m with rfl | hm
      · have hmore : more = [] := List.eq_nil_of_length_eq_zero (by simpa using hml)
        subst hmore
        simp only [RepL] at hus
        subst hus
        have hadd := ext0_add E (.slice A cap cap)
        obtain ⟨hx2, ho2⟩ := add_obj (o := .tok sz (cap + 0)) (u := .slice A cap cap) (.refl E objs) ho ⟨A, cap, rfl, Nat.le_refl _, fun h => by omega⟩ (by intro g hg; cases A <;> simp [ownBlk] at hg)
        refine ⟨E.add (.slice A cap cap), .slice A cap cap, ?_, ?_, ho2, hx2⟩
        · have := hin (by omega)
          cases A <;> simpa [storeCells, Env.add] using this
        · simp only [RepV, List.append_nil]
          refine ⟨A, cap, rfl, Nat.le_refl _, ?_, PermOk_tok (A := A) (n := cap) (cap := cap) (by simp [Env.add, ho.1]) (by simp [Env.add, ho.1]) rfl⟩
          rcases hc with e' | ⟨g, o, hA, hg, hl, hat⟩
          · exact .inl e'
          · exact .inr ⟨g, o, hA, hg, hl, RepAt.mono hadd g hg cells o hl hat⟩
      · obtain ⟨os, c, hos, hcge, hrun⟩ := hout (by omega)
        have hp := Pushed.drew E.w (.cells (os ++ us ++ zvals z (c - (cap + m))).toArray e)
        obtain ⟨hx1, ho1⟩ := ext_push ho hp ((cap + m) * sz)
        have hadd := ext0_add (E.push (E.w.drew.alloc (.cells (os ++ us ++ zvals z (c - (cap + m))).toArray e)) ((cap + m) * sz)) (.slice (some ⟨E.w.heap.size, 0, none⟩) (cap + m) c)
        have hsize : (os ++ us ++ zvals z (c - (cap + m))).length = c * sz := by
          rw [List.length_append, List.length_append, hos.length, hus.length, zvals_length, c2, hml, c4, ← Nat.add_mul, ← Nat.add_mul]
          congr 1
          omega
        obtain ⟨hx2, ho2⟩ := add_obj (o := .tok sz (cap + m)) (u := .slice (some ⟨E.w.heap.size, 0, none⟩) (cap + m) c) hx1 ho1
          ⟨_, c, rfl, hcge, fun hlt => ⟨_, 0, _, e, (0, 0), rfl, hp.new, .inl rfl, by simp only [Nat.zero_add, List.size_toArray]; omega, by simp [Env.add, Env.push]⟩⟩ (by
          intro g hg
          have : g = E.w.heap.size := by
            simp only [ownBlk] at hg
            split at hg
            · injection hg with hg; exact hg.symm
            · cases hg
          subst this
          exact ⟨Nat.le_refl _, fun hw => by
            have := ow_lt ho (ow_same (E' := E.push _ ((cap + m) * sz)) ho.1 (fun _ _ => rfl) hw)
            omega⟩)
        refine ⟨_, _, hrun, ?_, ho2, hx2⟩
        simp only [RepV]
        refine ⟨_, c, rfl, hcge, .inr ⟨_, 0, rfl, ?_, ?_, ?_⟩, PermOk_tok (by simp [Env.add, Env.push, ho.1]) (by simp [Env.add, Env.push, ho.1]) rfl⟩
        · show _ < (E.w.drew.alloc _).heap.size
          rw [hp.size]; omega
        · simp only [Env.add, Env.push, if_true, List.length_append, c2, hml, Nat.zero_add, ← Nat.add_mul]
          exact Nat.le_refl _
        · exact grown_cells hx2.toExt0 hos hus hp.new
  | tok r =>
    simp only at h
    split at h
    case h_2 => cases h
    rename_i sz' n' hr
    injection h with h1 h2 h3
    subst h1 h2 h3
    obtain ⟨c1, c2, c3, c4, c5, c6, c7, rfl, rfl⟩ := hC
    obtain ⟨us, hus, hml, hin, hout⟩ := run_append (P := P) (ty := ty) (cap := cap) ht hsz hby hz hsrc c1 ho hx c5 c6 c2 hc
    -- the token's slice is this one
    obtain ⟨hrk, A0, m0, c0, e0, hle0, heq0⟩ := hp
    obtain ⟨A1, c1', e1, hn1, hblk⟩ := ho.2.1 r _ hr
    rw [e0] at e1
    injection e1 with e1 e2 e3
    subst e1 e2 e3
    have hv := heq0 rfl
    rw [e0] at hv
    injection hv with hv1 _ hv2
    subst hv1 hv2
    have hone := all_oneC hus c7
    rcases Nat.eq_zero_or_pos m with rfl | hm
    · have hmore : more = [] := List.eq_nil_of_length_eq_zero (by simpa using hml)
      subst hmore
      simp only [RepL] at hus
      subst hus
      have hset : objs.set r (.tok sz' (m0 + 0)) = objs := by
        apply List.ext_getElem?
        intro i
        rw [List.getElem?_set]
        split
        · rename_i e; subst e
          split
          · exact hr.symm
          · rename_i h; rw [List.getElem?_eq_none (by omega)]
        · rfl
      rw [hset]
      refine ⟨E, .slice A m0 cap, ?_, ?_, ho, .refl _ _⟩
      · have := hin (by omega)
        cases A <;> simpa [storeCells] using this
      · simp only [RepV, List.append_nil]
        exact ⟨A, cap, rfl, hn, hc, PermOk_tok hrk e0 rfl⟩
    · by_cases hroom : m0 + m ≤ cap
      · -- in place
        obtain ⟨g, o, vs, t, fz, rfl, hh, hfz, hsize, hlim⟩ := hblk (by omega)
        have hmsz : m * sz' ≤ cap * sz' - m0 * sz' := by
          rw [← Nat.sub_mul]
          exact Nat.mul_le_mul_right _ (by omega)
        have hcs : m0 * sz' ≤ cap * sz' := Nat.mul_le_mul_right _ (by omega)
        obtain ⟨w', cur', h1, h2, h3, h4, h5, h6, h7, h8⟩ := run_stores (P := P) g (o + m0 * sz') t fz us 0 vs E.w hh hfz (by rw [hus.length, hml]; omega) hone
        simp only [Nat.add_zero] at h8
        have hcur : cur'.size = vs.size := by
          have := congrArg List.length h8
          simp only [Array.length_toList, List.length_append, List.length_take, List.length_drop] at this
          have := hus.length
          omega
        let E' : Env := { w := w', lim := fun b => if b = g then o + (m0 + m) * sz' else E.lim b, k := E.k, ρ := fun i => if i = r then .slice (some ⟨g, o, none⟩) (m0 + m) cap else E.ρ i }
        have hownr : ownBlk (.tok sz' m0) (E.ρ r) = some g := by rw [e0]; simp [ownBlk]; omega
        have hkeep : ∀ j, j < o + m0 * sz' → w'.cell? ⟨g, j, none⟩ = E.w.cell? ⟨g, j, none⟩ := fun j hj => by
          rw [cell_of_row _ _ _ _ _ _ h7, cell_of_row _ _ _ _ _ _ hh]
          have e1 : cur'[j]? = cur'.toList[j]? := by simp
          have e2 : vs[j]? = vs.toList[j]? := by simp
          rw [e1, e2, h8, List.append_assoc, List.getElem?_append_left (by simp only [List.length_take, Array.length_toList]; omega), List.getElem?_take, if_pos hj]
        obtain ⟨ho', hx'⟩ := tok_upd (E' := E') (u := .slice (some ⟨g, o, none⟩) (m0 + m) cap) (n' := m0 + m) ho hr (by show _ ≤ w'.heap.size; omega) h3 h4 h5 rfl (fun _ => rfl)
          (by rw [e0]; exact .inr ⟨_, _, _, _, _, _, rfl, rfl, by omega⟩)
          (fun b hb hnb => by
            have hbg : b ≠ g := fun e => hnb (e ▸ hownr)
            exact ⟨h6 b hbg, if_neg hbg⟩)
          (fun b hb => by
            rw [hownr] at hb
            injection hb with hb
            subst hb
            refine ⟨?_, fun j hj => hkeep j (by omega)⟩
            show E.lim g ≤ (if g = g then _ else _)
            rw [if_pos rfl, Nat.add_mul]
            omega)
          ⟨_, cap, rfl, hroom, fun hlt => ⟨g, o, cur', t, fz, rfl, h7, by
            rcases hfz with e | e
            · exact .inl e
            · exact .inr (by omega), by omega, by show (if g = g then _ else _) ≤ _; rw [if_pos rfl]; exact Nat.le_refl _⟩⟩
          (fun b hb => by
            left
            rw [hownr]
            simp only [ownBlk] at hb
            split at hb
            · exact hb
            · cases hb)
        refine ⟨E', .slice (some ⟨g, o, none⟩) (m0 + m) cap, ?_, ?_, ho', hx'⟩
        · rw [hin hroom]
          show ((storeCells (Addr.add ⟨g, o, none⟩ (m0 * sz')) us).run P E.w).andThen _ = _
          rw [add_off, h1]
          rfl
        · simp only [RepV]
          refine ⟨_, cap, rfl, hroom, .inr ⟨g, o, rfl, ?_, ?_, ?_⟩, PermOk_tok hrk (by show (if r = r then _ else _) = _; rw [if_pos rfl]) rfl⟩
          · show g < w'.heap.size; rw [h2]; exact get_lt hh
          · show _ ≤ (if g = g then _ else _)
            rw [if_pos rfl, List.length_append, c2, hml, ← Nat.add_mul]
            exact Nat.le_refl _
          · refine RepAt.of_cell fun i a ha => ?_
            rcases Nat.lt_or_ge i cells.length with hlt | hge
            · rw [List.getElem?_append_left hlt] at ha
              rcases hc with rfl | ⟨g', o', e', hg', hl', hat⟩
              · simp at hlt
              · injection e' with e'
                injection e' with e1 e2 _
                subst e1 e2
                obtain ⟨v0, hv0, hr0⟩ := hat.cell i a ha
                exact ⟨v0, (hkeep (o + i) (by omega)).trans hv0, RepV.mono hx'.toExt0 _ _ hr0⟩
            · rw [List.getElem?_append_right hge] at ha
              obtain ⟨v0, hv0, hr0⟩ := hus.get _ a ha
              refine ⟨v0, ?_, RepV.mono hx'.toExt0 _ _ hr0⟩
              show w'.cell? _ = _
              rw [cell_of_row _ _ _ _ _ _ h7]
              have e1 : cur'[o + i]? = cur'.toList[o + i]? := by simp
              have hul := hus.length
              have hilt : i - cells.length < us.length := (List.getElem?_eq_some_iff.1 hv0).1
              rw [e1, h8, List.append_assoc, List.getElem?_append_right (by simp only [List.length_take, Array.length_toList]; omega), List.getElem?_append_left (by simp only [List.length_take, Array.length_toList]; omega)]
              rw [← hv0]
              congr 1
              simp only [List.length_take, Array.length_toList]
              omega
      · -- in a new block
        obtain ⟨os, c, hos, hcge, hrun⟩ := hout (by omega)
        have hp := Pushed.drew E.w (.cells (os ++ us ++ zvals z (c - (m0 + m))).toArray e)
        have hsize : (os ++ us ++ zvals z (c - (m0 + m))).length = c * sz' := by
          rw [List.length_append, List.length_append, hos.length, hus.length, zvals_length, c2, hml, c4, ← Nat.add_mul, ← Nat.add_mul]
          congr 1
          omega
        let E' : Env := { w := E.w.drew.alloc (.cells (os ++ us ++ zvals z (c - (m0 + m))).toArray e), lim := fun b => if b = E.w.heap.size then (m0 + m) * sz' else E.lim b, k := E.k,
                          ρ := fun i => if i = r then .slice (some ⟨E.w.heap.size, 0, none⟩) (m0 + m) c else E.ρ i }
        obtain ⟨ho', hx'⟩ := tok_upd (E' := E') (u := .slice (some ⟨E.w.heap.size, 0, none⟩) (m0 + m) c) (n' := m0 + m) ho hr (by show _ ≤ (E.w.drew.alloc _).heap.size; rw [hp.size]; omega) rfl rfl rfl rfl (fun _ => rfl)
          (by rw [e0]; exact .inr ⟨_, _, _, _, _, _, rfl, rfl, by omega⟩)
          (fun b hb _ => ⟨hp.old hb, if_neg (by omega)⟩)
          (fun b hb => by
            have hlt := own_lt (ho.2.1 r _ hr) hb
            exact ⟨by show E.lim b ≤ (if b = _ then _ else _); rw [if_neg (by omega)]; exact Nat.le_refl _, fun j _ => cell_of_heap (hp.old hlt)⟩)
          ⟨_, c, rfl, hcge, fun hlt => ⟨_, 0, _, e, (0, 0), rfl, hp.new, .inl rfl, by simp only [Nat.zero_add, List.size_toArray]; omega, by show (if _ = _ then _ else _) ≤ _; rw [if_pos rfl]; omega⟩⟩
          (fun b hb => by
            right
            simp only [ownBlk] at hb
            split at hb
            · injection hb with hb; subst hb; exact Nat.le_refl _
            · cases hb)
        refine ⟨E', _, hrun, ?_, ho', hx'⟩
        simp only [RepV]
        refine ⟨_, c, rfl, hcge, .inr ⟨_, 0, rfl, ?_, ?_, ?_⟩, PermOk_tok hrk (by show (if r = r then _ else _) = _; rw [if_pos rfl]) rfl⟩
        · show _ < (E.w.drew.alloc _).heap.size
          rw [hp.size]; omega
        · show _ ≤ (if _ = _ then _ else _)
          rw [if_pos rfl, List.length_append, c2, hml, Nat.zero_add, ← Nat.add_mul]
          exact Nat.le_refl _
        · exact grown_cells hx'.toExt0 hos hus hp.new

end Go.V
