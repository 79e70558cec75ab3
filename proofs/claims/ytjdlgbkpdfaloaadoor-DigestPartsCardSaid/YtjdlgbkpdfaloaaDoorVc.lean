/-
  VALUE LOGIC, part c: the operations that read and write no object of the call's own: what each answers, and that it does.
-/
import Derived.Test.YtjdlgbkpdfaloaaDoorVb
import Derived.Laws.Entries
import Derived.Laws.Unary
import Derived.Laws.StructEq
import Derived.Laws.Slices
import Derived.Laws.Strings
import Derived.Laws.Shifts
import Derived.Laws.BytesString
namespace Go.V
set_option linter.unusedVariables false
set_option linter.unusedSimpArgs false

/-- A constant as a value without addresses. -/
def cav : Value → AV
  | .slice none 0 0 => .sl 0 [] .full
  | v => .val v

theorem cav_sound (E : Env) (v : Value) : RepV E (cav v) v := by
  unfold cav
  split
  · simp only [RepV]; exact ⟨none, 0, rfl, Nat.le_refl _, .inl trivial, rfl⟩
  · simp only [RepV]

def lkG : List (Nat × List AV) → Nat → Option (List AV)
  | [], _ => none
  | (i, a) :: r, j => if i = j then some a else lkG r j

def gav (G : List (Nat × List AV)) (g : Nat) : AV :=
  match lkG G g with
  | some cells => .cptr cells
  | none => .val (.pointer (some ⟨g, 0, none⟩))

/-- An operand. -/
def ev (G : List (Nat × List AV)) (s : List (Nat × AV)) : Operand → AV
  | .tmp t => lk s t
  | .const v => cav v
  | .global g => gav G g
  | .func f => .val (.func (.func f) #[] #[])

theorem lkG_mem : ∀ {G : List (Nat × List AV)} {g : Nat} {cells : List AV}, lkG G g = some cells → (g, cells) ∈ G
  | (i, a) :: r, g, cells, h => by
    simp only [lkG] at h
    split at h
    · rename_i e; subst e; injection h with h; subst h; simp
    · exact List.mem_cons_of_mem _ (lkG_mem h)

theorem ev_sound {G : List (Nat × List AV)} {E : Env} {st : St} {a : Act} (hr : Rep G E st a) (x : Operand) : RepV E (ev G st.slots x) (a.eval x) := by
  cases x with
  | tmp t => exact hr.slots t
  | const v =>
    show RepV E (cav v) v
    unfold cav
    split
    · simp only [RepV]; exact ⟨none, 0, rfl, Nat.le_refl _, .inl trivial, rfl⟩
    · simp only [RepV]
  | global g =>
    show RepV E (gav G g) (.pointer (some ⟨g, 0, none⟩))
    unfold gav
    split
    · rename_i cells h
      obtain ⟨h1, h2, h3, _⟩ := hr.glob g cells (lkG_mem h)
      simp only [RepV]
      exact ⟨g, 0, rfl, h1, by omega, h3⟩
    · simp only [RepV]
  | func f => show RepV E (.val _) _; simp only [RepV]; rfl

/-- What an operation answers: under a condition a value, and the objects behind it. -/
inductive R where
  | bad
  | ok (C : Prop) (v : AV) (objs : List AObj)

/-- The operation is carried out. -/
def OpOk (E : Env) (objs : List AObj) (r : Result Next) (v : AV) (objs' : List AObj) : Prop :=
  ∃ E' u, (r = .ok (.value u) E'.w ∨ (r = .ok .skip E'.w ∧ u = undef)) ∧ RepV E' v u ∧ ObjsRep E' objs' ∧ Ext E objs E' objs'

theorem OpOk.pure {E : Env} {objs : List AObj} {r : Result Next} {v : AV} {u : Value} (h : r = .ok (.value u) E.w) (hv : RepV E v u) (ho : ObjsRep E objs) : OpOk E objs r v objs :=
  ⟨E, u, .inl h, hv, ho, .refl _ _⟩

-- whole numbers
def aint (op : BinOp) (k : IntKind) (a : Int) (k' : IntKind) (b : Int) : Option (Prop × AV) :=
  match op with
  | .shl => some (0 ≤ b, .val (.int k (k.wrap (a * 2 ^ (min b.toNat k.bits)))))
  | .shr => some (0 ≤ b, .val (.int k (a.fdiv (2 ^ (min b.toNat k.bits)))))
  | .add => some (k = k', .val (.int k (k.wrap (a + b))))
  | .sub => some (k = k', .val (.int k (k.wrap (a - b))))
  | .mul => some (k = k', .val (.int k (k.wrap (a * b))))
  | .quo => some (k = k' ∧ b ≠ 0, .val (.int k (k.wrap (a.tdiv b))))
  | .rem => some (k = k' ∧ b ≠ 0, .val (.int k (a.tmod b)))
  | .and => some (k = k', .val (.int k (bits .and k a b)))
  | .or => some (k = k', .val (.int k (bits .or k a b)))
  | .xor => some (k = k', .val (.int k (bits .xor k a b)))
  | .andNot => some (k = k', .val (.int k (bits .andNot k a b)))
  | .eql => some (k = k', .val (.bool (a == b)))
  | .neq => some (k = k', .val (.bool (a != b)))
  | .lss => some (k = k', .val (.bool (decide (a < b))))
  | .leq => some (k = k', .val (.bool (decide (a ≤ b))))
  | .gtr => some (k = k', .val (.bool (decide (a > b))))
  | .geq => some (k = k', .val (.bool (decide (a ≥ b))))

theorem aint_sound {P : Program} {w : World} {op : BinOp} {k k' : IntKind} {a b : Int} {C : Prop} {v : AV} (t : TypeId) (h : aint op k a k' b = some (C, v)) (hC : C) :
    ∃ u, v = .val u ∧ (binOp op t (.int k a) (.int k' b)).run P w = .ok u w := by
  cases op <;> simp only [aint, Option.some.injEq, Prod.mk.injEq, reduceCtorEq] at h <;> obtain ⟨rfl, rfl⟩ := h
  case shl => exact ⟨_, rfl, by simp [binOp, Op.shift, Int.not_lt.2 hC]⟩
  case shr => exact ⟨_, rfl, by simp [binOp, Op.shift, Int.not_lt.2 hC]⟩
  case quo => obtain ⟨rfl, hb⟩ := hC; exact ⟨_, rfl, by simp [binOp, Op.intDiv, hb]⟩
  case rem => obtain ⟨rfl, hb⟩ := hC; exact ⟨_, rfl, by simp [binOp, Op.intDiv, hb]⟩
  all_goals (subst hC; refine ⟨_, rfl, ?_⟩; simp [binOp, Op.intArith, Op.intBits, Op.intCmp, bits])

def cellEq : AV → AV → Bool
  | .val (.int _ a), .val (.int _ b) => a == b
  | .val (.bool a), .val (.bool b) => a == b
  | .val (.string a), .val (.string b) => a.toList == b.toList
  | _, _ => false

def aggEq : List AV → List AV → Bool
  | [], [] => true
  | a :: as, b :: bs => cellEq a b && aggEq as bs
  | _, _ => false

def astr (op : BinOp) (a b : ByteArray) : Option (Prop × AV) :=
  match op with
  | .add => some (((a.size + b.size : Nat) : Int) ≤ 9223372036854775807, .val (.string (a ++ b)))
  | .eql => some (True, .val (.bool (a.toList == b.toList)))
  | .neq => some (True, .val (.bool (!(a.toList == b.toList))))
  | .lss => some (True, .val (.bool (Op.bytesLess a.toList b.toList)))
  | .leq => some (True, .val (.bool (Op.bytesLess a.toList b.toList || a.toList == b.toList)))
  | .gtr => some (True, .val (.bool (!(Op.bytesLess a.toList b.toList || a.toList == b.toList))))
  | .geq => some (True, .val (.bool (!(Op.bytesLess a.toList b.toList))))
  | _ => none

theorem astr_sound {P : Program} {w : World} {op : BinOp} {a b : ByteArray} {C : Prop} {v : AV} (t : TypeId) (h : astr op a b = some (C, v)) (hC : C) :
    ∃ u, v = .val u ∧ (binOp op t (.string a) (.string b)).run P w = .ok u w := by
  cases op <;> simp only [astr, Option.some.injEq, Prod.mk.injEq, reduceCtorEq] at h <;> obtain ⟨rfl, rfl⟩ := h
  case add =>
    refine ⟨_, rfl, ?_⟩
    have hm : ¬ ((a.size + b.size : Nat) : Int) > IntKind.i64.max := by simpa using hC
    simp only [binOp, Op.stringOp]
    rw [if_neg hm]; rfl
  all_goals (exact ⟨_, rfl, by simp [binOp, Op.stringOp]⟩)

def abool (P : Program) (op : BinOp) (t : TypeId) (a b : Bool) : Option (Prop × AV) :=
  match op with
  | .eql => some (P.underlying t = some .bool, .val (.bool (a == b)))
  | .neq => some (P.underlying t = some .bool, .val (.bool (!(a == b))))
  | _ => none

theorem abool_sound {P : Program} {w : World} {op : BinOp} {a b : Bool} {C : Prop} {v : AV} {t : TypeId} (h : abool P op t a b = some (C, v)) (hC : C) :
    ∃ u, v = .val u ∧ (binOp op t (.bool a) (.bool b)).run P w = .ok u w := by
  cases op <;> simp only [abool, Option.some.injEq, Prod.mk.injEq, reduceCtorEq] at h <;> obtain ⟨rfl, rfl⟩ := h
  all_goals (exact ⟨_, rfl, by simp [binOp, run_equal_bool _ _ _ _ hC]⟩)

-- unary
def aun (op : UnOp) (x : AV) : Option AV :=
  match op, x with
  | .neg, .val (.int k n) => some (.val (.int k (k.wrap (0 - n))))
  | .xor, .val (.int k n) => some (.val (.int k (bits .xor k (if k.signed then -1 else k.max) n)))
  | .not, .val (.bool b) => some (.val (.bool (!b)))
  | _, _ => none

theorem aun_sound {P : Program} {E : Env} {op : UnOp} {x v : AV} {u : Value} (h : aun op x = some v) (hx : RepV E x u) :
    ∃ u', RepV E v u' ∧ (Op.unary op u).run P E.w = .ok u' E.w := by
  unfold aun at h
  split at h <;> first | cases h | skip
  all_goals (simp only [RepV] at hx; subst hx; refine ⟨_, by simp only [RepV]; rfl, ?_⟩; simp [Op.unary, Op.intArith, Op.intBits, bits])

-- types
def tsz (P : Program) (t : TypeId) : Option Nat := (P.info? t).map (·.size)
def tby (P : Program) (t : TypeId) : Option Nat := (P.info? t).map (·.bytes)
def tzero (P : Program) (t : TypeId) : Option (List Value) := ((P.info? t).bind (·.zero)).map (·.cells.toList)
def isAggD : Option TypeDesc → Option Bool
  | some (.struct _) => some true
  | some (.array _ _) => some true
  | some _ => some false
  | none => none

theorem run_sizeOf {P : Program} {t : TypeId} {n : Nat} (h : tsz P t = some n) (w : World) : (sizeOf t).run P w = .ok n w := by
  unfold tsz at h
  simp only [Option.map_eq_some_iff] at h
  obtain ⟨i, hi, rfl⟩ := h
  simp [sizeOf, typeInfo, hi]
theorem run_bytesOf {P : Program} {t : TypeId} {n : Nat} (h : tby P t = some n) : ∃ i, P.info? t = some i ∧ i.bytes = n := by
  unfold tby at h
  simpa only [Option.map_eq_some_iff] using h
theorem run_zeroValue {P : Program} {t : TypeId} {z : List Value} (h : tzero P t = some z) (w : World) : ∃ v, (zeroValue t).run P w = .ok v w ∧ v.cells = z.toArray := by
  unfold tzero at h
  simp only [Option.map_eq_some_iff, Option.bind_eq_some_iff] at h
  obtain ⟨v, ⟨i, hi, hz⟩, rfl⟩ := h
  exact ⟨v, by simp [zeroValue, typeInfo, hi, hz], by simp⟩
theorem run_isAgg {P : Program} {t : TypeId} {b : Bool} (h : isAggD (P.underlying t) = some b) (w : World) : (isAgg t).run P w = .ok b w := by
  unfold isAgg
  cases hu : P.underlying t with
  | none => rw [hu] at h; cases h
  | some d =>
    rw [hu] at h
    simp only [Sem.run_bind, run_underlying hu, Result.andThen_ok]
    cases d <;> simp only [isAggD, Option.some.injEq] at h <;> subst h <;> rfl

-- conversions
def byteOf : AV → UInt8
  | .val (.int .u8 n) => UInt8.ofNat n.toNat
  | _ => 0
def isByte : AV → Bool
  | .val (.int .u8 _) => true
  | _ => false
def B (b : UInt8) : AV := .val (.int .u8 (b.toNat : Int))
def Bs (l : List UInt8) : List AV := l.map B

def aconv (P : Program) (src dst : TypeId) (x : AV) : Option (Prop × AV) :=
  match x with
  | .val (.int k n) => match P.underlying dst with
    | some (.int k') => some ((P.underlying src).isSome = true, .val (.int k' (k'.wrap n)))
    | _ => none
  | .val (.string s) => match P.underlying dst with
    | some .string => some (P.underlying src = some .string, .val (.string s))
    | _ => none
  | .sl n cells p => match P.underlying dst, P.underlying src with
    | some .string, some (.slice e) => some (P.underlying e = some (.int .u8) ∧ cells.length = n ∧ cells.all isByte = true, .val (.string ⟨(cells.map byteOf).toArray⟩))
    | _, _ => none
  | _ => none

theorem foldl_push (l : List Int) (s : ByteArray) : (l.foldl (fun r n => r.push (UInt8.ofNat n.toNat)) s).data = s.data ++ (l.map fun n => UInt8.ofNat n.toNat).toArray := by
  induction l generalizing s with
  | nil => simp
  | cons n l ih =>
    simp only [List.foldl_cons, ih, List.map_cons]
    apply Array.ext'
    simp [ByteArray.push]

theorem bytes_vals {E : Env} : ∀ {cells : List AV} {vs : List Value}, RepL E cells vs → cells.all isByte = true → ∃ ns : List Int, vs = ns.map (Value.int .u8) ∧ cells.map byteOf = ns.map fun n => UInt8.ofNat n.toNat
  | [], vs, h, _ => by simp only [RepL] at h; subst h; exact ⟨[], rfl, rfl⟩
  | c :: cs, vs, h, hb => by
    simp only [RepL] at h
    obtain ⟨v, vs', rfl, h1, h2⟩ := h
    simp only [List.all_cons, Bool.and_eq_true] at hb
    obtain ⟨ns, rfl, he⟩ := bytes_vals h2 hb.2
    have hc := hb.1
    unfold isByte at hc
    split at hc
    · rename_i n
      simp only [RepV] at h1
      subst h1
      exact ⟨n :: ns, rfl, by simp only [List.map_cons, byteOf, he]⟩
    · cases hc

theorem run_load_at {P : Program} {E : Env} {g o : Nat} {cs : List AV} (h : RepAt E g o cs) : ∃ vs : List Value, RepL E cs vs ∧ vs.length = cs.length ∧ (loadCells ⟨g, o, none⟩ cs.length).run P E.w = .ok vs.toArray E.w := by
  obtain ⟨vs, hl, hc⟩ := h.vals
  refine ⟨vs, hl, hl.length, ?_⟩
  have := run_loadCells_list (P := P) (w := E.w) ⟨g, o, none⟩ vs (fun j v hj => by
    have := hc j v hj
    unfold Addr.add
    split
    · rename_i e; subst e; simpa using this
    · exact this)
  rwa [hl.length] at this

theorem aconv_sound {P : Program} {E : Env} {src dst : TypeId} {x v : AV} {C : Prop} {u : Value} (h : aconv P src dst x = some (C, v)) (hC : C) (hx : RepV E x u) :
    ∃ u', RepV E v u' ∧ (convert src dst u).run P E.w = .ok u' E.w := by
  unfold aconv at h
  split at h
  · rename_i k n
    split at h
    · rename_i k' hd
      simp only [Option.some.injEq, Prod.mk.injEq] at h
      obtain ⟨rfl, rfl⟩ := h
      simp only [RepV] at hx
      subst hx
      refine ⟨_, by simp only [RepV]; rfl, ?_⟩
      obtain ⟨d, hs⟩ := Option.isSome_iff_exists.mp hC
      simp [convert, run_underlying hs, run_underlying hd, Conv.intToInt]
    · cases h
  · rename_i s
    split at h
    · rename_i hd
      simp only [Option.some.injEq, Prod.mk.injEq] at h
      obtain ⟨rfl, rfl⟩ := h
      simp only [RepV] at hx
      subst hx
      refine ⟨_, by simp only [RepV]; rfl, ?_⟩
      simp [convert, run_underlying hC, run_underlying hd]
    · cases h
  · rename_i n cells p
    split at h
    · rename_i e hd hs
      simp only [Option.some.injEq, Prod.mk.injEq] at h
      obtain ⟨rfl, rfl⟩ := h
      obtain ⟨he, hl, hb⟩ := hC
      simp only [RepV] at hx
      obtain ⟨A, cap, rfl, hn, hc, hp⟩ := hx
      refine ⟨_, by simp only [RepV]; rfl, ?_⟩
      rw [run_convert_bytes_string _ _ _ _ _ _ _ hs he hd]
      rcases hc with rfl | ⟨g, o, rfl, hg, ho, hat⟩
      · simp at hl
        subst hl
        cases A with
        | none => simp [Conv.bytesToString]; rfl
        | some a => simp [Conv.bytesToString, loadCells, loadCellsFrom]; rfl
      · obtain ⟨vs, hvs, hlen, hrun⟩ := run_load_at (P := P) hat
        obtain ⟨ns, rfl, hmap⟩ := bytes_vals hvs hb
        rw [hl] at hrun
        rw [run_bytesToString _ _ _ _ ns hrun]
        have : (List.foldl (fun r n => r.push (UInt8.ofNat n.toNat)) ByteArray.empty ns) = ⟨(cells.map byteOf).toArray⟩ := by
          have h1 := foldl_push ns ByteArray.empty
          rw [hmap]
          cases hx : (List.foldl (fun (r : ByteArray) (n : Int) => r.push (UInt8.ofNat n.toNat)) ByteArray.empty ns) with
          | mk d =>
            rw [hx] at h1
            simp only [ByteArray.mk.injEq]
            replace h1 : d = _ := h1
            rw [h1]
            apply Array.ext'
            simp [ByteArray.empty, ByteArray.emptyWithCapacity]; rfl
        rw [this]
    · cases h
  · cases h

end Go.V
