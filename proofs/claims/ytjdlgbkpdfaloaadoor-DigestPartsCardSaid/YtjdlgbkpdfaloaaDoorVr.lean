/-
  VALUE LOGIC, part r: arrays and structs that are compared; text out of an object.
-/
import Derived.Test.YtjdlgbkpdfaloaaDoorVj
import Derived.ChangeKeysEq
namespace Go.V
set_option linter.unusedVariables false
set_option linter.unusedSimpArgs false

/-- Two cells that may be compared as values of a type. -/
def cellT (P : Program) (t : TypeId) (a b : AV) : Bool :=
  match P.underlying t, a, b with
  | some (.int _), .val (.int k _), .val (.int k' _) => k == k'
  | some .bool, .val (.bool _), .val (.bool _) => true
  | some .string, .val (.string _), .val (.string _) => true
  | _, _, _ => false

def all2 (f : AV → AV → Bool) : List AV → List AV → Bool
  | [], [] => true
  | a :: as, b :: bs => f a b && all2 f as bs
  | _, _ => false

def fldT (P : Program) : List Field → Nat → List AV → List AV → Bool
  | [], _, [], [] => true
  | f :: fs, i, a :: as, b :: bs => f.name != "_" && f.offset == i && cellT P f.type a b && fldT P fs (i + 1) as bs
  | _, _, _, _ => false

/-- Are two values equal, cell by cell? -/
def aggCmp (P : Program) (t : TypeId) (xs ys : List AV) : Option (Prop × Bool) :=
  match P.underlying t with
  | some (.array n e) => some (P.eqGuardType P.depth t = false ∧ tsz P e = some 1 ∧ xs.length = n ∧ all2 (cellT P e) xs ys = true, aggEq xs ys)
  | some (.struct fs) => some (P.eqGuardType P.depth t = false ∧ P.stoodInHeld t = false ∧ fldT P fs.toList 0 xs ys = true, aggEq xs ys)
  | _ => none

theorem cellT_run {P : Program} {E : Env} {t : TypeId} {a b : AV} {u v : Value} (h : cellT P t a b = true) (ha : RepV E a u) (hb : RepV E b v) (d : Nat) :
    (Op.equalIn (d + 1) t u v).run P E.w = .ok (cellEq a b) E.w := by
  unfold cellT at h
  split at h
  · rename_i k0 k a k' b hu
    simp only [RepV] at ha hb
    subst ha hb
    have hk : k = k' := by simpa using h
    subst hk
    rw [run_equalIn_int E.w d t k k0 a b hu]
    rfl
  · rename_i a b hu
    simp only [RepV] at ha hb
    subst ha hb
    rw [run_equalIn_bool' E.w d t a b hu]
    rfl
  · rename_i a b hu
    simp only [RepV] at ha hb
    subst ha hb
    rw [run_equalIn_string E.w d t a b hu]
    rfl
  · cases h

theorem cellT_plain {P : Program} {t : TypeId} {a b : AV} (h : cellT P t a b = true) : isAggD (P.underlying t) = some false := by
  unfold cellT at h
  split at h
  · rename_i hu; rw [hu]; rfl
  · rename_i hu; rw [hu]; rfl
  · rename_i hu; rw [hu]; rfl
  · cases h

theorem part_at {P : Program} {E : Env} {t : TypeId} {cs : List AV} {vs : List Value} {i : Nat} {a : AV} {r : List AV} (hx : RepL E cs vs) (hd : cs.drop i = a :: r) (ht : isAggD (P.underlying t) = some false) :
    ∃ u, RepV E a u ∧ (part t vs.toArray i).run P E.w = .ok u E.w := by
  have hlt : i < cs.length := by
    rcases Nat.lt_or_ge i cs.length with h | h
    · exact h
    · rw [List.drop_eq_nil_of_le h] at hd; cases hd
  have he : cs.getD i .top = a := by
    have := congrArg (·[0]?) hd
    simp only [List.getElem?_drop, Nat.add_zero, List.getElem?_cons_zero] at this
    rw [List.getD_eq_getElem?_getD, this]
    rfl
  obtain ⟨u, h1, h2⟩ := apart_sound (P := P) (t := t) (off := i) (v := cs.getD i .top) (C := i < cs.length) (by unfold apart; rw [ht]) hlt hx
  exact ⟨u, he ▸ h1, h2⟩

theorem drop_succ_of {α : Type} {l : List α} {i : Nat} {a : α} {r : List α} (h : l.drop i = a :: r) : l.drop (i + 1) = r := by
  have := congrArg (·.drop 1) h
  simpa [List.drop_drop, Nat.add_comm] using this

theorem flds_run {P : Program} {E : Env} {cs ds : List AV} {xs ys : List Value} (hx : RepL E cs xs) (hy : RepL E ds ys) (d : Nat) : ∀ (fs : List Field) (i : Nat) (as bs : List AV), cs.drop i = as → ds.drop i = bs → fldT P fs i as bs = true →
    (Op.eqFields (d + 1) xs.toArray ys.toArray fs).run P E.w = .ok (aggEq as bs) E.w
  | [], i, as, bs, ha, hb, h => by
    unfold fldT at h
    split at h <;> first | (simp [Op.eqFields, aggEq]; done) | (cases h; done) | simp_all
  | f :: fs, i, as, bs, ha, hb, h => by
    cases as with
    | nil => simp [fldT] at h
    | cons a as =>
      cases bs with
      | nil => simp [fldT] at h
      | cons b bs =>
        simp only [fldT, Bool.and_eq_true, bne_iff_ne, ne_eq, beq_iff_eq] at h
        obtain ⟨⟨⟨hn, ho⟩, hc⟩, hr⟩ := h
        obtain ⟨u, hu, pu⟩ := part_at (P := P) (t := f.type) hx ha (cellT_plain hc)
        obtain ⟨v, hv, pv⟩ := part_at (P := P) (t := f.type) hy hb (cellT_plain hc)
        have hcell := cellT_run (d := d) hc hu hv
        have ih := flds_run hx hy d fs (i + 1) as bs (drop_succ_of ha) (drop_succ_of hb) hr
        simp only [Op.eqFields, hn, ne_eq, not_false_eq_true, if_true, Sem.run_bind, ho, pu, pv, hcell, Result.andThen_ok, aggEq]
        cases cellEq a b
        · simp
        · simpa using ih

theorem items_run {P : Program} {E : Env} {cs ds : List AV} {xs ys : List Value} (hx : RepL E cs xs) (hy : RepL E ds ys) (d : Nat) (e : TypeId) : ∀ (n i : Nat) (as bs : List AV), cs.drop i = as → ds.drop i = bs → as.length = n → all2 (cellT P e) as bs = true →
    (Op.eqItems (d + 1) e 1 xs.toArray ys.toArray (List.range' i n)).run P E.w = .ok (aggEq as bs) E.w
  | 0, i, as, bs, ha, hb, hl, h => by
    cases as with
    | cons a as => simp at hl
    | nil =>
      cases bs with
      | cons b bs => simp [all2] at h
      | nil => simp [Op.eqItems, aggEq]
  | n + 1, i, as, bs, ha, hb, hl, h => by
    cases as with
    | nil => simp at hl
    | cons a as =>
      cases bs with
      | nil => simp [all2] at h
      | cons b bs =>
        simp only [all2, Bool.and_eq_true] at h
        obtain ⟨hc, hr⟩ := h
        obtain ⟨u, hu, pu⟩ := part_at (P := P) (t := e) hx ha (cellT_plain hc)
        obtain ⟨v, hv, pv⟩ := part_at (P := P) (t := e) hy hb (cellT_plain hc)
        have hcell := cellT_run (d := d) hc hu hv
        have ih := items_run hx hy d e n (i + 1) as bs (drop_succ_of ha) (drop_succ_of hb) (by simpa using hl) hr
        rw [List.range'_succ]
        simp only [Op.eqItems, Nat.mul_one, Sem.run_bind, pu, pv, hcell, Result.andThen_ok, aggEq]
        cases cellEq a b
        · simp
        · simpa using ih

theorem aggCmp_run {P : Program} {E : Env} {t : TypeId} {xs ys : List AV} {us vs : List Value} {C : Prop} {r : Bool} (h : aggCmp P t xs ys = some (C, r)) (hC : C) (hx : RepL E xs us) (hy : RepL E ys vs) :
    P.eqGuardType P.depth t = false ∧ (Op.equalIn 10000 t (.agg us.toArray) (.agg vs.toArray)).run P E.w = .ok r E.w := by
  unfold aggCmp at h
  split at h
  · rename_i n e hu
    simp only [Option.some.injEq, Prod.mk.injEq] at h
    obtain ⟨rfl, rfl⟩ := h
    obtain ⟨hg, hsz, hl, hall⟩ := hC
    refine ⟨hg, ?_⟩
    unfold tsz at hsz
    cases hi : P.info? e with
    | none => rw [hi] at hsz; cases hsz
    | some info =>
      rw [show (10000 : Nat) = 9999 + 1 from rfl, run_equalIn_array E.w 9999 _ _ hu hi]
      have hc : P.cellsOf e = 1 := by unfold Program.cellsOf; rw [hsz]; rfl
      rw [hc, List.range_eq_range']
      exact items_run hx hy 9998 e n 0 xs ys rfl rfl hl hall
  · rename_i fs hu
    simp only [Option.some.injEq, Prod.mk.injEq] at h
    obtain ⟨rfl, rfl⟩ := h
    obtain ⟨hg, hp, hall⟩ := hC
    refine ⟨hg, ?_⟩
    have hf : P.fieldsOf t = fs := by unfold Program.fieldsOf; rw [hu]
    rw [show (10000 : Nat) = 9999 + 1 from rfl, run_equalIn_struct E.w 9999 t _ _ (by rw [hf]; exact hu) hp, hf]
    exact flds_run hx hy 9998 fs.toList 0 xs ys rfl rfl hall
  · cases h

/-- '==' and '!=' on arrays and structs. -/
def aagg (P : Program) (op : BinOp) (t : TypeId) (xs ys : List AV) : Option (Prop × AV) :=
  match op, aggCmp P t xs ys with
  | .eql, some (C, r) => some (C, .val (.bool r))
  | .neq, some (C, r) => some (C, .val (.bool (!r)))
  | _, _ => none

theorem aagg_sound {P : Program} {E : Env} {op : BinOp} {t : TypeId} {xs ys : List AV} {us vs : List Value} {C : Prop} {v : AV} (h : aagg P op t xs ys = some (C, v)) (hC : C) (hx : RepL E xs us) (hy : RepL E ys vs) (X Y : Operand) :
    ∃ r, RepV E v r ∧ (do eqGuard op t X Y (.agg us.toArray) (.agg vs.toArray); binOp op t (.agg us.toArray) (.agg vs.toArray) : Sem Value).run P E.w = .ok r E.w := by
  unfold aagg at h
  split at h
  · rename_i C' r hc
    simp only [Option.some.injEq, Prod.mk.injEq] at h
    obtain ⟨rfl, rfl⟩ := h
    obtain ⟨hg, hrun⟩ := aggCmp_run hc hC hx hy
    refine ⟨_, by simp only [RepV]; rfl, ?_⟩
    simp only [Sem.run_bind, run_eqGuard_agg E.w _ t X Y _ _ hg, Result.andThen_ok, run_eql_struct, hrun]
  · rename_i C' r hc
    simp only [Option.some.injEq, Prod.mk.injEq] at h
    obtain ⟨rfl, rfl⟩ := h
    obtain ⟨hg, hrun⟩ := aggCmp_run hc hC hx hy
    refine ⟨_, by simp only [RepV]; rfl, ?_⟩
    simp only [Sem.run_bind, run_eqGuard_agg E.w _ t X Y _ _ hg, Result.andThen_ok, run_neq_struct, hrun]
  · cases h

theorem all2_Bs {P : Program} {e : TypeId} (he : P.underlying e = some (.int .u8)) : ∀ (a b : List UInt8), a.length = b.length → all2 (cellT P e) (Bs a) (Bs b) = true
  | [], [], _ => rfl
  | [], _ :: _, h => by simp at h
  | _ :: _, [], h => by simp at h
  | x :: a, y :: b, h => by
    simp only [Bs, List.map_cons, all2, Bool.and_eq_true]
    exact ⟨by simp [cellT, he, B], all2_Bs he a b (by simpa using h)⟩

theorem aggEq_Bs : ∀ (a b : List UInt8), aggEq (Bs a) (Bs b) = (a == b)
  | [], [] => rfl
  | [], _ :: _ => rfl
  | _ :: _, [] => rfl
  | x :: a, y :: b => by
    have := aggEq_Bs a b
    simp only [Bs, List.map_cons, aggEq] at this ⊢
    rw [this]
    have hc : cellEq (B x) (B y) = (x == y) := by
      show ((x.toNat : Int) == (y.toNat : Int)) = (x == y)
      rw [Bool.eq_iff_iff]
      simp only [beq_iff_eq, Int.ofNat_inj, UInt8.toNat_inj]
    rw [hc]
    rfl

/-- Text of an object's bytes. -/
def aconvO (P : Program) (src dst : TypeId) (x : AV) (objs : List AObj) : Option (Prop × AV) :=
  match aview P objs src x with
  | some (C, _, a') => match aconv P src dst a' with
    | some (C', .val u) => some (C ∧ C', .val u)
    | _ => none
  | none => none

theorem aconvO_sound {P : Program} {E : Env} {objs : List AObj} {src dst : TypeId} {x v : AV} {C : Prop} {u : Value} (ho : ObjsRep E objs) (h : aconvO P src dst x objs = some (C, v)) (hC : C) (hx : RepV E x u) :
    ∃ u', RepV E v u' ∧ (convert src dst u).run P E.w = .ok u' E.w := by
  unfold aconvO at h
  split at h
  case h_2 => cases h
  rename_i C1 b a' hv
  split at h
  case h_2 => cases h
  rename_i C2 u2 hc
  simp only [Option.some.injEq, Prod.mk.injEq] at h
  obtain ⟨rfl, rfl⟩ := h
  obtain ⟨h1, _⟩ := aview_sound (P := P) ho hv hC.1 hx
  obtain ⟨u', h3, h4⟩ := aconv_sound (P := P) hc hC.2 h1
  simp only [RepV] at h3
  exact ⟨u', by simpa only [RepV] using h3, h4⟩
end Go.V
