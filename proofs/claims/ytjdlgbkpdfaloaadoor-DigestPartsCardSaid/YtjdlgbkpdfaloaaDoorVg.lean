/-
  VALUE LOGIC, part g: stores into an object, copy, literals of slices and structs.
-/
import Derived.Test.YtjdlgbkpdfaloaaDoorVf
namespace Go.V
set_option linter.unusedVariables false
set_option linter.unusedSimpArgs false

theorem getElem?_set' {α : Type} {l : List α} {r i : Nat} {x y : α} (h : (l.set r x)[i]? = some y) : (i = r ∧ y = x ∧ r < l.length) ∨ (i ≠ r ∧ l[i]? = some y) := by
  rw [List.getElem?_set] at h
  split at h
  · rename_i e
    subst e
    split at h
    · injection h with h; exact .inl ⟨rfl, h.symm, ‹_›⟩
    · cases h
  · exact .inr ⟨fun e => ‹¬ _› e.symm, h⟩

/-- An object's block is written. -/
theorem write_obj {E : Env} {objs : List AObj} (ho : ObjsRep E objs) {r g : Nat} {cs cs' : List AV} (hr : objs[r]? = some (.cells cs)) (hcs : cs ≠ []) (hg : E.ρ r = .pointer (some ⟨g, 0, none⟩))
    {w' : World} {cur' : Array Value} {t : TypeId} {fz : Nat × Nat} (h2 : w'.heap.size = E.w.heap.size) (h3 : w'.os = E.w.os) (h4 : w'.tape = E.w.tape) (h5 : w'.output = E.w.output)
    (h6 : ∀ j, j ≠ g → w'.heap[j]? = E.w.heap[j]?) (h7 : w'.heap[g]? = some (.cells cur' t fz)) (hfz : FzOk cur' fz) (hlim : E.lim g = 0) (hlen : cs'.length ≤ cur'.size) (hcs' : cs' ≠ [])
    (hrep : RepL E cs' (cur'.toList.take cs'.length)) :
    ObjsRep { E with w := w' } (objs.set r (.cells cs')) ∧ Ext E objs { E with w := w' } (objs.set r (.cells cs')) := by
  have hx0 : Ext0 E { E with w := w' } := ⟨by show _ ≤ w'.heap.size; omega, fun _ _ => Nat.le_refl _, fun j o hj hlt => by
    by_cases e : j = g
    · subst e; omega
    · exact cell_of_heap (h6 j e), Nat.le_refl _, fun _ _ => .refl _⟩
  obtain ⟨k0, k1, k2⟩ := ho
  have hrl : r < objs.length := (List.getElem?_eq_some_iff.1 hr).1
  have hown : ∀ x : AObj, x = .cells cs ∨ x = .cells cs' → ownBlk x (E.ρ r) = some g := by
    intro x hx
    rw [hg]
    rcases hx with rfl | rfl
    · cases cs with
      | nil => exact absurd rfl hcs
      | cons => rfl
    · cases cs' with
      | nil => exact absurd rfl hcs'
      | cons => rfl
  have hne : ∀ i o, i ≠ r → objs[i]? = some o → ownBlk o (E.ρ i) ≠ some g := fun i o hi hio he => hi (k2 i r o _ g hio hr he (hown _ (.inl rfl)))
  refine ⟨⟨by simpa using k0, fun i o hi => ?_, fun i j o o' b hi hj hbi hbj => ?_⟩, { hx0 with os := h3, tape := h4, output := h5, frame := fun b hb hnow => ?_, own := ?_ }⟩
  · rcases getElem?_set' hi with ⟨rfl, rfl, _⟩ | ⟨hne', hio⟩
    · refine .inr ⟨g, cur', t, fz, hg, h7, hfz, hlim, hlen, RepL.mono hx0 _ _ hrep⟩
    · refine (k1 i o hio).stay hx0 fun b hb => ⟨h6 b (fun e => ?_), rfl⟩
      subst e
      exact hne i o hne' hio hb
  · rcases getElem?_set' hi with ⟨rfl, rfl, _⟩ | ⟨hi', hio⟩ <;> rcases getElem?_set' hj with ⟨rfl, rfl, _⟩ | ⟨hj', hjo⟩
    · rfl
    · have e1 := hown (.cells cs') (.inr rfl)
      have : b = g := by injection hbi.symm.trans e1
      subst this
      exact absurd hbj (hne j o' hj' hjo)
    · have e1 := hown (.cells cs') (.inr rfl)
      have : b = g := by injection hbj.symm.trans e1
      subst this
      exact absurd hbi (hne i o hi' hio)
    · exact k2 i j o o' b hio hjo hbi hbj
  · refine ⟨h6 b (fun e => ?_), rfl⟩
    subst e
    exact hnow ⟨r, _, hr, hown _ (.inl rfl)⟩
  · rintro b ⟨i, o, hi, hb⟩ _
    rcases getElem?_set' hi with ⟨rfl, rfl, _⟩ | ⟨hi', hio⟩
    · exact ⟨i, _, hr, (hown _ (.inl rfl)).trans ((hown _ (.inr rfl)).symm.trans hb)⟩
    · exact ⟨i, o, hio, hb⟩

/-- Cells are stored into an object. -/
theorem store_obj {P : Program} {E : Env} {objs : List AObj} (ho : ObjsRep E objs) {r off : Nat} {cs new : List AV} {us : List Value} (hr : objs[r]? = some (.cells cs)) {g : Nat} (hg : E.ρ r = .pointer (some ⟨g, 0, none⟩))
    (hle : off + new.length ≤ cs.length) (hpos : 0 < new.length) (hl : RepL E new us) (hone : ∀ u, u ∈ us → u.oneCell' = true) :
    ∃ E', (storeCells ⟨g, off, none⟩ us).run P E.w = .ok () E'.w ∧ ObjsRep E' (objs.set r (.cells (spl cs off new))) ∧ Ext E objs E' (objs.set r (.cells (spl cs off new))) := by
  have hcs : cs ≠ [] := by rintro rfl; simp only [List.length_nil] at hle; omega
  rcases ho.2.1 r _ hr with e | ⟨g', vs, ty, fz, e, hh, hfz, hlim, hlen, hrep⟩
  · exact absurd e hcs
  · rw [hg] at e
    injection e with e
    injection e with e
    injection e with e _
    subst e
    have hul := hl.length
    obtain ⟨w', cur', h1, h2, h3, h4, h5, h6, h7, h8⟩ := run_stores (P := P) g off ty fz us 0 vs E.w hh hfz (by omega) hone
    simp only [Nat.add_zero] at h8
    have hsz : cur'.size = vs.size := by
      have := congrArg List.length h8
      simp only [Array.length_toList, List.length_append, List.length_take, List.length_drop] at this
      omega
    have hspl := spl_length hle
    have hne : spl cs off new ≠ [] := by intro e; rw [e] at hspl; simp at hspl; omega
    obtain ⟨ho', hx⟩ := write_obj (cs' := spl cs off new) ho hr hcs hg h2 h3 h4 h5 h6 h7 (by
      rcases hfz with e | e
      · exact .inl e
      · exact .inr (by omega)) hlim (by rw [hspl]; omega) hne (by
      rw [hspl, h8]
      unfold spl
      have e1 : (List.take off vs.toList ++ us ++ List.drop (off + us.length) vs.toList).take cs.length = (vs.toList.take cs.length).take off ++ us ++ (vs.toList.take cs.length).drop (off + new.length) := by
        apply List.ext_getElem?
        intro j
        simp only [List.getElem?_append, List.length_append, List.length_take, Array.length_toList, List.getElem?_take, List.getElem?_drop]
        repeat' split
        all_goals (first | rfl | omega | skip)
        all_goals (try (congr 1; omega))
      rw [e1]
      exact ((hrep.take off).append hl).append (hrep.drop _))
    exact ⟨_, h1, ho', hx⟩

def astore (P : Program) (t : TypeId) (x val : AV) (objs : List AObj) : R :=
  match x with
  | .ptr r off => match objs[r]?, tsz P t with
    | some (.cells cs), some sz =>
      if (acells val).all oneC = true then .ok ((acells val).length = sz ∧ off + (acells val).length ≤ cs.length ∧ 0 < (acells val).length) .top (objs.set r (.cells (spl cs off (acells val)))) else .bad
    | _, _ => .bad
  | _ => .bad

theorem astore_sound {P : Program} {E : Env} {t : TypeId} {x val v : AV} {objs objs' : List AObj} {C : Prop} {u uv : Value} (h : astore P t x val objs = .ok C v objs') (hC : C) (ho : ObjsRep E objs)
    (hx : RepV E x u) (hv : RepV E val uv) : ∃ E', (Instr.storeAt t u uv).run P E.w = .ok () E'.w ∧ v = .top ∧ ObjsRep E' objs' ∧ Ext E objs E' objs' := by
  unfold astore at h
  split at h
  case h_2 => cases h
  rename_i r off
  split at h
  case h_2 => cases h
  rename_i cs sz hr hsz
  split at h
  case isFalse => cases h
  rename_i hone
  injection h with h1 h2 h3
  subst h1 h2 h3
  obtain ⟨e1, e2, e3⟩ := hC
  simp only [RepV] at hx
  obtain ⟨hk, g, hg, rfl⟩ := hx
  obtain ⟨hl, hones⟩ := acells_sound hv hone
  obtain ⟨E', hrun, ho', hx'⟩ := store_obj (P := P) ho hr hg e2 e3 hl hones
  refine ⟨E', ?_, rfl, ho', hx'⟩
  have : uv.cells.size = sz := by rw [← e1, ← hl.length]; simp
  simp [Instr.storeAt, Instr.sureAddr, storeVar, run_sizeOf hsz, this, hrun]

/-- The cells of a slice, or of a string, to be read. -/
def srcCells (objs : List AObj) (sz : Nat) : AV → Option (Prop × Nat × List AV)
  | .sl n cells p => some (cells.length = n * sz, n, cells)
  | .osl r off n cap => match objs[r]? with
    | some (.cells cs) => some (off + n * sz ≤ cs.length, n, (cs.drop off).take (n * sz))
    | _ => none
  | .val (.string s) => some (sz = 1, s.size, Bs s.data.toList)
  | _ => none

theorem RepL_bytes (E : Env) (l : List UInt8) : RepL E (Bs l) (l.map fun b => Value.int .u8 (b.toNat : Int)) := by
  induction l with
  | nil => simp only [Bs, List.map_nil, RepL]
  | cons x z ih => simp only [Bs, List.map_cons, RepL, B, RepV]; exact ⟨_, _, rfl, rfl, ih⟩

/-- Reading the first cells. -/
theorem srcCells_sound {P : Program} {E : Env} {objs : List AObj} {sz n : Nat} {x : AV} {cells : List AV} {C : Prop} {u : Value} (h : srcCells objs sz x = some (C, n, cells)) (hC : C) (ho : ObjsRep E objs) (hx : RepV E x u) :
    cells.length = n * sz ∧ (Builtin.lenOf u).run P E.w = .ok n E.w ∧
      ∃ vs : List Value, RepL E cells vs ∧ (∀ m, m ≤ n → ∀ w' : World, (∀ a, w'.cell? a = E.w.cell? a) → (Builtin.firstCells sz m u).run P w' = .ok (vs.take (m * sz)).toArray w') := by
  unfold srcCells at h
  split at h
  · simp only [Option.some.injEq, Prod.mk.injEq] at h
    obtain ⟨rfl, rfl, rfl⟩ := h
    simp only [RepV] at hx
    obtain ⟨A, cap, rfl, hn, hc, hp⟩ := hx
    refine ⟨hC, by simp [Builtin.lenOf], ?_⟩
    rcases hc with rfl | ⟨g, o, rfl, hg, ho', hat⟩
    · refine ⟨[], by simp only [RepL], fun m hm w' hw' => ?_⟩
      have hC0 := Nat.mul_le_mul_right sz hm
      simp only [List.length_nil] at hC
      cases A with
      | none => simp [Builtin.firstCells]
      | some a =>
        have : m * sz = 0 := by omega
        simp [Builtin.firstCells, this, loadCells, loadCellsFrom]
    · obtain ⟨vs, hl, hcell⟩ := hat.vals
      refine ⟨vs, hl, fun m hm w' hw' => ?_⟩
      have hle : m * sz ≤ vs.length := by rw [hl.length, hC]; exact Nat.mul_le_mul_right _ hm
      have := run_loadCells_list (P := P) (w := w') ⟨g, o, none⟩ (vs.take (m * sz)) (fun j v hj => by
        rw [add_off]
        rw [List.getElem?_take] at hj
        split at hj
        · exact (hw' _).trans (hcell j v hj)
        · cases hj)
      rw [List.length_take, Nat.min_eq_left hle] at this
      simp [Builtin.firstCells, this]
  · rename_i r off n0 cap
    split at h
    case h_2 => cases h
    rename_i cs hr
    simp only [Option.some.injEq, Prod.mk.injEq] at h
    obtain ⟨rfl, rfl, rfl⟩ := h
    simp only [RepV] at hx
    obtain ⟨hk, A, c, rfl, hn, hcap, hpos⟩ := hx
    refine ⟨by rw [List.length_take, List.length_drop]; omega, by simp [Builtin.lenOf], ?_⟩
    by_cases h0 : 0 < n0
    · obtain ⟨g, hg, rfl⟩ := hpos h0
      rcases ho.2.1 r _ hr with rfl | ⟨g', vs, ty, fz, e, hh, hfz, hlim, hlen, hrep⟩
      · simp only [List.length_nil] at hC
        refine ⟨[], by simp [RepL], fun m hm w' hw' => ?_⟩
        have hC0 := Nat.mul_le_mul_right sz hm
        have : m * sz = 0 := by omega
        simp [Builtin.firstCells, this, loadCells, loadCellsFrom]
      · rw [hg] at e
        injection e with e
        injection e with e
        injection e with e _
        subst e
        have hat := RepAt.take (hrep.at_ (off := off) hh) (n0 * sz)
        obtain ⟨us, hl, hcell⟩ := hat.vals
        refine ⟨us, hl, fun m hm w' hw' => ?_⟩
        have hle : m * sz ≤ us.length := by
          rw [hl.length, List.length_take, List.length_drop]
          have := Nat.mul_le_mul_right sz hm
          omega
        have := run_loadCells_list (P := P) (w := w') ⟨g, off, none⟩ (us.take (m * sz)) (fun j v hj => by
          rw [add_off]
          rw [List.getElem?_take] at hj
          split at hj
          · exact (hw' _).trans (hcell j v hj)
          · cases hj)
        rw [List.length_take, Nat.min_eq_left hle] at this
        simp [Builtin.firstCells, this]
    · have : n0 = 0 := by omega
      subst this
      refine ⟨[], by simp [RepL], fun m hm w' hw' => ?_⟩
      have : m = 0 := by omega
      subst this
      cases A <;> simp [Builtin.firstCells, loadCells, loadCellsFrom]
  · rename_i s
    simp only [Option.some.injEq, Prod.mk.injEq] at h
    obtain ⟨rfl, rfl, rfl⟩ := h
    subst hC
    simp only [RepV] at hx
    subst hx
    refine ⟨by simp [Bs], by simp [Builtin.lenOf], _, RepL_bytes E _, fun m hm w' hw' => ?_⟩
    simp only [Builtin.firstCells, Sem.run_pure, Nat.mul_one]
    congr 1
    apply Array.ext'
    have hle : m ≤ s.data.toList.length := by simpa using hm
    simp only [ByteArray.data_extract, Array.toList_map, Array.toList_extract, List.extract_eq_take_drop, List.drop_zero, Nat.sub_zero, List.map_take]
  · cases h

def acopy (P : Program) (dT : TypeId) (dst src : AV) (objs : List AObj) : R :=
  match P.underlying dT with
  | some (.slice e) => match tsz P e, dst with
    | some sz, .osl r off n cap => match objs[r]?, srcCells objs sz src with
      | some (.cells cs), some (C, m, cells) =>
        .ok (C ∧ off + (min m n) * sz ≤ cs.length ∧ (cells.take (min m n * sz)).all oneC = true) (.val (.int .i64 ((min m n : Nat) : Int)))
          (if 0 < min m n * sz then objs.set r (.cells (spl cs off (cells.take (min m n * sz)))) else objs)
      | _, _ => .bad
    | _, _ => .bad
  | _ => .bad

theorem all_oneC {E : Env} : ∀ {cs : List AV} {us : List Value}, RepL E cs us → cs.all oneC = true → ∀ u, u ∈ us → u.oneCell' = true := by
  intro cs
  induction cs with
  | nil => intro us hl _ u hu; simp only [RepL] at hl; subst hl; simp at hu
  | cons c cs ih =>
    intro us hl hall u hu
    simp only [RepL] at hl
    obtain ⟨x, us', rfl, h1, h2⟩ := hl
    simp only [List.all_cons, Bool.and_eq_true] at hall
    rcases List.mem_cons.1 hu with rfl | hu
    · exact oneC_sound hall.1 h1
    · exact ih h2 hall.2 u hu

theorem acopy_sound {P : Program} {E : Env} {dT sT ty : TypeId} {dst src v : AV} {objs objs' : List AObj} {C : Prop} {ud us : Value} (h : acopy P dT dst src objs = .ok C v objs') (hC : C) (ho : ObjsRep E objs)
    (hd : RepV E dst ud) (hs : RepV E src us) : ∃ E' u, (Builtin.copy_ #[dT, sT] ty #[ud, us]).run P E.w = .ok u E'.w ∧ RepV E' v u ∧ ObjsRep E' objs' ∧ Ext E objs E' objs' := by
  unfold acopy at h
  split at h
  case h_2 => cases h
  rename_i e ht
  split at h
  case h_2 => cases h
  rename_i sz r off n cap hsz
  split at h
  case h_2 => cases h
  rename_i cs C' m cells hr hsrc
  injection h with h1 h2 h3
  subst h1 h2 h3
  obtain ⟨hC', hle, hone⟩ := hC
  obtain ⟨hlen, hlenOf, vs, hl, hfirst⟩ := srcCells_sound (P := P) hsrc hC' ho hs
  simp only [RepV] at hd
  obtain ⟨hk, A, c, rfl, hn, hcap, hpos⟩ := hd
  have hf := hfirst (min m n) (Nat.min_le_left _ _) E.w (fun _ => rfl)
  have hl' := hl.take (min m n * sz)
  have hlc : (cells.take (min m n * sz)).length = min m n * sz := by
    rw [List.length_take, hlen]
    exact Nat.min_eq_left (Nat.mul_le_mul_right _ (Nat.min_le_left _ _))
  by_cases h0 : 0 < min m n * sz
  · rw [if_pos h0]
    have hn0 : 0 < n := by
      rcases Nat.eq_zero_or_pos n with e | e
      · subst e; simp at h0
      · exact e
    obtain ⟨g, hg, rfl⟩ := hpos hn0
    obtain ⟨E', hrun, ho', hx'⟩ := store_obj (P := P) ho hr hg (by rw [hlc]; exact hle) (by rw [hlc]; exact h0) hl' (all_oneC hl' hone)
    refine ⟨E', _, ?_, by simp only [RepV]; rfl, ho', hx'⟩
    have e1 : Nat.min m n = min m n := rfl
    simp [Builtin.copy_, run_underlying ht, hlenOf, run_sizeOf hsz, e1, hf, hrun, goInt]
  · rw [if_neg h0]
    have hz : min m n * sz = 0 := by omega
    have hvs : vs.take (min m n * sz) = [] := by rw [hz]; rfl
    refine ⟨E, _, ?_, by simp only [RepV]; rfl, ho, .refl _ _⟩
    have e1 : Nat.min m n = min m n := rfl
    rw [hvs] at hf
    cases A with
    | none => simp [Builtin.copy_, run_underlying ht, hlenOf, run_sizeOf hsz, e1, hf, goInt]
    | some a => simp [Builtin.copy_, run_underlying ht, hlenOf, run_sizeOf hsz, e1, hf, goInt, storeCells]

end Go.V
