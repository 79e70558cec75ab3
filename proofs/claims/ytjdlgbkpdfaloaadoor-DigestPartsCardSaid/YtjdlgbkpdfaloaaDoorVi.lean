/-
  VALUE LOGIC, part i: literals of slices, arrays and structs; make; bytes of a string.
-/
import Derived.Test.YtjdlgbkpdfaloaaDoorVh
import Derived.Laws.MakeOwn
namespace Go.V
set_option linter.unusedVariables false
set_option linter.unusedSimpArgs false

def afill (place : Nat → Option (Nat × Nat)) (cells : List AV) : List (Nat × AV) → Option (Prop × List AV)
  | [] => some (True, cells)
  | (i, v) :: rest => match place i with
    | none => none
    | some (off, size) => match afill place (spl cells off (acells v)) rest with
      | some (C, r) => some (((acells v).length = size ∧ off + size ≤ cells.length ∧ (acells v).all oneC = true) ∧ C, r)
      | none => none

theorem foldl_set (off : Nat) : ∀ (us : List Value) (j : Nat) (cs : Array Value), off + j + us.length ≤ cs.size →
    ((us.zipIdx j).foldl (fun (cs : Array Value) (x : Value × Nat) => cs.setIfInBounds (off + x.2) x.1) cs).toList = cs.toList.take (off + j) ++ us ++ cs.toList.drop (off + j + us.length)
  | [], j, cs, h => by simp
  | u :: us, j, cs, h => by
    simp only [List.length_cons] at h
    simp only [List.zipIdx_cons, List.foldl_cons]
    rw [foldl_set off us (j + 1) (cs.setIfInBounds (off + j) u) (by simp; omega)]
    apply List.ext_getElem?
    intro i
    simp only [Array.toList_setIfInBounds, List.getElem?_append, List.length_append, List.length_take, List.length_set, Array.length_toList, List.getElem?_take, List.getElem?_drop, List.length_cons, List.getElem?_set,
      List.getElem?_cons]
    repeat' split
    all_goals (first | rfl | omega | skip)
    all_goals (try (congr 1; omega))
    all_goals (try omega)

theorem RepL.spl {E : Env} {cs new : List AV} {vs us : List Value} (h : RepL E cs vs) (h' : RepL E new us) (off : Nat) : RepL E (spl cs off new) (vs.take off ++ us ++ vs.drop (off + us.length)) := by
  unfold Go.V.spl
  rw [h'.length]
  exact ((h.take off).append h').append (h.drop _)

theorem afill_sound {E : Env} {place : Nat → Option (Nat × Nat)} : ∀ {parts : List (Nat × AV)} {ups : List (Nat × Value)} {cells r : List AV} {vs : Array Value} {C : Prop},
    afill place cells parts = some (C, r) → C → RepL E cells vs.toList → parts.length = ups.length → (∀ (i : Nat) (p : Nat × AV) (q : Nat × Value), parts[i]? = some p → ups[i]? = some q → p.1 = q.1 ∧ RepV E p.2 q.2) →
    ∃ vs', Instr.fill place vs ups = some vs' ∧ RepL E r vs'.toList
  | [], [], cells, r, vs, C, h, hC, hl, _, _ => by
    simp only [afill, Option.some.injEq, Prod.mk.injEq] at h
    obtain ⟨rfl, rfl⟩ := h
    exact ⟨vs, rfl, hl⟩
  | [], q :: ups, cells, r, vs, C, h, hC, hl, he, _ => by simp at he
  | (i, v) :: parts, [], cells, r, vs, C, h, hC, hl, he, _ => by simp at he
  | (i, v) :: parts, (j, u) :: ups, cells, r, vs, C, h, hC, hl, he, hp => by
    obtain ⟨e1, hv⟩ := hp 0 (i, v) (j, u) rfl rfl
    simp only at e1 hv
    subst e1
    unfold afill at h
    split at h
    · cases h
    rename_i off size hpl
    split at h
    case h_2 => cases h
    rename_i C' r' hf
    simp only [Option.some.injEq, Prod.mk.injEq] at h
    obtain ⟨rfl, rfl⟩ := h
    obtain ⟨⟨c1, c2, c3⟩, hC'⟩ := hC
    obtain ⟨hcl, _⟩ := acells_sound hv c3
    have hcs : u.cells.size = size := by rw [← c1, ← hcl.length]; simp
    have hlen := hl.length
    have hvsz : vs.size = cells.length := by simpa using hlen
    have hset := foldl_set off u.cells.toList 0 vs (by simp; omega)
    simp only [Nat.add_zero] at hset
    obtain ⟨vs', h1, h2⟩ := afill_sound (ups := ups) (vs := (u.cells.zipIdx.foldl (fun cs (x : Value × Nat) => cs.setIfInBounds (off + x.2) x.1) vs)) hf hC' (by
      have e2 : (u.cells.zipIdx.foldl (fun (cs : Array Value) (x : Value × Nat) => cs.setIfInBounds (off + x.2) x.1) vs).toList = vs.toList.take off ++ u.cells.toList ++ vs.toList.drop (off + u.cells.toList.length) := by
        rw [← hset, ← Array.foldl_toList, Array.toList_zipIdx]
      rw [e2]
      exact hl.spl hcl off) (by simpa using he) (fun i p q hpi hqi => hp (i + 1) p q (by simpa using hpi) (by simpa using hqi))
    refine ⟨vs', ?_, h2⟩
    simp only [Instr.fill, hpl, hcs, ne_eq, not_true_eq_false, false_or, Bool.false_or, decide_false]
    rw [if_neg (by simp; omega)]
    exact h1

/-- A row of zeros, as the model makes it. -/
theorem zrow_eq (z : List Value) (n sz : Nat) (hz : z.length = sz) : ((Array.range (n * sz)).map (fun i => z.toArray[i % z.toArray.size]!)).toList = zvals z n := by
  subst hz
  have := zeroCells_eq z n
  simpa [Builtin.zeroCells] using this

/-- A new slice, none of whose cells is written again. -/
theorem new_sl {E : Env} {objs : List AObj} (ho : ObjsRep E objs) {w' : World} {vs : List Value} {t : TypeId} {fz : Nat × Nat} (h : Pushed E.w w' (.cells vs.toArray t fz)) {cs : List AV} (hrep : RepL E cs (vs.take cs.length)) (n cap : Nat) (hn : n ≤ cap) :
    ObjsRep (E.push w' cs.length) objs ∧ Ext E objs (E.push w' cs.length) objs ∧ ∀ p, PermOk (E.push w' cs.length) n (.slice (some ⟨E.w.heap.size, 0, none⟩) n cap) cap p → RepV (E.push w' cs.length) (.sl n cs p) (.slice (some ⟨E.w.heap.size, 0, none⟩) n cap) := by
  obtain ⟨hx, ho'⟩ := ext_push ho h cs.length
  refine ⟨ho', hx, fun p hp => ?_⟩
  simp only [RepV]
  refine ⟨_, cap, rfl, hn, .inr ⟨E.w.heap.size, 0, rfl, ?_, ?_, ?_⟩, hp⟩
  · show _ < w'.heap.size; rw [h.size]; omega
  · simp [Env.push]
  · refine RepAt.of_cell fun i a ha => ?_
    obtain ⟨v, hv, hr⟩ := (RepL.mono hx.toExt0 _ _ hrep).get i a ha
    refine ⟨v, ?_, hr⟩
    show w'.cell? _ = _
    rw [cell_of_row _ _ _ _ _ _ h.new]
    rw [List.getElem?_take] at hv
    split at hv
    · simpa using hv
    · cases hv

def aparts (f : Operand → AV) (parts : Array (Nat × Operand)) : List (Nat × AV) := parts.toList.map fun p => (p.1, f p.2)

def abuildSlice (P : Program) (t : TypeId) (len : Nat) (parts : List (Nat × AV)) (objs : List AObj) : R :=
  match P.underlying t with
  | some (.slice e) => match tsz P e, tzero P e with
    | some sz, some z => match afill (fun i => some (i * sz, sz)) (zrep z len) parts with
      | some (C, cells) => .ok (C ∧ z.length = sz ∧ len * sz ≤ 16777216) (.sl len cells .full) objs
      | none => .bad
    | _, _ => .bad
  | _ => .bad

/-- The same, as an object of the call's own. -/
def abuildOwn (P : Program) (t : TypeId) (len : Nat) (parts : List (Nat × AV)) (objs : List AObj) : R :=
  match P.underlying t with
  | some (.slice e) => match tsz P e, tzero P e with
    | some sz, some z => match afill (fun i => some (i * sz, sz)) (zrep z len) parts with
      | some (C, cells) => .ok (C ∧ z.length = sz ∧ len * sz ≤ 16777216 ∧ cells.length = len * sz) (.osl objs.length 0 len (some len)) (objs ++ [.cells cells])
      | none => .bad
    | _, _ => .bad
  | _ => .bad

theorem aparts_rel {E : Env} {f : Operand → AV} {g : Operand → Value} (hfg : ∀ x, RepV E (f x) (g x)) (parts : Array (Nat × Operand)) :
    (aparts f parts).length = (parts.map fun (i, x) => (i, g x)).toList.length ∧
    ∀ (i : Nat) (p : Nat × AV) (q : Nat × Value), (aparts f parts)[i]? = some p → (parts.map fun (i, x) => (i, g x)).toList[i]? = some q → p.1 = q.1 ∧ RepV E p.2 q.2 := by
  refine ⟨by simp [aparts], fun i p q hp hq => ?_⟩
  simp only [aparts, List.getElem?_map, Array.toList_map, Option.map_eq_some_iff] at hp hq
  obtain ⟨a, ha, rfl⟩ := hp
  obtain ⟨b, hb, rfl⟩ := hq
  rw [ha] at hb
  injection hb with hb
  subst hb
  exact ⟨rfl, hfg _⟩

theorem abuildSlice_sound {P : Program} {E : Env} {t : TypeId} {len : Nat} {parts : Array (Nat × Operand)} {f : Operand → AV} {g : Operand → Value} (hfg : ∀ x, RepV E (f x) (g x)) {objs objs' : List AObj} {C : Prop} {v : AV}
    (h : abuildSlice P t len (aparts f parts) objs = .ok C v objs') (hC : C) (ho : ObjsRep E objs) :
    ∃ E' u, (Instr.buildSlice t len (parts.map fun (i, x) => (i, g x))).run P E.w = .ok u E'.w ∧ RepV E' v u ∧ ObjsRep E' objs' ∧ Ext E objs E' objs' := by
  unfold abuildSlice at h
  split at h
  case h_2 => cases h
  rename_i e ht
  split at h
  case h_2 => cases h
  rename_i sz z hsz hz
  split at h
  case h_2 => cases h
  rename_i C' cells hf
  injection h with h1 h2 h3
  subst h1 h2 h3
  obtain ⟨c1, c2, c3⟩ := hC
  obtain ⟨zv, hzrun, hzc⟩ := run_zeroValue (P := P) hz E.w
  obtain ⟨hpl, hpr⟩ := aparts_rel hfg parts
  obtain ⟨vs', hfill, hrep⟩ := afill_sound (E := E) (ups := (parts.map fun (i, x) => (i, g x)).toList) (vs := (zvals z len).toArray) hf c1 (RepL_zrep E z len) hpl hpr
  have hb : ¬ (len * sz > 2 ^ 24) := by omega
  have hp := Pushed.alloc E.w (.cells vs'.toList.toArray e)
  obtain ⟨ho', hx, hv⟩ := new_sl ho hp (cs := cells) (by rw [← hrep.length, List.take_length]; exact hrep) len len (Nat.le_refl _)
  refine ⟨_, .slice (some ⟨E.w.heap.size, 0, none⟩) len len, ?_, hv .full rfl, ho', hx⟩
  have hzr : ((Array.range (len * sz)).map (fun i => z.toArray[i % z.toArray.size]!)) = (zvals z len).toArray := Array.ext' (by simpa using zrow_eq z len sz c2)
  by_cases h0 : len * sz = 0
  · have hz1 : zvals z len = [] := List.eq_nil_of_length_eq_zero (by rw [zvals_length, c2]; exact h0)
    rw [hz1] at hfill
    have e0 : ∀ f : Nat → Value, (Array.range 0).map f = #[] := fun f => Array.ext' (by simp)
    have hb0 : ¬ (0 > 2 ^ 24) := by omega
    simp only [Instr.buildSlice, Sem.run_bind, run_underlying ht, Result.andThen_ok, run_sizeOf hsz, h0, hb0, if_false, if_true, Sem.run_pure]
    rw [e0, hfill]
    simp [newRow, Env.push]
  · have hb' : ¬ (16777216 < len * sz) := by omega
    simp only [Instr.buildSlice, Sem.run_bind, run_underlying ht, Result.andThen_ok, run_sizeOf hsz, hb, if_false, Sem.run_pure, h0, hzrun, hzc]
    rw [hzr, hfill]
    simp [newRow, Env.push]

theorem abuildOwn_sound {P : Program} {E : Env} {t : TypeId} {len : Nat} {parts : Array (Nat × Operand)} {f : Operand → AV} {g : Operand → Value} (hfg : ∀ x, RepV E (f x) (g x)) {objs objs' : List AObj} {C : Prop} {v : AV}
    (h : abuildOwn P t len (aparts f parts) objs = .ok C v objs') (hC : C) (ho : ObjsRep E objs) :
    ∃ E' u, (Instr.buildSlice t len (parts.map fun (i, x) => (i, g x))).run P E.w = .ok u E'.w ∧ RepV E' v u ∧ ObjsRep E' objs' ∧ Ext E objs E' objs' := by
  unfold abuildOwn at h
  split at h
  case h_2 => cases h
  rename_i e ht
  split at h
  case h_2 => cases h
  rename_i sz z hsz hz
  split at h
  case h_2 => cases h
  rename_i C' cells hf
  injection h with h1 h2 h3
  subst h1 h2 h3
  obtain ⟨c1, c2, c3, c4⟩ := hC
  obtain ⟨zv, hzrun, hzc⟩ := run_zeroValue (P := P) hz E.w
  obtain ⟨hpl, hpr⟩ := aparts_rel hfg parts
  obtain ⟨vs', hfill, hrep⟩ := afill_sound (E := E) (ups := (parts.map fun (i, x) => (i, g x)).toList) (vs := (zvals z len).toArray) hf c1 (RepL_zrep E z len) hpl hpr
  have hb : ¬ (len * sz > 2 ^ 24) := by omega
  obtain ⟨E', eE, hρ, hk, ho', hx', hx0⟩ := new_cells (vs := vs'.toList) (t := e) ho (.alloc E.w _) (cs := cells) (by rw [hrep.length]; exact Nat.le_refl _) (by rw [← hrep.length, List.take_length]; exact hrep)
  refine ⟨E', .slice (some ⟨E.w.heap.size, 0, none⟩) len len, ?_, ?_, ho', hx'⟩
  case refine_2 =>
    simp only [RepV]
    exact ⟨hk, _, _, rfl, Nat.le_refl _, fun k hk => (Option.some.inj hk), fun _ => ⟨_, hρ, rfl⟩⟩
  rw [eE]
  have hzr : ((Array.range (len * sz)).map (fun i => z.toArray[i % z.toArray.size]!)) = (zvals z len).toArray := Array.ext' (by simpa using zrow_eq z len sz c2)
  by_cases h0 : len * sz = 0
  · have hz1 : zvals z len = [] := List.eq_nil_of_length_eq_zero (by rw [zvals_length, c2]; exact h0)
    rw [hz1] at hfill
    have e0 : ∀ f : Nat → Value, (Array.range 0).map f = #[] := fun f => Array.ext' (by simp)
    have hb0 : ¬ (0 > 2 ^ 24) := by omega
    simp only [Instr.buildSlice, Sem.run_bind, run_underlying ht, Result.andThen_ok, run_sizeOf hsz, h0, hb0, if_false, if_true, Sem.run_pure]
    rw [e0, hfill]
    simp [newRow, Env.push]
  · have hb' : ¬ (16777216 < len * sz) := by omega
    simp only [Instr.buildSlice, Sem.run_bind, run_underlying ht, Result.andThen_ok, run_sizeOf hsz, hb, if_false, Sem.run_pure, h0, hzrun, hzc]
    rw [hzr, hfill]
    simp [newRow, Env.push]

/-- Where a struct's fields lie, and how many cells each has. -/
def sfields (P : Program) (fs : Array Field) : Option (List (Nat × Nat)) := fs.toList.mapM fun f => (tsz P f.type).map fun s => (f.offset, s)

theorem run_places {P : Program} (w : World) : ∀ (fs : List Field) (ps : List (Nat × Nat)), fs.mapM (fun f => (tsz P f.type).map fun s => (f.offset, s)) = some ps →
    (fs.mapM (m := Sem) fun f => do pure (f.offset, ← sizeOf f.type)).run P w = .ok ps w
  | [], ps, h => by simp at h; subst h; rfl
  | f :: fs, ps, h => by
    simp only [List.mapM_cons, Option.bind_eq_bind, Option.bind_eq_some_iff, Option.map_eq_some_iff, Option.pure_def, Option.some.injEq] at h
    obtain ⟨p, ⟨s, hs, rfl⟩, qs, hqs, rfl⟩ := h
    simp only [List.mapM_cons, Sem.run_bind, run_sizeOf hs, Result.andThen_ok, Sem.run_pure, run_places w fs qs hqs]

def abuild (P : Program) (t : TypeId) (parts : List (Nat × AV)) : Option (Prop × AV) :=
  match tzero P t, P.underlying t with
  | some z, some (.struct fs) => match sfields P fs with
    | some ps => match afill (fun i => ps[i]?) (z.map cav) parts with
      | some (C, cells) => some (C, .agg cells)
      | none => none
    | none => none
  | some z, some (.array _ e) => match tsz P e with
    | some sz => match afill (fun i => some (i * sz, sz)) (z.map cav) parts with
      | some (C, cells) => some (C, .agg cells)
      | none => none
    | none => none
  | _, _ => none

theorem abuild_sound {P : Program} {E : Env} {t : TypeId} {parts : Array (Nat × Operand)} {f : Operand → AV} {g : Operand → Value} (hfg : ∀ x, RepV E (f x) (g x)) {C : Prop} {v : AV}
    (h : abuild P t (aparts f parts) = some (C, v)) (hC : C) : ∃ u, RepV E v u ∧ (Instr.build t (parts.map fun (i, x) => (i, g x))).run P E.w = .ok u E.w := by
  obtain ⟨hpl, hpr⟩ := aparts_rel hfg parts
  unfold abuild at h
  split at h
  · rename_i z fs hz ht
    split at h
    case h_2 => cases h
    rename_i ps hps
    split at h
    case h_2 => cases h
    rename_i C' cells hf
    simp only [Option.some.injEq, Prod.mk.injEq] at h
    obtain ⟨rfl, rfl⟩ := h
    obtain ⟨zv, hzrun, hzc⟩ := run_zeroValue (P := P) hz E.w
    obtain ⟨vs', hfill, hrep⟩ := afill_sound (E := E) (ups := (parts.map fun (i, x) => (i, g x)).toList) (vs := z.toArray) hf hC (RepL_vals E z) hpl hpr
    refine ⟨.agg vs', by simp only [RepV]; exact ⟨vs'.toList, by simp, hrep⟩, ?_⟩
    have hpl' := run_places (P := P) E.w fs.toList ps hps
    have hmap : (fs.mapM (m := Sem) fun f => do pure (f.offset, ← sizeOf f.type)).run P E.w = .ok ps.toArray E.w := by
      rw [Array.mapM_eq_mapM_toList]
      simp only [Sem.run_map, hpl', Result.andThen_ok]
    simp only [Instr.build, Sem.run_bind, hzrun, Result.andThen_ok, run_underlying ht, hmap, hzc]
    have hfill' : Instr.fill (fun x => ps.toArray[x]?) z.toArray (parts.map fun (i, x) => (i, g x)).toList = some vs' := by simpa using hfill
    rw [hfill']
    rfl
  · rename_i z n e hz ht
    split at h
    case h_2 => cases h
    rename_i sz hsz
    split at h
    case h_2 => cases h
    rename_i C' cells hf
    simp only [Option.some.injEq, Prod.mk.injEq] at h
    obtain ⟨rfl, rfl⟩ := h
    obtain ⟨zv, hzrun, hzc⟩ := run_zeroValue (P := P) hz E.w
    obtain ⟨vs', hfill, hrep⟩ := afill_sound (E := E) (ups := (parts.map fun (i, x) => (i, g x)).toList) (vs := z.toArray) hf hC (RepL_vals E z) hpl hpr
    refine ⟨.agg vs', by simp only [RepV]; exact ⟨vs'.toList, by simp, hrep⟩, ?_⟩
    simp only [Instr.build, Sem.run_bind, hzrun, Result.andThen_ok, run_underlying ht, hzc, run_sizeOf hsz]
    rw [hfill]
    rfl
  · cases h

def amake (P : Program) (t : TypeId) (mt : Bool) (l c : AV) (objs : List AObj) : R :=
  match P.underlying t, l, c with
  | some (.slice e), .val (.int _ l), .val (.int _ c) => match tsz P e, tby P e, tzero P e with
    | some sz, some by_, some z =>
      if mt then .ok (0 ≤ l ∧ l ≤ c ∧ (by_ : Int) * c ≤ 281474976710656 ∧ c ≤ 9223372036854775807 ∧ z.length = sz) (.osl objs.length 0 l.toNat (some c.toNat)) (objs ++ [.cells (zrep z c.toNat)])
      else .ok (0 ≤ l ∧ l ≤ c ∧ (by_ : Int) * c ≤ 281474976710656 ∧ c ≤ 9223372036854775807 ∧ z.length = sz) (.sl l.toNat (zrep z l.toNat) (.tok objs.length)) (objs ++ [.tok sz l.toNat])
    | _, _, _ => .bad
  | _, _, _ => .bad

theorem zvals_take (z : List Value) (a b : Nat) (h : a ≤ b) : (zvals z b).take (a * z.length) = zvals z a := by
  unfold zvals
  obtain ⟨d, rfl⟩ : ∃ d, b = a + d := ⟨b - a, by omega⟩
  rw [← List.replicate_append_replicate, List.flatten_append, List.take_left' (by simp)]

theorem amake_sound {P : Program} {E : Env} {t : TypeId} {mt : Bool} {l c v : AV} {objs objs' : List AObj} {C : Prop} {ul uc : Value} (h : amake P t mt l c objs = .ok C v objs') (hC : C) (ho : ObjsRep E objs)
    (hl : RepV E l ul) (hc : RepV E c uc) : ∃ E' u, (Instr.makeSlice t ul uc).run P E.w = .ok u E'.w ∧ RepV E' v u ∧ ObjsRep E' objs' ∧ Ext E objs E' objs' := by
  unfold amake at h
  split at h
  case h_2 => cases h
  rename_i e kl l kc c ht
  split at h
  case h_2 => cases h
  rename_i sz by_ z hsz hby hz
  simp only [RepV] at hl hc
  subst hl hc
  have key : (0 ≤ l ∧ l ≤ c ∧ (by_ : Int) * c ≤ 281474976710656 ∧ c ≤ 9223372036854775807 ∧ z.length = sz) →
      (Instr.makeSlice t (.int kl l) (.int kc c)).run P E.w = .ok (.slice (some ⟨E.w.heap.size, 0, none⟩) l.toNat c.toNat) (E.w.alloc (.cells (zvals z c.toNat).toArray e)) := by
    rintro ⟨c1, c2, c3, c4, c5⟩
    obtain ⟨i, hi, hib⟩ := run_bytesOf hby
    have hz' := hz
    unfold tzero at hz'
    simp only [Option.map_eq_some_iff, Option.bind_eq_some_iff] at hz'
    obtain ⟨zv, ⟨i', hi', hzv⟩, hzc⟩ := hz'
    rw [hi] at hi'
    injection hi' with hi'
    subst hi'
    have hisz : i.size = sz := by
      unfold tsz at hsz
      rw [hi] at hsz
      simpa using hsz
    have := run_make (P := P) E.w t e i zv ht hi hzv kl kc l c c1 c2 (by rw [hib]; exact c3) c4
    rw [this, hisz]
    congr 3
    apply Array.ext'
    have := zrow_eq z c.toNat sz c5
    have hzc' : zv.cells = z.toArray := by rw [← hzc]
    simpa [madeCells, hzc'] using this
  cases mt with
  | true =>
    simp only [if_true] at h
    injection h with h1 h2 h3
    subst h1 h2 h3
    obtain ⟨c1, c2, c3, c4, c5⟩ := hC
    obtain ⟨E', eE, hρ, hk, ho', hx', hx0⟩ := new_cells (vs := zvals z c.toNat) (t := e) ho (.alloc E.w _) (cs := zrep z c.toNat) (by rw [zrep_length, zvals_length]; exact Nat.le_refl _)
      (by rw [zrep_length, ← zvals_length, List.take_length]; exact RepL_zrep E z _)
    refine ⟨E', _, by rw [eE]; exact key ⟨c1, c2, c3, c4, c5⟩, ?_, ho', hx'⟩
    simp only [RepV]
    exact ⟨hk, _, _, rfl, by omega, fun k hk => by injection hk, fun _ => ⟨_, hρ, rfl⟩⟩
  | false =>
    simp only [Bool.false_eq_true, if_false] at h
    injection h with h1 h2 h3
    subst h1 h2 h3
    obtain ⟨c1, c2, c3, c4, c5⟩ := hC
    have hp := Pushed.alloc E.w (.cells (zvals z c.toNat).toArray e)
    obtain ⟨ho1, hx1, hv1⟩ := new_sl ho hp (cs := zrep z l.toNat) (by rw [zrep_length, zvals_take z _ _ (by omega)]; exact RepL_zrep E z _) l.toNat c.toNat (by omega)
    have hadd := ext0_add (E.push (E.w.alloc (.cells (zvals z c.toNat).toArray e)) (zrep z l.toNat).length) (.slice (some ⟨E.w.heap.size, 0, none⟩) l.toNat c.toNat)
    obtain ⟨hx2, ho2⟩ := add_obj (o := .tok sz l.toNat) (u := .slice (some ⟨E.w.heap.size, 0, none⟩) l.toNat c.toNat) hx1 ho1
      ⟨_, _, rfl, by omega, fun hlt => ⟨_, 0, _, e, (0, 0), rfl, hp.new, .inl rfl, by simp only [Nat.zero_add, List.size_toArray, zvals_length, c5]; exact Nat.le_refl _, by simp [Env.add, Env.push, zrep_length, c5]⟩⟩ (by
      intro g hg
      have : g = E.w.heap.size := by
        simp only [ownBlk] at hg
        split at hg
        · injection hg with hg; exact hg.symm
        · cases hg
      subst this
      exact ⟨Nat.le_refl _, fun hw => by
        have := ow_lt ho (ow_same (E' := E.push _ _) ho.1 (fun _ _ => rfl) hw)
        omega⟩)
    refine ⟨_, _, key ⟨c1, c2, c3, c4, c5⟩, ?_, ho2, hx2⟩
    have h0 := RepV.mono hadd _ _ (hv1 .no trivial)
    simp only [RepV] at h0 ⊢
    obtain ⟨A, cap, e1, h2, h3, _⟩ := h0
    injection e1 with e1 _ e2
    subst e1 e2
    exact ⟨_, _, rfl, h2, h3, PermOk_tok (by simp [Env.add, Env.push, ho.1]) (by simp [Env.add, Env.push, ho.1]) rfl⟩

def abytes (P : Program) (src dst : TypeId) (x : AV) (objs : List AObj) : R :=
  match x with
  | .val (.string s) => match P.underlying src, P.underlying dst with
    | some .string, some (.slice e) => .ok (P.underlying e = some (.int .u8)) (.sl s.size (Bs s.data.toList) .no) objs
    | _, _ => .bad
  | _ => .bad

theorem abytes_sound {P : Program} {E : Env} {src dst : TypeId} {x v : AV} {objs objs' : List AObj} {C : Prop} {u : Value} (h : abytes P src dst x objs = .ok C v objs') (hC : C) (ho : ObjsRep E objs) (hx : RepV E x u) :
    ∃ E' u', (convert src dst u).run P E.w = .ok u' E'.w ∧ RepV E' v u' ∧ ObjsRep E' objs' ∧ Ext E objs E' objs' := by
  unfold abytes at h
  split at h
  case h_2 => cases h
  rename_i s
  split at h
  case h_2 => cases h
  rename_i e hs hd
  injection h with h1 h2 h3
  subst h1 h2 h3
  simp only [RepV] at hx
  subst hx
  let cap := (Question.appendCap s.size 0 e).cut (E.w.tape E.w.drawn (.appendCap s.size 0 e))
  have hcap : s.size ≤ cap := by simp [cap, Question.cut]
  let row : Array Value := (s.data.map fun b => Value.int .u8 (b.toNat : Int)) ++ Array.replicate (cap - s.size) (.int .u8 0)
  have hrow : row.size = cap := by
    have : s.data.size = s.size := rfl
    simp [row, this]; omega
  let w' : World := (E.w.drew.alloc (.cells row e)).freeze ⟨E.w.heap.size, row.size, none⟩ 1
  have hp : Pushed E.w w' (.cells row.toList.toArray e (row.size, row.size + 1)) := by
    have hw : w' = { (E.w.drew.alloc (.cells row e)) with heap := (E.w.heap.push (.cells row e)).modify E.w.heap.size fun
        | .cells c elem (lo, hi) => .cells c elem (if lo == hi then (row.size, row.size + 1) else (min lo row.size, max hi (row.size + 1)))
        | o => o } := rfl
    rw [hw]
    refine ⟨?_, rfl, rfl, rfl⟩
    apply Array.ext'
    apply List.ext_getElem?
    intro i
    simp only [Array.getElem?_toList, Array.getElem?_modify, Array.getElem?_push]
    split
    · rename_i hi
      subst hi
      simp
    · rename_i hi
      have : i ≠ E.w.heap.size := fun e => hi e.symm
      simp [this]
  obtain ⟨ho', hx', hv⟩ := new_sl ho hp (cs := Bs s.data.toList) (by
    have e1 : row.toList.take (Bs s.data.toList).length = s.data.toList.map fun b => Value.int .u8 (b.toNat : Int) := by
      have : (Bs s.data.toList).length = (s.data.toList.map fun b => Value.int .u8 (b.toNat : Int)).length := by simp [Bs]
      rw [this]
      simp only [row, Array.toList_append, Array.toList_map]
      exact List.take_left
    rw [e1]
    exact RepL_bytes E _) s.size cap hcap
  refine ⟨_, .slice (some ⟨E.w.heap.size, 0, none⟩) s.size cap, ?_, hv .no trivial, ho', hx'⟩
  have hshape : (E.w.drew.alloc (.cells row e)).shape? E.w.heap.size = some (e, row.size) := by
    have := heap_alloc_new E.w.drew (.cells row e)
    simp only [World.size_drew] at this
    unfold World.shape?
    rw [this]
  simp only [convert, Sem.run_bind, run_underlying hs, run_underlying hd, run_underlying hC, Result.andThen_ok, Conv.stringToBytes, run_choose, Question.forced, Bool.false_eq_true, if_false, newRow, run_newObj, Sem.run_pure, markStringish, run_shape]
  show ((match (E.w.drew.alloc (.cells row e)).shape? E.w.heap.size with
    | some (_, n) => freeze { block := E.w.heap.size, off := n } 1
    | _ => pure ()).run P (E.w.drew.alloc (.cells row e))).andThen _ = _
  rw [hshape]
  rfl

end Go.V
