/-
  VALUE LOGIC, part f: how the objects of a call stay, come, and are written; loads, stores, new variables.
-/
import Derived.Test.YtjdlgbkpdfaloaaDoorVe
namespace Go.V
set_option linter.unusedVariables false
set_option linter.unusedSimpArgs false

theorem get_lt {α : Type} {a : Array α} {i : Nat} {x : α} (h : a[i]? = some x) : i < a.size := (Array.getElem?_eq_some_iff.1 h).1

theorem own_lt {E : Env} {u : Value} {o : AObj} {g : Nat} (h : ObjRep E u o) (hg : ownBlk o u = some g) : g < E.w.heap.size := by
  cases o with
  | cells cs =>
    rcases h with rfl | ⟨g', vs, t, fz, rfl, hh, _⟩
    · simp [ownBlk] at hg
    · cases cs with
      | nil => simp [ownBlk] at hg
      | cons c cs => simp [ownBlk] at hg; subst hg; exact get_lt hh
  | tok sz n =>
    obtain ⟨A, c, rfl, hn, hc⟩ := h
    cases A with
    | none => simp [ownBlk] at hg
    | some a =>
      simp only [ownBlk] at hg
      split at hg
      · rename_i hlt
        obtain ⟨g', o, vs, t, fz, e, hh, _⟩ := hc hlt
        injection e with e
        injection hg with hg
        subst e
        subst hg
        exact get_lt hh
      · cases hg
  | dead => simp [ownBlk] at hg

theorem ow_lt {E : Env} {objs : List AObj} (h : ObjsRep E objs) {g : Nat} (hg : Ow E objs g) : g < E.w.heap.size := by
  obtain ⟨r, o, ho, hb⟩ := hg
  exact own_lt (h.2.1 r o ho) hb

/-- An object stays, where its block does. -/
theorem ObjRep.stay {E E' : Env} (hx : Ext0 E E') {u : Value} {o : AObj} (h : ObjRep E u o)
    (hb : ∀ g, ownBlk o u = some g → E'.w.heap[g]? = E.w.heap[g]? ∧ E'.lim g = E.lim g) : ObjRep E' u o := by
  cases o with
  | cells cs =>
    rcases h with rfl | ⟨g, vs, t, fz, rfl, hh, hfz, hl, hlen, hrep⟩
    · exact .inl rfl
    · cases cs with
      | nil => exact .inl rfl
      | cons c cs =>
        obtain ⟨e1, e2⟩ := hb g rfl
        exact .inr ⟨g, vs, t, fz, rfl, e1.trans hh, hfz, e2.trans hl, hlen, RepL.mono hx _ _ hrep⟩
  | tok sz n =>
    obtain ⟨A, c, rfl, hn, hc⟩ := h
    refine ⟨A, c, rfl, hn, fun hlt => ?_⟩
    obtain ⟨g, o, vs, t, fz, rfl, hh, hfz, hsz, hl⟩ := hc hlt
    obtain ⟨e1, e2⟩ := hb g (by simp [ownBlk, hlt])
    exact ⟨g, o, vs, t, fz, rfl, e1.trans hh, hfz, hsz, by rw [e2]; exact hl⟩
  | dead => trivial

theorem ObjsRep.stay {E E' : Env} (hx : Ext0 E E') {objs : List AObj} (h : ObjsRep E objs) (hk : E'.k = E.k) (hρ : ∀ r, r < E.k → E'.ρ r = E.ρ r)
    (hb : ∀ g, Ow E objs g → E'.w.heap[g]? = E.w.heap[g]? ∧ E'.lim g = E.lim g) : ObjsRep E' objs := by
  obtain ⟨h1, h2, h3⟩ := h
  have hlt : ∀ r o, objs[r]? = some o → r < E.k := fun r o ho => by rw [h1]; exact (List.getElem?_eq_some_iff.1 ho).1
  refine ⟨hk.trans h1, fun r o ho => ?_, fun r r' o o' g ho ho' hg hg' => ?_⟩
  · rw [hρ r (hlt r o ho)]
    exact (h2 r o ho).stay hx fun g hg => hb g ⟨r, o, ho, hg⟩
  · rw [hρ r (hlt r o ho)] at hg
    rw [hρ r' (hlt r' o' ho')] at hg'
    exact h3 r r' o o' g ho ho' hg hg'

theorem ow_same {E E' : Env} {objs : List AObj} (h1 : E.k = objs.length) (hρ : ∀ r, r < E.k → E'.ρ r = E.ρ r) {g : Nat} (hg : Ow E' objs g) : Ow E objs g := by
  obtain ⟨r, o, ho, hb⟩ := hg
  refine ⟨r, o, ho, ?_⟩
  rwa [hρ r (by rw [h1]; exact (List.getElem?_eq_some_iff.1 ho).1)] at hb

/-- A new block. -/
def Env.push (E : Env) (w' : World) (L : Nat) : Env := { E with w := w', lim := fun g => if g = E.w.heap.size then L else E.lim g }

structure Pushed (w w' : World) (o : Obj) : Prop where
  heap : w'.heap = w.heap.push o
  os : w'.os = w.os
  tape : w'.tape = w.tape
  output : w'.output = w.output

theorem Pushed.alloc (w : World) (o : Obj) : Pushed w (w.alloc o) o := ⟨rfl, rfl, rfl, rfl⟩
theorem Pushed.drew (w : World) (o : Obj) : Pushed w (w.drew.alloc o) o := ⟨rfl, rfl, rfl, rfl⟩

theorem Pushed.old {w w' : World} {o : Obj} (h : Pushed w w' o) {g : Nat} (hg : g < w.heap.size) : w'.heap[g]? = w.heap[g]? := by
  rw [h.heap, Array.getElem?_push, if_neg (by omega)]
theorem Pushed.new {w w' : World} {o : Obj} (h : Pushed w w' o) : w'.heap[w.heap.size]? = some o := by
  rw [h.heap, Array.getElem?_push, if_pos rfl]
theorem Pushed.size {w w' : World} {o : Obj} (h : Pushed w w' o) : w'.heap.size = w.heap.size + 1 := by rw [h.heap, Array.size_push]
theorem cell_of_heap {w w' : World} {g o : Nat} (h : w'.heap[g]? = w.heap[g]?) : w'.cell? ⟨g, o, none⟩ = w.cell? ⟨g, o, none⟩ := by simp [World.cell?, h]

theorem ext_push {E : Env} {objs : List AObj} (ho : ObjsRep E objs) {w' : World} {o : Obj} (h : Pushed E.w w' o) (L : Nat) :
    Ext E objs (E.push w' L) objs ∧ ObjsRep (E.push w' L) objs := by
  have hx0 : Ext0 E (E.push w' L) :=
    ⟨by show _ ≤ w'.heap.size; rw [h.size]; omega, fun g hg => by simp only [Env.push]; rw [if_neg (by omega)]; exact Nat.le_refl _,
     fun g o hg _ => cell_of_heap (h.old hg), Nat.le_refl _, fun _ _ => .refl _⟩
  have hb : ∀ g, g < E.w.heap.size → (E.push w' L).w.heap[g]? = E.w.heap[g]? ∧ (E.push w' L).lim g = E.lim g :=
    fun g hg => ⟨h.old hg, by simp only [Env.push]; rw [if_neg (by omega)]⟩
  exact ⟨{ hx0 with os := h.os, tape := h.tape, output := h.output, frame := fun g hg _ => hb g hg, own := fun g hg _ => ow_same ho.1 (fun _ _ => rfl) hg },
    ho.stay hx0 rfl (fun _ _ => rfl) fun g hg => hb g (ow_lt ho hg)⟩

/-- One object more. -/
def Env.add (E : Env) (u : Value) : Env := { E with k := E.k + 1, ρ := fun r => if r = E.k then u else E.ρ r }

theorem ext0_add (E : Env) (u : Value) : Ext0 E (E.add u) :=
  ⟨Nat.le_refl _, fun _ _ => Nat.le_refl _, fun _ _ _ _ => rfl, by simp [Env.add], fun r hr => by simp only [Env.add]; rw [if_neg (by omega)]; exact .refl _⟩

theorem add_obj {E E' : Env} {objs objs' : List AObj} (hx : Ext E objs E' objs') (ho : ObjsRep E' objs') {u : Value} {o : AObj} (hr : ObjRep (E'.add u) u o)
    (hown : ∀ g, ownBlk o u = some g → E.w.heap.size ≤ g ∧ ¬ Ow E' objs' g) :
    Ext E objs (E'.add u) (objs' ++ [o]) ∧ ObjsRep (E'.add u) (objs' ++ [o]) := by
  have hk := ho.1
  have hold : ∀ r o', objs'[r]? = some o' → (E'.add u).ρ r = E'.ρ r := fun r o' hr' => by
    have := (List.getElem?_eq_some_iff.1 hr').1
    simp only [Env.add]
    rw [if_neg (by omega)]
  have hnew : (E'.add u).ρ objs'.length = u := by simp only [Env.add]; rw [if_pos hk.symm]
  have hget : ∀ r o', (objs' ++ [o])[r]? = some o' → objs'[r]? = some o' ∨ (r = objs'.length ∧ o' = o) := fun r o' h => by
    rcases Nat.lt_or_ge r objs'.length with hlt | hge
    · left; rwa [List.getElem?_append_left hlt] at h
    · right
      rw [List.getElem?_append_right hge] at h
      have : r - objs'.length = 0 := by
        rcases Nat.eq_zero_or_pos (r - objs'.length) with h0 | h0
        · exact h0
        · rw [List.getElem?_eq_none (by simp only [List.length_cons, List.length_nil]; omega)] at h; cases h
      rw [this] at h
      simp at h
      exact ⟨by omega, h.symm⟩
  refine ⟨{ hx.toExt0.trans (ext0_add E' u) with os := hx.os, tape := hx.tape, output := hx.output, frame := hx.frame, own := ?_ }, ?_, ?_, ?_⟩
  · rintro g ⟨r, o', hr', hg⟩ hlt
    rcases hget r o' hr' with h | ⟨rfl, rfl⟩
    · rw [hold r o' h] at hg
      exact hx.own g ⟨r, o', h, hg⟩ hlt
    · rw [hnew] at hg
      have := (hown g hg).1
      omega
  · simp only [Env.add, List.length_append, List.length_cons, List.length_nil, hk]
  · intro r o' hr'
    rcases hget r o' hr' with h | ⟨rfl, rfl⟩
    · rw [hold r o' h]
      exact (ho.2.1 r o' h).stay (ext0_add E' u) fun g _ => ⟨rfl, rfl⟩
    · rw [hnew]; exact hr
  · intro r r' o1 o2 g h1 h2 hg1 hg2
    rcases hget r o1 h1 with h | ⟨rfl, rfl⟩ <;> rcases hget r' o2 h2 with h' | ⟨rfl, rfl⟩
    · rw [hold r o1 h] at hg1
      rw [hold r' o2 h'] at hg2
      exact ho.2.2 r r' o1 o2 g h h' hg1 hg2
    · rw [hold r o1 h] at hg1
      rw [hnew] at hg2
      exact absurd ⟨r, o1, h, hg1⟩ (hown g hg2).2
    · rw [hold r' o2 h'] at hg2
      rw [hnew] at hg1
      exact absurd ⟨r', o2, h', hg2⟩ (hown g hg1).2
    · rfl

/-- A new variable: a block of its own. -/
theorem new_cells {E : Env} {objs : List AObj} (ho : ObjsRep E objs) {w' : World} {vs : List Value} {t : TypeId} (h : Pushed E.w w' (.cells vs.toArray t)) {cs : List AV} (hlen : cs.length ≤ vs.length)
    (hrep : RepL E cs (vs.take cs.length)) :
    ∃ E', E'.w = w' ∧ E'.ρ objs.length = .pointer (some ⟨E.w.heap.size, 0, none⟩) ∧ objs.length < E'.k ∧ ObjsRep E' (objs ++ [.cells cs]) ∧ Ext E objs E' (objs ++ [.cells cs]) ∧ Ext0 E E' := by
  obtain ⟨hx, ho'⟩ := ext_push ho h 0
  have hadd := ext0_add (E.push w' 0) (.pointer (some ⟨E.w.heap.size, 0, none⟩))
  obtain ⟨hx2, ho2⟩ := add_obj (o := .cells cs) (u := .pointer (some ⟨E.w.heap.size, 0, none⟩)) hx ho' (by
    refine .inr ⟨E.w.heap.size, vs.toArray, t, (0, 0), rfl, h.new, .inl rfl, ?_, by simpa using hlen, ?_⟩
    · simp [Env.add, Env.push]
    · exact RepL.mono (hx.toExt0.trans hadd) _ _ (by simpa using hrep)) (by
    intro g hg
    have : g = E.w.heap.size := by
      cases cs with
      | nil => simp [ownBlk] at hg
      | cons c cs => simp [ownBlk] at hg; exact hg.symm
    subst this
    exact ⟨Nat.le_refl _, fun hw => by
      have := ow_lt ho (ow_same (E' := E.push w' 0) ho.1 (fun _ _ => rfl) hw)
      omega⟩)
  exact ⟨_, rfl, by simp [Env.add, Env.push, ho.1], by simp [Env.add, Env.push, ho.1], ho2, hx2, hx2.toExt0⟩

def acells : AV → List AV
  | .agg cs => cs
  | a => [a]

/-- Fits one cell. -/
def oneC : AV → Bool
  | .val v => v.oneCell'
  | .sl .. => true
  | .osl .. => true
  | .ptr .. => true
  | .cptr _ => true
  | _ => false

theorem oneC_sound {E : Env} {c : AV} {v : Value} (h : oneC c = true) (hr : RepV E c v) : v.oneCell' = true := by
  cases c with
  | val u => simp only [RepV] at hr; subst hr; exact h
  | sl n cells p => simp only [RepV] at hr; obtain ⟨_, _, rfl, _⟩ := hr; rfl
  | osl r off n cap => simp only [RepV] at hr; obtain ⟨_, _, _, rfl, _⟩ := hr; rfl
  | ptr r off => simp only [RepV] at hr; obtain ⟨_, _, _, rfl⟩ := hr; rfl
  | cptr cells => simp only [RepV] at hr; obtain ⟨_, _, rfl, _⟩ := hr; rfl
  | _ => cases h

theorem acells_sound {E : Env} {a : AV} {v : Value} (h : RepV E a v) (hn : (acells a).all oneC = true) : RepL E (acells a) v.cells.toList ∧ ∀ u, u ∈ v.cells.toList → u.oneCell' = true := by
  have key : ∀ {cs : List AV} {us : List Value}, RepL E cs us → cs.all oneC = true → ∀ u, u ∈ us → u.oneCell' = true := by
    intro cs
    induction cs with
    | nil => intro us hl _ u hu; simp only [RepL] at hl; subst hl; simp at hu
    | cons c cs ih =>
      intro us hl hall u hu
      simp only [RepL] at hl
      obtain ⟨x, us', rfl, h1, h2⟩ := hl
      simp only [List.all_cons, Bool.and_eq_true] at hall
      rcases List.mem_cons.1 hu with rfl | hu
      · exact oneC_sound hall.1 h1
      · exact ih h2 hall.2 u hu
  cases a with
  | agg cs =>
    simp only [RepV] at h
    obtain ⟨vs, rfl, hl⟩ := h
    exact ⟨hl, key hl hn⟩
  | _ =>
    have h1 : v.oneCell' = true := oneC_sound (by simpa [acells] using hn) h
    have hc : v.cells = #[v] := by cases v <;> first | rfl | (simp [Value.oneCell'] at h1)
    rw [hc]
    refine ⟨by simp only [acells, RepL]; exact ⟨v, [], rfl, h, rfl⟩, ?_⟩
    simpa using h1

-- new variables
def aalloc (P : Program) (t : TypeId) (objs : List AObj) : R :=
  match tzero P t with
  | some z => .ok True (.ptr objs.length 0) (objs ++ [.cells (z.map cav)])
  | none => .bad

theorem RepL_vals (E : Env) (z : List Value) : RepL E (z.map cav) z := by
  induction z with
  | nil => simp only [List.map_nil, RepL]
  | cons x z ih => simp only [List.map_cons, RepL]; exact ⟨x, z, rfl, cav_sound E x, ih⟩

theorem aalloc_sound {P : Program} {E : Env} {t : TypeId} {objs objs' : List AObj} {C : Prop} {v : AV} (h : aalloc P t objs = .ok C v objs') (ho : ObjsRep E objs) (old : Value) :
    ∃ E' u, (Instr.alloc t true old).run P E.w = .ok u E'.w ∧ RepV E' v u ∧ ObjsRep E' objs' ∧ Ext E objs E' objs' := by
  unfold aalloc at h
  split at h
  case h_2 => cases h
  rename_i z hz
  injection h with h1 h2 h3
  subst h2 h3
  obtain ⟨zv, hrun, hc⟩ := run_zeroValue (P := P) hz E.w
  obtain ⟨E', e, hρ, hk, ho', hx, _⟩ := new_cells (vs := z) (t := t) ho (.alloc E.w _) (cs := z.map cav) (by simp) (by simpa using RepL_vals E z)
  refine ⟨E', .pointer (some ⟨E.w.heap.size, 0, none⟩), ?_, by simp only [RepV]; exact ⟨hk, _, hρ, rfl⟩, ho', hx⟩
  rw [e]
  simp [Instr.alloc, hrun, newVar, newRow, hc]

def abox (P : Program) (x : AV) (objs : List AObj) : R :=
  if (acells x).all oneC = true then .ok True (.ptr objs.length 0) (objs ++ [.cells (acells x)]) else .bad

theorem abox_sound {P : Program} {E : Env} {t : TypeId} {objs objs' : List AObj} {C : Prop} {x v : AV} {u0 : Value} (h : abox P x objs = .ok C v objs') (ho : ObjsRep E objs) (hx0 : RepV E x u0) :
    ∃ E' u, (Instr.box t u0).run P E.w = .ok u E'.w ∧ RepV E' v u ∧ ObjsRep E' objs' ∧ Ext E objs E' objs' := by
  unfold abox at h
  split at h
  case isFalse => cases h
  rename_i hone
  injection h with h1 h2 h3
  subst h2 h3
  obtain ⟨hl, _⟩ := acells_sound hx0 hone
  obtain ⟨E', e, hρ, hk, ho', hx, _⟩ := new_cells (vs := u0.cells.toList) (t := t) ho (.alloc E.w _) (cs := acells x) (by rw [hl.length]; exact Nat.le_refl _) (by rw [← hl.length, List.take_length]; exact hl)
  refine ⟨E', .pointer (some ⟨E.w.heap.size, 0, none⟩), ?_, by simp only [RepV]; exact ⟨hk, _, hρ, rfl⟩, ho', hx⟩
  rw [e]
  simp [Instr.box, newVar, newRow]

-- loads
def aload (P : Program) (t : TypeId) (x : AV) (objs : List AObj) : Option (Prop × AV) :=
  match x with
  | .ptr r off => match objs[r]? with
    | some (.cells cs) => apart P t cs off
    | _ => none
  | .cptr cells => apart P t cells 0
  | _ => none

theorem RepL.at_ {E : Env} {g off : Nat} {cs : List AV} {vs : Array Value} {t : TypeId} {fz : Nat × Nat} (hh : E.w.heap[g]? = some (.cells vs t fz)) (hrep : RepL E cs (vs.toList.take cs.length)) : RepAt E g off (cs.drop off) :=
  RepAt.of_cell fun i c hc => by
    rw [List.getElem?_drop] at hc
    obtain ⟨v, hv, hr⟩ := hrep.get _ c hc
    refine ⟨v, ?_, hr⟩
    rw [cell_of_row _ _ _ _ _ _ hh]
    rw [List.getElem?_take] at hv
    split at hv
    · simpa using hv
    · cases hv

theorem loadVar_at {P : Program} {E : Env} {t : TypeId} {g o : Nat} {cs : List AV} {v : AV} {C : Prop} (h : apart P t cs 0 = some (C, v)) (hC : C) (hat : RepAt E g o cs) :
    ∃ u, RepV E v u ∧ (loadVar t ⟨g, o, none⟩).run P E.w = .ok u E.w := by
  unfold apart at h
  split at h
  · rename_i hag
    split at h
    case h_2 => cases h
    rename_i sz hsz
    simp only [Option.some.injEq, Prod.mk.injEq] at h
    obtain ⟨rfl, rfl⟩ := h
    obtain ⟨vs, hl, hlen, hrun⟩ := run_load_at (P := P) (hat.take sz)
    rw [List.length_take, Nat.min_eq_left (by omega)] at hrun
    refine ⟨.agg vs.toArray, by simp only [RepV, List.drop_zero]; exact ⟨vs, rfl, hl⟩, ?_⟩
    simp [loadVar, run_isAgg hag, run_sizeOf hsz, hrun]
  · rename_i hag
    simp only [Option.some.injEq, Prod.mk.injEq] at h
    obtain ⟨rfl, rfl⟩ := h
    cases cs with
    | nil => simp at hC
    | cons c cs =>
      simp only [RepAt] at hat
      obtain ⟨⟨u, hc, hv⟩, _⟩ := hat
      exact ⟨u, hv, by simp [loadVar, run_isAgg hag, hc]⟩
  · cases h

theorem apart_drop {P : Program} {t : TypeId} {cs : List AV} {off : Nat} {v : AV} {C : Prop} (h : apart P t cs off = some (C, v)) (hC : C) : ∃ C', apart P t (cs.drop off) 0 = some (C', v) ∧ C' := by
  unfold apart at h ⊢
  split at h
  · split at h
    case h_2 => cases h
    rename_i sz hsz
    simp only [Option.some.injEq, Prod.mk.injEq] at h
    obtain ⟨rfl, rfl⟩ := h
    refine ⟨_, rfl, ?_⟩
    rw [List.length_drop]
    omega
  · simp only [Option.some.injEq, Prod.mk.injEq] at h
    obtain ⟨rfl, rfl⟩ := h
    refine ⟨(0 < (cs.drop off).length), by simp [List.getD_eq_getElem?_getD], ?_⟩
    rw [List.length_drop]
    omega
  · cases h

theorem apart_pos {P : Program} {t : TypeId} {off : Nat} {v : AV} {C : Prop} (h : apart P t [] off = some (C, v)) (hC : C) : v = .agg [] := by
  unfold apart at h
  split at h
  · split at h
    case h_2 => cases h
    simp only [Option.some.injEq, Prod.mk.injEq] at h
    obtain ⟨rfl, rfl⟩ := h
    simp
  · simp only [Option.some.injEq, Prod.mk.injEq] at h
    obtain ⟨rfl, rfl⟩ := h
    simp at hC
  · cases h

theorem aload_sound {P : Program} {E : Env} {t : TypeId} {x v : AV} {objs : List AObj} {C : Prop} {u : Value} (h : aload P t x objs = some (C, v)) (hC : C) (ho : ObjsRep E objs) (hx : RepV E x u) :
    ∃ u', RepV E v u' ∧ (Instr.loadAt t u).run P E.w = .ok u' E.w := by
  unfold aload at h
  split at h
  · rename_i r off
    split at h
    case h_2 => cases h
    rename_i cs hr
    simp only [RepV] at hx
    obtain ⟨hk, g, hg, rfl⟩ := hx
    obtain ⟨C', h', hC'⟩ := apart_drop h hC
    rcases ho.2.1 r _ hr with rfl | ⟨g', vs, ty, fz, e, hh, hfz, hl, hlen, hrep⟩
    · obtain ⟨u', hu, hrun⟩ := loadVar_at (P := P) (E := E) (g := g) (o := off) h' hC' (by simp only [List.drop_nil, RepAt])
      exact ⟨u', hu, by simp [Instr.loadAt, Instr.sureAddr, hrun]⟩
    · rw [hg] at e
      injection e with e
      injection e with e
      injection e with e _
      subst e
      obtain ⟨u', hu, hrun⟩ := loadVar_at (P := P) (E := E) (g := g) (o := off) h' hC' (hrep.at_ hh)
      exact ⟨u', hu, by simp [Instr.loadAt, Instr.sureAddr, hrun]⟩
  · rename_i cells
    simp only [RepV] at hx
    obtain ⟨g, o, rfl, hg, hlim, hat⟩ := hx
    obtain ⟨u', hu, hrun⟩ := loadVar_at (P := P) h hC hat
    exact ⟨u', hu, by simp [Instr.loadAt, Instr.sureAddr, hrun]⟩
  · cases h

-- stores
def spl (cs : List AV) (off : Nat) (new : List AV) : List AV := cs.take off ++ new ++ cs.drop (off + new.length)

theorem spl_length {cs : List AV} {off : Nat} {new : List AV} (h : off + new.length ≤ cs.length) : (spl cs off new).length = cs.length := by
  simp [spl]; omega

/-- Many cells are stored, one behind the other. -/
theorem run_stores {P : Program} (g o : Nat) (t : TypeId) (fz : Nat × Nat) : ∀ (vs : List Value) (i : Nat) (cur : Array Value) (w : World), w.heap[g]? = some (.cells cur t fz) → FzOk cur fz → o + i + vs.length ≤ cur.size →
    (∀ v, v ∈ vs → v.oneCell' = true) →
    ∃ w' cur', (storeCells ⟨g, o, none⟩ vs i).run P w = .ok () w' ∧ w'.heap.size = w.heap.size ∧ w'.os = w.os ∧ w'.tape = w.tape ∧ w'.output = w.output ∧ (∀ j, j ≠ g → w'.heap[j]? = w.heap[j]?) ∧
      w'.heap[g]? = some (.cells cur' t fz) ∧ cur'.toList = cur.toList.take (o + i) ++ vs ++ cur.toList.drop (o + i + vs.length)
  | [], i, cur, w, hg, hfz, hle, _ => ⟨w, cur, rfl, rfl, rfl, rfl, rfl, fun _ _ => rfl, hg, by simp⟩
  | v :: vs, i, cur, w, hg, hfz, hle, hone => by
    simp only [List.length_cons] at hle
    have hlt : o + i < cur.size := by omega
    have hcell : w.cell? ((⟨g, o, none⟩ : Addr).add i) = some cur[o + i] := by
      rw [add_off, cell_of_row _ _ _ _ _ _ hg, Array.getElem?_eq_getElem hlt]
    have hfr : w.frozen? ((⟨g, o, none⟩ : Addr).add i) = false := by
      rw [add_off]
      obtain ⟨lo, hi⟩ := fz
      simp only [World.frozen?, hg]
      rcases hfz with e | e
      · simp only at e; subst e; simp
      · simp only at e; simp; omega
    have hv : v.oneCell' = true := hone v (by simp)
    have hst : (store ((⟨g, o, none⟩ : Addr).add i) v).run P w = .ok () (w.setCell ((⟨g, o, none⟩ : Addr).add i) v) := by
      rw [run_store P w _ v .plain hv, hcell]
      simp [hfr]
    have hg' : (w.setCell ((⟨g, o, none⟩ : Addr).add i) v).heap[g]? = some (.cells (cur.setIfInBounds (o + i) v) t fz) := by
      rw [add_off]
      simp [World.setCell, Array.getElem?_modify, hg]
    obtain ⟨w', cur', h1, h2, h3, h4, h5, h6, h7, h8⟩ := run_stores (P := P) g o t fz vs (i + 1) _ _ hg' (by
      rcases hfz with e | e
      · exact .inl e
      · exact .inr (by simpa using e)) (by simp; omega) (fun u hu => hone u (by simp [hu]))
    refine ⟨w', cur', ?_, h2.trans (by simp), h3.trans rfl, h4.trans rfl, h5.trans rfl, fun j hj => (h6 j hj).trans ?_, h7, ?_⟩
    · simp only [storeCells, Sem.run_bind, hst, Result.andThen_ok, h1]
    · rw [add_off]
      simp only [World.setCell, Array.getElem?_modify]
      rw [if_neg (fun e => hj e.symm)]
    · rw [h8]
      apply List.ext_getElem?
      intro j
      simp only [Array.toList_setIfInBounds, List.getElem?_append, List.length_append, List.length_take, List.length_set, Array.length_toList, List.getElem?_take, List.getElem?_drop, List.length_cons, List.getElem?_set,
        List.getElem?_cons]
      repeat' split
      all_goals (first | rfl | omega | skip)
      all_goals (try (congr 1; omega))
      all_goals (try omega)

end Go.V
