/-
  VALUE LOGIC, part j: an operation, a row of operations, a call, a function.
-/
import Derived.Test.YtjdlgbkpdfaloaaDoorVi
namespace Go.V
set_option linter.unusedVariables false
set_option linter.unusedSimpArgs false

-- no part of a value leads into an object
mutual
def noref : AV → Bool
  | .top => true
  | .val _ => true
  | .agg cs => norefs cs
  | .tup cs => norefs cs
  | .sl _ cells p => (match p with | .tok _ => false | _ => true) && norefs cells
  | .osl .. => false
  | .ptr .. => false
  | .cptr cells => norefs cells
def norefs : List AV → Bool
  | [] => true
  | c :: cs => noref c && norefs cs
end

-- neither memory nor objects are told of
mutual
def flat : AV → Bool
  | .top => true
  | .val _ => true
  | .agg cs => flats cs
  | .tup cs => flats cs
  | .sl n cells _ => false
  | .osl .. => false
  | .ptr .. => false
  | .cptr _ => false
def flats : List AV → Bool
  | [] => true
  | c :: cs => flat c && flats cs
end

mutual
theorem noref_move {E E' : Env} (hw : E'.w = E.w) (hl : ∀ g, g < E.w.heap.size → E.lim g ≤ E'.lim g) : ∀ (a : AV) (v : Value), noref a = true → RepV E a v → RepV E' a v
  | .top, _, _, _ => by simp only [RepV]
  | .val u, v, _, h => by simpa only [RepV] using h
  | .agg cs, v, hn, h => by
    simp only [RepV] at h ⊢
    obtain ⟨vs, rfl, hl'⟩ := h
    exact ⟨vs, rfl, norefs_move hw hl cs vs hn hl'⟩
  | .tup cs, v, hn, h => by
    simp only [RepV] at h ⊢
    obtain ⟨vs, rfl, hl'⟩ := h
    exact ⟨vs, rfl, norefs_move hw hl cs vs hn hl'⟩
  | .sl n cells p, v, hn, h => by
    simp only [RepV] at h ⊢
    simp only [noref, Bool.and_eq_true] at hn
    obtain ⟨A, cap, hv, hle, hc, hp⟩ := h
    refine ⟨A, cap, hv, hle, ?_, ?_⟩
    · rcases hc with rfl | ⟨g, o, hA, hg, ho, hat⟩
      · exact .inl rfl
      · exact .inr ⟨g, o, hA, by rw [hw]; exact hg, Nat.le_trans ho (hl g hg), norefsAt_move hw hl g cells o hn.2 hat⟩
    · cases p with
      | no => trivial
      | full => exact hp
      | tok r => simp at hn
  | .osl .., _, hn, _ => by simp [noref] at hn
  | .ptr .., _, hn, _ => by simp [noref] at hn
  | .cptr cells, v, hn, h => by
    simp only [RepV] at h ⊢
    obtain ⟨g, o, hv, hg, ho, hat⟩ := h
    exact ⟨g, o, hv, by rw [hw]; exact hg, Nat.le_trans ho (hl g hg), norefsAt_move hw hl g cells o hn hat⟩
theorem norefs_move {E E' : Env} (hw : E'.w = E.w) (hl : ∀ g, g < E.w.heap.size → E.lim g ≤ E'.lim g) : ∀ (cs : List AV) (vs : List Value), norefs cs = true → RepL E cs vs → RepL E' cs vs
  | [], vs, _, h => by simpa only [RepL] using h
  | c :: cs, vs, hn, h => by
    simp only [RepL] at h ⊢
    simp only [norefs, Bool.and_eq_true] at hn
    obtain ⟨v, vs', rfl, h1, h2⟩ := h
    exact ⟨v, vs', rfl, noref_move hw hl c v hn.1 h1, norefs_move hw hl cs vs' hn.2 h2⟩
theorem norefsAt_move {E E' : Env} (hw : E'.w = E.w) (hl : ∀ g, g < E.w.heap.size → E.lim g ≤ E'.lim g) (g : Nat) : ∀ (cs : List AV) (o : Nat), norefs cs = true → RepAt E g o cs → RepAt E' g o cs
  | [], o, _, _ => by simp only [RepAt]
  | c :: cs, o, hn, h => by
    simp only [RepAt] at h ⊢
    simp only [norefs, Bool.and_eq_true] at hn
    obtain ⟨⟨v, hc, hv⟩, hr⟩ := h
    exact ⟨⟨v, by rw [hw]; exact hc, noref_move hw hl c v hn.1 hv⟩, norefsAt_move hw hl g cs (o + 1) hn.2 hr⟩
end

mutual
theorem flat_move {E E' : Env} : ∀ (a : AV) (v : Value), flat a = true → RepV E a v → RepV E' a v
  | .top, _, _, _ => by simp only [RepV]
  | .val u, v, _, h => by simpa only [RepV] using h
  | .agg cs, v, hn, h => by
    simp only [RepV] at h ⊢
    obtain ⟨vs, rfl, hl'⟩ := h
    exact ⟨vs, rfl, flats_move cs vs hn hl'⟩
  | .tup cs, v, hn, h => by
    simp only [RepV] at h ⊢
    obtain ⟨vs, rfl, hl'⟩ := h
    exact ⟨vs, rfl, flats_move cs vs hn hl'⟩
  | .sl .., _, hn, _ => by simp [flat] at hn
  | .osl .., _, hn, _ => by simp [flat] at hn
  | .ptr .., _, hn, _ => by simp [flat] at hn
  | .cptr .., _, hn, _ => by simp [flat] at hn
theorem flats_move {E E' : Env} : ∀ (cs : List AV) (vs : List Value), flats cs = true → RepL E cs vs → RepL E' cs vs
  | [], vs, _, h => by simpa only [RepL] using h
  | c :: cs, vs, hn, h => by
    simp only [RepL] at h ⊢
    simp only [flats, Bool.and_eq_true] at hn
    obtain ⟨v, vs', rfl, h1, h2⟩ := h
    exact ⟨v, vs', rfl, flat_move c v hn.1 h1, flats_move cs vs' hn.2 h2⟩
end

theorem norefs_map_val (l : List Value) : norefs (l.map .val) = true := by induction l <;> simp_all [norefs, noref]
theorem flats_map_val (l : List Value) : flats (l.map .val) = true := by induction l <;> simp_all [flats, flat]
theorem norefs_Bs (l : List UInt8) : norefs (Bs l) = true := by induction l <;> simp_all [Bs, B, norefs, noref]
theorem flats_Bs (l : List UInt8) : flats (Bs l) = true := by induction l <;> simp_all [Bs, B, flats, flat]
theorem norefs_append (a b : List AV) : norefs (a ++ b) = (norefs a && norefs b) := by induction a <;> simp_all [norefs, Bool.and_assoc]
theorem flats_append (a b : List AV) : flats (a ++ b) = (flats a && flats b) := by induction a <;> simp_all [flats, Bool.and_assoc]

/-- What a function comes to: of arguments, and of the objects that are handed to it. -/
def ACalls (P : Program) (G : List (Nat × List AV)) (f : FuncId) (args : List AV) (outs : List AObj) (Q : AV → List AObj → Prop) : Prop :=
  (∃ fn, P.funcs[f]? = some fn ∧ fn.body.isSome = true ∧ (fn.name == "runtime.NumGoroutine") = false) ∧
  ∀ (E : Env) (vs : List Value), RepL E args vs → ObjsRep E outs → GOk E G →
    Calls P f vs.toArray E.w fun e w' => ∃ E' v r outs', E'.w = w' ∧ e = .returned v ∧ Q r outs' ∧ RepV E' r v ∧ ObjsRep E' outs' ∧ Ext E outs E' outs'

theorem ACalls.mono {P : Program} {G : List (Nat × List AV)} {f : FuncId} {args : List AV} {outs : List AObj} {Q Q' : AV → List AObj → Prop} (h : ACalls P G f args outs Q) (hq : ∀ r o, Q r o → Q' r o) : ACalls P G f args outs Q' :=
  ⟨h.1, fun E vs h1 h2 h3 => (h.2 E vs h1 h2 h3).mono fun e w' ⟨E', v, r, o, a, b, c, d⟩ => ⟨E', v, r, o, a, b, hq _ _ c, d⟩⟩

/-- What is known of a slice's room, but for a token. -/
def ntok : Perm → Perm
  | .tok _ => .no
  | p => p

theorem noref_ntok (n : Nat) (cells : List AV) (p : Perm) : noref (.sl n cells (ntok p)) = norefs cells := by cases p <;> simp [noref, ntok]

theorem RepV_ntok {E : Env} {n : Nat} {cells : List AV} {p : Perm} {v : Value} (h : RepV E (.sl n cells p) v) : RepV E (.sl n cells (ntok p)) v := by
  cases p with
  | tok r =>
    simp only [RepV] at h
    simp only [ntok, RepV]
    obtain ⟨A, cap, e1, e2, e3, _⟩ := h
    exact ⟨A, cap, e1, e2, e3, trivial⟩
  | _ => exact h

/-- An argument as the function that is called sees it. -/
def aview (P : Program) (objs : List AObj) (t : TypeId) (a : AV) : Option (Prop × Bool × AV) :=
  match a with
  | .sl n cells p => some (norefs cells = true, false, .sl n cells (ntok p))
  | .osl r off n cap => match objs[r]?, P.underlying t with
    | some (.cells cs), some (.slice e) => match tsz P e with
      | some sz => some (off + n * sz ≤ cs.length ∧ norefs ((cs.drop off).take (n * sz)) = true, true, .sl n ((cs.drop off).take (n * sz)) .no)
      | none => none
    | _, _ => none
  | .ptr .. => none
  | a => some (noref a = true, false, a)

def aviews (P : Program) (objs : List AObj) : List TypeId → List AV → Option (Prop × Bool × List AV)
  | _, [] => some (True, false, [])
  | ts, a :: as => match aview P objs (ts.headD 0) a, aviews P objs ts.tail as with
    | some (C, b, a'), some (C', b', as') => some (C ∧ C', b || b', a' :: as')
    | _, _ => none

/-- The environment in which a call sees the objects of its caller as cells that nobody writes. -/
noncomputable def Env.lend (E : Env) (objs : List AObj) : Env :=
  { E with k := 0, lim := fun g => (open Classical in if h : ∃ r cs, objs[r]? = some (.cells cs) ∧ ownBlk (.cells cs) (E.ρ r) = some g then (Classical.choose (Classical.choose_spec h)).length else E.lim g) }

theorem lend_at {E : Env} {objs : List AObj} (ho : ObjsRep E objs) {r g : Nat} {cs : List AV} (hr : objs[r]? = some (.cells cs)) (hg : ownBlk (.cells cs) (E.ρ r) = some g) : (E.lend objs).lim g = cs.length := by
  have h : ∃ r cs, objs[r]? = some (.cells cs) ∧ ownBlk (.cells cs) (E.ρ r) = some g := ⟨r, cs, hr, hg⟩
  simp only [Env.lend]
  rw [dif_pos h]
  obtain ⟨h1, h2⟩ := Classical.choose_spec (Classical.choose_spec h)
  have := ho.2.2 _ _ _ _ g h1 hr h2 hg
  have e : objs[r]? = objs[Classical.choose h]? := by rw [this]
  have h3 := hr.symm.trans (e.trans h1)
  injection h3 with h3
  injection h3 with h3
  exact congrArg List.length h3.symm

theorem lend_not {E : Env} {objs : List AObj} {g : Nat} (h : ¬ ∃ r cs, objs[r]? = some (.cells cs) ∧ ownBlk (.cells cs) (E.ρ r) = some g) : (E.lend objs).lim g = E.lim g := by
  simp only [Env.lend]
  rw [dif_neg h]

theorem lend_le {E : Env} {objs : List AObj} (ho : ObjsRep E objs) (g : Nat) : E.lim g ≤ (E.lend objs).lim g := by
  by_cases h : ∃ r cs, objs[r]? = some (.cells cs) ∧ ownBlk (.cells cs) (E.ρ r) = some g
  · obtain ⟨r, cs, hr, hg⟩ := h
    rcases ho.2.1 r _ hr with rfl | ⟨g', vs, t, fz, e, hh, hfz, hl, _⟩
    · simp [ownBlk] at hg
    · have : g' = g := by
        rw [e] at hg
        cases cs with
        | nil => simp [ownBlk] at hg
        | cons c cs => simp [ownBlk] at hg; exact hg
      subst this
      omega
  · rw [lend_not h]
    exact Nat.le_refl _

theorem aview_sound {P : Program} {E : Env} {objs : List AObj} (ho : ObjsRep E objs) {t : TypeId} {a a' : AV} {b : Bool} {C : Prop} {v : Value} (h : aview P objs t a = some (C, b, a')) (hC : C) (hv : RepV E a v) :
    RepV (E.lend objs) a' v ∧ (b = false → RepV { E with k := 0 } a' v) := by
  have hl := fun g (_ : g < E.w.heap.size) => lend_le ho g
  unfold aview at h
  split at h
  · rename_i n cells p
    simp only [Option.some.injEq, Prod.mk.injEq] at h
    obtain ⟨rfl, rfl, rfl⟩ := h
    have h0 := RepV_ntok hv
    have hn : noref (.sl n cells (ntok p)) = true := by rw [noref_ntok]; exact hC
    exact ⟨noref_move (E := E) (E' := E.lend objs) rfl hl _ _ hn h0, fun _ => noref_move (E := E) (E' := { E with k := 0 }) rfl (fun _ _ => Nat.le_refl _) _ _ hn h0⟩
  · rename_i r off n cap
    split at h
    case h_2 => cases h
    rename_i cs e hr ht
    split at h
    case h_2 => cases h
    rename_i sz hsz
    simp only [Option.some.injEq, Prod.mk.injEq] at h
    obtain ⟨rfl, rfl, rfl⟩ := h
    refine ⟨?_, fun h => by cases h⟩
    obtain ⟨c1, c2⟩ := hC
    simp only [RepV] at hv ⊢
    obtain ⟨hk, A, c, rfl, hn, hcap, hpos⟩ := hv
    refine ⟨A, c, rfl, hn, ?_, trivial⟩
    by_cases h0 : ((cs.drop off).take (n * sz)) = []
    · exact .inl h0
    · right
      have hn0 : 0 < n := by
        rcases Nat.eq_zero_or_pos n with e | e
        · subst e; simp at h0
        · exact e
      obtain ⟨g, hg, rfl⟩ := hpos hn0
      rcases ho.2.1 r _ hr with rfl | ⟨g', vs, ty, fz, e, hh, hfz, hlim, hlen, hrep⟩
      · simp at h0
      · rw [hg] at e
        injection e with e
        injection e with e
        injection e with e _
        subst e
        have hown : ownBlk (.cells cs) (E.ρ r) = some g := by
          rw [hg]
          cases cs with
          | nil => simp at h0
          | cons => rfl
        refine ⟨g, off, rfl, get_lt hh, ?_, ?_⟩
        · rw [lend_at ho hr hown, List.length_take, List.length_drop]; omega
        · exact norefsAt_move (E := E) (E' := E.lend objs) rfl hl g _ _ c2 (RepAt.take (hrep.at_ (off := off) hh) _)
  · cases h
  · simp only [Option.some.injEq, Prod.mk.injEq] at h
    obtain ⟨rfl, rfl, rfl⟩ := h
    exact ⟨noref_move (E := E) (E' := E.lend objs) rfl hl _ _ hC hv, fun _ => noref_move (E := E) (E' := { E with k := 0 }) rfl (fun _ _ => Nat.le_refl _) _ _ hC hv⟩

theorem aviews_sound {P : Program} {E : Env} {objs : List AObj} (ho : ObjsRep E objs) : ∀ {ts : List TypeId} {as as' : List AV} {b : Bool} {C : Prop} {vs : List Value}, aviews P objs ts as = some (C, b, as') → C → RepL E as vs →
    RepL (E.lend objs) as' vs ∧ (b = false → RepL { E with k := 0 } as' vs)
  | ts, [], as', b, C, vs, h, hC, hv => by
    simp only [aviews, Option.some.injEq, Prod.mk.injEq] at h
    obtain ⟨rfl, rfl, rfl⟩ := h
    simp only [RepL] at hv ⊢
    exact ⟨hv, fun _ => hv⟩
  | ts, a :: as, as', b, C, vs, h, hC, hv => by
    unfold aviews at h
    split at h
    case h_2 => cases h
    rename_i C1 b1 a1 C2 b2 as2 h1 h2
    simp only [Option.some.injEq, Prod.mk.injEq] at h
    obtain ⟨rfl, rfl, rfl⟩ := h
    simp only [RepL] at hv ⊢
    obtain ⟨v, vs', rfl, hv1, hv2⟩ := hv
    obtain ⟨r1, r2⟩ := aview_sound ho h1 hC.1 hv1
    obtain ⟨s1, s2⟩ := aviews_sound ho h2 hC.2 hv2
    refine ⟨⟨v, vs', rfl, r1, s1⟩, fun hb => ?_⟩
    simp only [Bool.or_eq_false_iff] at hb
    exact ⟨v, vs', rfl, r2 hb.1, s2 hb.2⟩

/-- A call that is handed no object: what it answers, and that the caller's objects are as they were. -/
theorem call_pure {P : Program} {G : List (Nat × List AV)} {E : Env} {objs : List AObj} (ho : ObjsRep E objs) (hG : GOk E G) {f : FuncId} {ts : List TypeId} {as as' : List AV} {b : Bool} {C : Prop} {vs : List Value} {Q : AV → List AObj → Prop}
    (hv : aviews P objs ts as = some (C, b, as')) (hC : C) (hl : RepL E as vs) (hc : ACalls P G f as' [] Q) (hQ : ∀ r os, Q r os → os = [] ∧ (if b then flat r else noref r) = true) :
    Calls P f vs.toArray E.w fun e w' => ∃ E' v r, E'.w = w' ∧ e = .returned v ∧ Q r [] ∧ RepV E' r v ∧ ObjsRep E' objs ∧ Ext E objs E' objs := by
  obtain ⟨h1, h2⟩ := aviews_sound (P := P) ho hv hC hl
  -- back from the call
  have back : ∀ (E0 E1 : Env) (r : AV) (v : Value), E0.w = E.w → (∀ g, g < E.w.heap.size → E.lim g ≤ E0.lim g) → Ext E0 [] E1 [] → ((b = true ∧ flat r = true) ∨ (E0.lim = E.lim ∧ noref r = true)) → RepV E1 r v →
      ∃ E', E'.w = E1.w ∧ RepV E' r v ∧ ObjsRep E' objs ∧ Ext E objs E' objs := by
    intro E0 E1 r v hw hle hx hr hrep
    have hfr : ∀ g, g < E.w.heap.size → E1.w.heap[g]? = E.w.heap[g]? ∧ E1.lim g = E0.lim g := fun g hg => by
      have := hx.frame g (by rw [hw]; exact hg) (by rintro ⟨r, o, h, _⟩; simp at h)
      exact ⟨by rw [this.1, hw], this.2⟩
    let E' : Env := { w := E1.w, lim := fun g => if g < E.w.heap.size then E.lim g else E1.lim g, k := E.k, ρ := E.ρ }
    have hx0 : Ext0 E E' := ⟨by rw [← hw]; exact hx.size, fun g hg => by show _ ≤ (if _ then _ else _); rw [if_pos hg]; exact Nat.le_refl _, fun g o hg _ => cell_of_heap (hfr g hg).1, Nat.le_refl _, fun _ _ => .refl _⟩
    have hb : ∀ g, g < E.w.heap.size → E'.w.heap[g]? = E.w.heap[g]? ∧ E'.lim g = E.lim g := fun g hg => ⟨(hfr g hg).1, by show (if _ then _ else _) = _; rw [if_pos hg]⟩
    refine ⟨E', rfl, ?_, ho.stay hx0 rfl (fun _ _ => rfl) fun g hg => hb g (ow_lt ho hg), { hx0 with os := by rw [← hw]; exact hx.os, tape := by rw [← hw]; exact hx.tape, output := by rw [← hw]; exact hx.output, frame := fun g hg _ => hb g hg, own := fun g hg _ => ow_same ho.1 (fun _ _ => rfl) hg }⟩
    rcases hr with ⟨_, hr⟩ | ⟨e, hr⟩
    · exact flat_move r v hr hrep
    · refine noref_move (E := E1) (E' := E') rfl (fun g hg => ?_) r v hr hrep
      show _ ≤ (if _ then _ else _)
      split
      · rename_i hlt; rw [(hfr g hlt).2, e]; exact Nat.le_refl _
      · exact Nat.le_refl _
  have hnil : ∀ E0 : Env, E0.k = 0 → ObjsRep E0 [] := fun E0 h => ⟨h, fun r o h => by simp at h, fun r r' o o' g h => by simp at h⟩
  cases b with
  | true =>
    refine (hc.2 (E.lend objs) vs h1 (hnil _ rfl) (GOk.move (E := E) (E' := E.lend objs) rfl (fun g _ => lend_le ho g) hG)).mono ?_
    rintro e w' ⟨E1, v, r, os, rfl, rfl, hq, hrep, ho1, hx⟩
    obtain ⟨rfl, hf⟩ := hQ r _ hq
    have hx' : Ext (E.lend objs) [] E1 [] := hx
    obtain ⟨E', e1, e2, e3, e4⟩ := back (E.lend objs) E1 r v rfl (fun g _ => lend_le ho g) hx' (.inl ⟨rfl, by simpa using hf⟩) hrep
    exact ⟨E', v, r, e1, rfl, hq, e2, e3, e4⟩
  | false =>
    refine (hc.2 { E with k := 0 } vs (h2 rfl) (hnil _ rfl) (GOk.move (E := E) (E' := { E with k := 0 }) rfl (fun _ _ => Nat.le_refl _) hG)).mono ?_
    rintro e w' ⟨E1, v, r, os, rfl, rfl, hq, hrep, ho1, hx⟩
    obtain ⟨rfl, hf⟩ := hQ r _ hq
    obtain ⟨E', e1, e2, e3, e4⟩ := back { E with k := 0 } E1 r v rfl (fun g _ => Nat.le_refl _) hx (.inr ⟨rfl, by simpa using hf⟩) hrep
    exact ⟨E', v, r, e1, rfl, hq, e2, e3, e4⟩

end Go.V
