/-
  VALUE LOGIC, part x: a call that is handed objects, and hands back new ones.
-/
import Derived.Test.YtjdlgbkpdfaloaaDoorVj
namespace Go.V
set_option linter.unusedVariables false
set_option linter.unusedSimpArgs false

/-- An object whose cells refer to no object. -/
def objOk : AObj → Bool
  | .cells cs => norefs cs
  | _ => true

theorem ObjRep.move {E E' : Env} (hw : E'.w = E.w) (hl : E'.lim = E.lim) {u : Value} {o : AObj} (hn : objOk o = true) (h : ObjRep E u o) : ObjRep E' u o := by
  cases o with
  | cells cs =>
    rcases h with rfl | ⟨g, vs, t, fz, e, hh, hfz, hlim, hlen, hrep⟩
    · exact .inl rfl
    · exact .inr ⟨g, vs, t, fz, e, by rw [hw]; exact hh, hfz, by rw [hl]; exact hlim, hlen, norefs_move (E := E) (E' := E') hw (fun g _ => by rw [hl]; exact Nat.le_refl _) cs _ hn hrep⟩
  | tok sz n =>
    obtain ⟨A, c, e, hn', hc⟩ := h
    refine ⟨A, c, e, hn', fun hlt => ?_⟩
    obtain ⟨g, o, vs, t, fz, e', hh, hfz, hsz, hlim⟩ := hc hlt
    exact ⟨g, o, vs, t, fz, e', by rw [hw]; exact hh, hfz, hsz, by rw [hl]; exact hlim⟩
  | dead => trivial

/-- A result that may refer to the objects of the function that was called, as the caller sees it. -/
def hres (σ : Nat → Nat) (n : Nat) : AV → Option AV
  | .ptr r off => if r < n then some (.ptr (σ r) off) else none
  | .sl m cells (.tok r) => if r < n ∧ norefs cells = true then some (.sl m cells (.tok (σ r))) else none
  | a => if noref a = true then some a else none

theorem hres_sound {E1 E' : Env} {σ : Nat → Nat} {n : Nat} (hw : E'.w = E1.w) (hl : E'.lim = E1.lim) (hk : ∀ r, r < n → σ r < E'.k ∧ E'.ρ (σ r) = E1.ρ r) {a a' : AV} {v : Value} (h : hres σ n a = some a') (hr : RepV E1 a v) : RepV E' a' v := by
  have nm : ∀ a : AV, noref a = true → RepV E1 a v → RepV E' a v := fun a hn hr => noref_move (E := E1) (E' := E') hw (fun g _ => by rw [hl]; exact Nat.le_refl _) a v hn hr
  unfold hres at h
  split at h
  · rename_i r off
    split at h
    case isFalse => cases h
    rename_i hlt
    injection h with h
    subst h
    simp only [RepV] at hr ⊢
    obtain ⟨_, g, hg, hv⟩ := hr
    exact ⟨(hk r hlt).1, g, by rw [(hk r hlt).2]; exact hg, hv⟩
  · rename_i m cells r
    split at h
    case isFalse => cases h
    rename_i hlt
    injection h with h
    subst h
    simp only [RepV] at hr ⊢
    obtain ⟨A, cap, hv, hn, hc, hp⟩ := hr
    refine ⟨A, cap, hv, hn, ?_, ?_⟩
    · rcases hc with e | ⟨g, o, hA, hg, ho, hat⟩
      · exact .inl e
      · exact .inr ⟨g, o, hA, by rw [hw]; exact hg, by rw [hl]; exact ho, norefsAt_move (E := E1) (E' := E') hw (fun g _ => by rw [hl]; exact Nat.le_refl _) g cells o hlt.2 hat⟩
    · obtain ⟨_, A', m', c, e, hle, heq⟩ := hp
      exact ⟨(hk r hlt.1).1, A', m', c, by rw [(hk r hlt.1).2]; exact e, hle, fun hm => by rw [(hk r hlt.1).2]; exact heq hm⟩
  · split at h
    case isFalse => cases h
    rename_i hn
    injection h with h
    subst h
    exact nm _ hn hr

/-- What is left of the caller's objects when a call comes back: in plain words of numbers. -/
theorem back_objs {E E1 : Env} {objs hd os objs' : List AObj} {σ : Nat → Nat} {ρ' : Nat → Value} (ho : ObjsRep E objs) (hn : hd.length ≤ os.length)
    (hx : Ext { E with k := hd.length, ρ := fun i => E.ρ (σ i) } hd E1 os) (ho1 : ObjsRep E1 os) (hok : ∀ o ∈ os, objOk o = true)
    (h1 : ∀ i, i < hd.length → objs[σ i]? = hd[i]?) (hinj : ∀ i j, i < os.length → j < os.length → σ i = σ j → i = j)
    (h2 : ∀ i, i < os.length → objs'[σ i]? = os[i]?) (h3 : ∀ j o, objs'[j]? = some o → (∃ i, i < os.length ∧ σ i = j) ∨ ((∀ i, i < os.length → σ i ≠ j) ∧ objs[j]? = some o))
    (hlen : objs.length ≤ objs'.length) (hρ1 : ∀ i, i < os.length → ρ' (σ i) = E1.ρ i) (hρ2 : ∀ j, j < objs.length → (∀ i, i < os.length → σ i ≠ j) → ρ' j = E.ρ j) (hnew : ∀ i, hd.length ≤ i → objs.length ≤ σ i) :
    ObjsRep { w := E1.w, lim := E1.lim, k := objs'.length, ρ := ρ' } objs' ∧ Ext E objs { w := E1.w, lim := E1.lim, k := objs'.length, ρ := ρ' } objs' := by
  obtain ⟨hk, hobj, hdis⟩ := ho
  obtain ⟨hk1, hobj1, hdis1⟩ := ho1
  have hhd : ∀ g, Ow { E with k := hd.length, ρ := fun i => E.ρ (σ i) } hd g → ∃ i o, i < hd.length ∧ objs[σ i]? = some o ∧ ownBlk o (E.ρ (σ i)) = some g := by
    rintro g ⟨i, o, hi, hb⟩
    have hlt := (List.getElem?_eq_some_iff.1 hi).1
    exact ⟨i, o, hlt, (h1 i hlt).trans hi, hb⟩
  have hx0 : Ext0 E { w := E1.w, lim := E1.lim, k := objs'.length, ρ := ρ' } := by
    refine ⟨hx.size, hx.lim, hx.cell, by show E.k ≤ objs'.length; omega, fun r hr => ?_⟩
    by_cases hc : ∃ i, i < os.length ∧ σ i = r
    · obtain ⟨i, hi, rfl⟩ := hc
      have hlt : i < hd.length := by
        rcases Nat.lt_or_ge i hd.length with h | h
        · exact h
        · have := hnew i h; omega
      show RefLe (E.ρ (σ i)) (ρ' (σ i))
      rw [hρ1 i hi]
      exact hx.ρ i hlt
    · show RefLe (E.ρ r) (ρ' r)
      rw [hρ2 r (by omega) fun i hi e => hc ⟨i, hi, e⟩]
      exact .refl _
  -- an object that the call does not see
  have far : ∀ j o g, (∀ i, i < os.length → σ i ≠ j) → objs[j]? = some o → ownBlk o (E.ρ j) = some g → ¬ Ow { E with k := hd.length, ρ := fun i => E.ρ (σ i) } hd g := by
    intro j o g hj hjo hb hw
    obtain ⟨i, o', hi, hio, hib⟩ := hhd g hw
    exact hj i (by omega) (hdis (σ i) j o' o g hio hjo hib hb)
  refine ⟨⟨rfl, fun j o hj => ?_, fun j1 j2 o1 o2 g q1 q2 b1 b2 => ?_⟩, { hx0 with os := hx.os, tape := hx.tape, output := hx.output, frame := fun g hg hno => hx.frame g hg fun hw => hno ?_, own := fun g hw hg => ?_ }⟩
  · rcases h3 j o hj with ⟨i, hi, rfl⟩ | ⟨hne, hjo⟩
    · have hio := (h2 i hi).symm.trans hj
      show ObjRep _ (ρ' (σ i)) o
      rw [hρ1 i hi]
      exact ObjRep.move (E := E1) (E' := { w := E1.w, lim := E1.lim, k := objs'.length, ρ := ρ' }) rfl rfl (hok o (List.mem_of_getElem? hio)) (hobj1 i o hio)
    · show ObjRep _ (ρ' j) o
      rw [hρ2 j (List.getElem?_eq_some_iff.1 hjo).1 hne]
      refine (hobj j o hjo).stay hx0 fun g hb => ?_
      exact hx.frame g (own_lt (E := E) (hobj j o hjo) hb) (far j o g hne hjo hb)
  · simp only at b1 b2
    rcases h3 j1 o1 q1 with ⟨i1, hi1, rfl⟩ | ⟨hn1, p1⟩
    · have e1 := (h2 i1 hi1).symm.trans q1
      rw [hρ1 i1 hi1] at b1
      rcases h3 j2 o2 q2 with ⟨i2, hi2, rfl⟩ | ⟨hn2, p2⟩
      · have e2 := (h2 i2 hi2).symm.trans q2
        rw [hρ1 i2 hi2] at b2
        rw [hdis1 i1 i2 o1 o2 g e1 e2 b1 b2]
      · rw [hρ2 j2 (List.getElem?_eq_some_iff.1 p2).1 hn2] at b2
        exact absurd (hx.own g ⟨i1, o1, e1, b1⟩ (own_lt (E := E) (hobj j2 o2 p2) b2)) (far j2 o2 g hn2 p2 b2)
    · rw [hρ2 j1 (List.getElem?_eq_some_iff.1 p1).1 hn1] at b1
      rcases h3 j2 o2 q2 with ⟨i2, hi2, rfl⟩ | ⟨hn2, p2⟩
      · have e2 := (h2 i2 hi2).symm.trans q2
        rw [hρ1 i2 hi2] at b2
        exact absurd (hx.own g ⟨i2, o2, e2, b2⟩ (own_lt (E := E) (hobj j1 o1 p1) b1)) (far j1 o1 g hn1 p1 b1)
      · rw [hρ2 j2 (List.getElem?_eq_some_iff.1 p2).1 hn2] at b2
        exact hdis j1 j2 o1 o2 g p1 p2 b1 b2
  · obtain ⟨i, o, hi, hio, hib⟩ := hhd g hw
    exact ⟨_, o, hio, hib⟩
  · obtain ⟨j, o, hj, hb⟩ := hw
    simp only at hb
    rcases h3 j o hj with ⟨i, hi, rfl⟩ | ⟨hne, hjo⟩
    · have hio := (h2 i hi).symm.trans hj
      rw [hρ1 i hi] at hb
      obtain ⟨i', o', hi', hio', hib'⟩ := hhd g (hx.own g ⟨i, o, hio, hb⟩ hg)
      exact ⟨_, o', hio', hib'⟩
    · rw [hρ2 j (List.getElem?_eq_some_iff.1 hjo).1 hne] at hb
      exact ⟨j, o, hjo, hb⟩

/-- The arguments of a call that is handed the object h (or none), as it sees them: its own object is number 0. -/
def hview (h : Option Nat) : AV → Option AV
  | .ptr r off => if h = some r then some (.ptr 0 off) else none
  | .sl n cells p => if norefs cells = true then some (.sl n cells (ntok p)) else none
  | a => if noref a = true then some a else none
def hviews (h : Option Nat) : List AV → Option (List AV)
  | [] => some []
  | a :: as => match hview h a, hviews h as with
    | some a', some as' => some (a' :: as')
    | _, _ => none

theorem hview_sound {E E0 : Env} {h : Option Nat} (hw : E0.w = E.w) (hl : E0.lim = E.lim) (hk : ∀ r, h = some r → 0 < E0.k ∧ E0.ρ 0 = E.ρ r) {a a' : AV} {v : Value} (hv : hview h a = some a') (hr : RepV E a v) : RepV E0 a' v := by
  have nm : ∀ a : AV, noref a = true → RepV E a v → RepV E0 a v := fun a hn hr => noref_move (E := E) (E' := E0) hw (fun g _ => by rw [hl]; exact Nat.le_refl _) a v hn hr
  unfold hview at hv
  split at hv
  · rename_i r off
    split at hv
    case isFalse => cases hv
    rename_i e
    injection hv with hv
    subst hv
    simp only [RepV] at hr ⊢
    obtain ⟨_, g, hg, hv⟩ := hr
    exact ⟨(hk r e).1, g, by rw [(hk r e).2]; exact hg, hv⟩
  · split at hv
    case isFalse => cases hv
    rename_i hn
    injection hv with hv
    subst hv
    exact nm _ (by rw [noref_ntok]; exact hn) (RepV_ntok hr)
  · split at hv
    case isFalse => cases hv
    rename_i hn
    injection hv with hv
    subst hv
    exact nm _ hn hr

theorem hviews_sound {E E0 : Env} {h : Option Nat} (hw : E0.w = E.w) (hl : E0.lim = E.lim) (hk : ∀ r, h = some r → 0 < E0.k ∧ E0.ρ 0 = E.ρ r) : ∀ {as as' : List AV} {vs : List Value}, hviews h as = some as' → RepL E as vs → RepL E0 as' vs
  | [], as', vs, hv, hr => by
    simp only [hviews, Option.some.injEq] at hv
    subst hv
    simp only [RepL] at hr ⊢
    exact hr
  | a :: as, as', vs, hv, hr => by
    simp only [hviews] at hv
    split at hv
    case h_2 => cases hv
    rename_i b bs h1 h2
    injection hv with hv
    subst hv
    simp only [RepL] at hr ⊢
    obtain ⟨v, vs', rfl, q1, q2⟩ := hr
    exact ⟨v, vs', rfl, hview_sound hw hl hk h1 q1, hviews_sound hw hl hk h2 q2⟩

/-- A call that is handed nothing, and hands back new objects. -/
theorem call_new {P : Program} {G : List (Nat × List AV)} {E : Env} {objs : List AObj} (ho : ObjsRep E objs) (hG : GOk E G) {f : FuncId} {as as' : List AV} {vs : List Value} {Q : AV → List AObj → Prop}
    (hv : hviews none as = some as') (hl : RepL E as vs) (hc : ACalls P G f as' [] Q) {R : AV → List AObj → Prop}
    (hQ : ∀ r os, Q r os → (∀ o ∈ os, objOk o = true) ∧ ∃ r', hres (fun i => objs.length + i) os.length r = some r' ∧ R r' (objs ++ os)) :
    Calls P f vs.toArray E.w fun e w' => ∃ E' v r' objs', E'.w = w' ∧ e = .returned v ∧ R r' objs' ∧ RepV E' r' v ∧ ObjsRep E' objs' ∧ Ext E objs E' objs' := by
  have hk := ho.1
  have hnil : ObjsRep { E with k := 0, ρ := fun i => E.ρ (objs.length + i) } [] := ⟨rfl, fun r o h => by simp at h, fun r r' o o' g h => by simp at h⟩
  have hl0 := hviews_sound (E := E) (E0 := { E with k := 0, ρ := fun i => E.ρ (objs.length + i) }) rfl rfl (fun r h => by cases h) hv hl
  refine (hc.2 { E with k := 0, ρ := fun i => E.ρ (objs.length + i) } vs hl0 hnil (GOk.move (E := E) rfl (fun _ _ => Nat.le_refl _) hG)).mono ?_
  rintro e w' ⟨E1, v, r, os, rfl, rfl, hq, hrep, ho1, hx⟩
  obtain ⟨hok, r', hr', hR⟩ := hQ r os hq
  let ρ' : Nat → Value := fun j => if j < objs.length then E.ρ j else E1.ρ (j - objs.length)
  have hb := back_objs (objs := objs) (hd := []) (os := os) (objs' := objs ++ os) (σ := fun i => objs.length + i) (ρ' := ρ') ho (by simp) hx ho1 hok (fun i h => by simp at h) (fun i j _ _ h => by simpa using h)
    (fun i h => by rw [List.getElem?_append_right (by omega)]; congr 1; omega)
    (fun j o h => by
      by_cases hj : j < objs.length
      · rw [List.getElem?_append_left hj] at h
        exact .inr ⟨fun i _ e => by omega, h⟩
      · refine .inl ⟨j - objs.length, ?_, by omega⟩
        have := (List.getElem?_eq_some_iff.1 h).1
        rw [List.length_append] at this
        omega)
    (by simp) (fun i h => by
      show (if objs.length + i < objs.length then _ else _) = _
      rw [if_neg (by omega)]
      congr 1
      omega)
    (fun j hj _ => if_pos hj)
    (fun i _ => by omega)
  refine ⟨_, v, r', objs ++ os, ?_, rfl, hR, ?_, hb.1, hb.2⟩
  · rfl
  · refine hres_sound (E1 := E1) (E' := { w := E1.w, lim := E1.lim, k := (objs ++ os).length, ρ := ρ' }) rfl rfl (fun i hi => ⟨?_, ?_⟩) hr' hrep
    · show objs.length + i < (objs ++ os).length
      rw [List.length_append]; omega
    · show (if objs.length + i < objs.length then _ else _) = _
      rw [if_neg (by omega)]
      congr 1
      omega

/-- A call that is handed one object, and hands back new ones. -/
theorem call_one {P : Program} {G : List (Nat × List AV)} {E : Env} {objs : List AObj} (ho : ObjsRep E objs) (hG : GOk E G) {f : FuncId} {as as' : List AV} {vs : List Value} {Q : AV → List AObj → Prop} {h : Nat} {x : AObj} (hh : objs[h]? = some x) (hxo : objOk x = true)
    (hv : hviews (some h) as = some as') (hl : RepL E as vs) (hc : ACalls P G f as' [x] Q) {R : AV → List AObj → Prop}
    (hQ : ∀ r os, Q r os → (∀ o ∈ os, objOk o = true) ∧ ∃ y os', os = y :: os' ∧ ∃ r', hres (fun i => if i = 0 then h else objs.length + (i - 1)) os.length r = some r' ∧ R r' (objs.set h y ++ os')) :
    Calls P f vs.toArray E.w fun e w' => ∃ E' v r' objs', E'.w = w' ∧ e = .returned v ∧ R r' objs' ∧ RepV E' r' v ∧ ObjsRep E' objs' ∧ Ext E objs E' objs' := by
  have hk := ho.1
  have hlt : h < objs.length := (List.getElem?_eq_some_iff.1 hh).1
  let σ : Nat → Nat := fun i => if i = 0 then h else objs.length + (i - 1)
  have σ0 : σ 0 = h := rfl
  have σs : ∀ i, 0 < i → σ i = objs.length + (i - 1) := fun i hi => if_neg (by omega)
  let E0 : Env := { E with k := 1, ρ := fun i => E.ρ (σ i) }
  have hE0 : ObjsRep E0 [x] := by
    refine ⟨rfl, fun r o hr => ?_, fun r r' o o' g h1 h2 _ _ => ?_⟩
    · have : r = 0 := by have := (List.getElem?_eq_some_iff.1 hr).1; simpa using this
      subst this
      simp at hr
      subst hr
      exact ObjRep.move (E := E) (E' := E0) rfl rfl hxo (ho.2.1 h x hh)
    · have e1 : r = 0 := by have := (List.getElem?_eq_some_iff.1 h1).1; simpa using this
      have e2 : r' = 0 := by have := (List.getElem?_eq_some_iff.1 h2).1; simpa using this
      rw [e1, e2]
  have hl0 := hviews_sound (E := E) (E0 := E0) (h := some h) rfl rfl (fun r e => ⟨Nat.zero_lt_one, by injection e with e; subst e; rfl⟩) hv hl
  refine (hc.2 E0 vs hl0 hE0 (GOk.move (E := E) rfl (fun _ _ => Nat.le_refl _) hG)).mono ?_
  rintro e w' ⟨E1, v, r, os, rfl, rfl, hq, hrep, ho1, hx⟩
  obtain ⟨hok, y, os', rfl, r', hr', hR⟩ := hQ r os hq
  let ρ' : Nat → Value := fun j => if j = h then E1.ρ 0 else if j < objs.length then E.ρ j else E1.ρ (j - objs.length + 1)
  have hlen : (objs.set h y ++ os').length = objs.length + os'.length := by simp
  have hρ1 : ∀ i, i < (y :: os').length → ρ' (σ i) = E1.ρ i := fun i hi => by
    by_cases h0 : i = 0
    · subst h0; exact if_pos rfl
    · rw [σs i (by omega)]
      show (if _ = h then _ else if _ < objs.length then _ else E1.ρ (objs.length + (i - 1) - objs.length + 1)) = _
      rw [if_neg (by omega), if_neg (by omega)]
      congr 1
      omega
  have hb := back_objs (objs := objs) (hd := [x]) (os := y :: os') (objs' := objs.set h y ++ os') (σ := σ) (ρ' := ρ') ho (by simp) hx ho1 hok
    (fun i hi => by
      have : i = 0 := by simpa using hi
      subst this
      exact hh)
    (fun i j _ _ e => by
      by_cases h1 : i = 0
      · by_cases h2 : j = 0
        · omega
        · subst h1; rw [σs j (by omega), σ0] at e; omega
      · by_cases h2 : j = 0
        · subst h2; rw [σs i (by omega), σ0] at e; omega
        · rw [σs i (by omega), σs j (by omega)] at e; omega)
    (fun i hi => by
      by_cases h0 : i = 0
      · subst h0
        rw [σ0, List.getElem?_append_left (by simpa using hlt), List.getElem?_set_self hlt]
        rfl
      · rw [σs i (by omega), List.getElem?_append_right (by simp), List.length_set]
        obtain ⟨i, rfl⟩ : ∃ k, i = k + 1 := ⟨i - 1, by omega⟩
        rw [List.getElem?_cons_succ]
        congr 1
        omega)
    (fun j o hj => by
      by_cases hjl : j < objs.length
      · rw [List.getElem?_append_left (by simpa using hjl)] at hj
        by_cases e : j = h
        · exact .inl ⟨0, by simp, e.symm⟩
        · rw [List.getElem?_set_ne (fun e' => e e'.symm)] at hj
          refine .inr ⟨fun i _ e' => ?_, hj⟩
          by_cases h0 : i = 0
          · subst h0; exact e (e'.symm)
          · rw [σs i (by omega)] at e'; omega
      · have hl' := (List.getElem?_eq_some_iff.1 hj).1
        rw [hlen] at hl'
        refine .inl ⟨j - objs.length + 1, by simp only [List.length_cons]; omega, ?_⟩
        rw [σs _ (by omega)]
        omega)
    (by rw [hlen]; omega) hρ1
    (fun j hj hne => by
      show (if j = h then _ else if j < objs.length then _ else _) = _
      rw [if_neg (fun e => hne 0 (by simp) e.symm), if_pos hj])
    (fun i hi => by
      have h1 : 1 ≤ i := by simpa using hi
      rw [σs i (by omega)]
      omega)
  refine ⟨_, v, r', _, ?_, rfl, hR, ?_, hb.1, hb.2⟩
  · rfl
  · refine hres_sound (E1 := E1) (E' := { w := E1.w, lim := E1.lim, k := (objs.set h y ++ os').length, ρ := ρ' }) rfl rfl (fun i hi => ⟨?_, hρ1 i hi⟩) hr' hrep
    show σ i < (objs.set h y ++ os').length
    rw [hlen]
    by_cases h0 : i = 0
    · subst h0; rw [σ0]; omega
    · rw [σs i (by omega)]
      simp only [List.length_cons] at hi
      omega
end Go.V
