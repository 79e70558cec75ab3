/-
  Texts of one proof, merged: Vzj, Vzl, Pl, Vzm.
-/
import Derived.Test.YtefdnmeopbkflaaGreatDoorBMi1
import Derived.Recover
import Derived.Below
import Derived.Lib.SplitLaws
import Derived.Lib.Join
import Derived.Shelf.GgClosure.StringsIndexFunc
set_option linter.unusedSimpArgs false
set_option linter.unusedVariables false
namespace Go.V
set_option linter.unusedVariables false
set_option linter.unusedSimpArgs false

def Pn (v : Value) : List PanicEntry := [{ v := v, recovered := false }]

def APan (P : Program) (G : Gl) (f : FuncId) (args : List AV) (outs : List AObj) (Q : AV → List AObj → Prop) : Prop :=
  (∃ fn, P.funcs[f]? = some fn ∧ fn.body.isSome = true ∧ (fn.name == "runtime.NumGoroutine") = false) ∧
  ∀ (E : Env) (vs : List Value), RepL E args vs → ObjsRep E outs → GOk E G →
    Calls P f vs.toArray E.w fun e w' => ∃ E' v r outs', E'.w = w' ∧ e = .panicked (Pn v) ∧ Q r outs' ∧ RepV E' r v ∧ ObjsRep E' outs' ∧ Ext E outs E' outs'

theorem call_genP {P : Program} {G : Gl} {E : Env} {objs : List AObj} (ho : ObjsRep E objs) (hG : GOk E G) {f : FuncId} {ts : List TypeId} {as_ as' : List AV} {vs : List Value} {Q : AV → List AObj → Prop} {hs : List Nat} {b : Bool} {C : Prop}
    (hask : GAsk objs hs) (hv : gviews P objs hs ts as_ = some (C, b, as')) (hC : C) (hl : RepL E as_ vs) (hc : APan P G f as' (GHd objs hs) Q) {R : AV → List AObj → Prop}
    (hQ : ∀ r os, Q r os → GRet hs b r os ∧ R (ren (σn objs hs) r) (GBack objs hs os)) :
    Calls P f vs.toArray E.w fun e w' => ∃ E' v r' objs', E'.w = w' ∧ e = .panicked (Pn v) ∧ R r' objs' ∧ RepV E' r' v ∧ ObjsRep E' objs' ∧ Ext E objs E' objs' := by
  obtain ⟨hnd, hlt, href⟩ := hask
  let σ : Nat → Nat := σn objs hs
  let hd : List AObj := GHd objs hs
  have hdl : hd.length = hs.length := by show (hs.map _).length = _; rw [List.length_map]
  have hk := ho.1
  have σlt : ∀ i, i < hs.length → σ i = hs.getD i 0 := fun i h => if_pos h
  have σge : ∀ i, hs.length ≤ i → σ i = objs.length + (i - hs.length) := fun i h => if_neg (by omega)
  have hmem : ∀ i, i < hs.length → hs.getD i 0 ∈ hs := fun i h => by
    rw [List.getD_eq_getElem?_getD, List.getElem?_eq_getElem h]
    exact List.getElem_mem h
  have σobj : ∀ i, i < hs.length → σ i < objs.length := fun i h => by rw [σlt i h]; exact hlt _ (hmem i h)
  have hidx : ∀ r, hs.contains r = true → hs.idxOf r < hs.length ∧ σ (hs.idxOf r) = r := fun r hr => by
    have hm : r ∈ hs := by simpa using hr
    have h1 := List.idxOf_lt_length_iff.2 hm
    refine ⟨h1, ?_⟩
    rw [σlt _ h1, List.getD_eq_getElem?_getD, List.getElem?_eq_getElem h1]
    simp
  have hdi : ∀ i, i < hs.length → ∃ o, objs[σ i]? = some o ∧ hd[i]? = some (renO (fun r => hs.idxOf r) o) ∧ refO (fun r => hs.contains r) o = true := fun i h => by
    have h1 := σobj i h
    refine ⟨objs[σ i]'h1, List.getElem?_eq_getElem h1, ?_, ?_⟩
    · show (hs.map _)[i]? = _
      rw [List.getElem?_map, List.getElem?_eq_getElem h]
      simp only [Option.map_some]
      have e : hs[i]'h = σ i := by rw [σlt i h, List.getD_eq_getElem?_getD, List.getElem?_eq_getElem h]; rfl
      rw [e, List.getD_eq_getElem?_getD, List.getElem?_eq_getElem h1]
      rfl
    · have := href _ (hmem i h)
      rw [← σlt i h, List.getD_eq_getElem?_getD, List.getElem?_eq_getElem h1] at this
      exact this
  have σinj : ∀ i j, σ i = σ j → i = j := fun i j e => by
    by_cases h1 : i < hs.length
    · by_cases h2 : j < hs.length
      · rw [σlt i h1, σlt j h2, List.getD_eq_getElem?_getD, List.getElem?_eq_getElem h1, List.getD_eq_getElem?_getD, List.getElem?_eq_getElem h2] at e
        have e' : hs[i] = hs[j] := e
        have hp := List.pairwise_iff_getElem.1 hnd
        rcases Nat.lt_trichotomy i j with h | h | h
        · exact absurd e' (hp i j h1 h2 h)
        · exact h
        · exact absurd e'.symm (hp j i h2 h1 h)
      · have := σobj i h1
        rw [e, σge j (by omega)] at this
        omega
    · by_cases h2 : j < hs.length
      · have := σobj j h2
        rw [← e, σge i (by omega)] at this
        omega
      · rw [σge i (by omega), σge j (by omega)] at e
        omega
  let L : Nat → Nat := if b then (E.lend (others objs hs)).lim else E.lim
  let E0 : Env := { w := E.w, lim := L, k := hs.length, ρ := fun i => E.ρ (σ i) }
  have hoth := others_rep hs ho
  have hle : ∀ g, E.lim g ≤ L g := fun g => by
    show E.lim g ≤ (if b then (E.lend (others objs hs)).lim else E.lim) g
    cases b with
    | true => exact lend_le hoth g
    | false => exact Nat.le_refl _
  have hkk : ∀ r, hs.contains r = true → hs.idxOf r < E0.k ∧ E0.ρ (hs.idxOf r) = E.ρ r := fun r hr => by
    obtain ⟨h1, h2⟩ := hidx r hr
    exact ⟨h1, by show E.ρ (σ _) = _; rw [h2]⟩
  -- which blocks are lent
  have hlent : ∀ g, L g ≠ E.lim g → ∃ r o, r ∉ hs ∧ objs[r]? = some o ∧ ownBlk o (E.ρ r) = some g := fun g hne => by
    have hb : b = true := by
      cases hb : b with
      | true => rfl
      | false => exact absurd (by show (if b then (E.lend (others objs hs)).lim else E.lim) g = _; rw [hb]; rfl) hne
    have e : L g = (E.lend (others objs hs)).lim g := by show (if b then (E.lend (others objs hs)).lim else E.lim) g = _; rw [hb]; rfl
    rw [e] at hne
    apply Classical.byContradiction
    intro hno
    refine hne (lend_not ?_)
    rintro ⟨r, cs, hr, hown⟩
    rcases others_get hr with e | ⟨h1, h2⟩
    · cases e
    · exact hno ⟨r, _, h1, h2, hown⟩
  have hE0 : ObjsRep E0 hd := by
    refine ⟨hdl.symm, fun i o hi => ?_, fun i j o o' g hi hj b1 b2 => ?_⟩
    · have hil : i < hs.length := by
        have := (List.getElem?_eq_some_iff.1 hi).1
        rwa [hdl] at this
      obtain ⟨x, q1, q2, q3⟩ := hdi i hil
      rw [q2] at hi
      injection hi with hi
      subst hi
      refine ObjRep.ren (p := fun r => hs.contains r) (E := E) (E' := E0) rfl (fun g _ => hle g) hkk (fun g hg => ?_) q3 (ho.2.1 _ x q1)
      apply Classical.byContradiction
      intro hne
      obtain ⟨r, o, hr, h1, h2⟩ := hlent g hne
      have := ho.2.2 r (σ i) o x g h1 q1 h2 hg
      subst this
      exact hr (by rw [σlt i hil]; exact hmem i hil)
    · have hil : i < hs.length := by
        have := (List.getElem?_eq_some_iff.1 hi).1
        rwa [hdl] at this
      have hjl : j < hs.length := by
        have := (List.getElem?_eq_some_iff.1 hj).1
        rwa [hdl] at this
      obtain ⟨x, q1, q2, q3⟩ := hdi i hil
      obtain ⟨y, p1, p2, p3⟩ := hdi j hjl
      rw [q2] at hi
      injection hi with hi
      subst hi
      rw [p2] at hj
      injection hj with hj
      subst hj
      rw [ownBlk_ren] at b1 b2
      exact σinj i j (ho.2.2 _ _ x y g q1 p1 b1 b2)
  have hl0 := gviews_sound (P := P) (E0 := E0) (lend := b) ho rfl rfl hkk (fun h => h) hv hC hl
  refine (hc.2 E0 vs hl0 hE0 (GOk.move (E := E) (E' := E0) rfl (fun g _ => hle g) hG)).mono ?_
  rintro e w' ⟨E1, v, r, os, rfl, rfl, hq, hrep, ho1, hx⟩
  obtain ⟨⟨hn, hok, hrr, hfl⟩, hR⟩ := hQ r os hq
  -- the limits as_ they were
  let E2 : Env := { E1 with lim := fun g => if g < E.w.heap.size ∧ L g ≠ E.lim g then E.lim g else E1.lim g }
  have hlt2 : ∀ i o g, os[i]? = some o → ownBlk o (E1.ρ i) = some g → E2.lim g = E1.lim g := fun i o g hi hg => by
    show (if _ then _ else _) = _
    rw [if_neg]
    rintro ⟨h1, h2⟩
    obtain ⟨r', o', hr', q1, q2⟩ := hlent g h2
    obtain ⟨j, y, hj, hy⟩ := hx.own g ⟨i, o, hi, hg⟩ h1
    have hjl : j < hs.length := by
      have := (List.getElem?_eq_some_iff.1 hj).1
      rwa [hdl] at this
    obtain ⟨x, p1, p2, p3⟩ := hdi j hjl
    rw [p2] at hj
    injection hj with hj
    subst hj
    rw [ownBlk_ren] at hy
    have := ho.2.2 r' (σ j) o' x g q1 p1 q2 hy
    subst this
    exact hr' (by rw [σlt j hjl]; exact hmem j hjl)
  have hsame : b = false → E2.lim = E1.lim := fun hb => by
    funext g
    show (if _ then _ else _) = _
    rw [if_neg]
    rintro ⟨_, h2⟩
    refine h2 ?_
    show (if b then (E.lend (others objs hs)).lim else E.lim) g = _
    rw [hb]
    rfl
  have ho2 : ObjsRep E2 os := by
    refine ⟨ho1.1, fun i o hi => ?_, ho1.2.2⟩
    cases hb : b with
    | true => exact ObjRep.flat (E := E1) (E' := E2) rfl ((hfl hb).1 o (List.mem_of_getElem? hi)) (fun g hg => hlt2 i o g hi hg) (ho1.2.1 i o hi)
    | false =>
      have e : E2 = E1 := by
        show ({ E1 with lim := E2.lim } : Env) = E1
        rw [hsame hb]
      rw [e]
      exact ho1.2.1 i o hi
  have hrep2 : RepV E2 r v := by
    cases hb : b with
    | true => exact flat_move r v (hfl hb).2 hrep
    | false =>
      have e : E2 = E1 := by
        show ({ E1 with lim := E2.lim } : Env) = E1
        rw [hsame hb]
      rw [e]
      exact hrep
  have hx2 : Ext { E with k := hs.length, ρ := fun i => E.ρ (σ i) } hd E2 os := by
    refine { size := hx.size, lim := fun g hg => ?_, cell := fun g o hg ho' => hx.cell g o hg (Nat.lt_of_lt_of_le ho' (hle g)), k := hx.k, ρ := hx.ρ, os := hx.os, tape := hx.tape, output := hx.output, frame := fun g hg hno => ⟨(hx.frame g hg hno).1, ?_⟩, own := hx.own }
    · show E.lim g ≤ if _ then _ else _
      split
      · exact Nat.le_refl _
      · exact Nat.le_trans (hle g) (hx.lim g hg)
    · show (if _ then _ else _) = E.lim g
      split
      · rfl
      · rename_i hnot
        have h1 := (hx.frame g hg hno).2
        rw [h1]
        apply Classical.byContradiction
        intro hne
        exact hnot ⟨hg, hne⟩
  let os' := os.map (renO σ)
  let objs' := setAll objs hs os' ++ os'.drop hs.length
  have hlen' : objs'.length = objs.length + (os.length - hs.length) := by
    show (setAll objs hs os' ++ os'.drop hs.length).length = _
    rw [List.length_append, setAll_length, List.length_drop, List.length_map]
  have h2 : ∀ i, i < os.length → objs'[σ i]? = (os[i]?).map (renO σ) := fun i hi => by
    rw [← List.getElem?_map]
    show (setAll objs hs os' ++ os'.drop hs.length)[σ i]? = os'[i]?
    by_cases h : i < hs.length
    · rw [List.getElem?_append_left (by rw [setAll_length]; exact σobj i h), σlt i h]
      exact setAll_at objs hs os' i hnd h (by show i < (os.map _).length; rw [List.length_map]; exact hi) hlt
    · rw [σge i (by omega), List.getElem?_append_right (by rw [setAll_length]; omega), setAll_length, List.getElem?_drop]
      congr 1
      omega
  have h3 : ∀ j o, objs'[j]? = some o → (∃ i, i < os.length ∧ σ i = j) ∨ ((∀ i, i < os.length → σ i ≠ j) ∧ objs[j]? = some o) := fun j o hj => by
    have hjl := (List.getElem?_eq_some_iff.1 hj).1
    rw [hlen'] at hjl
    by_cases hjo : j < objs.length
    · have hj' : (setAll objs hs os')[j]? = some o := by
        rw [← List.getElem?_append_left (l₂ := os'.drop hs.length) (by rw [setAll_length]; exact hjo)]
        exact hj
      by_cases hm : j ∈ hs
      · obtain ⟨q1, q2⟩ := hidx j (by simpa using hm)
        exact .inl ⟨_, by omega, q2⟩
      · rw [setAll_not _ _ _ _ hm] at hj'
        refine .inr ⟨fun i _ e => ?_, hj'⟩
        by_cases h : i < hs.length
        · rw [σlt i h] at e
          exact hm (e ▸ hmem i h)
        · rw [σge i (by omega)] at e
          omega
    · refine .inl ⟨j - objs.length + hs.length, by omega, ?_⟩
      rw [σge _ (by omega)]
      omega
  let ρ' : Nat → Value := fun j => if hs.contains j then E1.ρ (hs.idxOf j) else if j < objs.length then E.ρ j else E1.ρ (j - objs.length + hs.length)
  have hρ1 : ∀ i, i < os.length → ρ' (σ i) = E2.ρ i := fun i hi => by
    show (if hs.contains (σ i) then _ else if _ then _ else _) = E1.ρ i
    by_cases h : i < hs.length
    · have hc' : hs.contains (σ i) = true := by rw [σlt i h]; simpa using hmem i h
      rw [if_pos hc']
      congr 1
      exact σinj _ _ (hidx _ hc').2
    · have hge := σge i (by omega)
      have hc' : ¬ hs.contains (σ i) = true := fun hc' => by
        have := hlt (σ i) (by simpa using hc')
        omega
      rw [if_neg hc', if_neg (by omega)]
      congr 1
      omega
  have hfin := back_ren (objs := objs) (hd := hd) (os := os) (objs' := objs') (σ := σ) (ρ' := ρ') (n0 := hs.length) ho hdl.symm hn hx2 ho2 hok
    (fun i u hi => by
      obtain ⟨x, q1, q2, _⟩ := hdi i hi
      rw [q1, q2]
      simp only [Option.bind_some, ownBlk_ren])
    σobj (fun i j _ _ e => σinj i j e) h2 h3 (by omega) (fun i hi => by
      rw [hlen']
      by_cases h : i < hs.length
      · have := σobj i h; omega
      · rw [σge i (by omega)]; omega)
    hρ1
    (fun j hj hne => by
      show (if hs.contains j then _ else if _ then _ else _) = _
      by_cases hc' : hs.contains j = true
      · obtain ⟨q1, q2⟩ := hidx j hc'
        exact absurd q2 (hne _ (by omega))
      · rw [if_neg hc', if_pos hj])
    (fun i hi => by rw [σge i hi]; omega)
  refine ⟨_, v, ren σ r, objs', ?_, rfl, hR, ?_, hfin.1, hfin.2⟩
  · rfl
  · refine ren_sound (p := fun r => decide (r < os.length)) (E := E2) (E' := { w := E2.w, lim := E2.lim, k := objs'.length, ρ := ρ' }) rfl (fun _ _ => Nat.le_refl _) (fun i hi => ?_) r v hrr hrep2
    have hi' : i < os.length := of_decide_eq_true hi
    refine ⟨?_, hρ1 i hi'⟩
    show σ i < objs'.length
    rw [hlen']
    by_cases h : i < hs.length
    · have := σobj i h; omega
    · rw [σge i (by omega)]; omega

def acallP (P : Program) (G : Gl) (f : Option FuncId) (as_ : List AV) (ts : List TypeId) (objs : List AObj) (K : Value → List AObj → Prop) : Prop :=
  match f with
  | some f => ∃ hs b C as' Q, GAsk objs hs ∧ gviews P objs hs ts as_ = some (C, b, as') ∧ C ∧ APan P G f as' (GHd objs hs) Q ∧ ∀ r os, Q r os → GRet hs b r os ∧ ∃ v, r = .val v ∧ K v (GBack objs hs os)
  | none => False

section
variable {P : Program} {G : Gl}

theorem wpList_app {ops : Array Oper} {Q Q' : Exit → Act → World → Prop} (l' : List Oper) (h1 : ∀ a w, Q .normal a w → wpList P ops Q' l' a w) (h2 : ∀ e a w, e ≠ .normal → Q e a w → Q' e a w) :
    ∀ (l : List Oper) (a : Act) (w : World), (LetsOut Q → LetsOut Q') → wpList P ops Q l a w → wpList P ops Q' (l ++ l') a w
  | [], a, w, _, h => h1 a w h
  | o :: rest, a, w, hL, h => by
    simp only [List.cons_append]
    unfold wpList at h ⊢
    split
    · rename_i hw
      rw [if_pos hw] at h
      rcases h with h | ⟨q1, q2⟩
      · exact .inl (Owp_mono (fun a w h => wpList_app l' h1 h2 rest a w hL h) h2 h)
      · exact .inr ⟨q1, hL q2⟩
    · rename_i hw
      rw [if_neg hw] at h
      exact wpList_app l' h1 h2 rest _ _ hL h

theorem wpList_die {M : List Nat} {ops : Array Oper} {l : List Oper} {n : Nat} {o : Oper} (hl : l = l.take n ++ o :: l.drop (n + 1)) {st : St} {Q : Exit → St → Prop} {E : Env} {a : Act} (hr : Rep G E st a) {K : St → Prop}
    (hK : ∀ s E' a', K s → Rep G E' s a' → Ext E st.objs E' s.objs → wpList P ops (RQ P G E st.objs Q) (o :: l.drop (n + 1)) a' E'.w)
    (h : aopsK P G M ops (l.take n) st K) : wpList P ops (RQ P G E st.objs Q) l a E.w := by
  have h1 := aopsK_sound (P := P) (G := G) (M := M) (ops := ops) (Q := fun (e : Exit) (s : St) => e = .normal ∧ K s) (l.take n) st E a hr (aopsK_mono (fun s h => ⟨rfl, h⟩) _ _ h)
  rw [hl]
  generalize hg : l.drop (n + 1) = post at *
  refine wpList_app (P := P) _ ?_ ?_ _ _ _ ?_ h1
  · rintro a' w' ⟨s, E', rfl, ⟨_, hk⟩, hr', hx⟩
    exact hK s E' a' hk hr' hx
  · rintro e a' w' hne ⟨s, E', _, ⟨he, _⟩, _⟩
    exact absurd he hne
  · rintro ⟨a0, w0, s, E', _, ⟨he, _⟩, _⟩
    cases he

theorem awp_die (M : List Nat) (n : Nat) {id : Nat} {l : List Oper} {o : Oper} {x : Operand} {st : St} {Q : Exit → St → Prop} (hl : l = l.take n ++ o :: l.drop (n + 1)) (ho : o.op = .panic x) (hg : o.guard = none)
    (h : aopsK P G M l.toArray (l.take n) st fun s => ∃ (ty : TypeId) (v : Value), ev G s.slots x = .val (.iface ty v) ∧ Q (.panic (Pn (.iface ty v))) s) : awp P G (.region id l.toArray false) st Q := fun E a hr => by
  refine wp_region_lit (wpList_die hl hr (M := M) ?_ h)
  rintro s E' a' ⟨t, v, hv, hq⟩ hr' hx
  unfold wpList
  rw [if_pos (by simp [Region.wanted, hg])]
  refine .inl ?_
  have he := ev_sound hr' x
  rw [hv] at he
  simp only [RepV] at he
  unfold Oper.wp
  have hrun : (execOp a'.eval o).run P E'.w = .halt (.panic (.iface t v)) E'.w := by
    obtain ⟨dst, op, ty, pos, after, guard⟩ := o
    simp only at ho
    subst ho
    simp [execOp, he, Instr.panic, goPanic]
  rw [hrun]
  simp only [Oper.upon]
  exact ⟨s, E', rfl, hq, hr', hx⟩

theorem wp_calldie {Q : Exit → St → Prop} {o : Oper} {f : FuncId} {args : Array Operand} {ts : Array TypeId} {s : St} {E0 E' : Env} {objs0 : List AObj} {a' : Act} (ho : o.op = .call ⟨.value (.func f), args, ts⟩) (hg : o.guard = none)
    (hr' : Rep G E' s a') (hx : Ext E0 objs0 E' s.objs) (h : acallP P G (some f) (args.toList.map (ev G s.slots)) ts.toList s.objs fun v os => Q (.panic (Pn v)) ⟨s.nt, s.slots, os⟩) {K : Act → World → Prop} :
    o.wp P a' E'.w K (RQ P G E0 objs0 Q) := by
  have hargs : RepL E' (args.toList.map (ev G s.slots)) (args.map a'.eval).toList := by
    rw [Array.toList_map]
    generalize args.toList = l
    induction l with
    | nil => simp [RepL]
    | cons x l ih => simp only [List.map_cons, RepL]; exact ⟨_, _, rfl, ev_sound hr' x, ih⟩
  obtain ⟨hs, b, C, as', Q', hask, hv, hC, hcalls, hQ⟩ := h
  obtain ⟨fn, hfn, hb, hn⟩ := hcalls.1
  have hrun : (execOp a'.eval o).run P E'.w = .ok (.enter f (args.map a'.eval)) E'.w := by
    obtain ⟨dst, op, ty, pos, after, guard⟩ := o
    simp only at ho
    subst ho
    simp [execOp, resolve, Act.eval, Deferred.ofValue, invoke, callFunc_run hfn hb hn]
  unfold Oper.wp
  rw [hrun]
  simp only [Oper.upon]
  have hcall := call_genP (P := P) (R := fun r os => ∃ v, r = .val v ∧ Q (.panic (Pn v)) ⟨s.nt, s.slots, os⟩) hr'.objs hr'.glob hask hv hC hargs hcalls (fun r os hq => by
    obtain ⟨h1, v, rfl, h2⟩ := hQ r os hq
    exact ⟨h1, v, rfl, h2⟩)
  have e : (args.map a'.eval).toList.toArray = args.map a'.eval := Array.toArray_toList
  rw [e] at hcall
  refine hcall.mono ?_
  rintro e w' ⟨E1, v, r, objs', rfl, rfl, ⟨u, rfl, hq⟩, hv', ho', hx'⟩
  simp only [RepV] at hv'
  subst hv'
  exact ⟨⟨s.nt, s.slots, objs'⟩, E1, rfl, hq, ⟨hr'.size, fun i => RepV.mono hx'.toExt0 _ _ (hr'.slots i), hr'.defers, ho', hr'.glob.mono hx'.toExt0⟩, hx.trans hx'⟩

theorem awp_calldie (M : List Nat) (n : Nat) {id : Nat} {l : List Oper} {o : Oper} {f : FuncId} {args : Array Operand} {ts : Array TypeId} {st : St} {Q : Exit → St → Prop} (hl : l = l.take n ++ o :: l.drop (n + 1)) (ho : o.op = .call ⟨.value (.func f), args, ts⟩) (hg : o.guard = none)
    (h : aopsK P G M l.toArray (l.take n) st fun s => acallP P G (some f) (args.toList.map (ev G s.slots)) ts.toList s.objs fun v os => Q (.panic (Pn v)) ⟨s.nt, s.slots, os⟩) : awp P G (.region id l.toArray false) st Q := fun E a hr => by
  refine wp_region_lit (wpList_die hl hr (M := M) ?_ h)
  intro s E' a' hk hr' hx
  unfold wpList
  rw [if_pos (by simp [Region.wanted, hg])]
  exact .inl (wp_calldie (Q := Q) ho hg hr' hx hk)

theorem acallP_all {f : FuncId} {as_ : List AV} {ts : List TypeId} {objs : List AObj} {K : Value → List AObj → Prop} (hs : List Nat) (b : Bool) {C : Prop} {as' : List AV} {v : Value} {os' : List AObj} (hask : GAsk objs hs) (hv : gviews P objs hs ts as_ = some (C, b, as')) (hC : C)
    (h : APan P G f as' (GHd objs hs) (fun r os => os = os' ∧ r = .val v)) (hret : GRet hs b (.val v) os') (hk : K v (GBack objs hs os')) : acallP P G (some f) as_ ts objs K :=
  ⟨hs, b, C, as', _, hask, hv, hC, h, fun r os ⟨h1, h2⟩ => by subst h1 h2; exact ⟨hret, v, rfl, hk⟩⟩

def FinP (n0 : Nat) (Q : AV → List AObj → Prop) : Exit → St → Prop := fun e st => ∃ v is, e = .panic (Pn v) ∧ OutOk st.objs n0 is ∧ Q (.val v) (GHd st.objs is)

theorem apan_of_awp {f : FuncId} {fn : Func} {c : Code} {args : List AV} {outs : List AObj} {Q : AV → List AObj → Prop} (hf : P.funcs[f]? = some fn) (hb : fn.body = some c) (hn : (fn.name == "runtime.NumGoroutine") = false)
    {nt : Nat} (hnt : fn.ntmps = nt) (hle : args.length ≤ nt) (h : awp P G c ⟨nt, argSlots 0 args, outs⟩ (FinP outs.length Q)) (hds : G.ds = [] := by rfl) : APan P G f args outs Q := by
  subst hnt
  refine ⟨⟨fn, hf, by simp [hb], hn⟩, fun E vs hl ho hG => ?_⟩
  refine calls_of_wp hf hb ?_
  refine wp_mono (h E _ (rep_start hds hle hl ho hG)) ?_
  rintro e a' w' ⟨st', E', rfl, ⟨v, is, rfl, hout, hq⟩, hr', hx'⟩
  obtain ⟨h1, h2, h3⟩ := out_sound ho hr'.objs hx' hout
  exact ⟨hr'.defers.trans hds, { w := E'.w, lim := E'.lim, k := is.length, ρ := fun i => E'.ρ (is.getD i 0) }, v, .val v, _, rfl, rfl, hq, by simp only [RepV], h1, h2⟩

def ARec (P : Program) (G : Gl) (g : FuncId) (cap : AV) (objs : List AObj) (v : Value) (objs' : List AObj) : Prop :=
  ∀ (E : Env) (u : Value), RepV E cap u → ObjsRep E objs → GOk E G →
    CallsD P g #[u] (.panicking (Pn v)) E.w fun e u' w' => ∃ E', E'.w = w' ∧ (∃ x, e = .returned x) ∧ u' = .panicking [{ v := v, recovered := true }] ∧ ObjsRep E' objs' ∧ Ext E objs E' objs'

def FinR (P : Program) (G : Gl) (g : FuncId) (cap : AV) (ts : List TypeId) (rvs : List ResultVar) (n0 : Nat) (Q : AV → List AObj → Prop) : Exit → St → Prop
  | .panic ch, st => ∃ v objs', ch = Pn v ∧ ARec P G g cap st.objs v objs' ∧ FinG P ts rvs n0 Q .ret ⟨st.nt, st.slots, objs'⟩
  | e, st => FinG P ts rvs n0 Q e st

theorem acallsG_of_awp_recover {f g : FuncId} {fn : Func} {c0 rest : Code} {id tf tc : Nat} {ty0 ty1 : TypeId} {p0 p1 : String} {a0 a1 : Array Edge} {args : List AV} {outs : List AObj} {Q : AV → List AObj → Prop} (hf : P.funcs[f]? = some fn)
    (hb : fn.body = some (.seq c0 (.seq (.region id #[⟨some tf, .makeFunc (.func g) #[] #[.tmp tc], ty0, p0, a0, none⟩, ⟨none, .defer ⟨.value (.tmp tf), #[], #[]⟩, ty1, p1, a1, none⟩] false) rest))) (hn : (fn.name == "runtime.NumGoroutine") = false)
    {nt : Nat} {rts : Array TypeId} {rvs : Array ResultVar} (hnt : fn.ntmps = nt) (hrt : fn.resultTypes = rts) (hrv : fn.results = rvs) (hle : args.length ≤ nt) (hg : Idle P g) (hds : G.ds = [])
    (h : awp P G c0 ⟨nt, argSlots 0 args, outs⟩ fun e s => e = .normal ∧ tf < s.nt ∧ ∃ r off, lk s.slots tc = .ptr r off ∧
      ∀ d, awp P ⟨G.tab, [d]⟩ rest ⟨s.nt, (tf, .top) :: s.slots, s.objs⟩ (FinR P G g (.ptr r off) rts.toList rvs.toList outs.length Q)) : ACalls P G f args outs Q := by
  subst hnt hrt hrv
  refine ⟨⟨fn, hf, by simp [hb], hn⟩, fun E vs hl ho hG => ?_⟩
  refine calls_of_wp_defers hf hb ?_
  refine wp_seq (wp_mono (h E _ (rep_start hds hle hl ho hG)) ?_)
  rintro e a' w' ⟨st', E', rfl, ⟨rfl, htf, r, off, hptr, hrest⟩, hr', hx'⟩
  obtain ⟨hgfn, hidle⟩ := hg
  obtain ⟨cap, hcap, hcapR, ad, had⟩ : ∃ cap, a'.tmps.getD tc undef = cap ∧ RepV E' (.ptr r off) cap ∧ ∃ ad, cap = .pointer (some ad) := by
    have := hr'.slots tc
    rw [hptr] at this
    refine ⟨_, rfl, this, ?_⟩
    simp only [RepV] at this
    obtain ⟨_, _, _, hv⟩ := this
    exact ⟨_, hv⟩
  let d : Deferred := ⟨.fn (.func g) #[cap], #[]⟩
  refine wp_seq ?_
  -- the region of the deferral
  have hlt : tf < a'.tmps.size := by rw [hr'.size]; exact htf
  have hev : a'.eval (.tmp tc) = cap := hcap
  have hreg : ∀ (R : Exit → Act → World → Prop), R .normal { tmps := a'.tmps.set tf (.func (.func g) #[] #[cap]) hlt, defers := d :: a'.defers } E'.w →
      (Code.region id #[⟨some tf, .makeFunc (.func g) #[] #[.tmp tc], ty0, p0, a0, none⟩, ⟨none, .defer ⟨.value (.tmp tf), #[], #[]⟩, ty1, p1, a1, none⟩] false).wp P R a' E'.w := by
    intro R hR
    refine wp_region_lit ?_
    unfold wpList
    rw [if_pos (by simp [Region.wanted])]
    refine .inl ?_
    unfold Oper.wp
    have e1 : (execOp a'.eval ⟨some tf, .makeFunc (.func g) #[] #[.tmp tc], ty0, p0, a0, none⟩).run P E'.w = .ok (.value (.func (.func g) #[] #[cap])) E'.w := by
      simp [execOp, Instr.makeFunc, hev]
    rw [e1]
    simp only [Oper.upon]
    have e2 : a'.put (some tf) (.func (.func g) #[] #[cap]) = { tmps := a'.tmps.set tf (.func (.func g) #[] #[cap]) hlt, defers := a'.defers } := by
      simp [Act.put, Array.setIfInBounds, hlt]
    rw [e2]
    unfold wpList
    rw [if_pos (by simp [Region.wanted])]
    refine .inl ?_
    unfold Oper.wp
    have e3 : ({ tmps := a'.tmps.set tf (.func (.func g) #[] #[cap]) hlt, defers := a'.defers } : Act).eval (.tmp tf) = .func (.func g) #[] #[cap] := by
      simp [Act.eval, hlt]
    have e4 : (execOp ({ tmps := a'.tmps.set tf (.func (.func g) #[] #[cap]) hlt, defers := a'.defers } : Act).eval ⟨none, .defer ⟨.value (.tmp tf), #[], #[]⟩, ty1, p1, a1, none⟩).run P E'.w = .ok (.defer d) E'.w := by
      simp [execOp, resolve, e3, Deferred.ofValue, d]
    rw [e4]
    simp only [Oper.upon]
    unfold wpList
    simpa [Act.put] using hR
  refine hreg _ ?_
  have hrep : Rep ⟨G.tab, [d]⟩ E' ⟨st'.nt, (tf, .top) :: st'.slots, st'.objs⟩ { tmps := a'.tmps.set tf (.func (.func g) #[] #[cap]) hlt, defers := d :: a'.defers } := by
    refine ⟨by simpa using hr'.size, fun i => ?_, by simp [hr'.defers, hds], hr'.objs, hr'.glob⟩
    simp only [lk]
    split
    · simp only [RepV]
    · rename_i hne
      have := hr'.slots i
      have e : (a'.tmps.set tf (.func (.func g) #[] #[cap]) hlt).getD i undef = a'.tmps.getD i undef := by
        simp [Array.getD_eq_getD_getElem?, Array.getElem?_set, hne]
      rw [e]
      exact this
  refine wp_mono (hrest d E' _ hrep) ?_
  rintro e a2 w2 ⟨st2, E2, rfl, hfinR, hr2, hx2⟩
  have hx := hx'.trans hx2
  have hd2 : a2.defers = [d] := hr2.defers
  obtain ⟨gf, hgf, hgb, hgn⟩ := hgfn
  have hinv : (invoke (.fn (.func g) #[cap]) #[]).run P E2.w = .ok (.enter g #[cap]) E2.w := by simp [invoke, callFunc_run hgf hgb hgn]
  -- what is handed back
  have hfin : ∀ (E3 : Env) (objs3 : List AObj) (e : Exit), ObjsRep E3 objs3 → Ext E outs E3 objs3 → (∀ i, RepV E3 (lk st2.slots i) (a2.tmps.getD i undef)) → FinG P fn.resultTypes.toList fn.results.toList outs.length Q e ⟨st2.nt, st2.slots, objs3⟩ →
      GOk E3 ⟨G.tab, [d]⟩ → ∃ u, (results fn a2.tmps).run P E3.w = .ok u E3.w ∧ ∃ E4 v r' outs', E4.w = E3.w ∧ Ending.returned u = .returned v ∧ Q r' outs' ∧ RepV E4 r' v ∧ ObjsRep E4 outs' ∧ Ext E outs E4 outs' := by
    rintro E3 objs3 e ho3 hx3 hsl ⟨he, is, C, r0, hout, hres, hC, href, hq⟩ hG3
    obtain ⟨h1, h2, h3⟩ := out_sound ho ho3 hx3 hout
    have hr3 : Rep ⟨G.tab, [d]⟩ E3 ⟨st2.nt, st2.slots, objs3⟩ a2 := ⟨hr2.size, hsl, hr2.defers, ho3, hG3⟩
    obtain ⟨u, hu, hrun⟩ := aresN_sound (P := P) hr3 hres hC
    exact ⟨u, hrun, { w := E3.w, lim := E3.lim, k := is.length, ρ := fun i => E3.ρ (is.getD i 0) }, u, _, _, rfl, rfl, hq, h3 _ _ href hu, h1, h2⟩
  have quiet : ∀ e, FinG P fn.resultTypes.toList fn.results.toList outs.length Q e st2 → Leaves P fn a2.tmps (fun e w' => ∃ E3 v r' outs', E3.w = w' ∧ e = .returned v ∧ Q r' outs' ∧ RepV E3 r' v ∧ ObjsRep E3 outs' ∧ Ext E outs E3 outs') a2.defers .returning E2.w := by
    intro e hF
    obtain ⟨u, hrun, hf2⟩ := hfin E2 st2.objs e hr2.objs hx hr2.slots hF hr2.glob
    rw [hd2]
    refine leaves_cons (f := g) (args := #[cap]) (by simp) hinv ?_
    refine (hidle cap E2.w ⟨ad, had⟩).mono ?_
    rintro e' u' w' ⟨⟨v, rfl⟩, rfl, rfl⟩
    exact ⟨u, hrun, hf2⟩
  cases e with
  | panic ch =>
    obtain ⟨v, objs', rfl, hrec, hF⟩ := hfinR
    show Leaves P fn a2.tmps _ a2.defers (.panicking (Pn v)) E2.w
    rw [hd2]
    refine leaves_cons (f := g) (args := #[cap]) (by simp) hinv ?_
    refine (hrec E2 cap (RepV.mono hx2.toExt0 _ _ hcapR) hr2.objs hr2.glob).mono ?_
    rintro e' u' w' ⟨E3, rfl, ⟨x, rfl⟩, rfl, ho3, hx3⟩
    obtain ⟨u, hrun, hf2⟩ := hfin E3 objs' .ret ho3 (hx.trans hx3) (fun i => RepV.mono hx3.toExt0 _ _ (hr2.slots i)) hF (hr2.glob.mono hx3.toExt0)
    exact ⟨u, hrun, hf2⟩
  | normal => exact quiet _ hfinR
  | ret => exact quiet _ hfinR
  | _ => exact absurd hfinR.1 (by simp)
theorem arec_of_awp {g : FuncId} {fn : Func} {rest : Code} {id d0 d1 : Nat} {ty0 ty1 : TypeId} {p0 p1 : String} {a0 a1 : Array Edge} {cap : AV} {objs objs' : List AObj} {v : Value} (hf : P.funcs[g]? = some fn)
    (hb : fn.body = some (.seq (.region id #[⟨some d0, .call ⟨.builtin .recover, #[], #[]⟩, ty0, p0, a0, none⟩, ⟨some d1, .assign (.tmp d0), ty1, p1, a1, none⟩] false) rest))
    {nt : Nat} (hnt : fn.ntmps = nt) (hrv : fn.results = #[]) (h0 : d0 < nt) (h1 : d1 < nt) (hd : d0 ≠ 0 ∧ d1 ≠ 0) (hds : G.ds = [])
    (h : awp P G rest ⟨nt, [(d1, .val v), (0, cap)], objs⟩ (FinG P [] [] objs.length (fun r os => os = objs'))) : ARec P G g cap objs v objs' := by
  subst hnt
  intro E u hu ho hG
  refine callsD_of_wpS hf hb fun c₀ cs hm => ?_
  have hrec : recoverD (c₀ :: cs) = some (v, { c₀ with mode := .panicking [{ v := v, recovered := true }] } :: cs) := by simp [recoverD, hm, Pn]
  have hsz : (#[u] ++ Array.replicate (fn.ntmps - (#[u] : Array Value).size) undef : Array Value).size = fn.ntmps := by simp; omega
  obtain ⟨T, hT⟩ : ∃ T, T = (#[u] ++ Array.replicate (fn.ntmps - (#[u] : Array Value).size) undef : Array Value) := ⟨_, rfl⟩
  rw [← hT] at hsz ⊢
  have hT0 : T.getD 0 undef = u := by rw [hT, Array.getD_eq_getD_getElem?, Array.getElem?_append_left (by simp)]; rfl
  refine wpS_seq (wpS_region ?_)
  have hl0 : d0 < T.size := by omega
  have hev : ({ tmps := T.setIfInBounds d0 v, defers := [] } : Act).eval (.tmp d0) = v := by simp [Act.eval, Array.getD_eq_getD_getElem?, hl0]
  simp [wpOpsS, Region.wanted, execOp, resolve, Deferred.ofValue, invoke, builtin, hrec, Act.put, hev, List.range, List.range.loop, Oper.upon, Exit.thenS]
  have hn0 : ObjsRep E objs := ho
  have hrep : Rep G E ⟨fn.ntmps, [(d1, .val v), (0, cap)], objs⟩ { tmps := (T.setIfInBounds d0 v).setIfInBounds d1 v, defers := [] } := by
    refine ⟨by simpa using hsz, fun i => ?_, hds.symm, ho, hG⟩
    simp only [lk]
    split
    · rename_i e
      subst e
      have : d1 < T.size := by omega
      simp [Array.getD_eq_getD_getElem?, this, RepV]
    · split
      · rename_i e1 e2
        subst e2
        have e3 : ((T.setIfInBounds d0 v).setIfInBounds d1 v).getD 0 undef = T.getD 0 undef := by
          rw [Array.getD_eq_getD_getElem?, Array.getD_eq_getD_getElem?, Array.getElem?_setIfInBounds, if_neg hd.2, Array.getElem?_setIfInBounds, if_neg hd.1]
        rw [e3, hT0]
        exact hu
      · simp only [RepV]
  refine wpS_of_wp (wp_mono (h E _ hrep) ?_)
  rintro e a' w' ⟨st', E', rfl, ⟨he, is, C, r0, hout, hres, hC, href, hq⟩, hr', hx'⟩
  obtain ⟨q1, q2, q3⟩ := out_sound ho hr'.objs hx' hout
  rw [hq] at q1 q2
  have hrun : (results fn a'.tmps).run P E'.w = .ok (.tuple #[]) E'.w := by
    rw [results_eq, hrv]
    simp
  rcases he with rfl | rfl
  · exact ⟨hr'.defers.trans hds, _, rfl, _, hrun, { w := E'.w, lim := E'.lim, k := is.length, ρ := fun i => E'.ρ (is.getD i 0) }, rfl, ⟨_, rfl⟩, rfl, q1, q2⟩
  · exact ⟨hr'.defers.trans hds, _, rfl, _, hrun, { w := E'.w, lim := E'.lim, k := is.length, ρ := fun i => E'.ρ (is.getD i 0) }, rfl, ⟨_, rfl⟩, rfl, q1, q2⟩
end
end Go.V
namespace Go.V
open Go.RowKit
set_option linter.unusedVariables false
set_option linter.unusedSimpArgs false

def Env.below (E : Env) (w' : World) (L : Nat → Nat) : Env := { w := w', lim := fun g => if g < E.w.heap.size then E.lim g else L g, k := E.k, ρ := E.ρ }

theorem ext_below {E : Env} {w' : World} (L : Nat → Nat) (hk : E.k = 0) (h : Below E.w.heap.size E.w w') : Ext E [] (E.below w' L) [] :=
  { size := h.size
    lim := fun g hg => by simp only [Env.below, if_pos hg]; exact Nat.le_refl _
    cell := fun g o hg _ => h.cell (p := ⟨g, o, none⟩) hg
    k := Nat.le_refl _
    ρ := fun r hr => by rw [hk] at hr; exact absurd hr (Nat.not_lt_zero _)
    os := h.os, tape := h.tape, output := h.output
    frame := fun g hg _ => ⟨h.block g hg, by simp only [Env.below, if_pos hg]⟩
    own := fun g ⟨r, o, hr, _⟩ _ => by simp at hr }

theorem objs_nil {E : Env} (hk : E.k = 0) : ObjsRep E [] := ⟨hk, fun r o h => by simp at h, fun r r' o o' g h => by simp at h⟩

def HasBody (P : Program) (f : FuncId) : Prop := ∃ fn, P.funcs[f]? = some fn ∧ fn.body.isSome = true ∧ (fn.name == "runtime.NumGoroutine") = false

theorem acalls_val {P : Program} {G : Gl} {f : FuncId} {args : List AV} {r : Value} (hfn : HasBody P f)
    (h : ∀ (E : Env) (vs : List Value), RepL E args vs → GOk E G → Calls P f vs.toArray E.w fun e w' => e = .returned r ∧ Below E.w.heap.size E.w w') : ACalls P G f args [] (fun x os => os = [] ∧ x = .val r) := by
  refine ⟨hfn, fun E vs hl ho hG => (h E vs hl hG).mono ?_⟩
  rintro e w' ⟨rfl, hb⟩
  have hk : E.k = 0 := ho.1
  exact ⟨E.below w' (fun _ => 0), r, .val r, [], rfl, rfl, ⟨rfl, rfl⟩, by simp only [RepV], objs_nil hk, ext_below _ hk hb⟩

theorem acalls_rep {P : Program} {G : Gl} {f : FuncId} {args : List AV} {a : AV} (hfn : HasBody P f)
    (h : ∀ (E : Env) (vs : List Value), RepL E args vs → GOk E G → Calls P f vs.toArray E.w fun e w' => ∃ v L, e = .returned v ∧ Below E.w.heap.size E.w w' ∧ RepV (E.below w' L) a v) : ACalls P G f args [] (fun x os => os = [] ∧ x = a) := by
  refine ⟨hfn, fun E vs hl ho hG => (h E vs hl hG).mono ?_⟩
  rintro e w' ⟨v, L, rfl, hb, hr⟩
  have hk : E.k = 0 := ho.1
  exact ⟨E.below w' L, v, a, [], rfl, rfl, ⟨rfl, rfl⟩, hr, objs_nil hk, ext_below _ hk hb⟩

theorem rep_row {E : Env} {w' : World} {vs : List Value} {cs : List AV} {t : TypeId} {fz : Nat × Nat} {n : Nat} (hb : Below E.w.heap.size E.w w') (hg : w'.heap[E.w.heap.size]? = some (.cells vs.toArray t fz))
    (hc : ∀ E' : Env, E'.w = w' → RepL E' cs vs) (hn : cs = [] ∨ True) : RepV (E.below w' (fun _ => cs.length)) (.sl n cs .full) (.slice (some ⟨E.w.heap.size, 0, none⟩) n n) := by
  simp only [RepV]
  refine ⟨_, n, rfl, Nat.le_refl _, ?_, rfl⟩
  by_cases h0 : cs = []
  · exact .inl h0
  · refine .inr ⟨_, 0, rfl, ?_, ?_, ?_⟩
    · exact (Array.getElem?_eq_some_iff.1 hg).1
    · simp [Env.below]
    · have hl := hc (E.below w' (fun _ => cs.length)) rfl
      refine RepAt.of_cell fun i c hi => ?_
      obtain ⟨v, hv, hr⟩ := hl.get i c hi
      refine ⟨v, ?_, hr⟩
      have : (E.below w' fun _ => cs.length).w.heap[E.w.heap.size]? = some (.cells vs.toArray t fz) := hg
      simp only [World.cell?, this]
      simpa using hv

theorem ACalls.calls {P : Program} {G : Gl} {f : FuncId} {args : List AV} {r : Value} (h : ACalls P G f args [] (fun x os => os = [] ∧ x = .val r)) (w : World) (vs : List Value) (hl : ∀ E : Env, E.w = w → RepL E args vs)
    (hG : ∃ E : Env, E.w = w ∧ E.k = 0 ∧ GOk E G) : Calls P f vs.toArray w fun e w' => e = .returned r ∧ Below w.heap.size w w' := by
  obtain ⟨E, rfl, hk, hG⟩ := hG
  refine (h.2 E vs (hl E rfl) (objs_nil hk) hG).mono ?_
  rintro e w' ⟨E', v, x, os, rfl, rfl, ⟨rfl, rfl⟩, hv, ho, hx⟩
  simp only [RepV] at hv
  subst hv
  exact ⟨rfl, hx.os, hx.tape, hx.output, hx.size, fun k hk' => (hx.frame k hk' (by rintro ⟨r, o, h, _⟩; simp at h)).1⟩

end Go.V
namespace Go.V
open Go
set_option linter.unusedVariables false
set_option linter.unusedSimpArgs false

def splitC (c : UInt8) : List UInt8 → List (List UInt8)
  | [] => [[]]
  | x :: xs => if x = c then [] :: splitC c xs else (x :: (splitC c xs).headD []) :: (splitC c xs).tail

theorem index_ne (x c : UInt8) (l : List UInt8) (h : x ≠ c) : Lib.index (x :: l) [c] = if Lib.index l [c] == -1 then -1 else Lib.index l [c] + 1 := by
  have hp : ([c] : List UInt8).isPrefixOf (x :: l) = false := by simp [List.isPrefixOf, Ne.symm h]
  rw [Lib.index, hp]; simp
theorem index_eq (c : UInt8) (l : List UInt8) : Lib.index (c :: l) [c] = 0 := by rw [Lib.index]; simp [List.isPrefixOf]
theorem splitK_cons_ne (x c : UInt8) (l : List UInt8) (h : x ≠ c) : ∀ k, Lib.splitK [c] 0 k (x :: l) = (x :: (Lib.splitK [c] 0 k l).headD []) :: (Lib.splitK [c] 0 k l).tail
  | 0 => by simp [Lib.splitK]
  | k + 1 => by
    have hix := index_ne x c l h
    by_cases hm : Lib.index l [c] = -1
    · have h2 : Lib.index (x :: l) [c] = -1 := by rw [hix, if_pos (beq_iff_eq.2 hm)]
      simp [Lib.splitK, hm, h2]
    · have hge := Lib.index_ge l [c]
      obtain ⟨j, hj⟩ : ∃ j : Nat, Lib.index l [c] = j := ⟨(Lib.index l [c]).toNat, by omega⟩
      have h2 : Lib.index (x :: l) [c] = ((j + 1 : Nat) : Int) := by rw [hix, if_neg (fun e => hm (beq_iff_eq.1 e)), hj]; omega
      have e1 : ¬ ((j : Int) == -1) = true := fun e => by have := beq_iff_eq.1 e; omega
      have e2 : ¬ (((j + 1 : Nat) : Int) == -1) = true := fun e => by have := beq_iff_eq.1 e; omega
      have e3 : (((j + 1 : Nat) : Int)).toNat = j + 1 := by omega
      have e4 : ((j : Int)).toNat = j := by omega
      simp only [Lib.splitK]
      rw [hj, h2, if_neg e1, if_neg e2, e3, e4]
      simp

theorem split_eq (c : UInt8) : ∀ s : List UInt8, Lib.splitK [c] 0 (s.count c) s = splitC c s
  | [] => rfl
  | x :: l => by
    by_cases h : x = c
    · subst h
      rw [List.count_cons_self, Lib.splitK, index_eq, if_neg (by decide)]
      simp only [splitC, if_true]
      rw [← split_eq x l]
      simp
    · rw [List.count_cons_of_ne (by simpa using h), splitK_cons_ne x c l h, split_eq c l]
      simp only [splitC, if_neg h]

theorem splitB_eq (c : UInt8) (s : List UInt8) : (Lib.splitB ⟨#[c]⟩ 0 (Lib.countB ⟨s.toArray⟩ ⟨#[c]⟩) ⟨s.toArray⟩).map (·.data.toList) = splitC c s := by
  rw [Lib.splitB_data]
  have : Lib.countB ⟨s.toArray⟩ ⟨#[c]⟩ = s.count c := by
    have h := Lib.count_one c s
    simpa [Lib.countB] using h
  rw [this]
  exact split_eq c s

theorem splitC_length (c : UInt8) (s : List UInt8) : (splitC c s).length = s.count c + 1 := by
  induction s with
  | nil => rfl
  | cons x l ih =>
    unfold splitC
    split
    · rename_i h; subst h; rw [List.length_cons, ih, List.count_cons_self]
    · rename_i h
      rw [List.length_cons, List.length_tail, ih, List.count_cons_of_ne (by simpa using h)]
      omega

-- runes
theorem decode_small (s : ByteArray) (i : Nat) (h : (s.get! i).toNat < 128) : Utf8.decode s i = ((s.get! i).toNat, 1) := by
  unfold Utf8.decode
  simp only [Nat.add_zero]
  rw [if_pos h]
theorem decode_great (s : ByteArray) (i : Nat) (h : ¬ (s.get! i).toNat < 128) : 128 ≤ (Utf8.decode s i).1 := by
  unfold Utf8.decode
  simp only [Nat.add_zero]
  rw [if_neg h]
  repeat' split
  all_goals simp_all [Utf8.runeError]
  all_goals omega

theorem idx_iff (p : Nat → Bool) (hp : ∀ r, 128 ≤ r → p r = true) (s : List UInt8) : ∀ (f pos : Nat), s.length - pos ≤ f → (0 ≤ Lib.idxFuncFrom p true ⟨s.toArray⟩ f pos ↔ ∃ b ∈ s.drop pos, p b.toNat = true)
  | 0, pos, h => by
    simp only [Lib.idxFuncFrom]
    constructor
    · intro h; omega
    · rintro ⟨b, hb, _⟩
      rw [List.drop_eq_nil_of_le (by omega)] at hb
      cases hb
  | f + 1, pos, h => by
    have hsz : (⟨s.toArray⟩ : ByteArray).size = s.length := by simp [ByteArray.size]
    unfold Lib.idxFuncFrom
    rw [hsz]
    split
    · rename_i hlt
      have hg : (⟨s.toArray⟩ : ByteArray).get! pos = s[pos] := by
        show s.toArray[pos]! = _
        simp [hlt]
      have hd : s.drop pos = s[pos] :: s.drop (pos + 1) := List.drop_eq_getElem_cons hlt
      by_cases hs : (s[pos]).toNat < 128
      · have hdec := decode_small ⟨s.toArray⟩ pos (by rw [hg]; exact hs)
        rw [hdec, hg, hd]
        have ih := idx_iff p hp s f (pos + 1) (by omega)
        split
        · rename_i hpp
          exact ⟨fun _ => ⟨s[pos], List.mem_cons_self .., hpp⟩, fun _ => by omega⟩
        · rename_i hpp
          rw [ih]
          constructor
          · rintro ⟨b, hb, hpb⟩; exact ⟨b, List.mem_cons_of_mem _ hb, hpb⟩
          · rintro ⟨b, hb, hpb⟩
            rcases List.mem_cons.1 hb with rfl | hb
            · exact absurd hpb hpp
            · exact ⟨b, hb, hpb⟩
      · have hdec := decode_great ⟨s.toArray⟩ pos (by rw [hg]; exact hs)
        rw [if_pos (hp _ hdec), hd]
        exact ⟨fun _ => ⟨s[pos], List.mem_cons_self .., hp _ (by omega)⟩, fun _ => by omega⟩
    · rename_i hlt
      constructor
      · intro h; omega
      · rintro ⟨b, hb, _⟩
        rw [List.drop_eq_nil_of_le (by omega)] at hb
        cases hb

theorem idx_any (p : Nat → Bool) (hp : ∀ r, 128 ≤ r → p r = true) (s : List UInt8) : decide (0 ≤ Lib.idxFunc p true ⟨s.toArray⟩) = s.any fun b => p b.toNat := by
  have h := idx_iff p hp s s.length 0 (by omega)
  have hsz : (⟨s.toArray⟩ : ByteArray).size = s.length := by simp [ByteArray.size]
  unfold Lib.idxFunc
  rw [hsz, Bool.eq_iff_iff]
  simp only [decide_eq_true_eq, List.any_eq_true]
  simpa using h
end Go.V
namespace Go.V
set_option linter.unusedVariables false
set_option linter.unusedSimpArgs false

def looksOk (ops : Array Oper) (base vk : List Nat) (W : Array Bool) (o : Oper) : Bool :=
  (o.looksAt ops).all fun t => base.contains t || vk.contains t && o.after.any fun e => Region.binds .any e && !W.getD e.on false && (match ops[e.on]? with | some x => x.dst == some t | none => false)

def panOk (ops : Array Oper) (base vk : List Nat) (W : Array Bool) (p : Nat) : Bool :=
  (List.range ops.size).all fun i => match ops[i]? with
    | none => false
    | some o => (o.after.all fun e => !Region.binds .any e || decide (e.on < i)) &&
      (if i = p then W.getD i false && looksOk ops base vk W o && o.guard.isNone
       else if W.getD i false then o.after.any fun e => Region.binds .any e && W.getD e.on false
       else looksOk ops base vk W o && (match o.dst with
        | none => true
        | some t => !base.contains t && (List.range ops.size).all fun j => i == j || W.getD j false || (match ops[j]? with | some x => x.dst != some t | none => true)))

theorem lk_append (a b : List (Nat × AV)) (t : Nat) : lk (a ++ b) t = if t ∈ a.map (·.1) then lk a t else lk b t := by
  induction a with
  | nil => simp
  | cons x a ih =>
    obtain ⟨i, v⟩ := x
    simp only [List.cons_append, lk, List.map_cons, List.mem_cons]
    by_cases h : i = t
    · subst h
      simp
    · have h' : ¬ t = i := fun e => h e.symm
      rw [if_neg h, if_neg h, ih]
      simp only [h', false_or]

def falses (l : Array Bool) : Nat := l.toList.count false

theorem falses_set {l : Array Bool} {i : Nat} (h : l.getD i true = false) : falses (l.setIfInBounds i true) + 1 = falses l := by
  have hlt : i < l.size := by
    rcases Nat.lt_or_ge i l.size with h' | h'
    · exact h'
    · rw [Array.getD_eq_getD_getElem?, Array.getElem?_eq_none h'] at h; simp at h
  have hv : l[i] = false := by
    rw [Array.getD_eq_getD_getElem?, Array.getElem?_eq_getElem hlt] at h
    simpa using h
  unfold falses
  rw [Array.toList_setIfInBounds]
  have : l.toList[i]? = some false := by simp [hlt, hv]
  generalize l.toList = xs at *
  clear h hv hlt
  induction xs generalizing i with
  | nil => simp at this
  | cons x xs ih =>
    cases i with
    | zero =>
      simp at this
      subst this
      simp
    | succ i =>
      simp at this
      have := ih this
      simp only [List.set_cons_succ, List.count_cons]
      omega

variable {P : Program} {G : Gl}

theorem draw_pan {M : List Nat} {ops : Array Oper} {Q : Exit → St → Prop} {nt p : Nat} {base val : List (Nat × AV)} {OS : List AObj → Prop} {o : Oper} {f : FuncId} {args : Array Operand} {ts : Array TypeId}
    (hp : ops[p]? = some o) (ho : o.op = .call ⟨.value (.func f), args, ts⟩) (hg : o.guard = none) (hchk : panOk ops (base.map (·.1)) (val.map (·.1)) (waits ops p) p = true) (hdis : ∀ x ∈ val, x.1 ∉ base.map (·.1))
    (hstep : ∀ i oi, ops[i]? = some oi → (waits ops p).getD i false = false → ∀ os, OS os → Mid P G M ops oi ⟨nt, val ++ base, os⟩ (fun v os' => (∀ t, oi.dst = some t → t ∈ val.map (·.1) → v = lk (val ++ base) t) ∧ OS os'))
    (hpan : ∀ os, OS os → acallP P G (some f) (args.toList.map (ev G (val ++ base))) ts.toList os fun v os' => ∀ sl, (∀ x ∈ base, lk sl x.1 = lk base x.1) → Q (.panic (Pn v)) ⟨nt, sl, os'⟩) {E0 : Env} {objs0 : List AObj} :
    ∀ (fuel : Nat) (listed : Array Bool) (s : St) (E : Env) (a : Act), listed.size = ops.size → falses listed = fuel → (∀ i, (waits ops p).getD i false = true → listed.getD i false = false) → Rep G E s a → s.nt = nt → OS s.objs → Ext E0 objs0 E s.objs →
      (∀ x ∈ base, lk s.slots x.1 = lk base x.1) → (∀ j oj t, ops[j]? = some oj → (waits ops p).getD j false = false → listed.getD j false = true → oj.dst = some t → t ∈ val.map (·.1) → lk s.slots t = lk (val ++ base) t) →
      wpAny P .any ops (RQ P G E0 objs0 Q) fuel listed a E.w := by
  have hall : ∀ i oi, ops[i]? = some oi → (∀ e ∈ oi.after, Region.binds .any e = true → e.on < i) ∧ (if i = p then (waits ops p).getD i false = true ∧ looksOk ops (base.map (·.1)) (val.map (·.1)) (waits ops p) oi = true
      else if (waits ops p).getD i false = true then ∃ e ∈ oi.after, Region.binds .any e = true ∧ (waits ops p).getD e.on false = true
      else looksOk ops (base.map (·.1)) (val.map (·.1)) (waits ops p) oi = true ∧ ∀ t, oi.dst = some t → t ∉ base.map (·.1) ∧ ∀ j oj, ops[j]? = some oj → j ≠ i → (waits ops p).getD j false = false → oj.dst ≠ some t) := by
    intro i oi hi
    have hlt : i < ops.size := get_lt hi
    have h := List.all_eq_true.1 hchk i (List.mem_range.2 hlt)
    rw [hi] at h
    simp only [Bool.and_eq_true, Array.all_eq_true', Bool.or_eq_true, Bool.not_eq_true', decide_eq_true_eq] at h
    refine ⟨fun e he hb => (h.1 e he).resolve_left (by simp [hb]), ?_⟩
    have h2 := h.2
    by_cases hip : i = p
    · rw [if_pos hip] at h2 ⊢
      simp only [Bool.and_eq_true] at h2
      exact ⟨h2.1.1, h2.1.2⟩
    · rw [if_neg hip] at h2 ⊢
      by_cases hw : (waits ops p).getD i false = true
      · rw [if_pos hw] at h2 ⊢
        rw [Array.any_eq_true'] at h2
        obtain ⟨e, he, h2⟩ := h2
        simp only [Bool.and_eq_true] at h2
        exact ⟨e, he, h2.1, h2.2⟩
      · rw [if_neg hw] at h2 ⊢
        simp only [Bool.and_eq_true] at h2
        refine ⟨h2.1, fun t ht => ?_⟩
        have h3 := h2.2
        rw [ht] at h3
        simp only [Bool.and_eq_true, Bool.not_eq_true', List.all_eq_true, List.mem_range, Bool.or_eq_true, beq_iff_eq] at h3
        refine ⟨fun hm => ?_, fun j oj hj hne hwj he => ?_⟩
        · have := h3.1
          rw [List.contains_iff_mem.2 hm] at this
          cases this
        · have := h3.2 j (get_lt hj)
          rw [hj, hwj] at this
          simp only [he] at this
          simp at this
          exact hne this.symm
  -- what an operation that is ready looks at
  have looks : ∀ (oi : Oper) (listed : Array Bool) (s : St), looksOk ops (base.map (·.1)) (val.map (·.1)) (waits ops p) oi = true → (∀ e ∈ oi.after, Region.binds .any e = true → listed.getD e.on false = true) →
      (∀ x ∈ base, lk s.slots x.1 = lk base x.1) → (∀ j oj t, ops[j]? = some oj → (waits ops p).getD j false = false → listed.getD j false = true → oj.dst = some t → t ∈ val.map (·.1) → lk s.slots t = lk (val ++ base) t) →
      ∀ t ∈ oi.looksAt ops, lk s.slots t = lk (val ++ base) t := by
    intro oi listed s hl hr hb hv t ht
    have h := List.all_eq_true.1 hl t ht
    rw [Bool.or_eq_true] at h
    rcases h with h | h
    · have hm : t ∈ base.map (·.1) := List.contains_iff_mem.1 h
      obtain ⟨x, hx, rfl⟩ := List.mem_map.1 hm
      rw [hb x hx, lk_append, if_neg]
      intro hmem
      obtain ⟨y, hy, he⟩ := List.mem_map.1 hmem
      exact hdis y hy (by rw [he]; exact hm)
    · simp only [Array.any_eq_true', Bool.and_eq_true, Bool.not_eq_true'] at h
      obtain ⟨hvk, e, he, ⟨hb1, hw1⟩, hd⟩ := h
      split at hd
      · rename_i x hx
        exact hv e.on x t hx hw1 (hr e he hb1) (by simpa using hd) (List.contains_iff_mem.1 hvk)
      · cases hd
  have notNil : ∀ listed : Array Bool, listed.size = ops.size → (∀ i, (waits ops p).getD i false = true → listed.getD i false = false) → Region.ready .any ops listed ≠ [] := by
    intro listed hsz hw
    have hpl : p < ops.size := get_lt hp
    have hpw : listed.getD p false = false := hw p (by have := (hall p o hp).2; rw [if_pos rfl] at this; exact this.1)
    -- the first that is not listed
    have hex : ∃ i, i < ops.size ∧ listed.getD i false = false := ⟨p, hpl, hpw⟩
    obtain ⟨i, ⟨hi1, hi2⟩, hmin⟩ : ∃ i, (i < ops.size ∧ listed.getD i false = false) ∧ ∀ j, j < i → ¬ (j < ops.size ∧ listed.getD j false = false) := by
      have key : ∀ n, (∃ i, i < n ∧ i < ops.size ∧ listed.getD i false = false) → ∃ i, (i < ops.size ∧ listed.getD i false = false) ∧ ∀ j, j < i → ¬ (j < ops.size ∧ listed.getD j false = false) := by
        intro n
        induction n with
        | zero => rintro ⟨i, h, _⟩; omega
        | succ n ihn =>
          rintro ⟨i, h1, h2⟩
          by_cases hl : ∃ i, i < n ∧ i < ops.size ∧ listed.getD i false = false
          · exact ihn hl
          · refine ⟨i, h2, fun j hj hh => hl ⟨j, by omega, hh⟩⟩
      exact key (p + 1) ⟨p, by omega, hpl, hpw⟩
    have hoi : ops[i]? = some ops[i] := Array.getElem?_eq_getElem hi1
    have hmem : i ∈ Region.ready .any ops listed := by
      rw [mem_ready]
      refine ⟨?_, ops[i], hoi, fun e he hb => ?_⟩
      · have : i < listed.size := by omega
        rw [Array.getD_eq_getD_getElem?, Array.getElem?_eq_getElem this] at hi2 ⊢
        simpa using hi2
      · have hlt := (hall i _ hoi).1 e he hb
        have := hmin e.on hlt
        cases hv : listed.getD e.on false with
        | true => rfl
        | false => exact absurd ⟨by omega, hv⟩ this
    intro hnil
    rw [hnil] at hmem
    cases hmem
  intro fuel
  induction fuel with
  | zero =>
    intro listed s E a hsz hfl hw hr hnt hos hx hb hv
    exfalso
    have hpl : p < ops.size := get_lt hp
    have hpw : listed.getD p false = false := hw p (by have := (hall p o hp).2; rw [if_pos rfl] at this; exact this.1)
    have hplt : p < listed.size := by omega
    have : false ∈ listed.toList := by
      rw [Array.getD_eq_getD_getElem?, Array.getElem?_eq_getElem hplt] at hpw
      have e : listed[p] = false := by simpa using hpw
      rw [← e]
      simp
    have := List.count_pos_iff.2 this
    unfold falses at hfl
    omega
  | succ fuel ih =>
    intro listed s E a hsz hfl hw hr hnt hos hx hb hv
    refine ⟨fun hnil => absurd hnil (notNil listed hsz hw), fun i hi => ?_⟩
    obtain ⟨hun, oi, hoi, hdep⟩ := mem_ready.1 hi
    have hunf : listed.getD i false = false := by
      have : i < listed.size := by rw [hsz]; exact get_lt hoi
      rw [Array.getD_eq_getD_getElem?, Array.getElem?_eq_getElem this] at hun ⊢
      simpa using hun
    have hc := (hall i oi hoi).2
    by_cases hip : i = p
    · subst hip
      rw [hp] at hoi
      injection hoi with hoi
      subst hoi
      rw [if_pos rfl] at hc
      have hl := looks o listed s hc.2 hdep hb hv
      unfold wpOp
      rw [hp]
      simp only
      rw [if_pos (by simp [Region.wanted, hg])]
      refine .inl ?_
      have hargs : args.toList.map (ev G s.slots) = args.toList.map (ev G (val ++ base)) := List.map_congr_left fun x hxm => by
        refine ev_congr fun t ht => hl t ?_
        refine mem_looks ?_
        rw [ho]
        subst ht
        simp only [Op.operands, Call.operands]
        simp only [Array.mem_def]
        simp
        simpa using hxm
      refine wp_calldie (Q := Q) ho hg hr hx ?_
      rw [hargs]
      have := hpan s.objs hos
      unfold acallP at this ⊢
      obtain ⟨hs, b, C, as', Q', h1, h2, h3, h4, h5⟩ := this
      refine ⟨hs, b, C, as', Q', h1, h2, h3, h4, fun r os hq => ?_⟩
      obtain ⟨q1, v, q2, q3⟩ := h5 r os hq
      exact ⟨q1, v, q2, by rw [hnt]; exact q3 s.slots hb⟩
    · rw [if_neg hip] at hc
      by_cases hwi : (waits ops p).getD i false = true
      · rw [if_pos hwi] at hc
        obtain ⟨e, he, hb1, hw1⟩ := hc
        have h1 := hdep e he hb1
        rw [hw e.on hw1] at h1
        cases h1
      · rw [if_neg hwi] at hc
        have hwf : (waits ops p).getD i false = false := by simpa using hwi
        obtain ⟨hl0, hdst⟩ := hc
        have hl := looks oi listed s hl0 hdep hb hv
        have hm := hstep i oi hoi hwf s.objs hos
        have hm2 : Mid P G M ops oi s (fun v os' => (∀ t, oi.dst = some t → t ∈ val.map (·.1) → v = lk (val ++ base) t) ∧ OS os') := Mid_congr (st := ⟨nt, val ++ base, s.objs⟩) hnt.symm rfl (fun t ht => (hl t ht).symm) hm
        refine aOp_sound (M := M) (K := fun s' => ∃ v os', s' = s.put oi.dst v os' ∧ (∀ t, oi.dst = some t → t ∈ val.map (·.1) → v = lk (val ++ base) t) ∧ OS os') hr ?_ ?_
        · rintro s' E' a' ⟨v, os', rfl, hv1, ho1⟩ hr' hx'
          refine ih (listed.setIfInBounds i true) (s.put oi.dst v os') E' a' (by simpa using hsz) ?_ ?_ hr' (by rw [put_nt]; exact hnt) (by rw [put_objs]; exact ho1) (hx.trans hx') ?_ ?_
          · have := falses_set hun
            omega
          · intro k hk
            have hki : k ≠ i := fun e => by rw [e, hwf] at hk; cases hk
            have := hw k hk
            rw [Array.getD_eq_getD_getElem?, Array.getElem?_setIfInBounds, if_neg (Ne.symm hki), ← Array.getD_eq_getD_getElem?]
            exact this
          · intro x hxb
            rw [put_lk _ _ _ _ _ fun e he => ?_]
            · exact hb x hxb
            · intro heq
              subst heq
              exact (hdst x.1 he).1 (List.mem_map.2 ⟨x, hxb, rfl⟩)
          · intro j oj t hj hwj hlj hdj hvk
            by_cases hji : j = i
            · subst hji
              rw [hoi] at hj
              injection hj with hj
              subst hj
              rw [hdj]
              simp only [St.put, lk, if_true]
              exact hv1 t hdj hvk
            · have hlj' : listed.getD j false = true := by
                rw [Array.getD_eq_getD_getElem?, Array.getElem?_setIfInBounds, if_neg (Ne.symm hji), ← Array.getD_eq_getD_getElem?] at hlj
                exact hlj
              rw [put_lk _ _ _ _ _ fun e he => ?_]
              · exact hv j oj t hj hwj hlj' hdj hvk
              · intro heq
                subst heq
                exact (hdst e he).2 j oj hj hji hwj hdj
        · unfold aOp
          rw [hoi]
          exact Mid_mono (fun v os' h => ⟨v, os', rfl, h⟩) hm2

theorem awp_draw_pan0 {l : List Oper} {M : List Nat} {Q : Exit → St → Prop} {nt id : Nat} {base : List (Nat × AV)} {os : List AObj} (p : Nat) (val : List (Nat × AV)) (OS : List AObj → Prop) {o : Oper} {f : FuncId} {args : Array Operand} {ts : Array TypeId} (hm : P.follows .mixedOrders = true)
    (hp : l.toArray[p]? = some o) (ho : o.op = .call ⟨.value (.func f), args, ts⟩) (hg : o.guard = none) (hchk : panOk l.toArray (base.map (·.1)) (val.map (·.1)) (waits l.toArray p) p = true) (hdis : ∀ x ∈ val, x.1 ∉ base.map (·.1)) (hos : OS os)
    (hstep : ∀ i oi, l.toArray[i]? = some oi → (waits l.toArray p).getD i false = false → ∀ os, OS os → Mid P G M l.toArray oi ⟨nt, val ++ base, os⟩ (fun v os' => (∀ t, oi.dst = some t → t ∈ val.map (·.1) → v = lk (val ++ base) t) ∧ OS os'))
    (hpan : ∀ os, OS os → acallP P G (some f) (args.toList.map (ev G (val ++ base))) ts.toList os fun v os' => ∀ sl, (∀ x ∈ base, lk sl x.1 = lk base x.1) → Q (.panic (Pn v)) ⟨nt, sl, os'⟩) :
    awp P G (.region id l.toArray true) ⟨nt, base, os⟩ Q := fun E a hr => by
  refine wp_region_any hm ?_
  have hsz : (Array.replicate l.toArray.size false).size = l.toArray.size := by simp
  have hfl : falses (Array.replicate l.toArray.size false) = l.toArray.size := by simp [falses]
  have h := draw_pan (P := P) (G := G) (M := M) (Q := Q) hp ho hg hchk hdis hstep hpan (E0 := E) (objs0 := os) l.toArray.size (Array.replicate l.toArray.size false) ⟨nt, base, os⟩ E.drew a hsz hfl
    (fun i _ => by rw [Array.getD_eq_getD_getElem?]; rw [Array.getElem?_replicate]; split <;> rfl) hr.drew rfl hos drew_ext (fun _ _ => rfl)
    (fun j oj t _ _ hlj _ _ => by
      rw [Array.getD_eq_getD_getElem?, Array.getElem?_replicate] at hlj
      split at hlj <;> cases hlj)
  exact h
theorem awp_draw_pan {l : List Oper} {M : List Nat} {Q : Exit → St → Prop} {nt id : Nat} {base : List (Nat × AV)} {os : List AObj} (p : Nat) (W : Array Bool) (val : List (Nat × AV)) (OS : List AObj → Prop) {o : Oper} {f : FuncId} {args : Array Operand} {ts : Array TypeId} (hm : P.follows .mixedOrders = true)
    (hp : l.toArray[p]? = some o) (ho : o.op = .call ⟨.value (.func f), args, ts⟩) (hg : o.guard = none) (hW : waits l.toArray p = W) (hchk : panOk l.toArray (base.map (·.1)) (val.map (·.1)) W p = true) (hdis : ∀ x ∈ val, x.1 ∉ base.map (·.1)) (hos : OS os)
    (hstep : ∀ i oi, l[i]? = some oi → W.getD i false = false → ∀ os, OS os → aopsK P G M l.toArray [oi] ⟨nt, val ++ base, os⟩ (fun s => (∀ t, oi.dst = some t → t ∈ val.map (·.1) → lk s.slots t = lk (val ++ base) t) ∧ OS s.objs))
    (hpan : ∀ os, OS os → acallP P G (some f) (args.toList.map (ev G (val ++ base))) ts.toList os fun v os' => ∀ sl, (∀ x ∈ base, lk sl x.1 = lk base x.1) → Q (.panic (Pn v)) ⟨nt, sl, os'⟩) :
    awp P G (.region id l.toArray true) ⟨nt, base, os⟩ Q := by
  subst hW
  refine awp_draw_pan0 (M := M) p val OS hm hp ho hg hchk hdis hos (fun i oi hi hw os' ho' => ?_) hpan
  have h := hstep i oi (by simpa using hi) hw os' ho'
  rw [aopsK_cons] at h
  refine Mid_mono (fun v os2 h2 => ?_) h
  have h3 : (∀ t, oi.dst = some t → t ∈ val.map (·.1) → lk ((⟨nt, val ++ base, os'⟩ : St).put oi.dst v os2).slots t = lk (val ++ base) t) ∧ OS ((⟨nt, val ++ base, os'⟩ : St).put oi.dst v os2).objs := h2
  refine ⟨fun t ht hv => ?_, by simpa [put_objs] using h3.2⟩
  have h4 := h3.1 t ht hv
  rw [ht] at h4
  simpa [St.put, lk] using h4

theorem acallP_range {P : Program} {G : Gl} {f : FuncId} {as_ as' : List AV} {objs rest os : List AObj} {k : Value → List AObj → Prop} {v : Value} {C : Prop} (ts : List TypeId) (href : ∀ o ∈ objs, refO (fun r => decide (r < objs.length)) o = true)
    (hv : gviews P (objs ++ rest) (List.range objs.length) ts as_ = some (C, false, as')) (hC : C) (hc : APan P G f as' objs (fun r o => o = os ∧ r = .val v)) (hos : os.length = objs.length)
    (hor : ∀ o ∈ os, refO (fun r => decide (r < objs.length)) o = true) (hk : k v (os ++ rest)) : acallP P G (some f) as_ ts (objs ++ rest) k := by
  have href' : ∀ i, i < objs.length → refO (fun r => decide (r < objs.length)) ((objs ++ rest).getD i .dead) = true := fun i hi => by
    rw [List.getD_eq_getElem?_getD, List.getElem?_append_left hi, List.getElem?_eq_getElem hi]
    exact href _ (List.getElem_mem hi)
  have hcont : (fun r => (List.range objs.length).contains r) = fun r => decide (r < objs.length) := by funext r; simp
  have hσ : ∀ r, decide (r < objs.length) = true → σn (objs ++ rest) (List.range objs.length) r = r := fun r hr => by
    have hr' : r < objs.length := by simpa using hr
    unfold σn
    rw [if_pos (by simpa using hr'), List.getD_eq_getElem?_getD, List.getElem?_range hr']
    rfl
  refine acallP_all (v := v) (os' := os) (List.range objs.length) false ⟨List.nodup_range, fun i hi => ?_, fun i hi => ?_⟩ hv hC ?_ ⟨?_, ?_, ?_, fun h => by cases h⟩ ?_
  · have := List.mem_range.1 hi; rw [List.length_append]; omega
  · rw [hcont]; exact href' i (List.mem_range.1 hi)
  · rw [GHd_range (by rw [List.length_append]; omega) href', List.take_left]; exact hc
  · simp [hos]
  · rw [hos]; exact hor
  · rfl
  · have e1 : os.map (renO (σn (objs ++ rest) (List.range objs.length))) = os := by
      conv => rhs; rw [← List.map_id os]
      exact List.map_congr_left fun o ho => renO_id hσ o (hor o ho)
    have e2 : GBack (objs ++ rest) (List.range objs.length) os = os ++ rest := by
      unfold GBack
      rw [e1, setAll_range _ _ _ hos, List.drop_eq_nil_of_le (by simp [hos]), List.append_nil]
    rw [e2]
    exact hk
end Go.V
