/-
  VALUE LOGIC, part y: a function that is handed objects, or hands back new ones.
-/
import Derived.Test.YtjdlgbkpdfaloaaDoorVw
namespace Go.V
set_option linter.unusedVariables false
set_option linter.unusedSimpArgs false

/-- A value as it goes out, where the objects 'is' go out with it. -/
def outv (is : List Nat) : AV → Option AV
  | .ptr r off => if is.contains r then some (.ptr (is.idxOf r) off) else none
  | .sl m cells (.tok r) => if is.contains r = true ∧ norefs cells = true then some (.sl m cells (.tok (is.idxOf r))) else none
  | a => if noref a = true then some a else none

theorem outv_sound {E E2 : Env} {is : List Nat} (hw : E2.w = E.w) (hl : E2.lim = E.lim) (hk : E2.k = is.length) (hρ : ∀ i, i < is.length → E2.ρ i = E.ρ (is.getD i 0)) {a a' : AV} {v : Value} (h : outv is a = some a') (hr : RepV E a v) : RepV E2 a' v := by
  have at' : ∀ r, is.contains r = true → is.idxOf r < E2.k ∧ E2.ρ (is.idxOf r) = E.ρ r := fun r hc => by
    have hm : r ∈ is := by simpa using hc
    have hlt := List.idxOf_lt_length_iff.2 hm
    refine ⟨by rw [hk]; exact hlt, ?_⟩
    rw [hρ _ hlt, List.getD_eq_getElem?_getD, List.getElem?_eq_getElem hlt]
    simp
  unfold outv at h
  split at h
  · rename_i r off
    split at h
    case isFalse => cases h
    rename_i hc
    injection h with h
    subst h
    simp only [RepV] at hr ⊢
    obtain ⟨_, g, hg, hv⟩ := hr
    exact ⟨(at' r hc).1, g, by rw [(at' r hc).2]; exact hg, hv⟩
  · rename_i m cells r
    split at h
    case isFalse => cases h
    rename_i hc
    injection h with h
    subst h
    simp only [RepV] at hr ⊢
    obtain ⟨A, cap, hv, hn, hcs, hp⟩ := hr
    refine ⟨A, cap, hv, hn, ?_, ?_⟩
    · rcases hcs with e | ⟨g, o, hA, hg, ho, hat⟩
      · exact .inl e
      · exact .inr ⟨g, o, hA, by rw [hw]; exact hg, by rw [hl]; exact ho, norefsAt_move (E := E) (E' := E2) hw (fun g _ => by rw [hl]; exact Nat.le_refl _) g cells o hc.2 hat⟩
    · obtain ⟨_, A', m', c, e, hle, heq⟩ := hp
      exact ⟨(at' r hc.1).1, A', m', c, by rw [(at' r hc.1).2]; exact e, hle, fun hm => by rw [(at' r hc.1).2]; exact heq hm⟩
  · split at h
    case isFalse => cases h
    rename_i hn
    injection h with h
    subst h
    exact noref_move (E := E) (E' := E2) hw (fun g _ => by rw [hl]; exact Nat.le_refl _) _ _ hn hr

/-- What a function hands back, where the objects 'is' go out with it: a flat value, or what lies in a slot. -/
def resH (P : Program) (ts : List TypeId) (rvs : List ResultVar) (is : List Nat) (st : St) (r : AV) : Prop :=
  (∃ C, ares P ts rvs st = some (C, r) ∧ C ∧ flat r = true) ∨ (∃ x, rvs = [.tmp x] ∧ outv is (lk st.slots x) = some r)

/-- The end of a function that hands back objects. -/
def FinH (P : Program) (ts : List TypeId) (rvs : List ResultVar) (n0 : Nat) (Q : AV → List AObj → Prop) : Exit → St → Prop
  | e, st => (e = .normal ∨ e = .ret) ∧ ∃ (is : List Nat) (os : List AObj) (r : AV), n0 ≤ is.length ∧ (∀ i, i < n0 → is.getD i 0 = i) ∧ (∀ i j, i < is.length → j < is.length → is.getD i 0 = is.getD j 0 → i = j) ∧ os.length = is.length ∧
      (∀ i, i < is.length → st.objs[is.getD i 0]? = os[i]?) ∧ (∀ o ∈ os, objOk o = true) ∧ resH P ts rvs is st r ∧ Q r os

theorem acallsH_of_awp {P : Program} {G : List (Nat × List AV)} {f : FuncId} {fn : Func} {c : Code} {args : List AV} {outs : List AObj} {Q : AV → List AObj → Prop} (hf : P.funcs[f]? = some fn) (hb : fn.body = some c) (hn : (fn.name == "runtime.NumGoroutine") = false)
    {nt : Nat} {rts : Array TypeId} {rvs : Array ResultVar} (hnt : fn.ntmps = nt) (hrt : fn.resultTypes = rts) (hrv : fn.results = rvs) (hle : args.length ≤ nt)
    (h : awp P G c ⟨nt, argSlots 0 args, outs⟩ (FinH P rts.toList rvs.toList outs.length Q)) : ACalls P G f args outs Q := by
  subst hnt hrt hrv
  refine ⟨⟨fn, hf, by simp [hb], hn⟩, fun E vs hl ho hG => ?_⟩
  refine calls_of_wp hf hb ?_
  have hlen := hl.length
  have hrep : Rep G E ⟨fn.ntmps, argSlots 0 args, outs⟩ { tmps := vs.toArray ++ Array.replicate (fn.ntmps - vs.toArray.size) undef, defers := [] } := by
    refine ⟨by simp; omega, fun i => ?_, rfl, ho, hG⟩
    have := lk_argSlots E args vs 0 i hl
    simp only [Nat.zero_le, if_true, Nat.sub_zero] at this
    have e : (vs.toArray ++ Array.replicate (fn.ntmps - vs.toArray.size) undef).getD i undef = (vs[i]?).getD undef := by
      rw [Array.getD_eq_getD_getElem?, Array.getElem?_append]
      split
      · simp
      · rename_i hge
        have : vs.length ≤ i := by simpa using hge
        rw [List.getElem?_eq_none this]
        simp only [Array.getElem?_replicate]
        split <;> rfl
    rw [e]
    exact this
  refine wp_mono (h E _ hrep) ?_
  rintro e a' w' ⟨st', E', rfl, ⟨he, is, os, r, hn0, hid, hinj, hol, hos, hok, hres, hq⟩, hr', hx'⟩
  obtain ⟨hk', hobj', hdis'⟩ := hr'.objs
  let E2 : Env := { w := E'.w, lim := E'.lim, k := is.length, ρ := fun i => E'.ρ (is.getD i 0) }
  have hro : ∀ i o, os[i]? = some o → i < is.length ∧ st'.objs[is.getD i 0]? = some o := fun i o hi => by
    have hlt : i < is.length := by rw [← hol]; exact (List.getElem?_eq_some_iff.1 hi).1
    exact ⟨hlt, (hos i hlt).trans hi⟩
  have ho2 : ObjsRep E2 os := by
    refine ⟨hol.symm, fun i o hi => ?_, fun i j o o' g hi hj b1 b2 => ?_⟩
    · exact ObjRep.move (E := E') (E' := E2) rfl rfl (hok o (List.mem_of_getElem? hi)) (hobj' _ o (hro i o hi).2)
    · exact hinj i j (hro i o hi).1 (hro j o' hj).1 (hdis' _ _ o o' g (hro i o hi).2 (hro j o' hj).2 b1 b2)
  have hx2 : Ext E outs E2 os := by
    refine { size := hx'.size, lim := hx'.lim, cell := hx'.cell, k := by rw [ho.1]; exact hn0, ρ := fun i hi => ?_, os := hx'.os, tape := hx'.tape, output := hx'.output, frame := hx'.frame, own := fun g hw hg => ?_ }
    · show RefLe (E.ρ i) (E'.ρ (is.getD i 0))
      rw [ho.1] at hi
      rw [hid i hi]
      exact hx'.ρ i (by rw [ho.1]; exact hi)
    · obtain ⟨i, o, hi, hb'⟩ := hw
      exact hx'.own g ⟨_, o, (hro i o hi).2, hb'⟩ hg
  obtain ⟨u, hu, hrun⟩ : ∃ u, RepV E2 r u ∧ (results fn a'.tmps).run P E'.w = .ok u E'.w := by
    rcases hres with ⟨C, h1, hC, hflat⟩ | ⟨x, hx, ho'⟩
    · obtain ⟨u, hu, hrun⟩ := ares_sound (P := P) hr' h1 hC
      exact ⟨u, flat_move r u hflat hu, hrun⟩
    · refine ⟨a'.tmps.getD x undef, outv_sound (E := E') (E2 := E2) rfl rfl rfl (fun i _ => rfl) ho' (hr'.slots x), ?_⟩
      have e : fn.results = #[.tmp x] := by
        apply Array.ext'
        rw [hx]
      have hm : ((#[ResultVar.tmp x] : Array ResultVar).mapM (m := Sem) (rvSem a'.tmps)).run P E'.w = .ok #[a'.tmps.getD x undef] E'.w := by
        rw [Array.mapM_eq_mapM_toList]
        simp only [Sem.run_map]
        rfl
      rw [results_eq, e]
      simp only [Sem.run_bind]
      rw [hm]
      simp
  have hfin : ∃ E2 v r' outs', E2.w = E'.w ∧ Ending.returned u = .returned v ∧ Q r' outs' ∧ RepV E2 r' v ∧ ObjsRep E2 outs' ∧ Ext E outs E2 outs' := ⟨E2, u, r, os, rfl, rfl, hq, hu, ho2, hx2⟩
  rcases he with rfl | rfl
  · exact ⟨hr'.defers, u, hrun, hfin⟩
  · exact ⟨hr'.defers, u, hrun, hfin⟩

/-- The end of a function that hands back a slice that may grow. -/
theorem FinH_tok {P : Program} {ts : List TypeId} {Q : AV → List AObj → Prop} {nt : Nat} {s : List (Nat × AV)} {os : List AObj} (x i sz : Nat) {n : Nat} {cells : List AV} (h : lk s x = .sl n cells (.tok i)) (ho : os[i]? = some (.tok sz n)) (hn : norefs cells = true)
    (hq : Q (.sl n cells (.tok 0)) [.tok sz n]) : FinH P ts [.tmp x] 0 Q .ret ⟨nt, s, os⟩ :=
  ⟨.inr rfl, [i], [.tok sz n], _, Nat.zero_le _, fun j h => absurd h (Nat.not_lt_zero j), fun a b ha hb _ => by simp at ha hb; omega, rfl, fun j hj => by
    have : j = 0 := by simpa using hj
    subst this
    exact ho, fun o ho => by simp at ho; subst ho; rfl, .inr ⟨x, rfl, by simp [h, outv, hn]⟩, hq⟩
/-- The end of a function that hands back a pointer to an object that it made. -/
theorem FinH_ptr {P : Program} {ts : List TypeId} {Q : AV → List AObj → Prop} {nt : Nat} {s : List (Nat × AV)} {os : List AObj} (x i off : Nat) {y : AObj} (h : lk s x = .ptr i off) (ho : os[i]? = some y) (hn : objOk y = true)
    (hq : Q (.ptr 0 off) [y]) : FinH P ts [.tmp x] 0 Q .ret ⟨nt, s, os⟩ :=
  ⟨.inr rfl, [i], [y], _, Nat.zero_le _, fun j h => absurd h (Nat.not_lt_zero j), fun a b ha hb _ => by simp at ha hb; omega, rfl, fun j hj => by
    have : j = 0 := by simpa using hj
    subst this
    exact ho, fun o ho => by simp at ho; subst ho; exact hn, .inr ⟨x, rfl, by simp [h, outv]⟩, hq⟩
/-- The end of a function that was handed one object, and hands back a flat value. -/
theorem FinH_one {P : Program} {ts : List TypeId} {rvs : List ResultVar} {Q : AV → List AObj → Prop} {e : Exit} {nt : Nat} {s : List (Nat × AV)} {os : List AObj} {y : AObj} {C : Prop} {r : AV} (he : e = .normal ∨ e = .ret) (ho : os[0]? = some y) (hn : objOk y = true)
    (hr : ares P ts rvs ⟨nt, s, os⟩ = some (C, r)) (hC : C) (hf : flat r = true) (hq : Q r [y]) : FinH P ts rvs 1 Q e ⟨nt, s, os⟩ :=
  ⟨he, [0], [y], r, Nat.le_refl _, fun j hj => by
    have : j = 0 := by omega
    subst this
    rfl, fun a b ha hb _ => by simp at ha hb; omega, rfl, fun j hj => by
    have : j = 0 := by simpa using hj
    subst this
    exact ho, fun o ho => by simp at ho; subst ho; exact hn, .inl ⟨C, hr, hC, hf⟩, hq⟩

/-- A marked call that hands back a slice that may grow. -/
theorem andH_tok {P : Program} {G : List (Nat × List AV)} {f : FuncId} {as as' : List AV} {objs : List AObj} {k : AV → List AObj → Prop} {n sz : Nat} {cells : List AV} (hv : hviews none as = some as') (h : ACalls P G f as' [] (fun r o => o = [.tok sz n] ∧ r = .sl n cells (.tok 0))) (hn : norefs cells = true)
    (hk : k (.sl n cells (.tok objs.length)) (objs ++ [.tok sz n])) : andH P G (some f) as objs k :=
  andH_new hv h (fun o ho => by simp at ho; subst ho; rfl) (by simp [hres, hn]) hk
/-- A marked call that hands back a pointer to a new object. -/
theorem andH_ptr {P : Program} {G : List (Nat × List AV)} {f : FuncId} {as as' : List AV} {objs : List AObj} {k : AV → List AObj → Prop} {off : Nat} {y : AObj} (hv : hviews none as = some as') (h : ACalls P G f as' [] (fun r o => o = [y] ∧ r = .ptr 0 off)) (hn : objOk y = true)
    (hk : k (.ptr objs.length off) (objs ++ [y])) : andH P G (some f) as objs k :=
  andH_new hv h (fun o ho => by simp at ho; subst ho; exact hn) (by simp [hres]) hk
end Go.V
