/-
  Texts of one proof, merged: Vl, Vm, Vn, Vo, Vp, Pp, Pk, Pw, Px, Pc, Pd, Pe, Pq0, Pq1, Pq2, Pq3, Pq4, Pq5, Pq6, Pq7, Pr, Ps.
-/
import Derived.Test.YtjdlgbkpdfaloaaDoorBS0
import Derived.Orders
import Derived.Below
import Derived.Laws.BitsLemmas
import Derived.Laws.Strings
import Derived.KernelRfl
/-
  VALUE LOGIC, part l: rows of operations, regions, what a function comes to.
-/
namespace Go.V
set_option linter.unusedVariables false
set_option linter.unusedSimpArgs false

def St.put (st : St) (d : Option Tmp) (v : AV) (objs : List AObj) : St :=
  match d with
  | some d => ⟨st.nt, (d, v) :: st.slots, objs⟩
  | none => ⟨st.nt, st.slots, objs⟩

def dOk (st : St) : Option Tmp → Prop
  | some d => d < st.nt
  | none => True

theorem Rep.put {G : List (Nat × List AV)} {E E' : Env} {st : St} {a : Act} (hr : Rep G E st a) {objs' : List AObj} (hx : Ext E st.objs E' objs') (ho : ObjsRep E' objs') {d : Option Tmp} {v : AV} {u : Value} (hv : RepV E' v u) (hd : dOk st d) :
    Rep G E' (st.put d v objs') (a.put d u) := by
  cases d with
  | none => exact ⟨hr.size, fun i => RepV.mono hx.toExt0 _ _ (hr.slots i), hr.defers, ho, hr.glob.mono hx.toExt0⟩
  | some d =>
    refine ⟨by simpa [St.put, Act.put] using hr.size, fun i => ?_, hr.defers, ho, hr.glob.mono hx.toExt0⟩
    simp only [St.put, Act.put, lk]
    split
    · rename_i e
      subst e
      have hlt : d < a.tmps.size := by rw [hr.size]; exact hd
      simp only [Array.getD_eq_getD_getElem?, Array.getElem?_setIfInBounds, if_true, hlt, Option.getD_some]
      exact hv
    · rename_i e
      have : (a.tmps.setIfInBounds d u).getD i undef = a.tmps.getD i undef := by
        simp only [Array.getD_eq_getD_getElem?, Array.getElem?_setIfInBounds]
        rw [if_neg e]
      rw [this]
      exact RepV.mono hx.toExt0 _ _ (hr.slots i)

/-- The slot that an operation's guard asks. -/
def gslot (ops : Array Oper) (j : Nat) : Option Tmp := (ops[j]?).bind (·.dst)

/-- A call of a function that is handed no object. -/
def afun : AV → Option FuncId
  | .val (.func (.func f) a b) => if a.size = 0 ∧ b.size = 0 then some f else none
  | _ => none

def acall (P : Program) (G : List (Nat × List AV)) (f : Option FuncId) (vw : Option (Prop × Bool × List AV)) (K : AV → Prop) : Prop :=
  match f, vw with
  | some f, some (C, b, as) => C ∧ ∃ Q, ACalls P G f as [] Q ∧ (∃ r, Q r []) ∧ ∀ r os, Q r os → os = [] ∧ (if b then flat r else noref r) = true ∧ K r
  | _, _ => False

/-- What a slot holds that was passed over. -/
def uav : AV := .val (.tuple #[])

/-- Is a guard met? -/
def gdec : AV → Bool → Option Bool
  | .val (.bool true), w => some w
  | .val (.bool false), w => some (!w)
  | .val (.tuple _), _ => some false
  | _, _ => none

theorem gdec_some {a : AV} {w c : Bool} (h : gdec a w = some c) : (∃ b, a = .val (.bool b) ∧ c = (b == w)) ∨ (∃ x, a = .val (.tuple x) ∧ c = false) := by
  unfold gdec at h
  split at h
  · injection h with h; subst h; exact .inl ⟨true, rfl, by cases w <;> rfl⟩
  · injection h with h; subst h; exact .inl ⟨false, rfl, by cases w <;> rfl⟩
  · injection h with h; subst h; exact .inr ⟨_, rfl, rfl⟩
  · cases h

/-- The objects that a call's arguments may lead into: none where the call is marked so. -/
def oview (M : List Nat) (d : Option Tmp) (objs : List AObj) : List AObj := if (d.map (M.contains ·)).getD false then [] else objs

theorem aview_nil {P : Program} {objs : List AObj} {t : TypeId} {a : AV} {x : Prop × Bool × AV} (h : aview P [] t a = some x) : aview P objs t a = some x := by
  unfold aview at *
  cases a <;> simp_all

theorem aviews_nil {P : Program} {objs : List AObj} : ∀ (as : List AV) (ts : List TypeId) (x : Prop × Bool × List AV), aviews P [] ts as = some x → aviews P objs ts as = some x
  | [], ts, x, h => by simpa [aviews] using h
  | a :: as, ts, x, h => by
    unfold aviews at h ⊢
    split at h
    case h_2 => cases h
    rename_i C b a' C' b' as' h1 h2
    rw [aview_nil h1, aviews_nil as _ _ h2]
    exact h

theorem aviews_oview {P : Program} {M : List Nat} {d : Option Tmp} {objs : List AObj} {as : List AV} {ts : List TypeId} {x : Prop × Bool × List AV} (h : aviews P (oview M d objs) ts as = some x) : aviews P objs ts as = some x := by
  unfold oview at h
  split at h
  · exact aviews_nil as ts x h
  · exact h

/-- Is a call marked so that it may be handed an object, or hand back new ones? -/
def htok (M : List Nat) (d : Option Tmp) : Bool := M.contains (match d with | some t => t + 1000000 | none => 999999)

/-- A call that is handed one object, or none, and may hand back new ones. -/
def acallH (P : Program) (G : List (Nat × List AV)) (f : Option FuncId) (as : List AV) (objs : List AObj) (K : AV → List AObj → Prop) : Prop :=
  match f with
  | some f =>
    (∃ as' Q, hviews none as = some as' ∧ ACalls P G f as' [] Q ∧ (∃ r os, Q r os) ∧ ∀ r os, Q r os → (∀ o ∈ os, objOk o = true) ∧ ∃ r', hres (fun i => objs.length + i) os.length r = some r' ∧ K r' (objs ++ os)) ∨
    (∃ h x as' Q, objs[h]? = some x ∧ objOk x = true ∧ hviews (some h) as = some as' ∧ ACalls P G f as' [x] Q ∧ (∃ r os, Q r os) ∧
      ∀ r os, Q r os → (∀ o ∈ os, objOk o = true) ∧ ∃ y os', os = y :: os' ∧ ∃ r', hres (fun i => if i = 0 then h else objs.length + (i - 1)) os.length r = some r' ∧ K r' (objs.set h y ++ os')) ∨
    (∃ hs b C ts as' Q, GAsk objs hs ∧ gviews P objs hs ts as = some (C, b, as') ∧ C ∧ ACalls P G f as' (GHd objs hs) Q ∧ (∃ r os, Q r os) ∧ ∀ r os, Q r os → GRet hs b r os ∧ K (ren (σn objs hs) r) (GBack objs hs os))
  | none => False

theorem acallH_mono {P : Program} {G : List (Nat × List AV)} {f : Option FuncId} {as : List AV} {objs : List AObj} {K K' : AV → List AObj → Prop} (hk : ∀ r os, K r os → K' r os) (h : acallH P G f as objs K) : acallH P G f as objs K' := by
  unfold acallH at *
  cases f with
  | none => exact h
  | some f =>
    rcases h with ⟨as', Q, h1, h2, h3, h4⟩ | ⟨hh, x, as', Q, h0, hx, h1, h2, h3, h4⟩ | ⟨hs, b, C, ts, as', Q, h1, h2, h3, h4, h5, h6⟩
    · exact .inl ⟨as', Q, h1, h2, h3, fun r os hq => ⟨(h4 r os hq).1, by obtain ⟨r', e, k⟩ := (h4 r os hq).2; exact ⟨r', e, hk _ _ k⟩⟩⟩
    · exact .inr (.inl ⟨hh, x, as', Q, h0, hx, h1, h2, h3, fun r os hq => ⟨(h4 r os hq).1, by obtain ⟨y, os', e0, r', e, k⟩ := (h4 r os hq).2; exact ⟨y, os', e0, r', e, hk _ _ k⟩⟩⟩)
    · exact .inr (.inr ⟨hs, b, C, ts, as', Q, h1, h2, h3, h4, h5, fun r os hq => ⟨(h6 r os hq).1, hk _ _ (h6 r os hq).2⟩⟩)
theorem acallH_some {P : Program} {G : List (Nat × List AV)} {f : Option FuncId} {as : List AV} {objs : List AObj} {K : AV → List AObj → Prop} (h : acallH P G f as objs K) : ∃ r os, K r os := by
  unfold acallH at h
  cases f with
  | none => exact h.elim
  | some f =>
    rcases h with ⟨as', Q, h1, h2, ⟨r, os, hq⟩, h4⟩ | ⟨hh, x, as', Q, h0, hx, h1, h2, ⟨r, os, hq⟩, h4⟩ | ⟨hs, b, C, ts, as', Q, h1, h2, h3, h4, ⟨r, os, hq⟩, h6⟩
    · obtain ⟨_, r', _, k⟩ := h4 r os hq
      exact ⟨_, _, k⟩
    · obtain ⟨_, y, os', _, r', _, k⟩ := h4 r os hq
      exact ⟨_, _, k⟩
    · exact ⟨_, _, (h6 r os hq).2⟩

/-- A call, marked or not. -/
def acallM (P : Program) (G : List (Nat × List AV)) (M : List Nat) (d : Option Tmp) (f : Option FuncId) (as : List AV) (ts : List TypeId) (objs : List AObj) (K : AV → List AObj → Prop) : Prop :=
  if htok M d = true then acallH P G f as objs K else acall P G f (aviews P (oview M d objs) ts as) fun r => K r objs

def aopsK (P : Program) (G : List (Nat × List AV)) (M : List Nat) (ops : Array Oper) : List Oper → St → (St → Prop) → Prop
  | [], st, K => K st
  | o :: rest, st, K =>
    let run : Prop := match o.op with
      | .call { callee := .value f, args, argTypes } => dOk st o.dst ∧ acallM P G M o.dst (afun (ev G st.slots f)) (args.toList.map (ev G st.slots)) argTypes.toList st.objs fun r os => aopsK P G M ops rest (st.put o.dst r os) K
      | _ => match aval P ((o.dst.map (M.contains ·)).getD false) (ev G st.slots) st.objs o.op with
        | .ok C v objs' => C ∧ dOk st o.dst ∧ aopsK P G M ops rest (st.put o.dst v objs') K
        | .bad => False
    match o.guard with
    | none => run
    | some (j, want) => match gslot ops j with
      | some t => match gdec (lk st.slots t) want with
        | some c => t < st.nt ∧ (c = true → run) ∧ (c = false → dOk st o.dst ∧ aopsK P G M ops rest (st.put o.dst uav st.objs) K)
        | none => False
      | none => False

/-- What a row of operations comes to is what the state says. -/
def RQ (P : Program) (G : List (Nat × List AV)) (E : Env) (objs : List AObj) (Q : Exit → St → Prop) : Exit → Act → World → Prop :=
  fun e a' w' => ∃ st' E', E'.w = w' ∧ Q e st' ∧ Rep G E' st' a' ∧ Ext E objs E' st'.objs

theorem wpList_mono {P : Program} {ops : Array Oper} {Q Q' : Exit → Act → World → Prop} (hq : ∀ e a w, Q e a w → Q' e a w) : ∀ (l : List Oper) (a : Act) (w : World), wpList P ops Q l a w → wpList P ops Q' l a w
  | [], a, w, h => hq _ _ _ h
  | o :: rest, a, w, h => by
    unfold wpList at h ⊢
    have ih := wpList_mono (P := P) (ops := ops) hq rest
    split
    · rename_i hw
      rw [if_pos hw] at h
      rcases h with h | ⟨h1, a0, w0, h2⟩
      · left
        unfold Oper.wp at h ⊢
        cases hr : (execOp a.eval o).run P w with
        | ok n w' =>
          rw [hr] at h
          cases n <;> simp only [Oper.upon] at h ⊢ <;> first
            | exact ih _ _ h
            | (refine Calls.mono h ?_
               intro e w'' hh
               cases e with
               | returned v => exact ih _ _ hh
               | panicked chain => exact hq _ _ _ hh
               | outgrown => obtain ⟨a1, w1, h1⟩ := hh; exact ⟨a1, w1, hq _ _ _ h1⟩)
            | exact Rows.mono h fun _ _ hh => ih _ _ hh
        | halt x w' =>
          rw [hr] at h
          cases x <;> simp only [Oper.upon] at h ⊢ <;> exact hq _ _ _ h
      · exact .inr ⟨h1, a0, w0, hq _ _ _ h2⟩
    · rename_i hw
      rw [if_neg hw] at h
      exact ih _ _ h

theorem callFunc_run {P : Program} {f : FuncId} {fn : Func} (hf : P.funcs[f]? = some fn) (hb : fn.body.isSome = true) (hn : (fn.name == "runtime.NumGoroutine") = false) (args : Array Value) (w : World) :
    (callFunc f args).run P w = .ok (.enter f args) w := by
  have h1 : ¬ fn.body = none := by cases h : fn.body <;> simp_all
  have h2 : ¬ fn.name = "runtime.NumGoroutine" := by simpa using hn
  simp [callFunc, hf, h1, h2]

theorem aopsK_sound {P : Program} {G : List (Nat × List AV)} {M : List Nat} {ops : Array Oper} {Q : Exit → St → Prop} : ∀ (l : List Oper) (st : St) (E : Env) (a : Act), Rep G E st a → aopsK P G M ops l st (Q .normal) →
    wpList P ops (RQ P G E st.objs Q) l a E.w
  | [], st, E, a, hr, h => ⟨st, E, rfl, h, hr, .refl _ _⟩
  | o :: rest, st, E, a, hr, h => by
    -- the rest, from a later state
    have later : ∀ (st' : St) (E' : Env) (a' : Act), Rep G E' st' a' → Ext E st.objs E' st'.objs → aopsK P G M ops rest st' (Q .normal) → wpList P ops (RQ P G E st.objs Q) rest a' E'.w := fun st' E' a' hr' hx' h' =>
      wpList_mono (fun e a w ⟨s, E2, e1, e2, e3, e4⟩ => ⟨s, E2, e1, e2, e3, hx'.trans e4⟩) rest a' E'.w (aopsK_sound rest st' E' a' hr' h')
    -- the operation is carried out
    have run : (match o.op with
      | .call { callee := .value f, args, argTypes } => dOk st o.dst ∧ acallM P G M o.dst (afun (ev G st.slots f)) (args.toList.map (ev G st.slots)) argTypes.toList st.objs fun r os => aopsK P G M ops rest (st.put o.dst r os) (Q .normal)
      | _ => match aval P ((o.dst.map (M.contains ·)).getD false) (ev G st.slots) st.objs o.op with
        | .ok C v objs' => C ∧ dOk st o.dst ∧ aopsK P G M ops rest (st.put o.dst v objs') (Q .normal)
        | .bad => False) → o.wp P a E.w (wpList P ops (RQ P G E st.objs Q) rest) (RQ P G E st.objs Q) := by
      intro h
      split at h
      · rename_i f args argTypes hop
        obtain ⟨hd, h⟩ := h
        have hargs : RepL E (args.toList.map (ev G st.slots)) (args.map a.eval).toList := by
          rw [Array.toList_map]
          generalize args.toList = l
          induction l with
          | nil => simp [RepL]
          | cons x l ih => simp only [List.map_cons, RepL]; exact ⟨_, _, rfl, ev_sound hr x, ih⟩
        have go : ∀ f', afun (ev G st.slots f) = some f' → (∃ fn, P.funcs[f']? = some fn ∧ fn.body.isSome = true ∧ (fn.name == "runtime.NumGoroutine") = false) → (execOp a.eval o).run P E.w = .ok (.enter f' (args.map a.eval)) E.w := by
          intro f' hf hc1
          have hfv : a.eval f = .func (.func f') #[] #[] := by
            have hfv := ev_sound hr f
            unfold afun at hf
            split at hf
            case h_2 => cases hf
            rename_i f0 a0 b0 e
            rw [e] at hfv
            simp only [RepV] at hfv
            split at hf
            case isFalse => cases hf
            rename_i hab
            injection hf with hf
            subst hf
            have e1 : a0 = #[] := Array.eq_empty_of_size_eq_zero hab.1
            have e2 : b0 = #[] := Array.eq_empty_of_size_eq_zero hab.2
            rw [hfv, e1, e2]
          obtain ⟨fn, hfn, hb, hn⟩ := hc1
          obtain ⟨dst, op, ty, pos, after, guard⟩ := o
          simp only at hop
          subst hop
          simp [execOp, resolve, hfv, Deferred.ofValue, invoke, callFunc_run hfn hb hn]
        unfold acallM at h
        split at h
        · unfold acallH at h
          split at h
          case h_2 => exact h.elim
          rename_i f' hf
          rcases h with ⟨as', Q', hv', hcalls, _, hQ⟩ | ⟨hh, x, as', Q', hx0, hxo, hv', hcalls, _, hQ⟩ | ⟨hs, b, C, ts', as', Q', hask, hv', hC', hcalls, _, hQ⟩
          · unfold Oper.wp
            rw [go f' hf hcalls.1]
            simp only [Oper.upon]
            have hcall := call_new (P := P) (R := fun r os => aopsK P G M ops rest (st.put o.dst r os) (Q Exit.normal)) hr.objs hr.glob hv' hargs hcalls hQ
            rw [show (args.map a.eval).toList.toArray = args.map a.eval from Array.toArray_toList] at hcall
            refine hcall.mono ?_
            rintro e w' ⟨E', v, r', objs', rfl, rfl, hk, hv, ho', hx'⟩
            exact later _ E' _ (hr.put hx' ho' hv hd) (by cases o.dst <;> exact hx') hk
          · unfold Oper.wp
            rw [go f' hf hcalls.1]
            simp only [Oper.upon]
            have hcall := call_one (P := P) (R := fun r os => aopsK P G M ops rest (st.put o.dst r os) (Q Exit.normal)) hr.objs hr.glob hx0 hxo hv' hargs hcalls hQ
            rw [show (args.map a.eval).toList.toArray = args.map a.eval from Array.toArray_toList] at hcall
            refine hcall.mono ?_
            rintro e w' ⟨E', v, r', objs', rfl, rfl, hk, hv, ho', hx'⟩
            exact later _ E' _ (hr.put hx' ho' hv hd) (by cases o.dst <;> exact hx') hk
          · unfold Oper.wp
            rw [go f' hf hcalls.1]
            simp only [Oper.upon]
            have hcall := call_gen (P := P) (R := fun r os => aopsK P G M ops rest (st.put o.dst r os) (Q Exit.normal)) hr.objs hr.glob hask hv' hC' hargs hcalls hQ
            rw [show (args.map a.eval).toList.toArray = args.map a.eval from Array.toArray_toList] at hcall
            refine hcall.mono ?_
            rintro e w' ⟨E', v, r', objs', rfl, rfl, hk, hv, ho', hx'⟩
            exact later _ E' _ (hr.put hx' ho' hv hd) (by cases o.dst <;> exact hx') hk
        · unfold acall at h
          split at h
          case h_2 => exact h.elim
          rename_i f' C b as hf hvw
          obtain ⟨hC, Q', hcalls, _, hQ⟩ := h
          unfold Oper.wp
          rw [go f' hf hcalls.1]
          simp only [Oper.upon]
          have hcall := call_pure (P := P) hr.objs hr.glob (aviews_oview hvw) hC hargs hcalls (fun r os hq => ⟨(hQ r os hq).1, (hQ r os hq).2.1⟩)
          rw [show (args.map a.eval).toList.toArray = args.map a.eval from Array.toArray_toList] at hcall
          refine hcall.mono ?_
          rintro e w' ⟨E', v, r, rfl, rfl, hq, hv, ho', hx'⟩
          exact later _ E' _ (hr.put hx' ho' hv hd) (by cases o.dst <;> exact hx') (hQ r [] hq).2.2
      · split at h
        case h_2 => exact h.elim
        rename_i C v objs' hav
        obtain ⟨hC, hd, h⟩ := h
        obtain ⟨E', u, hrun, hv, ho', hx'⟩ := aval_sound (P := P) (g := a.eval) (fun x => ev_sound hr x) hav hC hr.objs
        unfold Oper.wp
        have hl := later _ E' _ (hr.put hx' ho' hv hd) (by cases o.dst <;> exact hx') h
        rcases hrun with e | ⟨e, rfl⟩
        · rw [e]; exact hl
        · rw [e]; exact hl
    unfold aopsK at h
    simp only at h
    unfold wpList
    split at h
    · rename_i hg
      rw [if_pos (by simp [Region.wanted, hg])]
      exact .inl (run h)
    · rename_i j want hg
      split at h
      case h_2 => exact h.elim
      rename_i t ht
      split at h
      case h_2 => exact h.elim
      rename_i c hc
      obtain ⟨hlt, h1, h2⟩ := h
      have hs := hr.slots t
      have hlt' : t < a.tmps.size := by rw [hr.size]; exact hlt
      have hwant : Region.wanted o (yielded ops a.tmps) = c := by
        simp only [Region.wanted, hg]
        unfold gslot at ht
        simp only [yielded, ht, Option.bind_some]
        rw [Array.getElem?_eq_getElem hlt']
        have e0 : a.tmps.getD t undef = a.tmps[t] := by simp [Array.getD_eq_getD_getElem?, Array.getElem?_eq_getElem hlt']
        rcases gdec_some hc with ⟨b, hb, rfl⟩ | ⟨x, hb, rfl⟩
        · rw [hb] at hs
          simp only [RepV] at hs
          rw [← e0, hs]
          cases b <;> cases want <;> rfl
        · rw [hb] at hs
          simp only [RepV] at hs
          rw [← e0, hs]
          rfl
      rw [hwant]
      cases c with
      | true =>
        rw [if_pos rfl]
        exact .inl (run (h1 rfl))
      | false =>
        rw [if_neg (by simp)]
        obtain ⟨hd, h⟩ := h2 rfl
        exact later _ E _ (hr.put (.refl _ _) hr.objs (by simp only [uav, RepV]; rfl) hd) (by cases o.dst <;> exact .refl _ _) h

section
variable {P : Program} {G : List (Nat × List AV)} {st : St} {Q : Exit → St → Prop}

theorem awp_region (M : List Nat) {id : Nat} {l : List Oper} (h : aopsK P G M l.toArray l st (Q .normal)) : awp P G (.region id l.toArray false) st Q := fun E a hr =>
  wp_region_lit (aopsK_sound l st E a hr h)
end

/-- A function's arguments in its first temporaries. -/
def argSlots : Nat → List AV → List (Nat × AV)
  | _, [] => []
  | i, a :: as => (i, a) :: argSlots (i + 1) as

theorem lk_argSlots (E : Env) : ∀ (args : List AV) (vs : List Value) (i j : Nat), RepL E args vs → RepV E (lk (argSlots i args) j) (if i ≤ j then (vs[j - i]?).getD undef else undef)
  | [], vs, i, j, h => by simp only [argSlots, lk, RepV]
  | a :: as, vs, i, j, h => by
    simp only [RepL] at h
    obtain ⟨v, vs', rfl, h1, h2⟩ := h
    simp only [argSlots, lk]
    split
    · rename_i e
      subst e
      simpa using h1
    · rename_i e
      have := lk_argSlots E as vs' (i + 1) j h2
      by_cases hle : i ≤ j
      · have h3 : i + 1 ≤ j := by omega
        rw [if_pos h3] at this
        rw [if_pos hle]
        obtain ⟨d, rfl⟩ : ∃ d, j = i + 1 + d := ⟨j - (i + 1), by omega⟩
        have e1 : i + 1 + d - (i + 1) = d := by omega
        have e2 : i + 1 + d - i = d + 1 := by omega
        rw [e1] at this
        rw [e2]
        simpa using this
      · rw [if_neg (by omega)] at this
        rw [if_neg hle]
        exact this

/-- A result as the caller sees it. -/
def afin (P : Program) (objs : List AObj) (t : TypeId) (a : AV) : Option (Prop × AV) :=
  match a with
  | .sl n cells p => some (norefs cells = true, .sl n cells (ntok p))
  | .osl r off n cap => match objs[r]?, P.underlying t with
    | some (.cells cs), some (.slice e) => match tsz P e with
      | some sz => some (off + n * sz ≤ cs.length ∧ norefs ((cs.drop off).take (n * sz)) = true, .sl n ((cs.drop off).take (n * sz)) .no)
      | none => none
    | _, _ => none
  | .ptr .. => none
  | a => some (noref a = true, a)

def ares1 (P : Program) (st : St) (t : TypeId) : ResultVar → Option (Prop × AV)
  | .tmp x => afin P st.objs t (lk st.slots x)
  | .cell x ty => match aload P ty (lk st.slots x) st.objs with
    | some (C, v) => match afin P st.objs t v with
      | some (C', v') => some (C ∧ C', v')
      | none => none
    | none => none

def aress (P : Program) (st : St) : List TypeId → List ResultVar → Option (Prop × List AV)
  | _, [] => some (True, [])
  | ts, r :: rs => match ares1 P st (ts.headD 0) r, aress P st ts.tail rs with
    | some (C, v), some (C', vs) => some (C ∧ C', v :: vs)
    | _, _ => none

/-- What a function hands back. -/
def ares (P : Program) (ts : List TypeId) (rvs : List ResultVar) (st : St) : Option (Prop × AV) :=
  match aress P st ts rvs with
  | some (C, [v]) => some (C, v)
  | some (C, vs) => some (C, .tup vs)
  | none => none

/-- The objects of a call that ends. -/
noncomputable def Env.shut (E : Env) (objs : List AObj) : Env := E.lend objs

theorem afin_sound {P : Program} {E : Env} {objs : List AObj} (ho : ObjsRep E objs) {t : TypeId} {a a' : AV} {C : Prop} {v : Value} (h : afin P objs t a = some (C, a')) (hC : C) (hv : RepV E a v) : RepV (E.lend objs) a' v := by
  unfold afin at h
  split at h
  · simp only [Option.some.injEq, Prod.mk.injEq] at h
    obtain ⟨rfl, rfl⟩ := h
    rename_i n cells p
    exact (aview_sound (P := P) (t := t) (a := .sl n cells p) ho rfl hC hv).1
  · rename_i r off n cap
    split at h
    case h_2 => cases h
    rename_i cs e hr ht
    split at h
    case h_2 => cases h
    rename_i sz hsz
    simp only [Option.some.injEq, Prod.mk.injEq] at h
    obtain ⟨rfl, rfl⟩ := h
    exact (aview_sound (P := P) (t := t) (a := .osl r off n cap) (a' := .sl n ((cs.drop off).take (n * sz)) .no) (b := true) ho (by simp only [aview, hr, ht, hsz]) hC hv).1
  · cases h
  · simp only [Option.some.injEq, Prod.mk.injEq] at h
    obtain ⟨rfl, rfl⟩ := h
    exact noref_move (E := E) (E' := E.lend objs) rfl (fun g _ => lend_le ho g) _ _ hC hv

def rvSem (tmps : Array Value) : ResultVar → Sem Value
  | .tmp t => pure (tmps.getD t undef)
  | .cell a t => do loadVar t (← asAddr (tmps.getD a undef))

theorem results_eq (fn : Func) (tmps : Array Value) : results fn tmps = (do
    let vs ← fn.results.mapM (rvSem tmps)
    pure (if h : vs.size = 1 then vs[0] else .tuple vs)) := rfl

theorem ares1_sound {P : Program} {G : List (Nat × List AV)} {E : Env} {st : St} {a : Act} (hr : Rep G E st a) {t : TypeId} {rv : ResultVar} {C : Prop} {v : AV} (h : ares1 P st t rv = some (C, v)) (hC : C) :
    ∃ u, RepV (E.lend st.objs) v u ∧ (rvSem a.tmps rv).run P E.w = .ok u E.w := by
  cases rv with
  | tmp x => exact ⟨_, afin_sound hr.objs h hC (hr.slots x), rfl⟩
  | cell x ty =>
    simp only [ares1] at h
    split at h
    case h_2 => cases h
    rename_i C1 v1 hl
    split at h
    case h_2 => cases h
    rename_i C2 v2 hf
    simp only [Option.some.injEq, Prod.mk.injEq] at h
    obtain ⟨rfl, rfl⟩ := h
    obtain ⟨u, hu, hrun⟩ := aload_sound (P := P) hl hC.1 hr.objs (hr.slots x)
    refine ⟨u, afin_sound hr.objs hf hC.2 hu, ?_⟩
    have hp : ∃ ad, a.tmps.getD x undef = .pointer (some ad) := by
      have := hr.slots x
      unfold aload at hl
      split at hl
      · rename_i e; rw [e] at this; simp only [RepV] at this; obtain ⟨_, _, _, h⟩ := this; exact ⟨_, h⟩
      · rename_i e; rw [e] at this; simp only [RepV] at this; obtain ⟨_, _, h, _⟩ := this; exact ⟨_, h⟩
      · cases hl
    obtain ⟨ad, had⟩ := hp
    rw [had] at hrun
    simp only [rvSem]
    rw [had]
    simpa [Instr.loadAt, Instr.sureAddr, asAddr] using hrun

theorem aress_sound {P : Program} {G : List (Nat × List AV)} {E : Env} {st : St} {a : Act} (hr : Rep G E st a) : ∀ {rvs : List ResultVar} {ts : List TypeId} {C : Prop} {vs : List AV}, aress P st ts rvs = some (C, vs) → C →
    ∃ us, RepL (E.lend st.objs) vs us ∧ (rvs.mapM (m := Sem) (rvSem a.tmps)).run P E.w = .ok us E.w
  | [], ts, C, vs, h, hC => by
    simp only [aress, Option.some.injEq, Prod.mk.injEq] at h
    obtain ⟨rfl, rfl⟩ := h
    exact ⟨[], by simp only [RepL], rfl⟩
  | rv :: rvs, ts, C, vs, h, hC => by
    unfold aress at h
    split at h
    case h_2 => cases h
    rename_i C1 v1 C2 vs2 h1 h2
    simp only [Option.some.injEq, Prod.mk.injEq] at h
    obtain ⟨rfl, rfl⟩ := h
    obtain ⟨u, hu, hrun⟩ := ares1_sound hr h1 hC.1
    obtain ⟨us, hus, hruns⟩ := aress_sound hr h2 hC.2
    refine ⟨u :: us, by simp only [RepL]; exact ⟨u, us, rfl, hu, hus⟩, ?_⟩
    simp only [List.mapM_cons, Sem.run_bind]
    rw [hrun]
    simp only [Result.andThen_ok]
    rw [hruns]
    rfl

theorem ares_sound {P : Program} {G : List (Nat × List AV)} {E : Env} {st : St} {a : Act} (hr : Rep G E st a) {fn : Func} {C : Prop} {v : AV} (h : ares P fn.resultTypes.toList fn.results.toList st = some (C, v)) (hC : C) :
    ∃ u, RepV (E.lend st.objs) v u ∧ (results fn a.tmps).run P E.w = .ok u E.w := by
  unfold ares at h
  have key : ∀ {C : Prop} {vs : List AV}, aress P st fn.resultTypes.toList fn.results.toList = some (C, vs) → C → ∃ us, RepL (E.lend st.objs) vs us ∧
      (fn.results.mapM (m := Sem) (rvSem a.tmps)).run P E.w = .ok us.toArray E.w := by
    intro C vs h hC
    obtain ⟨us, h1, h2⟩ := aress_sound hr h hC
    refine ⟨us, h1, ?_⟩
    rw [Array.mapM_eq_mapM_toList]
    simp only [Sem.run_map]
    rw [h2]
    rfl
  split at h
  · rename_i C1 v1 h1
    simp only [Option.some.injEq, Prod.mk.injEq] at h
    obtain ⟨rfl, rfl⟩ := h
    obtain ⟨us, hus, hrun⟩ := key h1 hC
    simp only [RepL] at hus
    obtain ⟨u, us', rfl, hu, rfl⟩ := hus
    refine ⟨u, hu, ?_⟩
    rw [results_eq]
    simp only [Sem.run_bind]
    rw [hrun]
    simp
  · rename_i C1 vs1 hne h1
    simp only [Option.some.injEq, Prod.mk.injEq] at h
    obtain ⟨rfl, rfl⟩ := h
    obtain ⟨us, hus, hrun⟩ := key h1 hC
    refine ⟨.tuple us.toArray, by simp only [RepV]; exact ⟨us, rfl, hus⟩, ?_⟩
    rw [results_eq]
    simp only [Sem.run_bind]
    rw [hrun]
    have : us.length ≠ 1 := by
      rw [hus.length]
      intro e
      match vs1, e with
      | [x], _ => exact hne x rfl
    simp [this]
  · cases h

/-- The end of a function. -/
def Fin (P : Program) (ts : List TypeId) (rvs : List ResultVar) (Q : AV → List AObj → Prop) : Exit → St → Prop
  | .normal, st => ∃ C r, ares P ts rvs st = some (C, r) ∧ C ∧ Q r []
  | .ret, st => ∃ C r, ares P ts rvs st = some (C, r) ∧ C ∧ Q r []
  | _, _ => False

/-- What a function that is handed no object comes to. -/
theorem acalls_of_awp {P : Program} {G : List (Nat × List AV)} {f : FuncId} {fn : Func} {c : Code} {args : List AV} {Q : AV → List AObj → Prop} (hf : P.funcs[f]? = some fn) (hb : fn.body = some c) (hn : (fn.name == "runtime.NumGoroutine") = false)
    {nt : Nat} {rts : Array TypeId} {rvs : Array ResultVar} (hnt : fn.ntmps = nt) (hrt : fn.resultTypes = rts) (hrv : fn.results = rvs) (hle : args.length ≤ nt)
    (h : awp P G c ⟨nt, argSlots 0 args, []⟩ (Fin P rts.toList rvs.toList Q)) : ACalls P G f args [] Q := by
  subst hnt hrt hrv
  refine ⟨⟨fn, hf, by simp [hb], hn⟩, fun E vs hl ho hG => ?_⟩
  refine calls_of_wp hf hb ?_
  have hlen := hl.length
  have hrep : Rep G E ⟨fn.ntmps, argSlots 0 args, []⟩ { tmps := vs.toArray ++ Array.replicate (fn.ntmps - vs.toArray.size) undef, defers := [] } := by
    refine ⟨by simp; omega, fun i => ?_, rfl, ho, hG⟩
    have := lk_argSlots E args vs 0 i hl
    simp only [Nat.zero_le, if_true, Nat.sub_zero] at this
    have e : (vs.toArray ++ Array.replicate (fn.ntmps - vs.toArray.size) undef).getD i undef = (vs[i]?).getD undef := by
      rw [Array.getD_eq_getD_getElem?, Array.getElem?_append]
      split
      · simp
      · rename_i hge
        have : vs.length ≤ i := by simpa using hge
        rw [List.getElem?_eq_none this]
        simp only [Array.getElem?_replicate]
        split <;> rfl
    rw [e]
    exact this
  refine wp_mono (h E _ hrep) ?_
  rintro e a' w' ⟨st', E', rfl, hfinq, hr', hx'⟩
  have he : e = .normal ∨ e = .ret := by cases e <;> first | exact .inl rfl | exact .inr rfl | exact hfinq.elim
  obtain ⟨C, r, hres, hC, hq⟩ : ∃ C r, ares P fn.resultTypes.toList fn.results.toList st' = some (C, r) ∧ C ∧ Q r [] := by rcases he with rfl | rfl <;> exact hfinq
  obtain ⟨u, hu, hrun⟩ := ares_sound (P := P) hr' hres hC
  have hfin : ∃ E2 v r' outs', E2.w = E'.w ∧ Ending.returned u = .returned v ∧ Q r' outs' ∧ RepV E2 r' v ∧ ObjsRep E2 outs' ∧ Ext E [] E2 outs' := by
    refine ⟨E'.lend st'.objs, u, r, [], rfl, rfl, hq, hu, ⟨rfl, fun r o h => by simp at h, fun r r' o o' g h => by simp at h⟩, ?_⟩
    have hnow : ∀ g, ¬ Ow E ([] : List AObj) g := by rintro g ⟨r, o, h, _⟩; simp at h
    refine { size := hx'.size, lim := fun g hg => Nat.le_trans (hx'.lim g hg) (lend_le hr'.objs g), cell := hx'.cell, k := by have := ho.1; simp [this], ρ := fun r hr => by have := ho.1; simp [this] at hr,
             os := hx'.os, tape := hx'.tape, output := hx'.output, frame := fun g hg hn => ?_, own := fun g hw _ => ?_ }
    · have h1 := hx'.frame g hg (hnow g)
      refine ⟨h1.1, ?_⟩
      rw [lend_not (fun ⟨r, cs, h2, h3⟩ => hnow g (hx'.own g ⟨r, _, h2, h3⟩ hg))]
      exact h1.2
    · obtain ⟨r, o, h, _⟩ := hw
      simp at h
  rcases he with rfl | rfl
  · exact ⟨hr'.defers, u, hrun, hfin⟩
  · exact ⟨hr'.defers, u, hrun, hfin⟩

end Go.V
/-
  VALUE LOGIC, part m: the equations by which a row of operations is gone through.
-/
namespace Go.V
set_option linter.unusedVariables false
set_option linter.unusedSimpArgs false

/-- On with what an operation answers. -/
def andO (o : Option (Prop × AV)) (k : AV → Prop) : Prop := match o with | some (C, v) => C ∧ k v | none => False
def andV (o : Option AV) (k : AV → Prop) : Prop := match o with | some v => k v | none => False
def andR (o : R) (k : AV → List AObj → Prop) : Prop := match o with | .ok C v objs => C ∧ k v objs | .bad => False
/-- A call. -/
def andC (P : Program) (G : List (Nat × List AV)) (f : Option FuncId) (vw : Option (Prop × Bool × List AV)) (k : AV → Prop) : Prop := acall P G f vw k

/-- A call that is handed an object, or hands back new ones. -/
def andH (P : Program) (G : List (Nat × List AV)) (f : Option FuncId) (as : List AV) (objs : List AObj) (k : AV → List AObj → Prop) : Prop := acallH P G f as objs k

@[congr] theorem andH_congr {P : Program} {G : List (Nat × List AV)} {f f' : Option FuncId} {as as' : List AV} {objs objs' : List AObj} {k : AV → List AObj → Prop} (h : f = f') (h' : as = as') (h'' : objs = objs') : andH P G f as objs k = andH P G f' as' objs' k := by rw [h, h', h'']
@[congr] theorem andO_congr {o o' : Option (Prop × AV)} {k : AV → Prop} (h : o = o') : andO o k = andO o' k := by rw [h]
@[congr] theorem andV_congr {o o' : Option AV} {k : AV → Prop} (h : o = o') : andV o k = andV o' k := by rw [h]
@[congr] theorem andR_congr {o o' : R} {k : AV → List AObj → Prop} (h : o = o') : andR o k = andR o' k := by rw [h]
@[congr] theorem andC_congr {P : Program} {G : List (Nat × List AV)} {f f' : Option FuncId} {vw vw' : Option (Prop × Bool × List AV)} {k : AV → Prop} (h : f = f') (h' : vw = vw') : andC P G f vw k = andC P G f' vw' k := by rw [h, h']

/-- On behind a call. -/
def RestC (P : Program) (G : List (Nat × List AV)) (M : List Nat) (ops : Array Oper) (rest : List Oper) (st : St) (K : St → Prop) (d : Option Tmp) (r : AV) : Prop := aopsK P G M ops rest (st.put d r st.objs) K

/-- The same, with the objects that come back. -/
def RestH (P : Program) (G : List (Nat × List AV)) (M : List Nat) (ops : Array Oper) (rest : List Oper) (st : St) (K : St → Prop) (d : Option Tmp) (r : AV) (os : List AObj) : Prop := aopsK P G M ops rest (st.put d r os) K

section
variable (P : Program) (G : List (Nat × List AV)) (M : List Nat) (ops : Array Oper) (rest : List Oper) (nt : Nat) (s : List (Nat × AV)) (os : List AObj) (K : St → Prop) (d : Nat) (ty : TypeId) (pos : String) (af : Array Edge)

theorem K_nil (st : St) : aopsK P G M ops [] st K = K st := rfl

theorem K_some (op : Op) (hne : ∀ f args ts, op ≠ .call ⟨.value f, args, ts⟩) :
    aopsK P G M ops (⟨some d, op, ty, pos, af, none⟩ :: rest) ⟨nt, s, os⟩ K = andR (aval P (M.contains d) (ev G s) os op) fun v os' => d < nt ∧ aopsK P G M ops rest ⟨nt, (d, v) :: s, os'⟩ K := by
  have key : ∀ r : R, (match r with | .ok C v objs' => C ∧ dOk ⟨nt, s, os⟩ (some d) ∧ aopsK P G M ops rest ((⟨nt, s, os⟩ : St).put (some d) v objs') K | .bad => False) =
      andR r fun v os' => d < nt ∧ aopsK P G M ops rest ⟨nt, (d, v) :: s, os'⟩ K := fun r => by cases r <;> rfl
  have k0 := key (aval P (M.contains d) (ev G s) os op)
  conv => lhs; unfold aopsK
  cases op with
  | call c =>
    obtain ⟨callee, args, ts⟩ := c
    cases callee with
    | value f => exact absurd rfl (hne f args ts)
    | builtin b => exact k0
    | invoke r n => rfl
  | _ => exact k0

theorem K_none (op : Op) (hne : ∀ f args ts, op ≠ .call ⟨.value f, args, ts⟩) :
    aopsK P G M ops (⟨none, op, ty, pos, af, none⟩ :: rest) ⟨nt, s, os⟩ K = andR (aval P false (ev G s) os op) fun v os' => aopsK P G M ops rest ⟨nt, s, os'⟩ K := by
  have key : ∀ r : R, (match r with | .ok C v objs' => C ∧ dOk ⟨nt, s, os⟩ none ∧ aopsK P G M ops rest ((⟨nt, s, os⟩ : St).put none v objs') K | .bad => False) =
      andR r fun v os' => aopsK P G M ops rest ⟨nt, s, os'⟩ K := fun r => by cases r <;> simp [andR, dOk, St.put]
  have k0 := key (aval P false (ev G s) os op)
  conv => lhs; unfold aopsK
  cases op with
  | call c =>
    obtain ⟨callee, args, ts⟩ := c
    cases callee with
    | value f => exact absurd rfl (hne f args ts)
    | builtin b => exact k0
    | invoke r n => rfl
  | _ => exact k0

theorem K_call (f : Operand) (args : Array Operand) (ts : Array TypeId) :
    aopsK P G M ops (⟨some d, .call ⟨.value f, args, ts⟩, ty, pos, af, none⟩ :: rest) ⟨nt, s, os⟩ K =
      (d < nt ∧ if M.contains (d + 1000000) = true then andH P G (afun (ev G s f)) (args.toList.map (ev G s)) os (RestH P G M ops rest ⟨nt, s, os⟩ K (some d))
        else andC P G (afun (ev G s f)) (aviews P (if M.contains d = true then [] else os) ts.toList (args.toList.map (ev G s))) (RestC P G M ops rest ⟨nt, s, os⟩ K (some d))) := by
  conv => lhs; unfold aopsK
  simp only [dOk, acallM]
  rfl
theorem K_call0 (f : Operand) (args : Array Operand) (ts : Array TypeId) :
    aopsK P G M ops (⟨none, .call ⟨.value f, args, ts⟩, ty, pos, af, none⟩ :: rest) ⟨nt, s, os⟩ K =
      (if M.contains 999999 = true then andH P G (afun (ev G s f)) (args.toList.map (ev G s)) os (RestH P G M ops rest ⟨nt, s, os⟩ K none)
        else andC P G (afun (ev G s f)) (aviews P os ts.toList (args.toList.map (ev G s))) (RestC P G M ops rest ⟨nt, s, os⟩ K none)) := by
  conv => lhs; unfold aopsK
  simp only [dOk, true_and, acallM]
  rfl
end

/-- The equations for the kinds of operations. -/
theorem K_eqs : 
    (∀ (P : Program) (G : List (Nat × List AV)) (M : List Nat) (ops : Array Oper) (rest : List Oper) (nt : Nat) (s : List (Nat × AV)) (os : List AObj) (K : St → Prop) (d : Nat) (ty : TypeId) (pos : String) (af : Array Edge),
      (∀ x, aopsK P G M ops (⟨some d, .move x, ty, pos, af, none⟩ :: rest) ⟨nt, s, os⟩ K = (d < nt ∧ aopsK P G M ops rest ⟨nt, (d, ev G s x) :: s, os⟩ K)) ∧
      (∀ x, aopsK P G M ops (⟨some d, .assign x, ty, pos, af, none⟩ :: rest) ⟨nt, s, os⟩ K = (d < nt ∧ aopsK P G M ops rest ⟨nt, (d, ev G s x) :: s, os⟩ K)) ∧
      (∀ c a b, aopsK P G M ops (⟨some d, .pick c a b, ty, pos, af, none⟩ :: rest) ⟨nt, s, os⟩ K = andV (apick (ev G s c) (ev G s a) (ev G s b)) fun v => d < nt ∧ aopsK P G M ops rest ⟨nt, (d, v) :: s, os⟩ K) ∧
      (∀ t, aopsK P G M ops (⟨some d, .alloc t, ty, pos, af, none⟩ :: rest) ⟨nt, s, os⟩ K = andR (aalloc P t os) fun v os' => d < nt ∧ aopsK P G M ops rest ⟨nt, (d, v) :: s, os'⟩ K) ∧
      (∀ t x, aopsK P G M ops (⟨some d, .box t x, ty, pos, af, none⟩ :: rest) ⟨nt, s, os⟩ K = andR (abox P (ev G s x) os) fun v os' => d < nt ∧ aopsK P G M ops rest ⟨nt, (d, v) :: s, os'⟩ K) ∧
      (∀ t ps, aopsK P G M ops (⟨some d, .build t ps, ty, pos, af, none⟩ :: rest) ⟨nt, s, os⟩ K = andO (abuild P t (aparts (ev G s) ps)) fun v => d < nt ∧ aopsK P G M ops rest ⟨nt, (d, v) :: s, os⟩ K) ∧
      (∀ t n ps, aopsK P G M ops (⟨some d, .buildSlice t n ps, ty, pos, af, none⟩ :: rest) ⟨nt, s, os⟩ K = andR (if M.contains d = true then abuildOwn P t n (aparts (ev G s) ps) os else abuildSlice P t n (aparts (ev G s) ps) os) fun v os' => d < nt ∧ aopsK P G M ops rest ⟨nt, (d, v) :: s, os'⟩ K) ∧
      (∀ t x, aopsK P G M ops (⟨some d, .load t x, ty, pos, af, none⟩ :: rest) ⟨nt, s, os⟩ K = andO (aload P t (ev G s x) (if M.contains d = true then [] else os)) fun v => d < nt ∧ aopsK P G M ops rest ⟨nt, (d, v) :: s, os⟩ K) ∧
      (∀ t x y, aopsK P G M ops (⟨none, .store t x y, ty, pos, af, none⟩ :: rest) ⟨nt, s, os⟩ K = andR (astore P t (ev G s x) (ev G s y) os) fun _ os' => aopsK P G M ops rest ⟨nt, s, os'⟩ K) ∧
      (∀ x, aopsK P G M ops (⟨some d, .nilCheck x, ty, pos, af, none⟩ :: rest) ⟨nt, s, os⟩ K = andV (anil (ev G s x)) fun v => d < nt ∧ aopsK P G M ops rest ⟨nt, (d, v) :: s, os⟩ K) ∧
      (∀ x, aopsK P G M ops (⟨none, .nilCheck x, ty, pos, af, none⟩ :: rest) ⟨nt, s, os⟩ K = andV (anil (ev G s x)) fun _ => aopsK P G M ops rest ⟨nt, s, os⟩ K) ∧
      (∀ op t x y yt, aopsK P G M ops (⟨some d, .binOp op t x y yt, ty, pos, af, none⟩ :: rest) ⟨nt, s, os⟩ K = andO (abin P op t (ev G s x) (ev G s y)) fun v => d < nt ∧ aopsK P G M ops rest ⟨nt, (d, v) :: s, os⟩ K) ∧
      (∀ op t x, aopsK P G M ops (⟨some d, .unOp op t x, ty, pos, af, none⟩ :: rest) ⟨nt, s, os⟩ K = andV (aun op (ev G s x)) fun v => d < nt ∧ aopsK P G M ops rest ⟨nt, (d, v) :: s, os⟩ K) ∧
      (∀ t x, aopsK P G M ops (⟨some d, .sliceToArrayPointer t x, ty, pos, af, none⟩ :: rest) ⟨nt, s, os⟩ K = andO (aarrayAt P t (ev G s x)) fun v => d < nt ∧ aopsK P G M ops rest ⟨nt, (d, v) :: s, os⟩ K) ∧
      (∀ t l c, aopsK P G M ops (⟨some d, .makeSlice t l c, ty, pos, af, none⟩ :: rest) ⟨nt, s, os⟩ K = andR (amake P t (M.contains d) (ev G s l) (ev G s c) os) fun v os' => d < nt ∧ aopsK P G M ops rest ⟨nt, (d, v) :: s, os'⟩ K) ∧
      (∀ t x lo hi mx, aopsK P G M ops (⟨some d, .slice t x lo hi mx, ty, pos, af, none⟩ :: rest) ⟨nt, s, os⟩ K = andO (aslice P t (ev G s x) (lo.map (ev G s)) (hi.map (ev G s)) (mx.map (ev G s))) fun v => d < nt ∧ aopsK P G M ops rest ⟨nt, (d, v) :: s, os⟩ K) ∧
      (∀ t x i, aopsK P G M ops (⟨some d, .fieldAddr t x i, ty, pos, af, none⟩ :: rest) ⟨nt, s, os⟩ K = andO (afieldAddr P t (ev G s x) i) fun v => d < nt ∧ aopsK P G M ops rest ⟨nt, (d, v) :: s, os⟩ K) ∧
      (∀ t x i, aopsK P G M ops (⟨some d, .field t x i, ty, pos, af, none⟩ :: rest) ⟨nt, s, os⟩ K = andO (afield P t (ev G s x) i) fun v => d < nt ∧ aopsK P G M ops rest ⟨nt, (d, v) :: s, os⟩ K) ∧
      (∀ t x i, aopsK P G M ops (⟨some d, .indexAddr t x i, ty, pos, af, none⟩ :: rest) ⟨nt, s, os⟩ K = andO (aidxAddr P t (ev G s x) (ev G s i)) fun v => d < nt ∧ aopsK P G M ops rest ⟨nt, (d, v) :: s, os⟩ K) ∧
      (∀ t x i, aopsK P G M ops (⟨some d, .index t x i, ty, pos, af, none⟩ :: rest) ⟨nt, s, os⟩ K = andO (aidx P t (ev G s x) (ev G s i)) fun v => d < nt ∧ aopsK P G M ops rest ⟨nt, (d, v) :: s, os⟩ K) ∧
      (∀ x i, aopsK P G M ops (⟨some d, .extract x i, ty, pos, af, none⟩ :: rest) ⟨nt, s, os⟩ K = andV (aext (ev G s x) i) fun v => d < nt ∧ aopsK P G M ops rest ⟨nt, (d, v) :: s, os⟩ K) ∧
      (∀ b args ts, aopsK P G M ops (⟨some d, .call ⟨.builtin b, args, ts⟩, ty, pos, af, none⟩ :: rest) ⟨nt, s, os⟩ K = andR (abuiltin P (M.contains d) os b ts.toList (args.toList.map (ev G s))) fun v os' => d < nt ∧ aopsK P G M ops rest ⟨nt, (d, v) :: s, os'⟩ K) ∧
      (∀ b args ts, aopsK P G M ops (⟨none, .call ⟨.builtin b, args, ts⟩, ty, pos, af, none⟩ :: rest) ⟨nt, s, os⟩ K = andR (abuiltin P false os b ts.toList (args.toList.map (ev G s))) fun v os' => aopsK P G M ops rest ⟨nt, s, os'⟩ K)) := by
  intro P G M ops rest nt s os K d ty pos af
  have ofO : ∀ (o : Option (Prop × AV)) (k : AV → List AObj → Prop), andR (R.ofO os o) k = andO o fun v => k v os := fun o k => by cases o <;> rfl
  have ofV : ∀ (o : Option AV) (k : AV → List AObj → Prop), andR (R.ofV os o) k = andV o fun v => k v os := fun o k => by cases o <;> simp [R.ofV, andR, andV]
  refine ⟨?_, ?_, ?_, ?_, ?_, ?_, ?_, ?_, ?_, ?_, ?_, ?_, ?_, ?_, ?_, ?_, ?_, ?_, ?_, ?_, ?_, ?_, ?_⟩ <;> intros <;>
    first
    | (rw [K_some _ _ _ _ _ _ _ _ _ _ _ _ _ _ (fun _ _ _ => by simp)]; simp only [aval, ofO, ofV]; done)
    | (rw [K_some _ _ _ _ _ _ _ _ _ _ _ _ _ _ (fun _ _ _ => by simp)]; simp only [aval, andR, true_and]; done)
    | (rw [K_none _ _ _ _ _ _ _ _ _ _ _ _ _ (fun _ _ _ => by simp)]; simp only [aval, ofO, ofV]; done)

theorem K_conv (P : Program) (G : List (Nat × List AV)) (M : List Nat) (ops : Array Oper) (rest : List Oper) (nt : Nat) (s : List (Nat × AV)) (os : List AObj) (K : St → Prop) (d : Nat) (ty : TypeId) (pos : String) (af : Array Edge)
    (src dst : TypeId) (x : Operand) : aopsK P G M ops (⟨some d, .convert src dst x, ty, pos, af, none⟩ :: rest) ⟨nt, s, os⟩ K =
      andR (match P.underlying dst with | some (.slice _) => abytes P src dst (ev G s x) os | _ => if M.contains d = true then R.ofO os (aconvO P src dst (ev G s x) os) else R.ofO os (aconv P src dst (ev G s x))) fun v os' => d < nt ∧ aopsK P G M ops rest ⟨nt, (d, v) :: s, os'⟩ K := by
  rw [K_some _ _ _ _ _ _ _ _ _ _ _ _ _ _ (fun _ _ _ => by simp)]; rfl

theorem K_ops :
    (∀ C v k, andO (some (C, v)) k = (C ∧ k v)) ∧ (∀ v k, andV (some v) k = k v) ∧ (∀ C v os k, andR (.ok C v os) k = (C ∧ k v os)) ∧
    (∀ os C v, R.ofO os (some (C, v)) = .ok C v os) ∧ (∀ os v, R.ofV os (some v) = .ok True v os) ∧
    (∀ G s t, ev G s (.tmp t) = lk s t) ∧ (∀ G s v, ev G s (.const v) = cav v) ∧ (∀ G s g, ev G s (.global g) = gav G g) ∧ (∀ G s f, ev G s (.func f) = .val (.func (.func f) #[] #[])) ∧
    (cav (.slice none 0 0) = .sl 0 [] .full) ∧ (∀ k n, cav (.int k n) = .val (.int k n)) ∧ (∀ b, cav (.bool b) = .val (.bool b)) ∧ (∀ x, cav (.string x) = .val (.string x)) ∧
    (∀ f, afun (.val (.func (.func f) #[] #[])) = some f) ∧ (∀ i a r j, lk ((i, a) :: r) j = if i = j then a else lk r j) ∧
    (∀ nt s os t, dOk ⟨nt, s, os⟩ (some t) = (t < nt)) ∧ (∀ nt s os os' t v, (⟨nt, s, os⟩ : St).put (some t) v os' = ⟨nt, (t, v) :: s, os'⟩) := by
  refine ⟨?_, ?_, ?_, ?_, ?_, ?_, ?_, ?_, ?_, ?_, ?_, ?_, ?_, ?_, ?_, ?_, ?_⟩ <;> intros <;> rfl

/-- A call by what the function comes to. -/
theorem andC_mk {P : Program} {G : List (Nat × List AV)} {f : FuncId} {C : Prop} {b : Bool} {as : List AV} {k : AV → Prop} {Q : AV → List AObj → Prop} (hC : C) (h : ACalls P G f as [] Q) (hx : ∃ r, Q r [])
    (hQ : ∀ r os, Q r os → os = [] ∧ (if b then flat r else noref r) = true ∧ k r) : andC P G (some f) (some (C, b, as)) k := ⟨hC, Q, h, hx, hQ⟩

/-- A call of a function that answers one value. -/
theorem andC_eq {P : Program} {G : List (Nat × List AV)} {f : FuncId} {C : Prop} {b : Bool} {as : List AV} {k : AV → Prop} {v : AV} (hC : C) (h : ACalls P G f as [] (fun r os => os = [] ∧ r = v))
    (hf : (if b then flat v else noref v) = true) (hk : k v) : andC P G (some f) (some (C, b, as)) k := ⟨hC, _, h, ⟨v, rfl, rfl⟩, fun r os ⟨h1, h2⟩ => by subst h1 h2; exact ⟨rfl, hf, hk⟩⟩

/-- A marked call that is handed nothing. -/
theorem andH_new {P : Program} {G : List (Nat × List AV)} {f : FuncId} {as as' : List AV} {objs : List AObj} {k : AV → List AObj → Prop} {v : AV} {os : List AObj} {v' : AV} (hv : hviews none as = some as') (h : ACalls P G f as' [] (fun r o => o = os ∧ r = v))
    (ho : (∀ o ∈ os, objOk o = true)) (hr : hres (fun i => objs.length + i) os.length v = some v') (hk : k v' (objs ++ os)) : andH P G (some f) as objs k :=
  .inl ⟨as', _, hv, h, ⟨v, os, rfl, rfl⟩, fun r o ⟨h1, h2⟩ => by subst h1 h2; exact ⟨ho, v', hr, hk⟩⟩
/-- A marked call that is handed the object h. -/
theorem andH_one {P : Program} {G : List (Nat × List AV)} {f : FuncId} {as as' : List AV} {objs : List AObj} {k : AV → List AObj → Prop} {v : AV} {os' : List AObj} {y : AObj} {v' : AV} (h : Nat) (x : AObj) (hx : objs[h]? = some x) (hxo : objOk x = true) (hv : hviews (some h) as = some as')
    (hc : ACalls P G f as' [x] (fun r o => o = y :: os' ∧ r = v)) (ho : (∀ o ∈ y :: os', objOk o = true)) (hr : hres (fun i => if i = 0 then h else objs.length + (i - 1)) (y :: os').length v = some v') (hk : k v' (objs.set h y ++ os')) : andH P G (some f) as objs k :=
  .inr (.inl ⟨h, x, as', _, hx, hxo, hv, hc, ⟨v, y :: os', rfl, rfl⟩, fun r o ⟨h1, h2⟩ => by subst h1 h2; exact ⟨ho, y, os', rfl, v', hr, hk⟩⟩)
/-- A marked call that is handed the objects hs, while the others are lent. -/
theorem andH_gen {P : Program} {G : List (Nat × List AV)} {f : FuncId} {as as' : List AV} {objs : List AObj} {k : AV → List AObj → Prop} {v : AV} {os : List AObj} {C : Prop} (hs : List Nat) (b : Bool) (ts : List TypeId) (hask : GAsk objs hs) (hv : gviews P objs hs ts as = some (C, b, as')) (hC : C)
    (hc : ACalls P G f as' (GHd objs hs) (fun r o => o = os ∧ r = v)) (hr : GRet hs b v os) (hk : k (ren (σn objs hs) v) (GBack objs hs os)) : andH P G (some f) as objs k :=
  .inr (.inr ⟨hs, b, C, ts, as', _, hask, hv, hC, hc, ⟨v, os, rfl, rfl⟩, fun r o ⟨h1, h2⟩ => by subst h1 h2; exact ⟨hr, hk⟩⟩)

theorem RestH_eqs : (∀ P G M ops rest nt s os K d r os', RestH P G M ops rest ⟨nt, s, os⟩ K (some d) r os' = aopsK P G M ops rest ⟨nt, (d, r) :: s, os'⟩ K) ∧
    (∀ P G M ops rest nt s os K r os', RestH P G M ops rest ⟨nt, s, os⟩ K none r os' = aopsK P G M ops rest ⟨nt, s, os'⟩ K) := ⟨fun _ _ _ _ _ _ _ _ _ _ _ _ => rfl, fun _ _ _ _ _ _ _ _ _ _ _ => rfl⟩
theorem RestC_eqs : (∀ P G M ops rest nt s os K d r, RestC P G M ops rest ⟨nt, s, os⟩ K (some d) r = aopsK P G M ops rest ⟨nt, (d, r) :: s, os⟩ K) ∧
    (∀ P G M ops rest nt s os K r, RestC P G M ops rest ⟨nt, s, os⟩ K none r = aopsK P G M ops rest ⟨nt, s, os⟩ K) := ⟨fun _ _ _ _ _ _ _ _ _ _ _ => rfl, fun _ _ _ _ _ _ _ _ _ _ => rfl⟩

/-- The values of whole numbers. -/
theorem K_int (P : Program) (t : TypeId) :
    (∀ op k a k' b, abin P op t (.val (.int k a)) (.val (.int k' b)) = aint op k a k' b) ∧ (∀ op a b, abin P op t (.val (.bool a)) (.val (.bool b)) = abool P op t a b) ∧ (∀ op a b, abin P op t (.val (.string a)) (.val (.string b)) = astr op a b) ∧ (∀ op xs ys, abin P op t (.agg xs) (.agg ys) = aagg P op t xs ys) ∧ (∀ op r off, abin P op t (.ptr r off) (.val (.pointer none)) = aptr P op t) := by
  refine ⟨?_, ?_, ?_, ?_, ?_⟩ <;> intros <;> rfl

theorem K_fin (P : Program) (ts : List TypeId) (rvs : List ResultVar) (Q : AV → List AObj → Prop) (st : St) :
    (Fin P ts rvs Q .ret st = andO (ares P ts rvs st) fun r => Q r []) ∧ (Fin P ts rvs Q .normal st = andO (ares P ts rvs st) fun r => Q r []) := by
  have : (∃ C r, ares P ts rvs st = some (C, r) ∧ C ∧ Q r []) = andO (ares P ts rvs st) fun r => Q r [] := by
    cases h : ares P ts rvs st with
    | none => simp [andO]
    | some x =>
      obtain ⟨C, r⟩ := x
      simp only [andO]
      apply propext
      constructor
      · rintro ⟨C', r', e, h1, h2⟩
        injection e with e
        injection e with e1 e2
        subst e1 e2
        exact ⟨h1, h2⟩
      · rintro ⟨h1, h2⟩; exact ⟨C, r, rfl, h1, h2⟩
  exact ⟨this, this⟩

def keep (ls : List Nat) (s : List (Nat × AV)) : List (Nat × AV) := ls.map fun i => (i, lk s i)

/-- Only some temporaries are kept in mind. -/
theorem awp_keep {P : Program} {G : List (Nat × List AV)} {c : Code} {nt : Nat} {s : List (Nat × AV)} {os : List AObj} {Q : Exit → St → Prop} (ls : List Nat) (h : awp P G c ⟨nt, keep ls s, os⟩ Q) : awp P G c ⟨nt, s, os⟩ Q :=
  awp_weak (.sub fun p hp => by
    simp only [keep, List.mem_map] at hp
    obtain ⟨i, _, rfl⟩ := hp
    rfl) h

theorem Weak.of_keep {G : List (Nat × List AV)} {nt : Nat} {s s' : List (Nat × AV)} {os : List AObj} (ls : List Nat) (h : keep ls s = s') : Weak G ⟨nt, s, os⟩ ⟨nt, s', os⟩ := by
  subst h
  exact .sub fun p hp => by
    simp only [keep, List.mem_map] at hp
    obtain ⟨i, _, rfl⟩ := hp
    rfl

theorem keep_eqs : (∀ s, keep [] s = []) ∧ (∀ i r s, keep (i :: r) s = (i, lk s i) :: keep r s) := ⟨fun _ => rfl, fun _ _ _ => rfl⟩

theorem Bs_length (l : List UInt8) : (Bs l).length = l.length := by simp [Bs]
theorem Bs_append (a b : List UInt8) : Bs (a ++ b) = Bs a ++ Bs b := by simp [Bs]
theorem Bs_take (l : List UInt8) (n : Nat) : (Bs l).take n = Bs (l.take n) := by simp [Bs]
theorem Bs_drop (l : List UInt8) (n : Nat) : (Bs l).drop n = Bs (l.drop n) := by simp [Bs]
theorem Bs_one (l : List UInt8) : (Bs l).all oneC = true := by
  induction l with
  | nil => rfl
  | cons x l ih => simp only [Bs, List.map_cons, List.all_cons] at *; rw [ih]; rfl
theorem Bs_isByte (l : List UInt8) : (Bs l).all isByte = true := by
  induction l with
  | nil => rfl
  | cons x l ih => simp only [Bs, List.map_cons, List.all_cons] at *; rw [ih]; rfl
theorem Bs_bytes (l : List UInt8) : (Bs l).map byteOf = l := by
  induction l with
  | nil => rfl
  | cons x l ih =>
    simp only [Bs, List.map_cons] at *
    rw [ih]
    simp [B, byteOf]

/-- A slice without room becomes one that may grow. -/
theorem Weak.tok {G : List (Nat × List AV)} {nt : Nat} {s : List (Nat × AV)} {os : List AObj} (sz i n : Nat) (cells : List AV) (h : lk s i = .sl n cells .full) : Weak G ⟨nt, s, os⟩ ⟨nt, (i, .sl n cells (.tok os.length)) :: s, os ++ [.tok sz n]⟩ := fun E a hr => by
  have hi := hr.slots i
  simp only at hi
  rw [h] at hi
  simp only [RepV] at hi
  obtain ⟨A, cap, hv, hn, hc, hp⟩ := hi
  have hcap : cap = n := hp
  subst hcap
  have hadd := ext0_add E (.slice A cap cap)
  obtain ⟨hx2, ho2⟩ := add_obj (o := .tok sz cap) (u := .slice A cap cap) (.refl E os) hr.objs ⟨A, cap, rfl, Nat.le_refl _, fun h => by omega⟩ (by intro g hg; cases A <;> simp [ownBlk] at hg)
  have hk := hr.objs.1
  simp only at hk
  refine ⟨E.add (.slice A cap cap), rfl, ⟨hr.size, fun j => ?_, hr.defers, ho2, hr.glob.mono hadd⟩, hx2⟩
  simp only [lk]
  split
  · rename_i e
    subst e
    rw [hv]
    simp only [RepV]
    refine ⟨A, cap, rfl, Nat.le_refl _, ?_, PermOk_tok (by simp [Env.add, hk]) (by simp [Env.add, hk]) rfl⟩
    rcases hc with e' | ⟨g, o, hA, hg, hl, hat⟩
    · exact .inl e'
    · exact .inr ⟨g, o, hA, hg, hl, RepAt.mono hadd g hg cells o hl hat⟩
  · exact RepV.mono hadd _ _ (hr.slots j)

theorem awp_tok {P : Program} {G : List (Nat × List AV)} {c : Code} {nt : Nat} {s : List (Nat × AV)} {os : List AObj} {Q : Exit → St → Prop} (sz i : Nat) {n : Nat} {cells : List AV} (h : lk s i = .sl n cells .full)
    (hq : awp P G c ⟨nt, (i, .sl n cells (.tok os.length)) :: s, os ++ [.tok sz n]⟩ Q) : awp P G c ⟨nt, s, os⟩ Q := awp_weak (.tok sz i n cells h) hq

/-- A loop, from a state that stands for one of the family. -/
theorem awp_loop_from {α : Type} {P : Program} {G : List (Nat × List AV)} {c : Code} {st : St} {Q : Exit → St → Prop} (S : α → St) (I : α → Prop) (μ : α → Nat) (x : α) (h₀ : I x) (hw : Weak G st (S x))
    (round : ∀ x, I x → awp P G c (S x) (Then (fun s => ∃ y, I y ∧ μ y < μ x ∧ Weak G s (S y)) Q)) : awp P G (.loop c) st Q := awp_weak hw (awp_loop S I μ x h₀ round)

theorem Bs_nil : Bs [] = [] := rfl
theorem zrep_byte (m : Nat) : zrep [.int .u8 0] m = Bs (List.replicate m 0) := by
  induction m with
  | zero => rfl
  | succ m ih =>
    unfold zrep at *
    simp only [List.replicate_succ, List.flatten_cons, ih]
    rfl

/-- Noughts. -/
def zvs (k : IntKind) (n : Nat) : List Value := List.replicate n (Value.int k 0)
def Z (n : Nat) : List UInt8 := List.replicate n 0
theorem Z_length (n : Nat) : (Z n).length = n := by simp [Z]
theorem zvs_u8 (n : Nat) : (zvs .u8 n).map cav = Bs (Z n) := by
  simp only [zvs, Z, Bs, List.map_replicate]
  rfl
theorem zvs_length (k : IntKind) (n : Nat) : (zvs k n).length = n := by simp [zvs]

end Go.V
/-
  VALUE LOGIC, part n: regions whose operations may come in another order.
-/
namespace Go.V
set_option linter.unusedVariables false
set_option linter.unusedSimpArgs false

/-- One operation, carried out. -/
def Run (P : Program) (G : List (Nat × List AV)) (M : List Nat) (o : Oper) (st : St) (R : AV → List AObj → Prop) : Prop :=
  match o.op with
  | .call { callee := .value f, args, argTypes } => dOk st o.dst ∧ acallM P G M o.dst (afun (ev G st.slots f)) (args.toList.map (ev G st.slots)) argTypes.toList st.objs R
  | _ => match aval P ((o.dst.map (M.contains ·)).getD false) (ev G st.slots) st.objs o.op with
    | .ok C v objs' => C ∧ dOk st o.dst ∧ R v objs'
    | .bad => False

/-- One operation. -/
def Mid (P : Program) (G : List (Nat × List AV)) (M : List Nat) (ops : Array Oper) (o : Oper) (st : St) (R : AV → List AObj → Prop) : Prop :=
  match o.guard with
  | none => Run P G M o st R
  | some (j, want) => match gslot ops j with
    | some t => match gdec (lk st.slots t) want with
      | some c => t < st.nt ∧ (c = true → Run P G M o st R) ∧ (c = false → dOk st o.dst ∧ R uav st.objs)
      | none => False
    | none => False

section
variable {P : Program} {G : List (Nat × List AV)} {M : List Nat} {ops : Array Oper}

theorem aopsK_cons {o : Oper} {rest : List Oper} {st : St} {K : St → Prop} : aopsK P G M ops (o :: rest) st K = Mid P G M ops o st (fun v objs' => aopsK P G M ops rest (st.put o.dst v objs') K) := by
  conv => lhs; unfold aopsK
  unfold Mid Run
  rfl

theorem acall_mono {f : Option FuncId} {vw : Option (Prop × Bool × List AV)} {K K' : AV → Prop} (hk : ∀ r, K r → K' r) (h : acall P G f vw K) : acall P G f vw K' := by
  unfold acall at *
  split at h
  · obtain ⟨h1, Q, h2, h3, h4⟩ := h
    exact ⟨h1, Q, h2, h3, fun r os hq => ⟨(h4 r os hq).1, (h4 r os hq).2.1, hk _ (h4 r os hq).2.2⟩⟩
  · exact h

theorem acall_some {f : Option FuncId} {vw : Option (Prop × Bool × List AV)} {K : AV → Prop} (h : acall P G f vw K) : ∃ r, K r := by
  unfold acall at h
  split at h
  · obtain ⟨h1, Q, h2, ⟨r, h3⟩, h4⟩ := h
    exact ⟨r, (h4 r [] h3).2.2⟩
  · exact h.elim

theorem acallM_mono {d : Option Tmp} {f : Option FuncId} {as : List AV} {ts : List TypeId} {objs : List AObj} {K K' : AV → List AObj → Prop} (hk : ∀ r os, K r os → K' r os) (h : acallM P G M d f as ts objs K) : acallM P G M d f as ts objs K' := by
  unfold acallM at *
  split
  · rename_i hm
    rw [if_pos hm] at h
    exact acallH_mono hk h
  · rename_i hm
    rw [if_neg hm] at h
    exact acall_mono (fun r => hk r _) h
theorem acallM_some {d : Option Tmp} {f : Option FuncId} {as : List AV} {ts : List TypeId} {objs : List AObj} {K : AV → List AObj → Prop} (h : acallM P G M d f as ts objs K) : ∃ r os, K r os := by
  unfold acallM at h
  split at h
  · exact acallH_some h
  · obtain ⟨r, h⟩ := acall_some h
    exact ⟨r, _, h⟩

def isCall (o : Oper) : Bool := match o.op with | .call { callee := .value _, .. } => true | _ => false

theorem isCall_true {o : Oper} (h : isCall o = true) : ∃ f args ts, o.op = .call { callee := .value f, args := args, argTypes := ts } := by
  unfold isCall at h
  split at h
  · rename_i e; exact ⟨_, _, _, e⟩
  · cases h

theorem Run_call {o : Oper} {st : St} {R : AV → List AObj → Prop} {f : Operand} {args : Array Operand} {ts : Array TypeId} (h : o.op = .call { callee := .value f, args := args, argTypes := ts }) :
    Run P G M o st R = (dOk st o.dst ∧ acallM P G M o.dst (afun (ev G st.slots f)) (args.toList.map (ev G st.slots)) ts.toList st.objs R) := by
  unfold Run
  rw [h]

/-- What no call comes to. -/
def Val (o : Oper) (st : St) (r : V.R) (R : AV → List AObj → Prop) : Prop := match r with | .ok C v objs' => C ∧ dOk st o.dst ∧ R v objs' | .bad => False

theorem Run_val {o : Oper} {st : St} {R : AV → List AObj → Prop} (hc : isCall o = false) : Run P G M o st R = Val o st (aval P ((o.dst.map (M.contains ·)).getD false) (ev G st.slots) st.objs o.op) R := by
  unfold Run
  split
  · rename_i e
    simp [isCall, e] at hc
  · rfl

theorem Mid_none {o : Oper} {st : St} {R : AV → List AObj → Prop} (h : o.guard = none) : Mid P G M ops o st R = Run P G M o st R := by
  unfold Mid
  rw [h]

theorem Mid_guard {o : Oper} {st : St} {R : AV → List AObj → Prop} {j : Nat} {want : Bool} (h : o.guard = some (j, want)) (hm : Mid P G M ops o st R) :
    ∃ t c, gslot ops j = some t ∧ gdec (lk st.slots t) want = some c ∧ ∀ R', Mid P G M ops o st R' = (t < st.nt ∧ (c = true → Run P G M o st R') ∧ (c = false → dOk st o.dst ∧ R' uav st.objs)) := by
  have key : ∀ R', Mid P G M ops o st R' = match gslot ops j with
    | some t => match gdec (lk st.slots t) want with
      | some c => t < st.nt ∧ (c = true → Run P G M o st R') ∧ (c = false → dOk st o.dst ∧ R' uav st.objs)
      | none => False
    | none => False := fun R' => by
      unfold Mid
      rw [h]
  rw [key] at hm
  cases ht : gslot ops j with
  | none => rw [ht] at hm; exact hm.elim
  | some t =>
    rw [ht] at hm
    simp only [ht] at key
    simp only at hm
    split at hm
    case h_2 => exact hm.elim
    rename_i b hb
    refine ⟨t, b, rfl, hb, fun R' => ?_⟩
    rw [key, hb]

theorem Run_mono {o : Oper} {st : St} {R R' : AV → List AObj → Prop} (hr : ∀ v os, R v os → R' v os) (h : Run P G M o st R) : Run P G M o st R' := by
  cases hc : isCall o with
  | true =>
    obtain ⟨f, args, ts, e⟩ := isCall_true hc
    rw [Run_call e] at h ⊢
    exact ⟨h.1, acallM_mono (fun r os => hr r os) h.2⟩
  | false =>
    rw [Run_val hc] at h ⊢
    unfold Val at *
    split at h
    · exact ⟨h.1, h.2.1, hr _ _ h.2.2⟩
    · exact h.elim

theorem Mid_mono {o : Oper} {st : St} {R R' : AV → List AObj → Prop} (hr : ∀ v os, R v os → R' v os) (h : Mid P G M ops o st R) : Mid P G M ops o st R' := by
  cases hg : o.guard with
  | none =>
    rw [Mid_none hg] at h ⊢
    exact Run_mono hr h
  | some g =>
    obtain ⟨t, b, _, _, hd⟩ := Mid_guard hg h
    rw [hd] at h ⊢
    exact ⟨h.1, fun e => Run_mono hr (h.2.1 e), fun e => ⟨(h.2.2 e).1, hr _ _ (h.2.2 e).2⟩⟩

theorem Run_some {o : Oper} {st : St} {R : AV → List AObj → Prop} (h : Run P G M o st R) : ∃ v os, R v os := by
  cases hc : isCall o with
  | true =>
    obtain ⟨f, args, ts, e⟩ := isCall_true hc
    rw [Run_call e] at h
    exact acallM_some h.2
  | false =>
    rw [Run_val hc] at h
    unfold Val at h
    split at h
    · exact ⟨_, _, h.2.2⟩
    · exact h.elim

theorem bool_other {b w : Bool} (h : ¬ b = w) : b = !w := by cases b <;> cases w <;> simp_all
theorem bool_same {b w : Bool} (h : b = w) : ¬ b = !w := by cases b <;> cases w <;> simp_all

theorem Mid_some {o : Oper} {st : St} {R : AV → List AObj → Prop} (h : Mid P G M ops o st R) : ∃ v os, R v os := by
  cases hg : o.guard with
  | none =>
    rw [Mid_none hg] at h
    exact Run_some h
  | some g =>
    obtain ⟨t, b, _, _, hd⟩ := Mid_guard hg h
    rw [hd] at h
    obtain ⟨h1, h2, h3⟩ := h
    by_cases e : b = true
    · exact Run_some (h2 e)
    · exact ⟨_, _, (h3 (by simpa using e)).2⟩

/-- What no call is comes to one value. -/
theorem Run_det {o : Oper} {st : St} {R : AV → List AObj → Prop} (hc : isCall o = false) (h : Run P G M o st R) : ∃ v os, ∀ R', Run P G M o st R' ↔ R' v os := by
  simp only [Run_val hc] at h ⊢
  unfold Val at *
  cases hv : aval P ((o.dst.map (M.contains ·)).getD false) (ev G st.slots) st.objs o.op with
  | bad => rw [hv] at h; exact h.elim
  | ok C v os =>
    rw [hv] at h
    exact ⟨v, os, fun R' => ⟨fun h => h.2.2, fun h' => ⟨h.1, h.2.1, h'⟩⟩⟩

theorem Mid_det {o : Oper} {st : St} {R : AV → List AObj → Prop} (hc : isCall o = false) (h : Mid P G M ops o st R) : ∃ v os, ∀ R', Mid P G M ops o st R' ↔ R' v os := by
  cases hg : o.guard with
  | none =>
    simp only [Mid_none hg] at h ⊢
    exact Run_det hc h
  | some g =>
    obtain ⟨t, b, _, _, hd⟩ := Mid_guard hg h
    rw [hd] at h
    simp only [hd]
    obtain ⟨h1, h2, h3⟩ := h
    by_cases e : b = true
    · obtain ⟨v, os, hv⟩ := Run_det hc (h2 e)
      exact ⟨v, os, fun R' => ⟨fun h => (hv R').1 (h.2.1 e), fun h => ⟨h1, fun _ => (hv R').2 h, fun e' => by rw [e] at e'; cases e'⟩⟩⟩
    · exact ⟨uav, st.objs, fun R' => ⟨fun h => (h.2.2 (by simpa using e)).2, fun h => ⟨h1, fun e'' => absurd e'' e, fun _ => ⟨(h3 (by simpa using e)).1, h⟩⟩⟩⟩

theorem aopsK_mono {K K' : St → Prop} (hk : ∀ s, K s → K' s) : ∀ (l : List Oper) (st : St), aopsK P G M ops l st K → aopsK P G M ops l st K'
  | [], st, h => hk _ h
  | o :: l, st, h => by
    rw [aopsK_cons] at h ⊢
    exact Mid_mono (fun v os h => aopsK_mono hk l _ h) h

/-- How an operation stands to the objects: 0 not at all, 1 reads, 2 writes. -/
def cls (M : List Nat) (o : Oper) : Nat := match o.op with
  | .move _ | .assign _ | .pick .. | .build .. | .nilCheck _ | .binOp .. | .unOp .. | .sliceToArrayPointer .. | .slice .. | .fieldAddr .. | .field .. | .indexAddr .. | .index .. | .extract .. => 0
  | .call { callee := .builtin .len, .. } | .call { callee := .builtin .min, .. } | .call { callee := .builtin .max, .. } => 0
  | .buildSlice .. => if (o.dst.map (M.contains ·)).getD false then 2 else 0
  | .convert .. => if (o.dst.map (M.contains ·)).getD false then 1 else 0
  | .load .. => if (o.dst.map (M.contains ·)).getD false then 0 else 1
  | .call { callee := .value _, .. } => if htok M o.dst then 2 else if (o.dst.map (M.contains ·)).getD false then 0 else 1
  | _ => 2

theorem ofO_iff {objs : List AObj} {o : Option (Prop × AV)} {C : Prop} {v : AV} {objs' : List AObj} : R.ofO objs o = .ok C v objs' → objs' = objs ∧ ∀ o2, R.ofO o2 o = .ok C v o2 := by
  intro h
  obtain ⟨rfl, rfl⟩ := ofO_ok h
  exact ⟨rfl, fun _ => rfl⟩
theorem ofV_iff {objs : List AObj} {o : Option AV} {C : Prop} {v : AV} {objs' : List AObj} : R.ofV objs o = .ok C v objs' → objs' = objs ∧ ∀ o2, R.ofV o2 o = .ok C v o2 := by
  intro h
  cases o with
  | none => cases h
  | some x =>
    unfold R.ofV at h
    injection h with h1 h2 h3
    subst h1 h2 h3
    exact ⟨rfl, fun _ => rfl⟩

theorem aval_cls0 {o : Oper} {mt : Bool} (hmt : mt = (o.dst.map (M.contains ·)).getD false) {f : Operand → AV} {objs objs' : List AObj} {C : Prop} {v : AV} (hc : cls M o = 0) (h : aval P mt f objs o.op = .ok C v objs') : objs' = objs ∧ ∀ o2, aval P mt f o2 o.op = .ok C v o2 := by
  obtain ⟨dst, op, ty, pos, af, g⟩ := o
  cases op <;> simp only [cls] at hc <;> (try (exact absurd hc (by decide))) <;> simp only [aval] at h ⊢
  case convert s d x =>
    have hm : mt = false := by
      rw [hmt]
      cases hq : (dst.map (M.contains ·)).getD false with
      | false => rfl
      | true => simp only [hq] at hc; simp at hc
    simp only [hm, Bool.false_eq_true, if_false] at h ⊢
    cases hd : P.underlying d with
    | none =>
      rw [hd] at h
      simp only at h ⊢
      exact ofO_iff h
    | some td =>
      rw [hd] at h
      cases td <;> simp only at h ⊢
      case slice e =>
        unfold abytes at h ⊢
        cases hx : f x with
        | val u =>
          rw [hx] at h
          cases u <;> simp only at h ⊢ <;> (try cases h)
          rw [hd] at h
          rw [hd]
          cases hs : P.underlying s with
          | none => rw [hs] at h; cases h
          | some ts =>
            rw [hs] at h
            cases ts <;> simp only at h ⊢ <;> (try cases h)
            exact ⟨rfl, fun _ => rfl⟩
        | _ => rw [hx] at h; cases h
      all_goals exact ofO_iff h
  case load t x =>
    have hm : mt = true := by
      rw [hmt]
      cases hq : (dst.map (M.contains ·)).getD false with
      | true => rfl
      | false => simp only [hq] at hc; simp at hc
    simp only [hm, if_true] at h ⊢
    exact ofO_iff h
  case buildSlice t n ps =>
    have hm : mt = false := by
      rw [hmt]
      cases hq : (dst.map (M.contains ·)).getD false with
      | false => rfl
      | true => simp only [hq] at hc; simp at hc
    simp only [hm, Bool.false_eq_true, if_false] at h ⊢
    unfold abuildSlice at h ⊢
    split at h
    case h_2 => cases h
    split at h
    case h_2 => cases h
    split at h
    case h_2 => cases h
    injection h with e1 e2 e3
    subst e1 e2 e3
    exact ⟨rfl, fun o2 => rfl⟩
  case call c =>
    obtain ⟨callee, args, ts⟩ := c
    cases callee with
    | value f => cases h
    | invoke r n => simp at hc
    | builtin b =>
      simp only at h ⊢
      cases b <;> simp at hc
      all_goals
        unfold abuiltin at h ⊢
        split at h <;> first | exact ofV_iff h | cases h | contradiction
  all_goals first
    | exact ofO_iff h
    | exact ofV_iff h
    | (injection h with e1 e2 e3; subst e1 e2 e3; exact ⟨rfl, fun _ => rfl⟩)

theorem aparts_congr {f f' : Operand → AV} (ps : Array (Nat × Operand)) (h : ∀ x ∈ ((ps.toList.map (·.2)).toArray : Array Operand), f x = f' x) : aparts f ps = aparts f' ps := by
  unfold aparts
  apply List.map_congr_left
  intro p hp
  rw [h p.2 (by simp only [List.mem_toArray, List.mem_map]; exact ⟨p, hp, rfl⟩)]

/-- What an operation comes to hangs on its operands. -/
theorem aval_congr {mt : Bool} {f f' : Operand → AV} {objs : List AObj} (op : Op) (h : ∀ x ∈ op.operands, f x = f' x) : aval P mt f objs op = aval P mt f' objs op := by
  cases op <;> simp only [Op.operands] at h <;> simp only [aval]
  case build t ps => rw [aparts_congr ps h]
  case buildSlice t n ps => rw [aparts_congr ps h]
  case slice t x lo hi mx => cases lo <;> cases hi <;> cases mx <;> simp_all
  case call c =>
    obtain ⟨callee, args, ts⟩ := c
    cases callee with
    | builtin b =>
      simp only [Call.operands] at h
      have : args.toList.map f = args.toList.map f' := List.map_congr_left fun x hx => h x (by simpa using hx)
      show abuiltin P mt objs b ts.toList (args.toList.map f) = abuiltin P mt objs b ts.toList (args.toList.map f')
      rw [this]
    | _ => rfl
  all_goals (first | rfl | (simp_all; done))

theorem mem_looks {o : Oper} {t : Tmp} (h : Operand.tmp t ∈ o.op.operands) : t ∈ o.looksAt ops := List.mem_append_left _ (List.mem_filterMap.2 ⟨.tmp t, by simpa using h, rfl⟩)

theorem ev_congr {s s' : List (Nat × AV)} {x : Operand} (h : ∀ t, x = .tmp t → lk s t = lk s' t) : ev G s x = ev G s' x := by
  cases x with
  | tmp t => exact h t rfl
  | _ => rfl

theorem Run_congr {o : Oper} {st st' : St} {R : AV → List AObj → Prop} (hn : st.nt = st'.nt) (ho : st.objs = st'.objs) (hl : ∀ t ∈ o.looksAt ops, lk st.slots t = lk st'.slots t) (h : Run P G M o st R) : Run P G M o st' R := by
  have he : ∀ x ∈ o.op.operands, ev G st.slots x = ev G st'.slots x := fun x hx => ev_congr fun t e => hl t (mem_looks (e ▸ hx))
  have hd : dOk st o.dst → dOk st' o.dst := fun h => by
    unfold dOk at *
    split at h <;> simp_all
  cases hc : isCall o with
  | true =>
    obtain ⟨f, args, ts, e⟩ := isCall_true hc
    rw [Run_call e] at h ⊢
    have e1 : ev G st'.slots f = ev G st.slots f := (he f (by simp [e, Op.operands, Call.operands])).symm
    have e2 : args.toList.map (ev G st'.slots) = args.toList.map (ev G st.slots) := List.map_congr_left fun x hx => (he x (by simp [e, Op.operands, Call.operands]; simp at hx; simp [hx])).symm
    rw [e1, e2, ← ho]
    exact ⟨hd h.1, h.2⟩
  | false =>
    rw [Run_val hc] at h ⊢
    rw [aval_congr o.op he, ho] at h
    unfold Val at *
    split at h
    · exact ⟨h.1, hd h.2.1, h.2.2⟩
    · exact h.elim

theorem Mid_congr {o : Oper} {st st' : St} {R : AV → List AObj → Prop} (hn : st.nt = st'.nt) (ho : st.objs = st'.objs) (hl : ∀ t ∈ o.looksAt ops, lk st.slots t = lk st'.slots t) (h : Mid P G M ops o st R) : Mid P G M ops o st' R := by
  have hd : dOk st o.dst → dOk st' o.dst := fun h => by
    unfold dOk at *
    split at h <;> simp_all
  cases hg : o.guard with
  | none =>
    rw [Mid_none hg] at h ⊢
    exact Run_congr hn ho hl h
  | some g =>
    obtain ⟨t, b, ht, hb, hd'⟩ := Mid_guard hg h
    rw [hd'] at h
    have hlt : gdec (lk st'.slots t) g.2 = some b := by
      rw [← hb]
      refine congrArg (gdec · g.2) (hl t (List.mem_append_right _ ?_)).symm
      rw [hg]
      unfold gslot at ht
      simp [ht]
    have : Mid P G M ops o st' R = (t < st'.nt ∧ (b = true → Run P G M o st' R) ∧ (b = false → dOk st' o.dst ∧ R uav st'.objs)) := by
      unfold Mid
      rw [hg]
      simp only [ht]
      rw [hlt]
    rw [this]
    exact ⟨hn ▸ h.1, fun e => Run_congr hn ho hl (h.2.1 e), fun e => ⟨hd (h.2.2 e).1, ho ▸ (h.2.2 e).2⟩⟩

theorem aval_cls1 {o : Oper} {mt : Bool} (hmt : mt = (o.dst.map (M.contains ·)).getD false) {f : Operand → AV} {objs objs' : List AObj} {C : Prop} {v : AV} (hc : cls M o ≤ 1) (h : aval P mt f objs o.op = .ok C v objs') : objs' = objs := by
  by_cases h0 : cls M o = 0
  · exact (aval_cls0 hmt h0 h).1
  · obtain ⟨dst, op, ty, pos, af, g⟩ := o
    cases op <;> simp only [cls] at hc h0 <;> (try (exact absurd trivial h0)) <;> (try (exact absurd rfl h0)) <;> (try (exact absurd hc (by decide))) <;> simp only [aval] at h
    case load t x => exact (ofO_ok h).2
    case buildSlice t n ps => exact absurd hc (by split at hc <;> simp_all)
    case convert s d x =>
      have hq : ∀ o : Option (Prop × AV), R.ofO objs o = .ok C v objs' → objs' = objs := fun o h => (ofO_ok h).2
      split at h
      · unfold abytes at h
        split at h
        case h_2 => cases h
        split at h
        case h_2 => cases h
        injection h with _ _ h
        exact h.symm
      · split at h
        · exact hq _ h
        · exact hq _ h
    case call c =>
      obtain ⟨callee, args, ts⟩ := c
      cases callee with
      | value f => simp at h
      | invoke r n => simp at h
      | builtin b => cases b <;> simp at hc h0

theorem cls_call {o : Oper} (h : isCall o = true) (hc : cls M o ≤ 1) : htok M o.dst = false ∧ (cls M o = 0 → (o.dst.map (M.contains ·)).getD false = true) := by
  obtain ⟨f, args, ts, e⟩ := isCall_true h
  simp only [cls, e] at hc ⊢
  cases hh : htok M o.dst with
  | true => rw [hh] at hc; simp at hc
  | false =>
    refine ⟨rfl, ?_⟩
    cases (o.dst.map (M.contains ·)).getD false <;> simp

theorem Run_keep {o : Oper} {st : St} {R : AV → List AObj → Prop} (hc : cls M o ≤ 1) (h : Run P G M o st R) : Run P G M o st (fun v os => os = st.objs ∧ R v os) := by
  cases hcl : isCall o with
  | true =>
    obtain ⟨f, args, ts, e⟩ := isCall_true hcl
    have hm := (cls_call hcl hc).1
    rw [Run_call e] at h ⊢
    unfold acallM at h ⊢
    rw [hm] at h ⊢
    simp only [Bool.false_eq_true, if_false] at h ⊢
    exact ⟨h.1, acall_mono (fun r hr => ⟨trivial, hr⟩) h.2⟩
  | false =>
    rw [Run_val hcl] at h ⊢
    unfold Val at *
    split at h
    · rename_i hv
      exact ⟨h.1, h.2.1, aval_cls1 rfl hc hv, h.2.2⟩
    · exact h.elim

theorem Mid_keep {o : Oper} {st : St} {R : AV → List AObj → Prop} (hc : cls M o ≤ 1) (h : Mid P G M ops o st R) : Mid P G M ops o st (fun v os => os = st.objs ∧ R v os) := by
  cases hg : o.guard with
  | none =>
    rw [Mid_none hg] at h ⊢
    exact Run_keep hc h
  | some g =>
    obtain ⟨t, b, _, _, hd⟩ := Mid_guard hg h
    rw [hd] at h ⊢
    exact ⟨h.1, fun e => Run_keep hc (h.2.1 e), fun e => ⟨(h.2.2 e).1, rfl, (h.2.2 e).2⟩⟩

theorem Run_move {o : Oper} {st : St} {R : AV → List AObj → Prop} (hc : cls M o = 0) (h : Run P G M o st R) (o2 : List AObj) : Run P G M o ⟨st.nt, st.slots, o2⟩ (fun v os => os = o2 ∧ R v st.objs) := by
  cases hcl : isCall o with
  | true =>
    obtain ⟨f, args, ts, e⟩ := isCall_true hcl
    have hm := (cls_call hcl (by omega)).2 hc
    have hm1 := (cls_call (M := M) hcl (by omega)).1
    rw [Run_call e] at h ⊢
    have ho : ∀ os, oview M o.dst os = [] := fun os => by unfold oview; rw [hm]; rfl
    unfold acallM at h ⊢
    rw [hm1] at h ⊢
    simp only [Bool.false_eq_true, if_false] at h ⊢
    rw [ho] at h ⊢
    exact ⟨h.1, acall_mono (fun r hr => ⟨trivial, hr⟩) h.2⟩
  | false =>
    rw [Run_val hcl] at h ⊢
    unfold Val at *
    split at h
    · rename_i hv
      obtain ⟨h1, h2⟩ := aval_cls0 rfl hc hv
      rw [h2 o2]
      exact ⟨h.1, h.2.1, rfl, h1 ▸ h.2.2⟩
    · exact h.elim

theorem Mid_move {o : Oper} {st : St} {R : AV → List AObj → Prop} (hc : cls M o = 0) (h : Mid P G M ops o st R) (o2 : List AObj) : Mid P G M ops o ⟨st.nt, st.slots, o2⟩ (fun v os => os = o2 ∧ R v st.objs) := by
  cases hg : o.guard with
  | none =>
    rw [Mid_none hg] at h ⊢
    exact Run_move hc h o2
  | some g =>
    obtain ⟨t, b, ht, hb, hd⟩ := Mid_guard hg h
    rw [hd] at h
    have : ∀ R', Mid P G M ops o ⟨st.nt, st.slots, o2⟩ R' = (t < st.nt ∧ (b = true → Run P G M o ⟨st.nt, st.slots, o2⟩ R') ∧ (b = false → dOk st o.dst ∧ R' uav o2)) := fun R' => by
      unfold Mid
      rw [hg]
      simp only [ht, hb]
      rfl
    rw [this]
    exact ⟨h.1, fun e => Run_move hc (h.2.1 e) o2, fun e => ⟨(h.2.2 e).1, rfl, (h.2.2 e).2⟩⟩

/-- States that say the same. -/
def Same (s s' : St) : Prop := s.nt = s'.nt ∧ s.objs = s'.objs ∧ ∀ i, lk s.slots i = lk s'.slots i

theorem put_nt (st : St) (d : Option Tmp) (v : AV) (os : List AObj) : (st.put d v os).nt = st.nt := by cases d <;> rfl
theorem put_objs (st : St) (d : Option Tmp) (v : AV) (os : List AObj) : (st.put d v os).objs = os := by cases d <;> rfl
theorem put_lk (st : St) (d : Option Tmp) (v : AV) (os : List AObj) (t : Tmp) (h : ∀ e, d = some e → e ≠ t) : lk (st.put d v os).slots t = lk st.slots t := by
  cases d with
  | none => rfl
  | some e => simp only [St.put, lk]; rw [if_neg (h e rfl)]

theorem put_swap (st : St) (d e : Option Tmp) (v u : AV) (o1 o2 o3 o4 : List AObj) (h : ∀ x, d = some x → e ≠ some x) (ho : o2 = o4) : Same ((st.put d v o1).put e u o2) ((st.put e u o3).put d v o4) := by
  subst ho
  refine ⟨by simp only [put_nt], by simp only [put_objs], fun i => ?_⟩
  cases d with
  | none => cases e <;> rfl
  | some x => cases e with
    | none => rfl
    | some y =>
      have : y ≠ x := fun e => h x rfl (by rw [e])
      simp only [St.put, lk]
      by_cases h1 : y = i
      · subst h1
        rw [if_pos rfl, if_neg (Ne.symm this), if_pos rfl]
      · rw [if_neg h1, if_neg h1]

def indep (M : List Nat) (ops : Array Oper) (x y : Oper) : Bool :=
  x.apart ops y && (cls M x == 0 || cls M y == 0 || (cls M x ≤ 1 && cls M y ≤ 1)) && (!isCall x || !isCall y)

theorem commute {oi oj : Oper} {st : St} {K : St → Prop} (hi : indep M ops oi oj = true) (hK : ∀ s s', Same s s' → K s → K s')
    (h : Mid P G M ops oi st (fun v os => Mid P G M ops oj (st.put oi.dst v os) (fun u os' => K ((st.put oi.dst v os).put oj.dst u os')))) :
    Mid P G M ops oj st (fun u os' => Mid P G M ops oi (st.put oj.dst u os') (fun v os => K ((st.put oj.dst u os').put oi.dst v os))) := by
  unfold indep at hi
  simp only [Bool.and_eq_true, Bool.or_eq_true, beq_iff_eq, Bool.not_eq_true', decide_eq_true_eq] at hi
  obtain ⟨⟨hap, hcl⟩, hcall⟩ := hi
  obtain ⟨a1, a2, a3⟩ := Oper.apart_spec hap
  have lj : ∀ v os, ∀ t ∈ oj.looksAt ops, lk (st.put oi.dst v os).slots t = lk st.slots t := fun v os t ht => put_lk _ _ _ _ _ fun e he h => a1 e he (h ▸ ht)
  have li : ∀ v os, ∀ t ∈ oi.looksAt ops, lk (st.put oj.dst v os).slots t = lk st.slots t := fun v os t ht => put_lk _ _ _ _ _ fun e he h => a3 e he (h ▸ ht)
  have toj : ∀ v R, Mid P G M ops oj (st.put oi.dst v st.objs) R → Mid P G M ops oj st R := fun v R h => Mid_congr (put_nt ..) (put_objs ..) (lj v _) h
  have toi : ∀ v R, Mid P G M ops oi st R → Mid P G M ops oi (st.put oj.dst v st.objs) R := fun v R h => Mid_congr (put_nt ..).symm (put_objs ..).symm (fun t ht => (li v _ t ht).symm) h
  cases hci : isCall oi with
  | false =>
    obtain ⟨v0, o0, hd⟩ := Mid_det hci h
    have h' := (hd _).1 h
    by_cases hj0 : cls M oj = 0
    · have h2 := Mid_move hj0 h' st.objs
      rw [put_objs, put_nt] at h2
      have h3 := Mid_congr (st := ⟨st.nt, (st.put oi.dst v0 o0).slots, st.objs⟩) (st' := st) rfl rfl (lj v0 o0) h2
      refine Mid_mono ?_ h3
      rintro u os' ⟨rfl, hk⟩
      refine toi u _ ((hd _).2 (hK _ _ (put_swap _ _ _ _ _ _ _ _ _ a2 rfl) hk))
    · have hi1 : cls M oi ≤ 1 := by omega
      have ho : o0 = st.objs := ((hd _).1 (Mid_keep hi1 h)).1
      subst ho
      have h2 := toj _ _ h'
      by_cases hi0 : cls M oi = 0
      · refine Mid_mono ?_ h2
        intro u os' hk
        have h3 := Mid_move hi0 ((hd (fun v os => v = v0 ∧ os = st.objs)).2 ⟨rfl, rfl⟩) os'
        have h4 := Mid_congr (st := ⟨st.nt, st.slots, os'⟩) (st' := st.put oj.dst u os') (put_nt ..).symm (put_objs ..).symm (fun t ht => (li u _ t ht).symm) h3
        refine Mid_mono ?_ h4
        rintro v os ⟨rfl, rfl, _⟩
        exact hK _ _ (put_swap _ _ _ _ _ _ _ _ _ a2 rfl) hk
      · have hj1 : cls M oj ≤ 1 := by omega
        refine Mid_mono ?_ (Mid_keep hj1 h2)
        rintro u os' ⟨rfl, hk⟩
        exact toi u _ ((hd _).2 (hK _ _ (put_swap _ _ _ _ _ _ _ _ _ a2 rfl) hk))
  | true =>
    have hcj : isCall oj = false := by rcases hcall with h | h <;> simp_all
    by_cases hbig : ¬ cls M oi ≤ 1
    · have hj0 : cls M oj = 0 := by omega
      have conv : ∀ v os R, Mid P G M ops oj (st.put oi.dst v os) R → Mid P G M ops oj st (fun u os' => os' = st.objs ∧ R u os) := fun v os R h => by
        have h2 := Mid_move hj0 h st.objs
        rw [put_objs, put_nt] at h2
        exact Mid_congr (st := ⟨st.nt, (st.put oi.dst v os).slots, st.objs⟩) (st' := st) rfl rfl (lj v os) h2
      obtain ⟨v1, os1, hj⟩ := Mid_some h
      obtain ⟨u0, o0, hd⟩ := Mid_det hcj (conv v1 os1 _ hj)
      refine (hd _).2 ?_
      have ho : o0 = st.objs := ((hd _).1 (conv v1 os1 _ hj)).1
      subst ho
      refine toi _ _ (Mid_mono ?_ h)
      intro v os hm
      have hq := (hd _).1 (conv v os _ hm)
      exact hK _ _ (put_swap _ _ _ _ _ _ _ _ _ a2 rfl) hq.2
    have hi1 : cls M oi ≤ 1 := Classical.not_not.1 hbig
    have hk := Mid_keep hi1 h
    obtain ⟨v1, os1, e1, hj⟩ := Mid_some hk
    subst e1
    obtain ⟨u0, o0, hd⟩ := Mid_det hcj (toj _ _ hj)
    refine (hd _).2 ?_
    by_cases hj1 : cls M oj ≤ 1
    · have ho : o0 = st.objs := ((hd _).1 (Mid_keep hj1 (toj _ _ hj))).1
      subst ho
      refine toi _ _ (Mid_mono ?_ hk)
      rintro v os ⟨rfl, hm⟩
      exact hK _ _ (put_swap _ _ _ _ _ _ _ _ _ a2 rfl) ((hd _).1 (toj _ _ hm))
    · have hi0 : cls M oi = 0 := by omega
      have h4 := Mid_congr (st := ⟨st.nt, st.slots, o0⟩) (st' := st.put oj.dst u0 o0) (put_nt ..).symm (put_objs ..).symm (fun t ht => (li u0 _ t ht).symm) (Mid_move hi0 hk o0)
      refine Mid_mono ?_ h4
      rintro v os ⟨rfl, _, hm⟩
      exact hK _ _ (put_swap _ _ _ _ _ _ _ _ _ a2 rfl) ((hd _).1 (toj _ _ hm))

theorem Same.symm {s s' : St} (h : Same s s') : Same s' s := ⟨h.1.symm, h.2.1.symm, fun i => (h.2.2 i).symm⟩
theorem Same.trans {s s' s'' : St} (h : Same s s') (h' : Same s' s'') : Same s s'' := ⟨h.1.trans h'.1, h.2.1.trans h'.2.1, fun i => (h.2.2 i).trans (h'.2.2 i)⟩

theorem Same.put {s s' : St} (h : Same s s') (d : Option Tmp) (v : AV) (os : List AObj) : Same (s.put d v os) (s'.put d v os) := by
  refine ⟨by simp only [put_nt]; exact h.1, by simp only [put_objs], fun i => ?_⟩
  cases d with
  | none => exact h.2.2 i
  | some d => simp only [St.put, lk]; split <;> first | rfl | exact h.2.2 i

def aOp (P : Program) (G : List (Nat × List AV)) (M : List Nat) (ops : Array Oper) (i : Nat) (K : St → Prop) (st : St) : Prop :=
  match ops[i]? with
  | none => K st
  | some o => Mid P G M ops o st fun v os => K (st.put o.dst v os)

def aAny (P : Program) (G : List (Nat × List AV)) (M : List Nat) (ops : Array Oper) (Q : St → Prop) : Nat → Array Bool → St → Prop
  | 0, listed, st => Region.ready .any ops listed = [] ∧ Q st
  | fuel + 1, listed, st => (Region.ready .any ops listed = [] → Q st) ∧ ∀ i ∈ Region.ready .any ops listed, aOp P G M ops i (aAny P G M ops Q fuel (listed.setIfInBounds i true)) st

theorem aOp_mono {i : Nat} {K K' : St → Prop} {st : St} (hk : ∀ s, K s → K' s) (h : aOp P G M ops i K st) : aOp P G M ops i K' st := by
  unfold aOp at *
  cases ho : ops[i]? with
  | none => rw [ho] at h; exact hk _ h
  | some o => rw [ho] at h; exact Mid_mono (fun _ _ => hk _) h

theorem aOp_same {i : Nat} {K : St → Prop} {s s' : St} (hk : ∀ s s', Same s s' → K s → K s') (hs : Same s s') (h : aOp P G M ops i K s) : aOp P G M ops i K s' := by
  unfold aOp at *
  cases ho : ops[i]? with
  | none => rw [ho] at h; exact hk _ _ hs h
  | some o =>
    rw [ho] at h
    exact Mid_congr hs.1 hs.2.1 (fun t _ => hs.2.2 t) (Mid_mono (fun v os => hk _ _ (hs.put _ _ _)) h)

theorem aAny_same {Q : St → Prop} (hQ : ∀ s s', Same s s' → Q s → Q s') : ∀ (fuel : Nat) (listed : Array Bool) (s s' : St), Same s s' → aAny P G M ops Q fuel listed s → aAny P G M ops Q fuel listed s'
  | 0, listed, s, s', hs, h => ⟨h.1, hQ _ _ hs h.2⟩
  | fuel + 1, listed, s, s', hs, h => ⟨fun e => hQ _ _ hs (h.1 e), fun i hi => aOp_same (aAny_same hQ fuel _) hs (h.2 i hi)⟩

theorem aAny_first {Q : St → Prop} (hQ : ∀ s s', Same s s' → Q s → Q s') {i : Nat} {oi : Oper} (hi : ops[i]? = some oi) (W : Nat → Bool) (hWi : W i = true) :
    ∀ (fuel : Nat) (listed : Array Bool) (st : St), (∀ k, W k = true → listed.getD k true = false ∧ (k = i ∨ ∃ o, ops[k]? = some o ∧ ∃ e ∈ o.after, Region.binds .any e = true ∧ W e.on = true)) →
      (∀ k o, ops[k]? = some o → W k = false → listed.getD k true = false → indep M ops oi o = true) → i ∈ Region.ready .any ops listed →
      aOp P G M ops i (aAny P G M ops Q fuel (listed.setIfInBounds i true)) st → aAny P G M ops Q (fuel + 1) listed st := by
  intro fuel
  induction fuel with
  | zero =>
    intro listed st hW hind hr h
    refine ⟨fun e => (by rw [e] at hr; cases hr), fun j hj => ?_⟩
    by_cases hji : j = i
    · subst hji; exact h
    · exfalso
      have hm := ready_mono hj hji
      unfold aOp at h
      rw [hi] at h
      obtain ⟨v, os, h0⟩ := Mid_some h
      rw [h0.1] at hm
      cases hm
  | succ fuel ih =>
    intro listed st hW hind hr h
    refine ⟨fun e => (by rw [e] at hr; cases hr), fun j hj => ?_⟩
    by_cases hji : j = i
    · subst hji; exact h
    · obtain ⟨hjun, oj, hoj, hall⟩ := mem_ready.1 hj
      have hWj : W j = false := by
        cases hw : W j with
        | false => rfl
        | true =>
          obtain ⟨h1, h2⟩ := hW j hw
          rcases h2 with h2 | ⟨o, ho, e, he, hb, hwe⟩
          · exact absurd h2 hji
          · rw [hoj] at ho
            injection ho with ho
            subst ho
            have h3 := hall e he hb
            have h4 := (hW _ hwe).1
            rcases Nat.lt_or_ge e.on listed.size with h' | h'
            · simp [h'] at h3 h4; rw [h3] at h4; cases h4
            · simp [Array.getElem?_eq_none h'] at h3
      have hin := hind j oj hoj hWj hjun
      have h1 : Mid P G M ops oi st fun v os => Mid P G M ops oj (st.put oi.dst v os) fun u os' => aAny P G M ops Q fuel ((listed.setIfInBounds i true).setIfInBounds j true) ((st.put oi.dst v os).put oj.dst u os') := by
        unfold aOp at h
        rw [hi] at h
        refine Mid_mono (fun v os hk => ?_) h
        have h2 := hk.2 j (ready_mono hj hji)
        unfold aOp at h2
        rw [hoj] at h2
        exact h2
      have h2 := commute hin (aAny_same hQ fuel _) h1
      unfold aOp
      rw [hoj]
      refine Mid_mono (fun u os hk => ?_) h2
      refine ih (listed.setIfInBounds j true) _ (fun k hk => ?_) (fun k o hk hw hun => hind k o hk hw ?_) (ready_mono hr (Ne.symm hji)) ?_
      · refine ⟨?_, (hW k hk).2⟩
        have hne : j ≠ k := fun e => by subst e; rw [hWj] at hk; cases hk
        rw [getD_set_ne true hne]
        exact (hW k hk).1
      · by_cases hjk : j = k
        · subst hjk; exact hjun
        · rw [getD_set_ne true hjk] at hun; exact hun
      · unfold aOp
        rw [hi]
        rw [Array.setIfInBounds_comm _ _ (Ne.symm hji)] at hk
        exact hk

/-- Who waits for number i. -/
def waits (ops : Array Oper) (i : Nat) : Array Bool :=
  (List.range ops.size).foldl (fun acc k => acc.push (k == i || ((ops[k]?).map (·.after.any fun e => Region.binds .any e && acc.getD e.on false)).getD false)) #[]

def freeV (M : List Nat) (ops : Array Oper) (listed : Array Bool) (i : Nat) (oi : Oper) (W : Array Bool) : Bool :=
  W.getD i false && decide (W.size ≤ ops.size) && (List.range ops.size).all fun k => match ops[k]? with
    | none => true
    | some o => if W.getD k false then !listed.getD k true && (k == i || o.after.any fun e => Region.binds .any e && W.getD e.on false) else listed.getD k true || indep M ops oi o

def lexV (M : List Nat) (ops : Array Oper) : Nat → Nat → Array Bool → Bool
  | 0, _, listed => (Region.ready .any ops listed).isEmpty
  | fuel + 1, k, listed => (Region.ready .any ops listed).contains k && (match ops[k]? with | some o => freeV M ops listed k o (waits ops k) | none => false) && lexV M ops fuel (k + 1) (listed.setIfInBounds k true)

theorem aAny_lex {Q : St → Prop} (hQ : ∀ s s', Same s s' → Q s → Q s') : ∀ (l : List Oper) (k : Nat) (listed : Array Bool) (st : St), (∀ j, l[j]? = ops[k + j]?) → lexV M ops l.length k listed = true → aopsK P G M ops l st Q → aAny P G M ops Q l.length listed st
  | [], k, listed, st, hl, hB, h => ⟨by simpa [lexV] using hB, h⟩
  | o :: l, k, listed, st, hl, hB, h => by
    have h0 : ops[k]? = some o := by simpa using (hl 0).symm
    simp only [List.length_cons, lexV, Bool.and_eq_true, h0] at hB
    obtain ⟨⟨hr, hf⟩, hB'⟩ := hB
    unfold freeV at hf
    simp only [Bool.and_eq_true, decide_eq_true_eq, List.all_eq_true, List.mem_range] at hf
    obtain ⟨⟨hWk, hsz⟩, hall⟩ := hf
    refine aAny_first hQ h0 (fun k' => (waits ops k).getD k' false) hWk l.length listed st (fun j hj => ?_) (fun j o' hj hw hun => ?_) (by simpa using hr) ?_
    · have hlt : j < ops.size := by
        rcases Nat.lt_or_ge j (waits ops k).size with h' | h'
        · omega
        · simp [Array.getElem?_eq_none h'] at hj
      have := hall j hlt
      rw [Array.getElem?_eq_getElem hlt] at this
      simp only [hj, if_true, Bool.and_eq_true, Bool.not_eq_true', Bool.or_eq_true, beq_iff_eq] at this
      refine ⟨this.1, this.2.imp id fun h => ?_⟩
      rw [← Array.any_toList, List.any_eq_true] at h
      obtain ⟨e, he, hb⟩ := h
      simp only [Bool.and_eq_true] at hb
      exact ⟨_, Array.getElem?_eq_getElem hlt, e, by simpa using he, hb⟩
    · have hlt : j < ops.size := (Array.getElem?_eq_some_iff.1 hj).1
      have := hall j hlt
      rw [hj] at this
      simp only [hw, hun, Bool.false_or, if_false, Bool.false_eq_true] at this
      exact this
    · rw [aopsK_cons] at h
      unfold aOp
      rw [h0]
      exact Mid_mono (fun v os hk => aAny_lex hQ l (k + 1) _ _ (fun j => by have := hl (j + 1); simpa [Nat.add_assoc, Nat.add_comm 1 j] using this) hB' hk) h

theorem Rep.same {E : Env} {s s' : St} {a : Act} (hs : Same s s') (h : Rep G E s a) : Rep G E s' a :=
  ⟨hs.1 ▸ h.size, fun i => hs.2.2 i ▸ h.slots i, h.defers, hs.2.1 ▸ h.objs, h.glob⟩

theorem Owp_mono {o : Oper} {a : Act} {w : World} {K K' : Act → World → Prop} {Q Q' : Exit → Act → World → Prop} (hk : ∀ a w, K a w → K' a w) (hq : ∀ e a w, e ≠ .normal → Q e a w → Q' e a w) (h : o.wp P a w K Q) : o.wp P a w K' Q' := by
  unfold Oper.wp at h ⊢
  cases hr : (execOp a.eval o).run P w with
  | ok n w' =>
    rw [hr] at h
    cases n <;> simp only [Oper.upon] at h ⊢ <;> first
      | exact hk _ _ h
      | (refine Calls.mono h ?_
         intro e w'' hh
         cases e with
         | returned v => exact hk _ _ hh
         | panicked chain => exact hq _ _ _ (by simp) hh
         | outgrown => obtain ⟨a1, w1, h1⟩ := hh; exact ⟨a1, w1, hq _ _ _ (by simp) h1⟩)
      | exact Rows.mono h fun _ _ hh => hk _ _ hh
  | halt x w' =>
    rw [hr] at h
    cases x <;> simp only [Oper.upon] at h ⊢ <;> exact hq _ _ _ (by simp) h

/-- One operation's answer, in the program. -/
theorem aOp_sound {Q : Exit → Act → World → Prop} {i : Nat} {K : St → Prop} {K' : Act → World → Prop} {st : St} {E : Env} {a : Act} (hr : Rep G E st a)
    (hk : ∀ s E' a', K s → Rep G E' s a' → Ext E st.objs E' s.objs → K' a' E'.w) (h : aOp P G M ops i K st) : wpOp P ops Q i K' a E.w := by
  unfold aOp at h
  unfold wpOp
  cases ho : ops[i]? with
  | none =>
    rw [ho] at h
    exact hk _ E a h hr (.refl _ _)
  | some o =>
    rw [ho] at h
    simp only at h ⊢
    have h1 : aopsK P G M ops [o] st ((fun (e : Exit) (s : St) => e = .normal ∧ K s) .normal) := by
      rw [aopsK_cons]
      exact Mid_mono (fun v os hk => ⟨rfl, hk⟩) h
    have h2 := aopsK_sound (Q := fun (e : Exit) (s : St) => e = .normal ∧ K s) [o] st E a hr h1
    unfold wpList at h2
    have none' : ∀ e a w, RQ P G E st.objs (fun (e : Exit) (s : St) => e = .normal ∧ K s) e a w → K' a w := by
      rintro e a w ⟨s, E', rfl, ⟨_, h1⟩, h2, h3⟩
      exact hk s E' a h1 h2 h3
    split
    · rename_i hw
      rw [if_pos hw] at h2
      rcases h2 with h2 | ⟨_, a0, w0, s, E', _, ⟨h3, _⟩, _⟩
      · refine .inl ?_
        exact Owp_mono (fun a w h => none' _ a w h) (fun e a w hne ⟨s, E', _, ⟨h, _⟩, _⟩ => absurd h hne) h2
      · cases h3
    · rename_i hw
      rw [if_neg hw] at h2
      exact none' _ _ _ h2

theorem aAny_sound {Q : Exit → Act → World → Prop} {Q' : St → Prop} : ∀ (fuel : Nat) (listed : Array Bool) (st : St) (E : Env) (a : Act), Rep G E st a →
    (∀ s E' a', Q' s → Rep G E' s a' → Ext E st.objs E' s.objs → Q .normal a' E'.w) → aAny P G M ops Q' fuel listed st → wpAny P .any ops Q fuel listed a E.w
  | 0, listed, st, E, a, hr, hq, h => ⟨h.1, hq st E a h.2 hr (.refl _ _)⟩
  | fuel + 1, listed, st, E, a, hr, hq, h => ⟨fun e => hq st E a (h.1 e) hr (.refl _ _), fun i hi =>
      aOp_sound hr (fun s E' a' hk hr' hx => aAny_sound fuel _ s E' a' hr' (fun s' E'' a'' h1 h2 h3 => hq s' E'' a'' h1 h2 (hx.trans h3)) hk) (h.2 i hi)⟩

/-- The world behind a draw. -/
def Env.drew (E : Env) : Env := { E with w := { E.w with drawn := E.w.drawn + 1 } }

theorem drew_ext0 (E : Env) : Ext0 E E.drew := ⟨Nat.le_refl _, fun _ _ => Nat.le_refl _, fun _ _ _ _ => rfl, Nat.le_refl _, fun _ _ => .refl _⟩

theorem drew_objs {E : Env} {objs : List AObj} (h : ObjsRep E objs) : ObjsRep E.drew objs := by
  refine ⟨h.1, fun r o hr => ?_, h.2.2⟩
  have := h.2.1 r o hr
  cases o with
  | cells cs =>
    rcases this with e | ⟨g, vs, t, fz, h1, h2, h3, h4, h5, h6⟩
    · exact .inl e
    · exact .inr ⟨g, vs, t, fz, h1, h2, h3, h4, h5, RepL.mono (drew_ext0 E) _ _ h6⟩
  | tok sz n => exact this
  | dead => exact this

theorem drew_ext {E : Env} {objs : List AObj} : Ext E objs E.drew objs :=
  { drew_ext0 E with os := rfl, tape := rfl, output := rfl, frame := fun _ _ _ => ⟨rfl, rfl⟩, own := fun _ h _ => h }

theorem Rep.drew {E : Env} {st : St} {a : Act} (h : Rep G E st a) : Rep G E.drew st a :=
  ⟨h.size, fun i => RepV.mono (drew_ext0 E) _ _ (h.slots i), h.defers, drew_objs h.objs, h.glob.mono (drew_ext0 E)⟩

/-- A region that draws its order. -/
theorem awp_draw (M : List Nat) {st : St} {Q : Exit → St → Prop} {id : Nat} {l : List Oper} (hm : P.follows .mixedOrders = true) (hB : lexV M l.toArray l.length 0 (Array.replicate l.length false) = true)
    (h : aopsK P G M l.toArray l st (Q .normal)) : awp P G (.region id l.toArray true) st Q := fun E a hr => by
  refine wp_region_any hm ?_
  have h1 : aAny P G M l.toArray (fun s => ∃ s', Same s' s ∧ Q .normal s') l.length (Array.replicate l.length false) st := by
    refine aAny_lex (fun s s' hs ⟨s0, h1, h2⟩ => ⟨s0, h1.trans hs, h2⟩) l 0 _ st (by simp) hB ?_
    exact aopsK_mono (fun s h => ⟨s, ⟨rfl, rfl, fun _ => rfl⟩, h⟩) l st h
  have h2 := aAny_sound (P := P) (Q := fun e a' w' => ∃ st' E', E'.w = w' ∧ Q e st' ∧ Rep G E' st' a' ∧ Ext E st.objs E' st'.objs) l.length _ st E.drew a hr.drew (fun s E' a' ⟨s', hs, hq⟩ hr' hx => by
    exact ⟨s', E', rfl, hq, hr'.same ⟨hs.1.symm, hs.2.1.symm, fun i => (hs.2.2 i).symm⟩, drew_ext.trans (hs.2.1 ▸ hx)⟩) h1
  simp only [List.size_toArray]
  exact h2
end

/-- What a guard asks. -/
def gval (ops : Array Oper) (s : List (Nat × AV)) (j : Nat) (w : Bool) : Option Bool := match gslot ops j with
  | some t => gdec (lk s t) w
  | none => none
def gok (ops : Array Oper) (nt j : Nat) : Prop := match gslot ops j with
  | some t => t < nt
  | none => False

theorem gdec_eqs : (∀ w, gdec (.val (.bool true)) w = some w) ∧ (∀ w, gdec (.val (.bool false)) w = some (!w)) ∧ (∀ w x, gdec (.val (.tuple x)) w = some false) ∧ uav = .val (.tuple #[]) := by
  refine ⟨?_, ?_, ?_, ?_⟩ <;> intros <;> rfl

/-- Guards that are plain. -/
theorem K_g {P : Program} {G : List (Nat × List AV)} {M : List Nat} {ops : Array Oper} {rest : List Oper} {nt : Nat} {s : List (Nat × AV)} {os : List AObj} {K : St → Prop} {dst : Option Tmp} {op : Op} {ty : TypeId} {pos : String} {af : Array Edge} {j : Nat} {w c : Bool}
    (h : gval ops s j w = some c) :
    aopsK P G M ops (⟨dst, op, ty, pos, af, some (j, w)⟩ :: rest) ⟨nt, s, os⟩ K = (gok ops nt j ∧ (c = true → aopsK P G M ops (⟨dst, op, ty, pos, af, none⟩ :: rest) ⟨nt, s, os⟩ K) ∧ (c = false → dOk ⟨nt, s, os⟩ dst ∧ aopsK P G M ops rest ((⟨nt, s, os⟩ : St).put dst uav os) K)) := by
  rw [aopsK_cons, aopsK_cons]
  unfold gval at h
  unfold gok Mid
  cases ht : gslot ops j with
  | none => rw [ht] at h; cases h
  | some t =>
    rw [ht] at h
    simp only [ht, h]
    rfl
theorem K_gT {P : Program} {G : List (Nat × List AV)} {M : List Nat} {ops : Array Oper} {rest : List Oper} {nt : Nat} {s : List (Nat × AV)} {os : List AObj} {K : St → Prop} {dst : Option Tmp} {op : Op} {ty : TypeId} {pos : String} {af : Array Edge} {j : Nat} {w : Bool}
    (h : gval ops s j w = some true) :
    aopsK P G M ops (⟨dst, op, ty, pos, af, some (j, w)⟩ :: rest) ⟨nt, s, os⟩ K = (gok ops nt j ∧ aopsK P G M ops (⟨dst, op, ty, pos, af, none⟩ :: rest) ⟨nt, s, os⟩ K) := by
  rw [K_g h]; simp
theorem K_gF {P : Program} {G : List (Nat × List AV)} {M : List Nat} {ops : Array Oper} {rest : List Oper} {nt : Nat} {s : List (Nat × AV)} {os : List AObj} {K : St → Prop} {dst : Option Tmp} {op : Op} {ty : TypeId} {pos : String} {af : Array Edge} {j : Nat} {w : Bool}
    (h : gval ops s j w = some false) :
    aopsK P G M ops (⟨dst, op, ty, pos, af, some (j, w)⟩ :: rest) ⟨nt, s, os⟩ K = (gok ops nt j ∧ dOk ⟨nt, s, os⟩ dst ∧ aopsK P G M ops rest ((⟨nt, s, os⟩ : St).put dst uav os) K) := by
  rw [K_g h]; simp

theorem Bs_getD {l : List UInt8} {i : Nat} (h : i < l.length) : (Bs l).getD i .top = B (l.getD i 0) := by
  simp [Bs, List.getD_eq_getElem?_getD, List.getElem?_map, List.getElem?_eq_getElem h]
theorem drop_getD {α : Type} (l : List α) (k i : Nat) (d : α) : (l.drop k).getD i d = l.getD (k + i) d := by simp [List.getD_eq_getElem?_getD, List.getElem?_drop]

theorem awp_condT {P : Program} {G : List (Nat × List AV)} {st : St} {Q : Exit → St → Prop} {t : Nat} {x y : Code} (h : lk st.slots t = .val (.bool true)) (hx : awp P G x st Q) : awp P G (.cond (.tmp t) x y) st Q :=
  awp_cond rfl h (fun _ => hx) (fun e => by cases e)
theorem awp_condF {P : Program} {G : List (Nat × List AV)} {st : St} {Q : Exit → St → Prop} {t : Nat} {x y : Code} (h : lk st.slots t = .val (.bool false)) (hy : awp P G y st Q) : awp P G (.cond (.tmp t) x y) st Q :=
  awp_cond rfl h (fun e => by cases e) (fun _ => hy)

theorem K_store (P : Program) (G : List (Nat × List AV)) (M : List Nat) (ops : Array Oper) (rest : List Oper) (nt : Nat) (s : List (Nat × AV)) (os : List AObj) (K : St → Prop) (ty : TypeId) (pos : String) (af : Array Edge) (t : TypeId) (x y : Operand) :
    aopsK P G M ops (⟨none, .store t x y, ty, pos, af, none⟩ :: rest) ⟨nt, s, os⟩ K = andR (astore P t (ev G s x) (ev G s y) os) fun _ os' => aopsK P G M ops rest ⟨nt, s, os'⟩ K :=
  (K_eqs P G M ops rest nt s os K 0 ty pos af).2.2.2.2.2.2.2.2.1 t x y
theorem K_nil0 (P : Program) (G : List (Nat × List AV)) (M : List Nat) (ops : Array Oper) (rest : List Oper) (nt : Nat) (s : List (Nat × AV)) (os : List AObj) (K : St → Prop) (ty : TypeId) (pos : String) (af : Array Edge) (x : Operand) :
    aopsK P G M ops (⟨none, .nilCheck x, ty, pos, af, none⟩ :: rest) ⟨nt, s, os⟩ K = andV (anil (ev G s x)) fun _ => aopsK P G M ops rest ⟨nt, s, os⟩ K :=
  (K_eqs P G M ops rest nt s os K 0 ty pos af).2.2.2.2.2.2.2.2.2.2.1 x
theorem K_blt0 (P : Program) (G : List (Nat × List AV)) (M : List Nat) (ops : Array Oper) (rest : List Oper) (nt : Nat) (s : List (Nat × AV)) (os : List AObj) (K : St → Prop) (ty : TypeId) (pos : String) (af : Array Edge) (b : Builtin) (args : Array Operand) (ts : Array TypeId) :
    aopsK P G M ops (⟨none, .call ⟨.builtin b, args, ts⟩, ty, pos, af, none⟩ :: rest) ⟨nt, s, os⟩ K = andR (abuiltin P false os b ts.toList (args.toList.map (ev G s))) fun v os' => aopsK P G M ops rest ⟨nt, s, os'⟩ K :=
  (K_eqs P G M ops rest nt s os K 0 ty pos af).2.2.2.2.2.2.2.2.2.2.2.2.2.2.2.2.2.2.2.2.2.2 b args ts
end Go.V
/-
  VALUE LOGIC, part o: from what a function comes to, to the call in a world.
-/
namespace Go.V
open Go.RowKit
set_option linter.unusedVariables false

/-- The environment at a call from outside. -/
def Env.start (w : World) (N : Nat) : Env := ⟨w, fun _ => N, 0, fun _ => undef⟩

theorem ObjsRep_nil (w : World) (N : Nat) : ObjsRep (Env.start w N) [] := ⟨rfl, fun r o h => by simp at h, fun r r' o o' g h => by simp at h⟩

theorem law_calls {P : Program} {f : FuncId} {args : List AV} {vs : List Value} (h : ACalls P [] f args [] (fun r os => os = [] ∧ r = .val (.bool true))) (w : World) (N : Nat) (hr : RepL (Env.start w N) args vs) :
    Calls P f vs.toArray w fun e w' => e = .returned (.bool true) ∧ Below w.heap.size w w' := by
  refine (h.2 (Env.start w N) vs hr (ObjsRep_nil w N) (fun g cells hm => by simp at hm)).mono ?_
  rintro e w' ⟨E', v, r, outs', rfl, rfl, ⟨rfl, rfl⟩, hv, ho, hx⟩
  simp only [RepV] at hv
  subst hv
  refine ⟨rfl, hx.os, hx.tape, hx.output, hx.size, fun k hk => (hx.frame k hk ?_).1⟩
  rintro ⟨r, o, h1, _⟩
  simp at h1

/-- Of a slice's room nothing is known any more. -/
theorem Weak.noperm {G : List (Nat × List AV)} {nt : Nat} {s : List (Nat × AV)} {os : List AObj} (i n : Nat) (cells : List AV) (p : Perm) (h : lk s i = .sl n cells p) : Weak G ⟨nt, s, os⟩ ⟨nt, (i, .sl n cells .no) :: s, os⟩ := fun E a hr => by
  refine ⟨E, rfl, ⟨hr.size, fun j => ?_, hr.defers, hr.objs, hr.glob⟩, .refl _ _⟩
  simp only [lk]
  split
  · rename_i e
    subst e
    have hi := hr.slots i
    simp only at hi
    rw [h] at hi
    simp only [RepV] at hi ⊢
    obtain ⟨A, cap, e1, e2, e3, _⟩ := hi
    exact ⟨A, cap, e1, e2, e3, trivial⟩
  · exact hr.slots j

theorem awp_noperm {P : Program} {G : List (Nat × List AV)} {c : Code} {nt : Nat} {s : List (Nat × AV)} {os : List AObj} {Q : Exit → St → Prop} (i : Nat) {n : Nat} {cells : List AV} {p : Perm} (h : lk s i = .sl n cells p)
    (hq : awp P G c ⟨nt, (i, .sl n cells .no) :: s, os⟩ Q) : awp P G c ⟨nt, s, os⟩ Q := awp_weak (.noperm i n cells p h) hq
end Go.V
/-
  VALUE LOGIC, part p: whole numbers as natural ones.
-/
namespace Go.V

theorem n_tmod (a n : Nat) : Int.tmod (a : Int) (no_index (@OfNat.ofNat Int n _)) = ((a % (@OfNat.ofNat Nat n _) : Nat) : Int) := rfl
theorem n_tdiv (a n : Nat) : Int.tdiv (a : Int) (no_index (@OfNat.ofNat Int n _)) = ((a / (@OfNat.ofNat Nat n _) : Nat) : Int) := rfl
theorem n_add (a n : Nat) : (a : Int) + (no_index (@OfNat.ofNat Int n _)) = ((a + (@OfNat.ofNat Nat n _) : Nat) : Int) := rfl
theorem n_radd (a n : Nat) : (no_index (@OfNat.ofNat Int n _)) + (a : Int) = (((@OfNat.ofNat Nat n _) + a : Nat) : Int) := rfl
theorem n_mul (a n : Nat) : (a : Int) * (no_index (@OfNat.ofNat Int n _)) = ((a * (@OfNat.ofNat Nat n _) : Nat) : Int) := rfl
theorem n_rmul (a n : Nat) : (no_index (@OfNat.ofNat Int n _)) * (a : Int) = (((@OfNat.ofNat Nat n _) * a : Nat) : Int) := rfl
theorem n_addn (a b : Nat) : (a : Int) + (b : Int) = ((a + b : Nat) : Int) := rfl
theorem n_muln (a b : Nat) : (a : Int) * (b : Int) = ((a * b : Nat) : Int) := rfl
theorem n_tmodn (a b : Nat) : Int.tmod (a : Int) (b : Int) = ((a % b : Nat) : Int) := rfl
theorem n_tdivn (a b : Nat) : Int.tdiv (a : Int) (b : Int) = ((a / b : Nat) : Int) := rfl
theorem n_fdiv (a k : Nat) : Int.fdiv (a : Int) (2 ^ k) = ((a / 2 ^ k : Nat) : Int) := by
  rw [Int.fdiv_eq_ediv_of_nonneg _ (by exact Int.le_of_lt (Int.pow_pos (by omega)))]
  rw [show (2 : Int) ^ k = ((2 ^ k : Nat) : Int) from by simp]
  rfl
theorem n_shl (a k : Nat) : (a : Int) * 2 ^ k = ((a * 2 ^ k : Nat) : Int) := by simp
theorem n_rshl (k n : Nat) : (no_index (@OfNat.ofNat Int n _)) * (2 : Int) ^ k = (((@OfNat.ofNat Nat n _) * 2 ^ k : Nat) : Int) := by
  have := n_shl (@OfNat.ofNat Nat n _) k
  exact this
theorem n_u8 (n : Nat) : IntKind.u8.wrap (n : Int) = ((n % 256 : Nat) : Int) := by simp [IntKind.wrap, IntKind.bits, IntKind.signed]
theorem n_u16 (n : Nat) : IntKind.u16.wrap (n : Int) = ((n % 65536 : Nat) : Int) := by simp [IntKind.wrap, IntKind.bits, IntKind.signed]
theorem n_u32 (n : Nat) : IntKind.u32.wrap (n : Int) = ((n % 4294967296 : Nat) : Int) := by simp [IntKind.wrap, IntKind.bits, IntKind.signed]
theorem n_u64 (n : Nat) : IntKind.u64.wrap (n : Int) = ((n % 18446744073709551616 : Nat) : Int) := by simp [IntKind.wrap, IntKind.bits, IntKind.signed]
theorem n_i64 {n : Nat} (h : n < 9223372036854775808) : IntKind.i64.wrap (n : Int) = (n : Int) := by
  simp [IntKind.wrap, IntKind.bits, IntKind.signed]
  omega
theorem z_i64 {n : Int} (h0 : -9223372036854775808 ≤ n) (h1 : n ≤ 9223372036854775807) : IntKind.i64.wrap n = n := by
  simp [IntKind.wrap, IntKind.bits, IntKind.signed]
  omega

theorem n_bits (k : IntKind) (a b : Nat) (hs : ∀ n : Nat, n < 2 ^ k.bits → k.wrap (n : Int) = (n : Int)) :
    bits .and k a b = (((a &&& b) % 2 ^ k.bits : Nat) : Int) ∧ bits .or k a b = (((a ||| b) % 2 ^ k.bits : Nat) : Int) ∧ bits .xor k a b = (((a ^^^ b) % 2 ^ k.bits : Nat) : Int) := by
  refine ⟨?_, ?_, ?_⟩
  all_goals
    simp only [bits, BitVec.ofInt_natCast, BitVec.toNat_and, BitVec.toNat_or, BitVec.toNat_xor, BitVec.toNat_ofNat]
    rw [hs]
  · rw [Nat.and_mod_two_pow]
  · exact Nat.and_lt_two_pow _ (Nat.mod_lt _ (Nat.two_pow_pos _))
  · rw [Nat.or_mod_two_pow]
  · exact Nat.or_lt_two_pow (Nat.mod_lt _ (Nat.two_pow_pos _)) (Nat.mod_lt _ (Nat.two_pow_pos _))
  · rw [Nat.xor_mod_two_pow]
  · exact Nat.xor_lt_two_pow (Nat.mod_lt _ (Nat.two_pow_pos _)) (Nat.mod_lt _ (Nat.two_pow_pos _))

theorem hs8 (n : Nat) (h : n < 2 ^ IntKind.u8.bits) : IntKind.u8.wrap (n : Int) = (n : Int) := by
  rw [n_u8]; simp [IntKind.bits] at h; omega
theorem hs32 (n : Nat) (h : n < 2 ^ IntKind.u32.bits) : IntKind.u32.wrap (n : Int) = (n : Int) := by
  rw [n_u32]; simp [IntKind.bits] at h; omega
theorem hs64 (n : Nat) (h : n < 2 ^ IntKind.u64.bits) : IntKind.u64.wrap (n : Int) = (n : Int) := by
  rw [n_u64]; simp [IntKind.bits] at h; omega

theorem n_and8 (a b : Nat) : bits .and .u8 (a : Int) (b : Int) = (((a &&& b) % 256 : Nat) : Int) := (n_bits .u8 a b hs8).1
theorem n_or8 (a b : Nat) : bits .or .u8 (a : Int) (b : Int) = (((a ||| b) % 256 : Nat) : Int) := (n_bits .u8 a b hs8).2.1
theorem n_xor8 (a b : Nat) : bits .xor .u8 (a : Int) (b : Int) = (((a ^^^ b) % 256 : Nat) : Int) := (n_bits .u8 a b hs8).2.2
theorem n_and32 (a b : Nat) : bits .and .u32 (a : Int) (b : Int) = (((a &&& b) % 4294967296 : Nat) : Int) := (n_bits .u32 a b hs32).1
theorem n_or32 (a b : Nat) : bits .or .u32 (a : Int) (b : Int) = (((a ||| b) % 4294967296 : Nat) : Int) := (n_bits .u32 a b hs32).2.1
theorem n_xor32 (a b : Nat) : bits .xor .u32 (a : Int) (b : Int) = (((a ^^^ b) % 4294967296 : Nat) : Int) := (n_bits .u32 a b hs32).2.2
theorem n_and64 (a b : Nat) : bits .and .u64 (a : Int) (b : Int) = (((a &&& b) % 18446744073709551616 : Nat) : Int) := (n_bits .u64 a b hs64).1
theorem n_or64 (a b : Nat) : bits .or .u64 (a : Int) (b : Int) = (((a ||| b) % 18446744073709551616 : Nat) : Int) := (n_bits .u64 a b hs64).2.1
theorem n_xor64 (a b : Nat) : bits .xor .u64 (a : Int) (b : Int) = (((a ^^^ b) % 18446744073709551616 : Nat) : Int) := (n_bits .u64 a b hs64).2.2
theorem n_or8l (a n : Nat) : bits .or .u8 (a : Int) (no_index (@OfNat.ofNat Int n _)) = (((a ||| (@OfNat.ofNat Nat n _)) % 256 : Nat) : Int) := n_or8 a n
theorem n_and8l (a n : Nat) : bits .and .u8 (a : Int) (no_index (@OfNat.ofNat Int n _)) = (((a &&& (@OfNat.ofNat Nat n _)) % 256 : Nat) : Int) := n_and8 a n
theorem n_and32l (a n : Nat) : bits .and .u32 (a : Int) (no_index (@OfNat.ofNat Int n _)) = (((a &&& (@OfNat.ofNat Nat n _)) % 4294967296 : Nat) : Int) := n_and32 a n
theorem n_xor32l (a n : Nat) : bits .xor .u32 (a : Int) (no_index (@OfNat.ofNat Int n _)) = (((a ^^^ (@OfNat.ofNat Nat n _)) % 4294967296 : Nat) : Int) := n_xor32 a n


theorem B_of (n : Nat) : AV.val (.int .u8 ((n % 256 : Nat) : Int)) = B (UInt8.ofNat n) := by
  simp [B]
theorem B_lit (n : Nat) (h : n < 256) : AV.val (.int .u8 (no_index (@OfNat.ofNat Int n _))) = B (UInt8.ofNat n) := by
  have : ((n : Nat) : Int) = ((UInt8.ofNat n).toNat : Int) := by simp; omega
  exact congrArg (fun z : Int => AV.val (.int .u8 z)) this
theorem B_un (b : UInt8) : AV.val (.int .u8 (b.toNat : Int)) = B b := rfl
theorem B_cons (b : UInt8) (l : List UInt8) : B b :: Bs l = Bs (b :: l) := rfl
theorem B_app (l : List UInt8) (b : UInt8) : Bs l ++ [B b] = Bs (l ++ [b]) := by simp [Bs]

theorem d_lt (a n : Nat) : decide ((a : Int) < (no_index (@OfNat.ofNat Int n _))) = decide (a < (@OfNat.ofNat Nat n _)) := by
  apply decide_eq_decide.2
  exact Int.ofNat_lt
theorem d_ge (a n : Nat) : decide ((a : Int) ≥ (no_index (@OfNat.ofNat Int n _))) = decide ((@OfNat.ofNat Nat n _) ≤ a) := by
  apply decide_eq_decide.2
  exact Int.ofNat_le
theorem d_gt (a n : Nat) : decide ((a : Int) > (no_index (@OfNat.ofNat Int n _))) = decide ((@OfNat.ofNat Nat n _) < a) := by
  apply decide_eq_decide.2
  exact Int.ofNat_lt
theorem d_le (a n : Nat) : decide ((a : Int) ≤ (no_index (@OfNat.ofNat Int n _))) = decide (a ≤ (@OfNat.ofNat Nat n _)) := by
  apply decide_eq_decide.2
  exact Int.ofNat_le
theorem d_ltn (a b : Nat) : decide ((a : Int) < (b : Int)) = decide (a < b) := by
  apply decide_eq_decide.2
  exact Int.ofNat_lt
theorem d_len (a b : Nat) : decide ((a : Int) ≤ (b : Int)) = decide (a ≤ b) := by
  apply decide_eq_decide.2
  exact Int.ofNat_le
theorem d_gtn (a b : Nat) : decide ((a : Int) > (b : Int)) = decide (b < a) := by
  apply decide_eq_decide.2
  exact Int.ofNat_lt
theorem d_gen (a b : Nat) : decide ((a : Int) ≥ (b : Int)) = decide (b ≤ a) := by
  apply decide_eq_decide.2
  exact Int.ofNat_le
theorem d_eq (a n : Nat) : ((a : Int) == (no_index (@OfNat.ofNat Int n _))) = (a == (@OfNat.ofNat Nat n _)) := by
  rw [Bool.eq_iff_iff]
  simp only [beq_iff_eq]
  exact Int.ofNat_inj
theorem d_eqn (a b : Nat) : ((a : Int) == (b : Int)) = (a == b) := by
  rw [Bool.eq_iff_iff]
  simp only [beq_iff_eq]
  exact Int.ofNat_inj
theorem d_ne (a n : Nat) : ((a : Int) != (no_index (@OfNat.ofNat Int n _))) = (a != (@OfNat.ofNat Nat n _)) := by unfold bne; rw [d_eq]
theorem d_nen (a b : Nat) : ((a : Int) != (b : Int)) = (a != b) := by unfold bne; rw [d_eqn]
theorem ba_size (l : List UInt8) : (ByteArray.mk l.toArray).size = l.length := by simp [ByteArray.size]
theorem ba_extract (l : List UInt8) (i j : Nat) : (ByteArray.mk l.toArray).extract i j = ⟨((l.drop i).take (j - i)).toArray⟩ := by
  apply ByteArray.ext
  rw [ByteArray.data_extract]
  simp
end Go.V
/-
  ROOTS OF PRIMES, RECKONED. No program in sight but its kinds of numbers.
-/
namespace Go.V

def w64 (z : Int) : Int := IntKind.i64.wrap z
def digitsI (x : Int) : List Int := [x.tmod 65536, (w64 (x.tdiv 65536)).tmod 65536, w64 ((w64 (x.tdiv 65536)).tdiv 65536)]
def upd1 (out : List Int) (p : Nat) (x y : Int) : List Int := out.set p (w64 (out.getD p 0 + (w64 (x * y)).tmod 65536))
def upd2 (out : List Int) (p : Nat) (x y : Int) : List Int := out.set (p + 1) (w64 (out.getD (p + 1) 0 + w64 ((w64 (x * y)).tdiv 65536)))
def innI (b : List Int) (i : Nat) (x : Int) (out : List Int) : Nat → List Int
  | 0 => out
  | k + 1 => upd2 (upd1 (innI b i x out k) (i + k) x (b.getD k 0)) (i + k) x (b.getD k 0)
def outI (a b : List Int) (out : List Int) : Nat → List Int
  | 0 => out
  | i + 1 => innI b i (a.getD i 0) (outI a b out i) b.length
def car1 (o : List Int) (i : Nat) : List Int := o.set (i + 1) (w64 (o.getD (i + 1) 0 + w64 ((o.getD i 0).tdiv 65536)))
def car2 (o : List Int) (i : Nat) : List Int := o.set i ((o.getD i 0).tmod 65536)
def carI (n : Nat) (out : List Int) : Nat → List Int
  | 0 => out
  | i + 1 => if i + 1 < n then car2 (car1 (carI n out i) i) i else carI n out i
def timesI (a b : List Int) : List Int := carI (a.length + b.length) (outI a b (List.replicate (a.length + b.length) 0) a.length) (a.length + b.length)
def aboveI (a b : List Int) : Nat → Bool
  | 0 => false
  | i + 1 => if a.getD i 0 = b.getD i 0 then aboveI a b i else decide (b.getD i 0 < a.getD i 0)
def isAbove (a b : List Int) : Bool := aboveI a b (a.length + b.length + 1)

theorem innI_length (b : List Int) (i : Nat) (x : Int) (out : List Int) : ∀ k, (innI b i x out k).length = out.length
  | 0 => rfl
  | k + 1 => by simp [innI, upd1, upd2, innI_length b i x out k]
theorem outI_length (a b out : List Int) : ∀ i, (outI a b out i).length = out.length
  | 0 => rfl
  | i + 1 => by simp [outI, innI_length, outI_length a b out i]
theorem carI_length (n : Nat) (out : List Int) : ∀ i, (carI n out i).length = out.length
  | 0 => rfl
  | i + 1 => by unfold carI; split <;> simp [car1, car2, carI_length n out i]
theorem timesI_length (a b : List Int) : (timesI a b).length = a.length + b.length := by simp [timesI, carI_length, outI_length]

/-- What is not to be passed. -/
def mostI (p : Int) (power : Nat) : List Int := List.replicate (2 * power) 0 ++ [p]
def stepI (p : Int) (power : Nat) (r : Int) (bit : Nat) : Int :=
  let t := w64 (r + w64 (1 * 2 ^ bit))
  if t ≥ 137438953472 then r else
    let x := digitsI t
    let y := timesI x x
    let z := if power = 3 then timesI y x else y
    if isAbove z (mostI p power) then r else t
def rootI (p : Int) (power : Nat) : Nat → Int
  | 0 => 0
  | j + 1 => stepI p power (rootI p power j) (37 - j)

def isP (n : Nat) : Bool := (List.range n).all fun d => d < 2 || n % d != 0
def cntP (n : Nat) : Nat := ((List.range n).filter fun m => 2 ≤ m && isP m).length

def primesL : List Nat := [2, 3, 5, 7, 11, 13, 17, 19, 23, 29, 31, 37, 41, 43, 47, 53, 59, 61, 67, 71, 73, 79, 83, 89, 97, 101, 103, 107, 109, 113, 127, 131, 137, 139, 149, 151, 157, 163, 167, 173, 179, 181, 191, 193, 197, 199, 211, 223, 227, 229, 233, 239, 241, 251, 257, 263, 269, 271, 277, 281, 283, 293, 307, 311]

theorem primes_ok : ∀ i, i < 64 → isP (primesL.getD i 0) = true ∧ cntP (primesL.getD i 0) = i ∧ 2 ≤ primesL.getD i 0 ∧ primesL.getD i 0 < 312 := by decide +kernel

def roots3 : List Nat := [
  1116352408, 1899447441, 3049323471, 3921009573, 961987163, 1508970993, 2453635748, 2870763221,
  3624381080, 310598401, 607225278, 1426881987, 1925078388, 2162078206, 2614888103, 3248222580,
  3835390401, 4022224774, 264347078, 604807628, 770255983, 1249150122, 1555081692, 1996064986,
  2554220882, 2821834349, 2952996808, 3210313671, 3336571891, 3584528711, 113926993, 338241895,
  666307205, 773529912, 1294757372, 1396182291, 1695183700, 1986661051, 2177026350, 2456956037,
  2730485921, 2820302411, 3259730800, 3345764771, 3516065817, 3600352804, 4094571909, 275423344,
  430227734, 506948616, 659060556, 883997877, 958139571, 1322822218, 1537002063, 1747873779,
  1955562222, 2024104815, 2227730452, 2361852424, 2428436474, 2756734187, 3204031479, 3329325298]

def noD (x d : Nat) : Bool := (List.range d).all fun e => e < 2 || x % e != 0
theorem noD_succ (x d : Nat) : noD x (d + 1) = (noD x d && (decide (d < 2) || x % d != 0)) := by
  unfold noD
  rw [List.range_succ, List.all_append]
  simp
theorem isP_noD (x : Nat) : isP x = noD x x := rfl

theorem cnt_succ (x : Nat) : cntP (x + 1) = cntP x + (if 2 ≤ x ∧ isP x = true then 1 else 0) := by
  unfold cntP
  rw [List.range_succ, List.filter_append, List.length_append]
  congr 1
  by_cases h : 2 ≤ x ∧ isP x = true
  · rw [if_pos h]; simp [h.1, h.2]
  · rw [if_neg h]
    rw [List.filter_cons_of_neg]
    · rfl
    · simpa using h

theorem cnt_mono {a b : Nat} (h : a ≤ b) : cntP a ≤ cntP b := by
  induction b with
  | zero => have : a = 0 := by omega
            subst this; exact Nat.le_refl _
  | succ b ih =>
    by_cases e : a = b + 1
    · subst e; exact Nat.le_refl _
    · have := ih (by omega)
      rw [cnt_succ]
      omega
theorem cnt2 : cntP 2 = 0 := by decide
end Go.V
/-
  The table's words as whole numbers. No program in sight.
-/
namespace Go.V
def tabW : List Int := roots3.map (fun n : Nat => (n : Int))
theorem tabW_get : ∀ i, i < 64 → tabW.getD i 0 = (roots3.getD i 0 : Int) := by decide +kernel
end Go.V
/-
  Words of 32 bits as whole numbers: turned round about, chosen, summed without carry; a number out of its bits. No program in sight.
-/
namespace Go.V
set_option linter.unusedVariables false

def rotl (x k : Nat) : Nat := (x * 2 ^ k % 4294967296) ||| (x / 2 ^ (32 - k))

theorem rotl_bit {x k : Nat} (hx : x < 4294967296) (hk : k < 32) (i : Nat) : (rotl x k).testBit i = (decide (i < 32) && x.testBit ((i + (32 - k)) % 32)) := by
  unfold rotl
  rw [show (4294967296 : Nat) = 2 ^ 32 from rfl, Nat.testBit_or, Nat.testBit_mod_two_pow, ← Nat.shiftLeft_eq, ← Nat.shiftRight_eq_div_pow, Nat.testBit_shiftLeft, Nat.testBit_shiftRight]
  by_cases hi : i < 32
  · by_cases hki : k ≤ i
    · have e : (i + (32 - k)) % 32 = i - k := by omega
      have hz : x.testBit (32 - k + i) = false := Nat.testBit_lt_two_pow (Nat.lt_of_lt_of_le hx (by rw [show (4294967296 : Nat) = 2 ^ 32 from rfl]; exact Nat.pow_le_pow_right (by omega) (by omega)))
      simp [hi, hki, e, hz]
    · have e : (i + (32 - k)) % 32 = 32 - k + i := by omega
      simp [hi, hki, e]
  · have hz : x.testBit (32 - k + i) = false := Nat.testBit_lt_two_pow (Nat.lt_of_lt_of_le hx (by rw [show (4294967296 : Nat) = 2 ^ 32 from rfl]; exact Nat.pow_le_pow_right (by omega) (by omega)))
    simp [hi, hz]

theorem lt32_of_bits {x : Nat} (h : ∀ i, 32 ≤ i → x.testBit i = false) : x < 4294967296 := by
  rw [show (4294967296 : Nat) = 2 ^ 32 from rfl]
  exact Nat.lt_pow_two_of_testBit x h

theorem bit_high {x : Nat} (hx : x < 4294967296) {i : Nat} (hi : 32 ≤ i) : x.testBit i = false :=
  Nat.testBit_lt_two_pow (Nat.lt_of_lt_of_le hx (by rw [show (4294967296 : Nat) = 2 ^ 32 from rfl]; exact Nat.pow_le_pow_right (by omega) hi))

theorem rotl_lt {x k : Nat} (hx : x < 4294967296) (hk : k < 32) : rotl x k < 4294967296 :=
  lt32_of_bits fun i hi => by rw [rotl_bit hx hk]; simp [show ¬ i < 32 by omega]

/-- A number out of its bits. -/
def bsum (f : Nat → Bool) : Nat → Nat
  | 0 => 0
  | n + 1 => bsum f n + (f n).toNat * 2 ^ n

theorem bsum_lt (f : Nat → Bool) : ∀ n, bsum f n < 2 ^ n
  | 0 => by simp [bsum]
  | n + 1 => by
    have := bsum_lt f n
    simp only [bsum, Nat.pow_succ]
    have h : (f n).toNat ≤ 1 := by cases f n <;> simp
    have : (f n).toNat * 2 ^ n ≤ 1 * 2 ^ n := Nat.mul_le_mul_right _ h
    omega

theorem bsum_bit (f : Nat → Bool) : ∀ n i, (bsum f n).testBit i = (decide (i < n) && f i)
  | 0, i => by simp [bsum]
  | n + 1, i => by
    have hlt := bsum_lt f n
    have ih := bsum_bit f n i
    simp only [bsum]
    cases hf : f n with
    | false =>
      simp only [Bool.toNat_false, Nat.zero_mul, Nat.add_zero, ih]
      by_cases h : i = n
      · subst h; simp [hf]
      · by_cases h2 : i < n
        · simp [h2, show i < n + 1 by omega]
        · simp [h2, show ¬ i < n + 1 by omega]
    | true =>
      simp only [Bool.toNat_true, Nat.one_mul]
      rw [Nat.add_comm]
      by_cases h : i = n
      · subst h
        rw [Nat.testBit_two_pow_add_eq, ih]
        simp [hf]
      · by_cases h2 : i < n
        · rw [Nat.testBit_two_pow_add_gt h2, ih]
          simp [h2, show i < n + 1 by omega]
        · have : (2 ^ n + bsum f n) < 2 ^ (n + 1) := by rw [Nat.pow_succ]; omega
          rw [Nat.testBit_lt_two_pow (Nat.lt_of_lt_of_le this (Nat.pow_le_pow_right (by omega) (by omega)))]
          simp [show ¬ i < n + 1 by omega]

theorem bsum_eq {f : Nat → Bool} {x : Nat} (hx : x < 4294967296) (h : ∀ i, i < 32 → f i = x.testBit i) : bsum f 32 = x := by
  apply Nat.eq_of_testBit_eq
  intro i
  rw [bsum_bit]
  by_cases hi : i < 32
  · simp [hi, h i hi]
  · rw [bit_high hx (by omega)]
    simp [hi]

/-- Turned to the right by n. -/
def turn (x : Nat) (n : Int) : Nat := rotl x ((-n) % 32).toNat

theorem turn_bit {x : Nat} (hx : x < 4294967296) (n : Int) (i : Nat) : (turn x n).testBit i = (decide (i < 32) && x.testBit (((i : Int) + n) % 32).toNat) := by
  have h0 : (0 : Int) ≤ (-n) % 32 := Int.emod_nonneg _ (by omega)
  have h1 : (-n) % 32 < 32 := Int.emod_lt_of_pos _ (by omega)
  unfold turn
  rw [rotl_bit hx (by omega)]
  congr 2
  omega

theorem turn_lt {x : Nat} (hx : x < 4294967296) (n : Int) : turn x n < 4294967296 :=
  lt32_of_bits fun i hi => by rw [turn_bit hx]; simp [show ¬ i < 32 by omega]

theorem turn_back {x : Nat} (hx : x < 4294967296) (n : Int) : turn (turn x n) (-n) = x := by
  apply Nat.eq_of_testBit_eq
  intro i
  rw [turn_bit (turn_lt hx n), turn_bit hx]
  by_cases hi : i < 32
  · have h0 : (0 : Int) ≤ ((i : Int) + -n) % 32 := Int.emod_nonneg _ (by omega)
    have h1 : ((i : Int) + -n) % 32 < 32 := Int.emod_lt_of_pos _ (by omega)
    have hc : ((((i : Int) + -n) % 32).toNat : Int) = ((i : Int) + -n) % 32 := Int.toNat_of_nonneg h0
    have hlt : (((i : Int) + -n) % 32).toNat < 32 := by omega
    rw [hc]
    have e : (((i : Int) + -n) % 32 + n) % 32 = (i : Int) := by omega
    rw [e]
    simp [hi, hlt]
  · simp [hi, bit_high hx (show 32 ≤ i by omega)]

theorem bit_mod {x : Nat} (i : Nat) : x / 2 ^ i % 2 = (x.testBit i).toNat := (Nat.toNat_testBit x i).symm

def choose (x y z : Nat) : Nat := (x &&& y) ^^^ ((4294967295 ^^^ x) &&& z)
def most (x y z : Nat) : Nat := ((x &&& y) ^^^ (x &&& z)) ^^^ (y &&& z)
def xor3 (x y z : Nat) : Nat := (x ^^^ y) ^^^ z

theorem ones_bit (i : Nat) : (4294967295 : Nat).testBit i = decide (i < 32) := by
  rw [show (4294967295 : Nat) = 2 ^ 32 - 1 from rfl, Nat.testBit_two_pow_sub_one]

theorem choose_bit (x y z i : Nat) (hi : i < 32) : (choose x y z).testBit i = (if x.testBit i then y.testBit i else z.testBit i) := by
  simp only [choose, Nat.testBit_xor, Nat.testBit_and, ones_bit, hi, decide_true]
  cases x.testBit i <;> cases y.testBit i <;> cases z.testBit i <;> rfl
theorem choose_lt {x y z : Nat} (hx : x < 4294967296) (hy : y < 4294967296) (hz : z < 4294967296) : choose x y z < 4294967296 :=
  lt32_of_bits fun i hi => by simp [choose, Nat.testBit_xor, Nat.testBit_and, bit_high hx hi, bit_high hz hi]
theorem most_bit (x y z i : Nat) : (most x y z).testBit i = decide (2 ≤ (x.testBit i).toNat + (y.testBit i).toNat + (z.testBit i).toNat) := by
  simp only [most, Nat.testBit_xor, Nat.testBit_and]
  cases x.testBit i <;> cases y.testBit i <;> cases z.testBit i <;> rfl
theorem most_lt {x y z : Nat} (hx : x < 4294967296) (hy : y < 4294967296) (hz : z < 4294967296) : most x y z < 4294967296 :=
  lt32_of_bits fun i hi => by simp [most, Nat.testBit_xor, Nat.testBit_and, bit_high hx hi, bit_high hy hi]
theorem xor3_bit (x y z i : Nat) : (xor3 x y z).testBit i = decide (((x.testBit i).toNat + (y.testBit i).toNat + (z.testBit i).toNat) % 2 = 1) := by
  simp only [xor3, Nat.testBit_xor]
  cases x.testBit i <;> cases y.testBit i <;> cases z.testBit i <;> rfl
theorem xor3_lt {x y z : Nat} (hx : x < 4294967296) (hy : y < 4294967296) (hz : z < 4294967296) : xor3 x y z < 4294967296 :=
  lt32_of_bits fun i hi => by simp [xor3, Nat.testBit_xor, bit_high hx hi, bit_high hy hi, bit_high hz hi]

/-- The sums of SHA-256. -/
def great (i : Int) (x : Nat) : Nat := if i = 0 then xor3 (turn x 2) (turn x 13) (turn x 22) else if i = 1 then xor3 (turn x 6) (turn x 11) (turn x 25) else 0
def small (i : Int) (x : Nat) : Nat := if i = 0 then xor3 (turn x 7) (turn x 18) (x / 8) else if i = 1 then xor3 (turn x 17) (turn x 19) (x / 1024) else 0
theorem xor3_eq (a b c : Nat) : (a ^^^ b) ^^^ c = xor3 a b c := rfl
theorem small0 (x : Nat) : small 0 x = xor3 (turn x 7) (turn x 18) (x / 8) := if_pos rfl
theorem small1 (x : Nat) : small 1 x = xor3 (turn x 17) (turn x 19) (x / 1024) := (if_neg (by omega)).trans (if_pos rfl)
theorem small2 {i : Int} (x : Nat) (h0 : i ≠ 0) (h1 : i ≠ 1) : small i x = 0 := (if_neg h0).trans (if_neg h1)
theorem great0 (x : Nat) : great 0 x = xor3 (turn x 2) (turn x 13) (turn x 22) := if_pos rfl
theorem great1 (x : Nat) : great 1 x = xor3 (turn x 6) (turn x 11) (turn x 25) := (if_neg (by omega)).trans (if_pos rfl)
theorem great2 {i : Int} (x : Nat) (h0 : i ≠ 0) (h1 : i ≠ 1) : great i x = 0 := (if_neg h0).trans (if_neg h1)
theorem great_lt {i : Int} {x : Nat} (hx : x < 4294967296) : great i x < 4294967296 := by
  unfold great
  split
  · exact xor3_lt (turn_lt hx _) (turn_lt hx _) (turn_lt hx _)
  · split
    · exact xor3_lt (turn_lt hx _) (turn_lt hx _) (turn_lt hx _)
    · omega
theorem small_lt {i : Int} {x : Nat} (hx : x < 4294967296) : small i x < 4294967296 := by
  unfold small
  split
  · exact xor3_lt (turn_lt hx _) (turn_lt hx _) (by omega)
  · split
    · exact xor3_lt (turn_lt hx _) (turn_lt hx _) (by omega)
    · omega

/-- Four bytes as a number. -/
def gw (b : List UInt8) : Nat := (b.getD 0 0).toNat * 16777216 + (b.getD 1 0).toNat * 65536 + (b.getD 2 0).toNat * 256 + (b.getD 3 0).toNat
theorem gw_lt (b : List UInt8) : gw b < 4294967296 := by
  have h0 := (b.getD 0 0).toNat_lt
  have h1 := (b.getD 1 0).toNat_lt
  have h2 := (b.getD 2 0).toNat_lt
  have h3 := (b.getD 3 0).toNat_lt
  unfold gw
  omega

theorem or_disj {a b k : Nat} (hb : b < 2 ^ k) : (a * 2 ^ k) ||| b = a * 2 ^ k + b := by
  rw [Nat.mul_comm]
  exact (Nat.two_pow_add_eq_or_of_lt hb a).symm

theorem gw_or (a b c d : Nat) (ha : a < 256) (hb : b < 256) (hc : c < 256) (hd : d < 256) :
    (((a * 2 ^ 24 ||| b * 2 ^ 16) ||| c * 2 ^ 8) ||| d) = a * 16777216 + b * 65536 + c * 256 + d := by
  rw [show (a * 2 ^ 24 ||| b * 2 ^ 16) = (a * 2 ^ 8 + b) * 2 ^ 16 by rw [or_disj (by omega)]; omega]
  rw [show ((a * 2 ^ 8 + b) * 2 ^ 16 ||| c * 2 ^ 8) = ((a * 2 ^ 8 + b) * 2 ^ 8 + c) * 2 ^ 8 by rw [or_disj (by omega)]; omega]
  rw [or_disj (by omega)]
  omega

theorem or32 {a b : Nat} (ha : a < 4294967296) (hb : b < 4294967296) : a ||| b < 4294967296 := by
  rw [show (4294967296 : Nat) = 2 ^ 32 from rfl] at *
  exact Nat.or_lt_two_pow ha hb

theorem shl_lt {a : Nat} (ha : a < 256) (k : Nat) (hk : k ≤ 24) : a * 2 ^ k < 4294967296 := by
  have h1 : a * 2 ^ k < 2 ^ 8 * 2 ^ k := Nat.mul_lt_mul_of_pos_right ha (Nat.pow_pos (by omega))
  rw [← Nat.pow_add] at h1
  have h2 : (2 : Nat) ^ (8 + k) ≤ 2 ^ 32 := Nat.pow_le_pow_right (by omega) (by omega)
  exact Nat.lt_of_lt_of_le h1 h2

theorem gw_word (a b c d : Nat) (ha : a < 256) (hb : b < 256) (hc : c < 256) (hd : d < 256) :
    (((a % 4294967296 * 2 ^ 24 % 4294967296 ||| b % 4294967296 * 2 ^ 16 % 4294967296) % 4294967296 ||| c % 4294967296 * 2 ^ 8 % 4294967296) % 4294967296 ||| d % 4294967296) % 4294967296 = a * 16777216 + b * 65536 + c * 256 + d := by
  have b0 := shl_lt ha 24 (by omega)
  have b1 := shl_lt hb 16 (by omega)
  have b2 := shl_lt hc 8 (by omega)
  have h1 : (a * 2 ^ 24 ||| b * 2 ^ 16) < 4294967296 := or32 b0 b1
  have h2 : ((a * 2 ^ 24 ||| b * 2 ^ 16) ||| c * 2 ^ 8) < 4294967296 := or32 h1 b2
  have h3 : (((a * 2 ^ 24 ||| b * 2 ^ 16) ||| c * 2 ^ 8) ||| d) < 4294967296 := or32 h2 (Nat.lt_of_lt_of_le hd (by decide))
  rw [Nat.mod_eq_of_lt (Nat.lt_of_lt_of_le ha (by decide)), Nat.mod_eq_of_lt (Nat.lt_of_lt_of_le hb (by decide)), Nat.mod_eq_of_lt (Nat.lt_of_lt_of_le hc (by decide)), Nat.mod_eq_of_lt (Nat.lt_of_lt_of_le hd (by decide))]
  rw [Nat.mod_eq_of_lt b0, Nat.mod_eq_of_lt b1, Nat.mod_eq_of_lt b2, Nat.mod_eq_of_lt h1, Nat.mod_eq_of_lt h2, Nat.mod_eq_of_lt h3]
  exact gw_or a b c d ha hb hc hd

end Go.V
/-
  The words of a block, plain: each out of the ones ahead of it. No program in sight.
-/
namespace Go.V
set_option linter.unusedVariables false

def wstep (b : List UInt8) (i : Nat) (l : List Nat) : Nat :=
  if i < 16 then gw (b.drop (4 * i)) else (small 1 (l.getD (i - 2) 0) + l.getD (i - 7) 0 + small 0 (l.getD (i - 15) 0) + l.getD (i - 16) 0) % 4294967296
def wlist (b : List UInt8) : Nat → List Nat
  | 0 => []
  | i + 1 => wlist b i ++ [wstep b i (wlist b i)]
/-- The word of a block. -/
def word (b : List UInt8) (i : Nat) : Nat := wstep b i (wlist b i)

theorem wlist_length (b : List UInt8) : ∀ i, (wlist b i).length = i
  | 0 => rfl
  | i + 1 => by simp [wlist, wlist_length b i]
theorem wlist_get (b : List UInt8) : ∀ i j, j < i → (wlist b i).getD j 0 = word b j
  | 0, j, h => by omega
  | i + 1, j, h => by
    have hl := wlist_length b i
    rw [wlist]
    by_cases e : j = i
    · subst e
      rw [List.getD_eq_getElem?_getD, List.getElem?_append_right (by omega)]
      simp [hl, word]
    · rw [List.getD_eq_getElem?_getD, List.getElem?_append_left (by omega), ← List.getD_eq_getElem?_getD]
      exact wlist_get b i j (by omega)
theorem word_lt (b : List UInt8) (i : Nat) : word b i < 4294967296 := by
  unfold word wstep
  split
  · exact gw_lt _
  · exact Nat.mod_lt _ (by omega)
theorem word_small (b : List UInt8) (i : Nat) (h : i < 16) : word b i = gw (b.drop (4 * i)) := if_pos h
theorem word_big (b : List UInt8) (i : Nat) (h : 16 ≤ i) : word b i = (small 1 (word b (i - 2)) + word b (i - 7) + small 0 (word b (i - 15)) + word b (i - 16)) % 4294967296 := by
  have e : word b i = (small 1 ((wlist b i).getD (i - 2) 0) + (wlist b i).getD (i - 7) 0 + small 0 ((wlist b i).getD (i - 15) 0) + (wlist b i).getD (i - 16) 0) % 4294967296 := if_neg (by omega)
  rw [e, wlist_get b i _ (by omega), wlist_get b i _ (by omega), wlist_get b i _ (by omega), wlist_get b i _ (by omega)]

/-- A row of n numbers of which the first i are known. -/
def arr (n : Nat) (W : Nat → Nat) (i : Nat) : List Int := (List.range n).map fun j => if j < i then ((W j : Nat) : Int) else 0
theorem arr_length (n : Nat) (W : Nat → Nat) (i : Nat) : (arr n W i).length = n := by simp [arr]
theorem arr_getD {n : Nat} (W : Nat → Nat) {i j : Nat} (h : j < i) (hn : j < n) : (arr n W i).getD j 0 = ((W j : Nat) : Int) := by
  simp [arr, List.getD_eq_getElem?_getD, hn, h]
theorem arr_set {n : Nat} (W : Nat → Nat) (i : Nat) : (arr n W i).set i ((W i : Nat) : Int) = arr n W (i + 1) := by
  apply List.ext_getElem?
  intro j
  simp only [arr, List.getElem?_set, List.length_map, List.length_range, List.getElem?_map, List.getElem?_range]
  by_cases e : i = j
  · subst e
    by_cases h : i < n
    · simp [h]
    · simp [h]
  · by_cases h : j < n
    · by_cases h2 : j < i
      · simp [e, h, h2, show j < i + 1 by omega]
      · simp [e, h, h2, show ¬ j < i + 1 by omega]
    · simp [e, h]
theorem arr_zero (n : Nat) (W : Nat → Nat) : List.replicate n (0 : Int) = arr n W 0 := by
  apply List.ext_getElem?
  intro j
  simp only [arr, List.getElem?_replicate, List.getElem?_map]
  by_cases h : j < n <;> simp [h]
end Go.V
/-
  Eight words, and a block, plain: the rounds. No program in sight.
-/
namespace Go.V
set_option linter.unusedVariables false

theorem and32 {a b : Nat} (ha : a < 4294967296) : a &&& b < 4294967296 := lt32_of_bits fun i hi => by simp [Nat.testBit_and, bit_high ha hi]
theorem xor32 {a b : Nat} (ha : a < 4294967296) (hb : b < 4294967296) : a ^^^ b < 4294967296 := lt32_of_bits fun i hi => by simp [Nat.testBit_xor, bit_high ha hi, bit_high hb hi]

theorem choose_or {e f g : Nat} (he : e < 4294967296) (hf : f < 4294967296) (hg : g < 4294967296) : ((e &&& f) % 4294967296 ||| ((e ^^^ 4294967295) % 4294967296 &&& g) % 4294967296) % 4294967296 = V.choose e f g := by
  have h1 : e ^^^ 4294967295 < 4294967296 := xor32 he (by omega)
  rw [Nat.mod_eq_of_lt (and32 he), Nat.mod_eq_of_lt h1, Nat.mod_eq_of_lt (and32 h1), Nat.mod_eq_of_lt (or32 (and32 he) (and32 h1))]
  apply Nat.eq_of_testBit_eq
  intro i
  by_cases hi : i < 32
  · rw [choose_bit _ _ _ _ hi]
    simp only [Nat.testBit_or, Nat.testBit_and, Nat.testBit_xor, ones_bit, hi, decide_true]
    cases e.testBit i <;> cases f.testBit i <;> cases g.testBit i <;> rfl
  · rw [bit_high (choose_lt he hf hg) (by omega), bit_high (or32 (and32 he) (and32 h1)) (by omega)]

theorem most_or {a b c : Nat} (ha : a < 4294967296) (hb : b < 4294967296) (hc : c < 4294967296) : (((a &&& b) % 4294967296 ||| (a &&& c) % 4294967296) % 4294967296 ||| (b &&& c) % 4294967296) % 4294967296 = most a b c := by
  rw [Nat.mod_eq_of_lt (and32 ha), Nat.mod_eq_of_lt (and32 ha), Nat.mod_eq_of_lt (and32 hb), Nat.mod_eq_of_lt (or32 (and32 ha) (and32 ha)), Nat.mod_eq_of_lt (or32 (or32 (and32 ha) (and32 ha)) (and32 hb))]
  apply Nat.eq_of_testBit_eq
  intro i
  rw [most_bit]
  simp only [Nat.testBit_or, Nat.testBit_and]
  cases a.testBit i <;> cases b.testBit i <;> cases c.testBit i <;> rfl

theorem xor3_mod {a b c : Nat} (ha : a < 4294967296) (hb : b < 4294967296) (hc : c < 4294967296) : ((a ^^^ b) % 4294967296 ^^^ c) % 4294967296 = xor3 a b c := by
  rw [Nat.mod_eq_of_lt (xor32 ha hb), Nat.mod_eq_of_lt (xor32 (xor32 ha hb) hc)]
  rfl

theorem turn_or {x n : Nat} (h1 : 1 ≤ n) (h2 : n ≤ 31) : (x / 2 ^ n ||| x * 2 ^ (32 - n) % 4294967296) = turn x (n : Int) := by
  have e : ((-(n : Int)) % 32).toNat = 32 - n := by omega
  unfold turn
  rw [e]
  unfold rotl
  rw [show 32 - (32 - n) = n by omega, Nat.or_comm]

/-- One round of the eight words. -/
def rnd (s : List Nat) (k w : Nat) : List Nat :=
  match s with
  | [a, b, c, d, e, f, g, h] => [((h + great 1 e + V.choose e f g + k + w) % 4294967296 + (great 0 a + most a b c) % 4294967296) % 4294967296, a, b, c, (d + (h + great 1 e + V.choose e f g + k + w) % 4294967296) % 4294967296, e, f, g]
  | s => s
def rounds (s : List Nat) (K W : Nat → Nat) : Nat → List Nat
  | 0 => s
  | i + 1 => rnd (rounds s K W i) (K i) (W i)

def words8 (s : List Nat) : Prop := ∃ a b c d e f g h, s = [a, b, c, d, e, f, g, h] ∧ a < 4294967296 ∧ b < 4294967296 ∧ c < 4294967296 ∧ d < 4294967296 ∧ e < 4294967296 ∧ f < 4294967296 ∧ g < 4294967296 ∧ h < 4294967296

theorem rounds_words {s : List Nat} (hs : words8 s) (K W : Nat → Nat) : ∀ i, words8 (rounds s K W i)
  | 0 => hs
  | i + 1 => by
    obtain ⟨a, b, c, d, e, f, g, h, hr, ha, hb, hc, hd, he, hf, hg, hh⟩ := rounds_words hs K W i
    simp only [rounds, hr, rnd]
    exact ⟨_, _, _, _, _, _, _, _, rfl, Nat.mod_lt _ (by omega), ha, hb, hc, Nat.mod_lt _ (by omega), he, hf, hg⟩

/-- The words put to those that came in. -/
def adds (s h : List Nat) : List Nat := List.zipWith (fun a b => (a + b) % 4294967296) s h

/-- Eight words of which the first j are put to. -/
def mix (V A : Nat → Nat) (j : Nat) : List Int := (List.range 8).map fun p => if p < j then ((A p : Nat) : Int) else ((V p : Nat) : Int)
theorem mix_length (V A : Nat → Nat) (j : Nat) : (mix V A j).length = 8 := by simp [mix]
theorem mix_getD (V A : Nat → Nat) {j p : Nat} (hj : j ≤ p) (hp : p < 8) : (mix V A j).getD p 0 = ((V p : Nat) : Int) := by
  simp [mix, List.getD_eq_getElem?_getD, hp, show ¬ p < j by omega]
theorem mix_set (V A : Nat → Nat) (j : Nat) : (mix V A j).set j ((A j : Nat) : Int) = mix V A (j + 1) := by
  apply List.ext_getElem?
  intro p
  simp only [mix, List.getElem?_set, List.length_map, List.length_range, List.getElem?_map]
  by_cases e : j = p
  · subst e
    by_cases h : j < 8
    · simp [h]
    · simp [h]
  · by_cases h : p < 8
    · by_cases h2 : p < j
      · simp [e, h, h2, show p < j + 1 by omega]
      · simp [e, h, h2, show ¬ p < j + 1 by omega]
    · simp [e, h]
theorem mix_zero {l : List Nat} (hl : l.length = 8) (A : Nat → Nat) : l.map (fun n : Nat => (n : Int)) = mix (fun p => l.getD p 0) A 0 := by
  apply List.ext_getElem?
  intro p
  simp only [mix, List.getElem?_map]
  by_cases h : p < 8
  · simp [h, List.getElem?_eq_getElem (show p < l.length by omega)]
  · simp [h, List.getElem?_eq_none (show l.length ≤ p by omega)]
theorem mix_eight {l h : List Nat} (hl : l.length = 8) (hh : h.length = 8) (V : Nat → Nat) : (adds l h).map (fun n : Nat => (n : Int)) = mix V (fun p => (l.getD p 0 + h.getD p 0) % 4294967296) 8 := by
  apply List.ext_getElem?
  intro p
  simp only [mix, adds, List.getElem?_map, List.getElem?_zipWith]
  by_cases hp : p < 8
  · simp [hp, List.getElem?_eq_getElem (show p < l.length by omega), List.getElem?_eq_getElem (show p < h.length by omega)]
  · simp [hp, List.getElem?_eq_none (show l.length ≤ p by omega)]

theorem words8_length {s : List Nat} (h : words8 s) : s.length = 8 := by
  obtain ⟨a, b, c, d, e, f, g, h, rfl, _⟩ := h
  rfl
theorem words8_lt {s : List Nat} (h : words8 s) (p : Nat) : s.getD p 0 < 4294967296 := by
  obtain ⟨a, b, c, d, e, f, g, h, rfl, ha, hb, hc, hd, he, hf, hg, hh⟩ := h
  rcases p with _ | _ | _ | _ | _ | _ | _ | _ | p <;> simp <;> assumption

/-- A round, as both walk it. -/
theorem round_form {s : List Nat} (hs : words8 s) (K W : Nat → Nat) (i : Nat) : ∃ a b c d e f g h, rounds s K W i = [a, b, c, d, e, f, g, h] ∧ (a < 4294967296 ∧ b < 4294967296 ∧ c < 4294967296 ∧ d < 4294967296 ∧ e < 4294967296 ∧ f < 4294967296 ∧ g < 4294967296 ∧ h < 4294967296) ∧
    rounds s K W (i + 1) = [(((((h + great 1 e) % 4294967296 + V.choose e f g) % 4294967296 + K i) % 4294967296 + W i) % 4294967296 + (great 0 a + most a b c) % 4294967296) % 4294967296, a, b, c, (d + ((((h + great 1 e) % 4294967296 + V.choose e f g) % 4294967296 + K i) % 4294967296 + W i) % 4294967296) % 4294967296, e, f, g] := by
  obtain ⟨a, b, c, d, e, f, g, h, hr, ha, hb, hc, hd, he, hf, hg, hh⟩ := rounds_words hs K W i
  refine ⟨a, b, c, d, e, f, g, h, hr, ⟨ha, hb, hc, hd, he, hf, hg, hh⟩, ?_⟩
  simp only [rounds, hr, rnd]
  generalize great 1 e = g1
  generalize V.choose e f g = ch
  generalize great 0 a = g0
  generalize most a b c = mo
  have e1 : ((((h + g1) % 4294967296 + ch) % 4294967296 + K i) % 4294967296 + W i) % 4294967296 = (h + g1 + ch + K i + W i) % 4294967296 := by omega
  rw [e1]
end Go.V
/-
  What is written to a digest, plain: byte by byte, and block by block. No program in sight.
-/
namespace Go.V
set_option linter.unusedVariables false

/-- A digest: eight words, the bytes that wait, how many were written. -/
structure DS where
  h : List Nat
  rest : List UInt8
  many : Nat

section
variable (C : List Nat → List UInt8 → List Nat)

/-- One byte more. -/
def dstep (s : DS) (c : UInt8) : DS :=
  ⟨if s.many % 64 = 63 then C s.h (s.rest.set (s.many % 64) c) else s.h, s.rest.set (s.many % 64) c, s.many + 1⟩
def runs (s : DS) (l : List UInt8) : DS := l.foldl (dstep C) s

theorem runs_nil (s : DS) : runs C s [] = s := rfl
theorem runs_append (s : DS) (a b : List UInt8) : runs C s (a ++ b) = runs C (runs C s a) b := List.foldl_append
theorem runs_many (s : DS) (l : List UInt8) : (runs C s l).many = s.many + l.length := by
  induction l generalizing s with
  | nil => rfl
  | cons c l ih => rw [show runs C s (c :: l) = runs C (dstep C s c) l from rfl, ih]; simp only [dstep, List.length_cons]; omega

/-- A digest as it should be. -/
def DOk (s : DS) : Prop := words8 s.h ∧ s.rest.length = 64

variable {C}
theorem dstep_ok (hC : ∀ h b, words8 h → b.length = 64 → words8 (C h b)) {s : DS} (hs : DOk s) (c : UInt8) : DOk (dstep C s c) := by
  refine ⟨?_, by simp [dstep, hs.2]⟩
  simp only [dstep]
  split
  · exact hC _ _ hs.1 (by simp [hs.2])
  · exact hs.1
theorem runs_ok (hC : ∀ h b, words8 h → b.length = 64 → words8 (C h b)) {s : DS} (hs : DOk s) (l : List UInt8) : DOk (runs C s l) := by
  induction l generalizing s with
  | nil => exact hs
  | cons c l ih => exact ih (dstep_ok hC hs c)

theorem set_chunk {r b : List UInt8} {at' : Nat} (c : UInt8) (h : at' < r.length) : (r.set at' c).take (at' + 1) ++ b ++ (r.set at' c).drop (at' + 1 + b.length) = r.take at' ++ (c :: b) ++ r.drop (at' + (c :: b).length) := by
  have h1 : (r.set at' c).take (at' + 1) = r.take at' ++ [c] := by
    rw [List.take_add_one, List.take_set_of_le (Nat.le_refl _)]
    simp [h]
  have h2 : (r.set at' c).drop (at' + 1 + b.length) = r.drop (at' + (c :: b).length) := by
    rw [List.drop_set_of_lt (by omega)]
    congr 1
    simp only [List.length_cons]
    omega
  rw [h1, h2]
  simp

/-- Bytes that find room, at one blow. -/
theorem runs_chunk (b : List UInt8) : ∀ (s : DS), s.rest.length = 64 → s.many % 64 + b.length ≤ 64 → 0 < b.length →
    runs C s b = ⟨if s.many % 64 + b.length = 64 then C s.h (s.rest.take (s.many % 64) ++ b ++ s.rest.drop (s.many % 64 + b.length)) else s.h, s.rest.take (s.many % 64) ++ b ++ s.rest.drop (s.many % 64 + b.length), s.many + b.length⟩ := by
  induction b with
  | nil => intro s _ _ h; simp at h
  | cons c b ih =>
    intro s hr hle _
    have hat : s.many % 64 < 64 := Nat.mod_lt _ (by omega)
    rw [show runs C s (c :: b) = runs C (dstep C s c) b from rfl]
    by_cases hb : b.length = 0
    · have hb' : b = [] := List.length_eq_zero_iff.1 hb
      subst hb'
      rw [runs_nil]
      have hch := set_chunk (r := s.rest) (b := []) c (by omega : s.many % 64 < s.rest.length)
      have hch' : s.rest.set (s.many % 64) c = s.rest.take (s.many % 64) ++ [c] ++ s.rest.drop (s.many % 64 + [c].length) := by
        rw [← hch]
        simp
      simp only [dstep]
      rw [hch']
      congr 1
      have : (s.many % 64 = 63) = (s.many % 64 + [c].length = 64) := by simp
      simp only [this]
    · simp only [List.length_cons] at hle
      have hne : ¬ s.many % 64 = 63 := by omega
      have e : dstep C s c = ⟨s.h, s.rest.set (s.many % 64) c, s.many + 1⟩ := by simp only [dstep, hne, if_false]
      have hm : (s.many + 1) % 64 = s.many % 64 + 1 := by omega
      rw [e, ih _ (by simp [hr]) (by simp only; omega) (by omega)]
      simp only [hm]
      rw [set_chunk c (by omega)]
      have e2 : s.many % 64 + 1 + b.length = s.many % 64 + (c :: b).length := by simp only [List.length_cons]; omega
      have e3 : s.many + 1 + b.length = s.many + (c :: b).length := by simp only [List.length_cons]; omega
      rw [e2, e3]

/-- The words behind so many blocks. -/
def blocks (C : List Nat → List UInt8 → List Nat) (h : List Nat) (l : List UInt8) : Nat → List Nat
  | 0 => h
  | i + 1 => C (blocks C h l i) ((l.drop (64 * i)).take 64)

theorem blocks_append (h : List Nat) (l m : List UInt8) : ∀ n, 64 * n ≤ l.length → blocks C h (l ++ m) n = blocks C h l n
  | 0, _ => rfl
  | n + 1, hn => by
    simp only [blocks]
    rw [blocks_append h l m n (by omega)]
    congr 1
    rw [List.drop_append_of_le_length (by omega), List.take_append_of_le_length (by rw [List.length_drop]; omega)]

theorem snoc_ind {α : Type} {p : List α → Prop} (h0 : p []) (h1 : ∀ l c, p l → p (l ++ [c])) (l : List α) : p l := by
  have key : ∀ n (l : List α), l.length = n → p l := by
    intro n
    induction n with
    | zero => intro l hl; rw [List.length_eq_zero_iff.1 hl]; exact h0
    | succ n ih =>
      intro l hl
      have hne : l ≠ [] := by intro e; subst e; simp at hl
      rw [← List.dropLast_concat_getLast hne]
      exact h1 _ _ (ih _ (by simp [hl]))
  exact key _ l rfl

/-- From the start: the words are those of the blocks that are full, what waits is what is left. -/
theorem runs_blocks (h : List Nat) (r : List UInt8) (hr : r.length = 64) (l : List UInt8) : (runs C ⟨h, r, 0⟩ l).h = blocks C h l (l.length / 64) ∧ (runs C ⟨h, r, 0⟩ l).rest.length = 64 ∧ (runs C ⟨h, r, 0⟩ l).rest.take (l.length % 64) = l.drop (64 * (l.length / 64)) := by
  induction l using snoc_ind with
  | h0 => exact ⟨rfl, hr, rfl⟩
  | h1 l c ih =>
    obtain ⟨i1, i2, i3⟩ := ih
    have hm : (runs C ⟨h, r, 0⟩ l).many = l.length := by rw [runs_many]; simp
    rw [runs_append]
    generalize runs C ⟨h, r, 0⟩ l = s at i1 i2 i3 hm
    have e : runs C s [c] = dstep C s c := rfl
    rw [e]
    have hl : (l ++ [c]).length = l.length + 1 := by simp
    rw [hl]
    have hlt : l.length % 64 < 64 := Nat.mod_lt _ (by omega)
    have htk : (s.rest.set (l.length % 64) c).take (l.length % 64 + 1) = l.drop (64 * (l.length / 64)) ++ [c] := by
      rw [List.take_add_one, List.take_set_of_le (Nat.le_refl _), i3]
      simp [i2, hlt]
    have hdl : 64 * (l.length / 64) ≤ l.length := by omega
    simp only [dstep, hm]
    refine ⟨?_, by simp [i2], ?_⟩
    · by_cases h63 : l.length % 64 = 63
      · rw [if_pos h63, i1]
        have hd : (l.length + 1) / 64 = l.length / 64 + 1 := by omega
        rw [hd]
        simp only [blocks]
        rw [blocks_append h l [c] _ hdl]
        congr 1
        rw [List.drop_append_of_le_length hdl, ← htk, h63, List.take_take, Nat.min_eq_left (Nat.le_refl _), List.take_of_length_le (by simp [i2])]
      · rw [if_neg h63, i1]
        have hd : (l.length + 1) / 64 = l.length / 64 := by omega
        rw [hd, blocks_append h l [c] _ hdl]
    · by_cases h63 : l.length % 64 = 63
      · have hd : (l.length + 1) / 64 = l.length / 64 + 1 := by omega
        have hmz : (l.length + 1) % 64 = 0 := by omega
        rw [hmz, hd, List.take_zero, List.drop_eq_nil_of_le (by simp; omega)]
      · have hd : (l.length + 1) / 64 = l.length / 64 := by omega
        have hmz : (l.length + 1) % 64 = l.length % 64 + 1 := by omega
        rw [hmz, hd, htk, List.drop_append_of_le_length hdl]
end
end Go.V
/-
  The eight words behind the block of 'abc', plain (printed by wip/tools/mkabc.py). No program in sight.
-/
namespace Go.V
def abcB : List UInt8 := [97, 98, 99, 128, 0, 0, 0, 0, 0, 0, 0, 0, 0, 0, 0, 0, 0, 0, 0, 0, 0, 0, 0, 0, 0, 0, 0, 0, 0, 0, 0, 0, 0, 0, 0, 0, 0, 0, 0, 0, 0, 0, 0, 0, 0, 0, 0, 0, 0, 0, 0, 0, 0, 0, 0, 0, 0, 0, 0, 0, 0, 0, 0, 24]
def abcS : List Nat := [1779033703, 3144134277, 1013904242, 2773480762, 1359893119, 2600822924, 528734635, 1541459225]
def abcK (i : Nat) : Nat := roots3.getD i 0
theorem abc_w0 : word abcB 0 = 1633837952 := (word_small abcB 0 (by omega)).trans (by kernel_rfl)
theorem abc_w1 : word abcB 1 = 0 := (word_small abcB 1 (by omega)).trans (by kernel_rfl)
theorem abc_w2 : word abcB 2 = 0 := (word_small abcB 2 (by omega)).trans (by kernel_rfl)
theorem abc_w3 : word abcB 3 = 0 := (word_small abcB 3 (by omega)).trans (by kernel_rfl)
theorem abc_w4 : word abcB 4 = 0 := (word_small abcB 4 (by omega)).trans (by kernel_rfl)
theorem abc_w5 : word abcB 5 = 0 := (word_small abcB 5 (by omega)).trans (by kernel_rfl)
theorem abc_w6 : word abcB 6 = 0 := (word_small abcB 6 (by omega)).trans (by kernel_rfl)
theorem abc_w7 : word abcB 7 = 0 := (word_small abcB 7 (by omega)).trans (by kernel_rfl)
theorem abc_w8 : word abcB 8 = 0 := (word_small abcB 8 (by omega)).trans (by kernel_rfl)
theorem abc_w9 : word abcB 9 = 0 := (word_small abcB 9 (by omega)).trans (by kernel_rfl)
theorem abc_w10 : word abcB 10 = 0 := (word_small abcB 10 (by omega)).trans (by kernel_rfl)
theorem abc_w11 : word abcB 11 = 0 := (word_small abcB 11 (by omega)).trans (by kernel_rfl)
theorem abc_w12 : word abcB 12 = 0 := (word_small abcB 12 (by omega)).trans (by kernel_rfl)
theorem abc_w13 : word abcB 13 = 0 := (word_small abcB 13 (by omega)).trans (by kernel_rfl)
theorem abc_w14 : word abcB 14 = 0 := (word_small abcB 14 (by omega)).trans (by kernel_rfl)
theorem abc_w15 : word abcB 15 = 24 := (word_small abcB 15 (by omega)).trans (by kernel_rfl)
theorem abc_w16 : word abcB 16 = 1633837952 := (word_big abcB 16 (by omega)).trans (by
  rw [show word abcB (16 - 2) = 0 from abc_w14, show word abcB (16 - 7) = 0 from abc_w9, show word abcB (16 - 15) = 0 from abc_w1, show word abcB (16 - 16) = 1633837952 from abc_w0]
  kernel_rfl)
theorem abc_w17 : word abcB 17 = 983040 := (word_big abcB 17 (by omega)).trans (by
  rw [show word abcB (17 - 2) = 24 from abc_w15, show word abcB (17 - 7) = 0 from abc_w10, show word abcB (17 - 15) = 0 from abc_w2, show word abcB (17 - 16) = 0 from abc_w1]
  kernel_rfl)
theorem abc_w18 : word abcB 18 = 2108187653 := (word_big abcB 18 (by omega)).trans (by
  rw [show word abcB (18 - 2) = 1633837952 from abc_w16, show word abcB (18 - 7) = 0 from abc_w11, show word abcB (18 - 15) = 0 from abc_w3, show word abcB (18 - 16) = 0 from abc_w2]
  kernel_rfl)
theorem abc_w19 : word abcB 19 = 1610613702 := (word_big abcB 19 (by omega)).trans (by
  rw [show word abcB (19 - 2) = 983040 from abc_w17, show word abcB (19 - 7) = 0 from abc_w12, show word abcB (19 - 15) = 0 from abc_w4, show word abcB (19 - 16) = 0 from abc_w3]
  kernel_rfl)
theorem abc_w20 : word abcB 20 = 1050508152 := (word_big abcB 20 (by omega)).trans (by
  rw [show word abcB (20 - 2) = 2108187653 from abc_w18, show word abcB (20 - 7) = 0 from abc_w13, show word abcB (20 - 15) = 0 from abc_w5, show word abcB (20 - 16) = 0 from abc_w4]
  kernel_rfl)
theorem abc_w21 : word abcB 21 = 25426944 := (word_big abcB 21 (by omega)).trans (by
  rw [show word abcB (21 - 2) = 1610613702 from abc_w19, show word abcB (21 - 7) = 0 from abc_w14, show word abcB (21 - 15) = 0 from abc_w6, show word abcB (21 - 16) = 0 from abc_w5]
  kernel_rfl)
theorem abc_w22 : word abcB 22 = 316456923 := (word_big abcB 22 (by omega)).trans (by
  rw [show word abcB (22 - 2) = 1050508152 from abc_w20, show word abcB (22 - 7) = 24 from abc_w15, show word abcB (22 - 15) = 0 from abc_w7, show word abcB (22 - 16) = 0 from abc_w6]
  kernel_rfl)
theorem abc_w23 : word abcB 23 = 3806512014 := (word_big abcB 23 (by omega)).trans (by
  rw [show word abcB (23 - 2) = 25426944 from abc_w21, show word abcB (23 - 7) = 1633837952 from abc_w16, show word abcB (23 - 15) = 0 from abc_w8, show word abcB (23 - 16) = 0 from abc_w7]
  kernel_rfl)
theorem abc_w24 : word abcB 24 = 3357629466 := (word_big abcB 24 (by omega)).trans (by
  rw [show word abcB (24 - 2) = 316456923 from abc_w22, show word abcB (24 - 7) = 983040 from abc_w17, show word abcB (24 - 15) = 0 from abc_w9, show word abcB (24 - 16) = 0 from abc_w8]
  kernel_rfl)
theorem abc_w25 : word abcB 25 = 3073800610 := (word_big abcB 25 (by omega)).trans (by
  rw [show word abcB (25 - 2) = 3806512014 from abc_w23, show word abcB (25 - 7) = 2108187653 from abc_w18, show word abcB (25 - 15) = 0 from abc_w10, show word abcB (25 - 16) = 0 from abc_w9]
  kernel_rfl)
theorem abc_w26 : word abcB 26 = 3854317833 := (word_big abcB 26 (by omega)).trans (by
  rw [show word abcB (26 - 2) = 3357629466 from abc_w24, show word abcB (26 - 7) = 1610613702 from abc_w19, show word abcB (26 - 15) = 0 from abc_w11, show word abcB (26 - 16) = 0 from abc_w10]
  kernel_rfl)
theorem abc_w27 : word abcB 27 = 845560923 := (word_big abcB 27 (by omega)).trans (by
  rw [show word abcB (27 - 2) = 3073800610 from abc_w25, show word abcB (27 - 7) = 1050508152 from abc_w20, show word abcB (27 - 15) = 0 from abc_w12, show word abcB (27 - 16) = 0 from abc_w11]
  kernel_rfl)
theorem abc_w28 : word abcB 28 = 2636160359 := (word_big abcB 28 (by omega)).trans (by
  rw [show word abcB (28 - 2) = 3854317833 from abc_w26, show word abcB (28 - 7) = 25426944 from abc_w21, show word abcB (28 - 15) = 0 from abc_w13, show word abcB (28 - 16) = 0 from abc_w12]
  kernel_rfl)
theorem abc_w29 : word abcB 29 = 3968280267 := (word_big abcB 29 (by omega)).trans (by
  rw [show word abcB (29 - 2) = 845560923 from abc_w27, show word abcB (29 - 7) = 316456923 from abc_w22, show word abcB (29 - 15) = 0 from abc_w14, show word abcB (29 - 16) = 0 from abc_w13]
  kernel_rfl)
theorem abc_w30 : word abcB 30 = 1881225380 := (word_big abcB 30 (by omega)).trans (by
  rw [show word abcB (30 - 2) = 2636160359 from abc_w28, show word abcB (30 - 7) = 3806512014 from abc_w23, show word abcB (30 - 15) = 24 from abc_w15, show word abcB (30 - 16) = 0 from abc_w14]
  kernel_rfl)
theorem abc_w31 : word abcB 31 = 3552024379 := (word_big abcB 31 (by omega)).trans (by
  rw [show word abcB (31 - 2) = 3968280267 from abc_w29, show word abcB (31 - 7) = 3357629466 from abc_w24, show word abcB (31 - 15) = 1633837952 from abc_w16, show word abcB (31 - 16) = 24 from abc_w15]
  kernel_rfl)
theorem abc_w32 : word abcB 32 = 2482346367 := (word_big abcB 32 (by omega)).trans (by
  rw [show word abcB (32 - 2) = 1881225380 from abc_w30, show word abcB (32 - 7) = 3073800610 from abc_w25, show word abcB (32 - 15) = 983040 from abc_w17, show word abcB (32 - 16) = 1633837952 from abc_w16]
  kernel_rfl)
theorem abc_w33 : word abcB 33 = 996719219 := (word_big abcB 33 (by omega)).trans (by
  rw [show word abcB (33 - 2) = 3552024379 from abc_w31, show word abcB (33 - 7) = 3854317833 from abc_w26, show word abcB (33 - 15) = 2108187653 from abc_w18, show word abcB (33 - 16) = 983040 from abc_w17]
  kernel_rfl)
theorem abc_w34 : word abcB 34 = 2952069057 := (word_big abcB 34 (by omega)).trans (by
  rw [show word abcB (34 - 2) = 2482346367 from abc_w32, show word abcB (34 - 7) = 845560923 from abc_w27, show word abcB (34 - 15) = 1610613702 from abc_w19, show word abcB (34 - 16) = 2108187653 from abc_w18]
  kernel_rfl)
theorem abc_w35 : word abcB 35 = 4043988066 := (word_big abcB 35 (by omega)).trans (by
  rw [show word abcB (35 - 2) = 996719219 from abc_w33, show word abcB (35 - 7) = 2636160359 from abc_w28, show word abcB (35 - 15) = 1050508152 from abc_w20, show word abcB (35 - 16) = 1610613702 from abc_w19]
  kernel_rfl)
theorem abc_w36 : word abcB 36 = 176896406 := (word_big abcB 36 (by omega)).trans (by
  rw [show word abcB (36 - 2) = 2952069057 from abc_w34, show word abcB (36 - 7) = 3968280267 from abc_w29, show word abcB (36 - 15) = 25426944 from abc_w21, show word abcB (36 - 16) = 1050508152 from abc_w20]
  kernel_rfl)
theorem abc_w37 : word abcB 37 = 1924104970 := (word_big abcB 37 (by omega)).trans (by
  rw [show word abcB (37 - 2) = 4043988066 from abc_w35, show word abcB (37 - 7) = 1881225380 from abc_w30, show word abcB (37 - 15) = 316456923 from abc_w22, show word abcB (37 - 16) = 25426944 from abc_w21]
  kernel_rfl)
theorem abc_w38 : word abcB 38 = 2483675966 := (word_big abcB 38 (by omega)).trans (by
  rw [show word abcB (38 - 2) = 176896406 from abc_w36, show word abcB (38 - 7) = 3552024379 from abc_w31, show word abcB (38 - 15) = 3806512014 from abc_w23, show word abcB (38 - 16) = 316456923 from abc_w22]
  kernel_rfl)
theorem abc_w39 : word abcB 39 = 610538786 := (word_big abcB 39 (by omega)).trans (by
  rw [show word abcB (39 - 2) = 1924104970 from abc_w37, show word abcB (39 - 7) = 2482346367 from abc_w32, show word abcB (39 - 15) = 3357629466 from abc_w24, show word abcB (39 - 16) = 3806512014 from abc_w23]
  kernel_rfl)
theorem abc_w40 : word abcB 40 = 2672279444 := (word_big abcB 40 (by omega)).trans (by
  rw [show word abcB (40 - 2) = 2483675966 from abc_w38, show word abcB (40 - 7) = 996719219 from abc_w33, show word abcB (40 - 15) = 3073800610 from abc_w25, show word abcB (40 - 16) = 3357629466 from abc_w24]
  kernel_rfl)
theorem abc_w41 : word abcB 41 = 4037431130 := (word_big abcB 41 (by omega)).trans (by
  rw [show word abcB (41 - 2) = 610538786 from abc_w39, show word abcB (41 - 7) = 2952069057 from abc_w34, show word abcB (41 - 15) = 3854317833 from abc_w26, show word abcB (41 - 16) = 3073800610 from abc_w25]
  kernel_rfl)
theorem abc_w42 : word abcB 42 = 1042573945 := (word_big abcB 42 (by omega)).trans (by
  rw [show word abcB (42 - 2) = 2672279444 from abc_w40, show word abcB (42 - 7) = 4043988066 from abc_w35, show word abcB (42 - 15) = 845560923 from abc_w27, show word abcB (42 - 16) = 3854317833 from abc_w26]
  kernel_rfl)
theorem abc_w43 : word abcB 43 = 657669027 := (word_big abcB 43 (by omega)).trans (by
  rw [show word abcB (43 - 2) = 4037431130 from abc_w41, show word abcB (43 - 7) = 176896406 from abc_w36, show word abcB (43 - 15) = 2636160359 from abc_w28, show word abcB (43 - 16) = 845560923 from abc_w27]
  kernel_rfl)
theorem abc_w44 : word abcB 44 = 206005234 := (word_big abcB 44 (by omega)).trans (by
  rw [show word abcB (44 - 2) = 1042573945 from abc_w42, show word abcB (44 - 7) = 1924104970 from abc_w37, show word abcB (44 - 15) = 3968280267 from abc_w29, show word abcB (44 - 16) = 2636160359 from abc_w28]
  kernel_rfl)
theorem abc_w45 : word abcB 45 = 2215296807 := (word_big abcB 45 (by omega)).trans (by
  rw [show word abcB (45 - 2) = 657669027 from abc_w43, show word abcB (45 - 7) = 2483675966 from abc_w38, show word abcB (45 - 15) = 1881225380 from abc_w30, show word abcB (45 - 16) = 3968280267 from abc_w29]
  kernel_rfl)
theorem abc_w46 : word abcB 46 = 2049510749 := (word_big abcB 46 (by omega)).trans (by
  rw [show word abcB (46 - 2) = 206005234 from abc_w44, show word abcB (46 - 7) = 610538786 from abc_w39, show word abcB (46 - 15) = 3552024379 from abc_w31, show word abcB (46 - 16) = 1881225380 from abc_w30]
  kernel_rfl)
theorem abc_w47 : word abcB 47 = 106709978 := (word_big abcB 47 (by omega)).trans (by
  rw [show word abcB (47 - 2) = 2215296807 from abc_w45, show word abcB (47 - 7) = 2672279444 from abc_w40, show word abcB (47 - 15) = 2482346367 from abc_w32, show word abcB (47 - 16) = 3552024379 from abc_w31]
  kernel_rfl)
theorem abc_w48 : word abcB 48 = 4215179723 := (word_big abcB 48 (by omega)).trans (by
  rw [show word abcB (48 - 2) = 2049510749 from abc_w46, show word abcB (48 - 7) = 4037431130 from abc_w41, show word abcB (48 - 15) = 996719219 from abc_w33, show word abcB (48 - 16) = 2482346367 from abc_w32]
  kernel_rfl)
theorem abc_w49 : word abcB 49 = 3430291419 := (word_big abcB 49 (by omega)).trans (by
  rw [show word abcB (49 - 2) = 106709978 from abc_w47, show word abcB (49 - 7) = 1042573945 from abc_w42, show word abcB (49 - 15) = 2952069057 from abc_w34, show word abcB (49 - 16) = 996719219 from abc_w33]
  kernel_rfl)
theorem abc_w50 : word abcB 50 = 3118885940 := (word_big abcB 50 (by omega)).trans (by
  rw [show word abcB (50 - 2) = 4215179723 from abc_w48, show word abcB (50 - 7) = 657669027 from abc_w43, show word abcB (50 - 15) = 4043988066 from abc_w35, show word abcB (50 - 16) = 2952069057 from abc_w34]
  kernel_rfl)
theorem abc_w51 : word abcB 51 = 2845390439 := (word_big abcB 51 (by omega)).trans (by
  rw [show word abcB (51 - 2) = 3430291419 from abc_w49, show word abcB (51 - 7) = 206005234 from abc_w44, show word abcB (51 - 15) = 176896406 from abc_w36, show word abcB (51 - 16) = 4043988066 from abc_w35]
  kernel_rfl)
theorem abc_w52 : word abcB 52 = 2226839261 := (word_big abcB 52 (by omega)).trans (by
  rw [show word abcB (52 - 2) = 3118885940 from abc_w50, show word abcB (52 - 7) = 2215296807 from abc_w45, show word abcB (52 - 15) = 1924104970 from abc_w37, show word abcB (52 - 16) = 176896406 from abc_w36]
  kernel_rfl)
theorem abc_w53 : word abcB 53 = 3256115900 := (word_big abcB 53 (by omega)).trans (by
  rw [show word abcB (53 - 2) = 2845390439 from abc_w51, show word abcB (53 - 7) = 2049510749 from abc_w46, show word abcB (53 - 15) = 2483675966 from abc_w38, show word abcB (53 - 16) = 1924104970 from abc_w37]
  kernel_rfl)
theorem abc_w54 : word abcB 54 = 344409900 := (word_big abcB 54 (by omega)).trans (by
  rw [show word abcB (54 - 2) = 2226839261 from abc_w52, show word abcB (54 - 7) = 106709978 from abc_w47, show word abcB (54 - 15) = 610538786 from abc_w39, show word abcB (54 - 16) = 2483675966 from abc_w38]
  kernel_rfl)
theorem abc_w55 : word abcB 55 = 2987358873 := (word_big abcB 55 (by omega)).trans (by
  rw [show word abcB (55 - 2) = 3256115900 from abc_w53, show word abcB (55 - 7) = 4215179723 from abc_w48, show word abcB (55 - 15) = 2672279444 from abc_w40, show word abcB (55 - 16) = 610538786 from abc_w39]
  kernel_rfl)
theorem abc_w56 : word abcB 56 = 4015503821 := (word_big abcB 56 (by omega)).trans (by
  rw [show word abcB (56 - 2) = 344409900 from abc_w54, show word abcB (56 - 7) = 3430291419 from abc_w49, show word abcB (56 - 15) = 4037431130 from abc_w41, show word abcB (56 - 16) = 2672279444 from abc_w40]
  kernel_rfl)
theorem abc_w57 : word abcB 57 = 3957764664 := (word_big abcB 57 (by omega)).trans (by
  rw [show word abcB (57 - 2) = 2987358873 from abc_w55, show word abcB (57 - 7) = 3118885940 from abc_w50, show word abcB (57 - 15) = 1042573945 from abc_w42, show word abcB (57 - 16) = 4037431130 from abc_w41]
  kernel_rfl)
theorem abc_w58 : word abcB 58 = 2682456414 := (word_big abcB 58 (by omega)).trans (by
  rw [show word abcB (58 - 2) = 4015503821 from abc_w56, show word abcB (58 - 7) = 2845390439 from abc_w51, show word abcB (58 - 15) = 657669027 from abc_w43, show word abcB (58 - 16) = 1042573945 from abc_w42]
  kernel_rfl)
theorem abc_w59 : word abcB 59 = 2025622859 := (word_big abcB 59 (by omega)).trans (by
  rw [show word abcB (59 - 2) = 3957764664 from abc_w57, show word abcB (59 - 7) = 2226839261 from abc_w52, show word abcB (59 - 15) = 206005234 from abc_w44, show word abcB (59 - 16) = 657669027 from abc_w43]
  kernel_rfl)
theorem abc_w60 : word abcB 60 = 2755645205 := (word_big abcB 60 (by omega)).trans (by
  rw [show word abcB (60 - 2) = 2682456414 from abc_w58, show word abcB (60 - 7) = 3256115900 from abc_w53, show word abcB (60 - 15) = 2215296807 from abc_w45, show word abcB (60 - 16) = 206005234 from abc_w44]
  kernel_rfl)
theorem abc_w61 : word abcB 61 = 1720397816 := (word_big abcB 61 (by omega)).trans (by
  rw [show word abcB (61 - 2) = 2025622859 from abc_w59, show word abcB (61 - 7) = 344409900 from abc_w54, show word abcB (61 - 15) = 2049510749 from abc_w46, show word abcB (61 - 16) = 2215296807 from abc_w45]
  kernel_rfl)
theorem abc_w62 : word abcB 62 = 4004225740 := (word_big abcB 62 (by omega)).trans (by
  rw [show word abcB (62 - 2) = 2755645205 from abc_w60, show word abcB (62 - 7) = 2987358873 from abc_w55, show word abcB (62 - 15) = 106709978 from abc_w47, show word abcB (62 - 16) = 2049510749 from abc_w46]
  kernel_rfl)
theorem abc_w63 : word abcB 63 = 313650667 := (word_big abcB 63 (by omega)).trans (by
  rw [show word abcB (63 - 2) = 1720397816 from abc_w61, show word abcB (63 - 7) = 4015503821 from abc_w56, show word abcB (63 - 15) = 4215179723 from abc_w48, show word abcB (63 - 16) = 106709978 from abc_w47]
  kernel_rfl)
theorem abc_r0 : rounds abcS abcK (word abcB) 0 = [1779033703, 3144134277, 1013904242, 2773480762, 1359893119, 2600822924, 528734635, 1541459225] := rfl
theorem abc_r1 : rounds abcS abcK (word abcB) 1 = [1567288269, 1779033703, 3144134277, 1013904242, 4197074466, 1359893119, 2600822924, 528734635] := by
  show rnd (rounds abcS abcK (word abcB) 0) (abcK 0) (word abcB 0) = _
  rw [abc_r0, abc_w0]
  kernel_rfl
theorem abc_r2 : rounds abcS abcK (word abcB) 2 = [1516951981, 1567288269, 1779033703, 3144134277, 2026797449, 4197074466, 1359893119, 2600822924] := by
  show rnd (rounds abcS abcK (word abcB) 1) (abcK 1) (word abcB 1) = _
  rw [abc_r1, abc_w1]
  kernel_rfl
theorem abc_r3 : rounds abcS abcK (word abcB) 3 = [3368241063, 1516951981, 1567288269, 1779033703, 4180228587, 2026797449, 4197074466, 1359893119] := by
  show rnd (rounds abcS abcK (word abcB) 2) (abcK 2) (word abcB 2) = _
  rw [abc_r2, abc_w2]
  kernel_rfl
theorem abc_r4 : rounds abcS abcK (word abcB) 4 = [3578852966, 3368241063, 1516951981, 1567288269, 618661968, 4180228587, 2026797449, 4197074466] := by
  show rnd (rounds abcS abcK (word abcB) 3) (abcK 3) (word abcB 3) = _
  rw [abc_r3, abc_w3]
  kernel_rfl
theorem abc_r5 : rounds abcS abcK (word abcB) 5 = [71342698, 3578852966, 3368241063, 1516951981, 1135452741, 618661968, 4180228587, 2026797449] := by
  show rnd (rounds abcS abcK (word abcB) 4) (abcK 4) (word abcB 4) = _
  rw [abc_r4, abc_w4]
  kernel_rfl
theorem abc_r6 : rounds abcS abcK (word abcB) 6 = [725748213, 71342698, 3578852966, 3368241063, 1900175533, 1135452741, 618661968, 4180228587] := by
  show rnd (rounds abcS abcK (word abcB) 5) (abcK 5) (word abcB 5) = _
  rw [abc_r5, abc_w5]
  kernel_rfl
theorem abc_r7 : rounds abcS abcK (word abcB) 7 = [3842179968, 725748213, 71342698, 3578852966, 2603066369, 1900175533, 1135452741, 618661968] := by
  show rnd (rounds abcS abcK (word abcB) 6) (abcK 6) (word abcB 6) = _
  rw [abc_r6, abc_w6]
  kernel_rfl
theorem abc_r8 : rounds abcS abcK (word abcB) 8 = [2241887071, 3842179968, 725748213, 71342698, 207977081, 2603066369, 1900175533, 1135452741] := by
  show rnd (rounds abcS abcK (word abcB) 7) (abcK 7) (word abcB 7) = _
  rw [abc_r7, abc_w7]
  kernel_rfl
theorem abc_r9 : rounds abcS abcK (word abcB) 9 = [2382687417, 2241887071, 3842179968, 725748213, 852110732, 207977081, 2603066369, 1900175533] := by
  show rnd (rounds abcS abcK (word abcB) 8) (abcK 8) (word abcB 8) = _
  rw [abc_r8, abc_w8]
  kernel_rfl
theorem abc_r10 : rounds abcS abcK (word abcB) 10 = [2357671019, 2382687417, 2241887071, 3842179968, 482944406, 852110732, 207977081, 2603066369] := by
  show rnd (rounds abcS abcK (word abcB) 9) (abcK 9) (word abcB 9) = _
  rw [abc_r9, abc_w9]
  kernel_rfl
theorem abc_r11 : rounds abcS abcK (word abcB) 11 = [1201185780, 2357671019, 2382687417, 2241887071, 1131095016, 482944406, 852110732, 207977081] := by
  show rnd (rounds abcS abcK (word abcB) 10) (abcK 10) (word abcB 10) = _
  rw [abc_r10, abc_w10]
  kernel_rfl
theorem abc_r12 : rounds abcS abcK (word abcB) 12 = [4146054569, 1201185780, 2357671019, 2382687417, 2171590377, 1131095016, 482944406, 852110732] := by
  show rnd (rounds abcS abcK (word abcB) 11) (abcK 11) (word abcB 11) = _
  rw [abc_r11, abc_w11]
  kernel_rfl
theorem abc_r13 : rounds abcS abcK (word abcB) 13 = [2274437520, 4146054569, 1201185780, 2357671019, 509051416, 2171590377, 1131095016, 482944406] := by
  show rnd (rounds abcS abcK (word abcB) 12) (abcK 12) (word abcB 12) = _
  rw [abc_r12, abc_w12]
  kernel_rfl
theorem abc_r14 : rounds abcS abcK (word abcB) 14 = [3643992854, 2274437520, 4146054569, 1201185780, 1952073950, 509051416, 2171590377, 1131095016] := by
  show rnd (rounds abcS abcK (word abcB) 13) (abcK 13) (word abcB 13) = _
  rw [abc_r13, abc_w13]
  kernel_rfl
theorem abc_r15 : rounds abcS abcK (word abcB) 15 = [3227803614, 3643992854, 2274437520, 4146054569, 194179596, 1952073950, 509051416, 2171590377] := by
  show rnd (rounds abcS abcK (word abcB) 14) (abcK 14) (word abcB 14) = _
  rw [abc_r14, abc_w14]
  kernel_rfl
theorem abc_r16 : rounds abcS abcK (word abcB) 16 = [2969183118, 3227803614, 3643992854, 2274437520, 123276749, 194179596, 1952073950, 509051416] := by
  show rnd (rounds abcS abcK (word abcB) 15) (abcK 15) (word abcB 15) = _
  rw [abc_r15, abc_w15]
  kernel_rfl
theorem abc_r17 : rounds abcS abcK (word abcB) 17 = [567974555, 2969183118, 3227803614, 3643992854, 2150900380, 123276749, 194179596, 1952073950] := by
  show rnd (rounds abcS abcK (word abcB) 16) (abcK 16) (word abcB 16) = _
  rw [abc_r16, abc_w16]
  kernel_rfl
theorem abc_r18 : rounds abcS abcK (word abcB) 18 = [3271285201, 567974555, 2969183118, 3227803614, 2221859924, 2150900380, 123276749, 194179596] := by
  show rnd (rounds abcS abcK (word abcB) 17) (abcK 17) (word abcB 17) = _
  rw [abc_r17, abc_w17]
  kernel_rfl
theorem abc_r19 : rounds abcS abcK (word abcB) 19 = [4269243327, 3271285201, 567974555, 2969183118, 3431569761, 2221859924, 2150900380, 123276749] := by
  show rnd (rounds abcS abcK (word abcB) 18) (abcK 18) (word abcB 18) = _
  rw [abc_r18, abc_w18]
  kernel_rfl
theorem abc_r20 : rounds abcS abcK (word abcB) 20 = [3790736435, 4269243327, 3271285201, 567974555, 2959311225, 3431569761, 2221859924, 2150900380] := by
  show rnd (rounds abcS abcK (word abcB) 19) (abcK 19) (word abcB 19) = _
  rw [abc_r19, abc_w19]
  kernel_rfl
theorem abc_r21 : rounds abcS abcK (word abcB) 21 = [2647034723, 3790736435, 4269243327, 3271285201, 2329577776, 2959311225, 3431569761, 2221859924] := by
  show rnd (rounds abcS abcK (word abcB) 20) (abcK 20) (word abcB 20) = _
  rw [abc_r20, abc_w20]
  kernel_rfl
theorem abc_r22 : rounds abcS abcK (word abcB) 22 = [3261099373, 2647034723, 3790736435, 4269243327, 3777329520, 2329577776, 2959311225, 3431569761] := by
  show rnd (rounds abcS abcK (word abcB) 21) (abcK 21) (word abcB 21) = _
  rw [abc_r21, abc_w21]
  kernel_rfl
theorem abc_r23 : rounds abcS abcK (word abcB) 23 = [2812502591, 3261099373, 2647034723, 3790736435, 1240797514, 3777329520, 2329577776, 2959311225] := by
  show rnd (rounds abcS abcK (word abcB) 22) (abcK 22) (word abcB 22) = _
  rw [abc_r22, abc_w22]
  kernel_rfl
theorem abc_r24 : rounds abcS abcK (word abcB) 24 = [3319086477, 2812502591, 3261099373, 2647034723, 2856829767, 1240797514, 3777329520, 2329577776] := by
  show rnd (rounds abcS abcK (word abcB) 23) (abcK 23) (word abcB 23) = _
  rw [abc_r23, abc_w23]
  kernel_rfl
theorem abc_r25 : rounds abcS abcK (word abcB) 25 = [472655928, 3319086477, 2812502591, 3261099373, 673443729, 2856829767, 1240797514, 3777329520] := by
  show rnd (rounds abcS abcK (word abcB) 24) (abcK 24) (word abcB 24) = _
  rw [abc_r24, abc_w24]
  kernel_rfl
theorem abc_r26 : rounds abcS abcK (word abcB) 26 = [3454534525, 472655928, 3319086477, 2812502591, 339230094, 673443729, 2856829767, 1240797514] := by
  show rnd (rounds abcS abcK (word abcB) 25) (abcK 25) (word abcB 25) = _
  rw [abc_r25, abc_w25]
  kernel_rfl
theorem abc_r27 : rounds abcS abcK (word abcB) 27 = [3056518332, 3454534525, 472655928, 3319086477, 3343672598, 339230094, 673443729, 2856829767] := by
  show rnd (rounds abcS abcK (word abcB) 26) (abcK 26) (word abcB 26) = _
  rw [abc_r26, abc_w26]
  kernel_rfl
theorem abc_r28 : rounds abcS abcK (word abcB) 28 = [2010346792, 3056518332, 3454534525, 472655928, 3992961016, 3343672598, 339230094, 673443729] := by
  show rnd (rounds abcS abcK (word abcB) 27) (abcK 27) (word abcB 27) = _
  rw [abc_r27, abc_w27]
  kernel_rfl
theorem abc_r29 : rounds abcS abcK (word abcB) 29 = [909411017, 2010346792, 3056518332, 3454534525, 1628611511, 3992961016, 3343672598, 339230094] := by
  show rnd (rounds abcS abcK (word abcB) 28) (abcK 28) (word abcB 28) = _
  rw [abc_r28, abc_w28]
  kernel_rfl
theorem abc_r30 : rounds abcS abcK (word abcB) 30 = [2684750640, 909411017, 2010346792, 3056518332, 2917635127, 1628611511, 3992961016, 3343672598] := by
  show rnd (rounds abcS abcK (word abcB) 29) (abcK 29) (word abcB 29) = _
  rw [abc_r29, abc_w29]
  kernel_rfl
theorem abc_r31 : rounds abcS abcK (word abcB) 31 = [3935906338, 2684750640, 909411017, 2010346792, 17410874, 2917635127, 1628611511, 3992961016] := by
  show rnd (rounds abcS abcK (word abcB) 30) (abcK 30) (word abcB 30) = _
  rw [abc_r30, abc_w30]
  kernel_rfl
theorem abc_r32 : rounds abcS abcK (word abcB) 32 = [1941126133, 3935906338, 2684750640, 909411017, 3126399250, 17410874, 2917635127, 1628611511] := by
  show rnd (rounds abcS abcK (word abcB) 31) (abcK 31) (word abcB 31) = _
  rw [abc_r31, abc_w31]
  kernel_rfl
theorem abc_r33 : rounds abcS abcK (word abcB) 33 = [2564891911, 1941126133, 3935906338, 2684750640, 2631529974, 3126399250, 17410874, 2917635127] := by
  show rnd (rounds abcS abcK (word abcB) 32) (abcK 32) (word abcB 32) = _
  rw [abc_r32, abc_w32]
  kernel_rfl
theorem abc_r34 : rounds abcS abcK (word abcB) 34 = [4267724277, 2564891911, 1941126133, 3935906338, 1495571923, 2631529974, 3126399250, 17410874] := by
  show rnd (rounds abcS abcK (word abcB) 33) (abcK 33) (word abcB 33) = _
  rw [abc_r33, abc_w33]
  kernel_rfl
theorem abc_r35 : rounds abcS abcK (word abcB) 35 = [2846323596, 4267724277, 2564891911, 1941126133, 140458035, 1495571923, 2631529974, 3126399250] := by
  show rnd (rounds abcS abcK (word abcB) 34) (abcK 34) (word abcB 34) = _
  rw [abc_r34, abc_w34]
  kernel_rfl
theorem abc_r36 : rounds abcS abcK (word abcB) 36 = [1705037796, 2846323596, 4267724277, 2564891911, 4105175766, 140458035, 1495571923, 2631529974] := by
  show rnd (rounds abcS abcK (word abcB) 35) (abcK 35) (word abcB 35) = _
  rw [abc_r35, abc_w35]
  kernel_rfl
theorem abc_r37 : rounds abcS abcK (word abcB) 37 = [1101421745, 1705037796, 2846323596, 4267724277, 124953195, 4105175766, 140458035, 1495571923] := by
  show rnd (rounds abcS abcK (word abcB) 36) (abcK 36) (word abcB 36) = _
  rw [abc_r36, abc_w36]
  kernel_rfl
theorem abc_r38 : rounds abcS abcK (word abcB) 38 = [887035396, 1101421745, 1705037796, 2846323596, 2768741693, 124953195, 4105175766, 140458035] := by
  show rnd (rounds abcS abcK (word abcB) 37) (abcK 37) (word abcB 37) = _
  rw [abc_r37, abc_w37]
  kernel_rfl
theorem abc_r39 : rounds abcS abcK (word abcB) 39 = [1841658506, 887035396, 1101421745, 1705037796, 4034403272, 2768741693, 124953195, 4105175766] := by
  show rnd (rounds abcS abcK (word abcB) 38) (abcK 38) (word abcB 38) = _
  rw [abc_r38, abc_w38]
  kernel_rfl
theorem abc_r40 : rounds abcS abcK (word abcB) 40 = [2045405306, 1841658506, 887035396, 1101421745, 519815328, 4034403272, 2768741693, 124953195] := by
  show rnd (rounds abcS abcK (word abcB) 39) (abcK 39) (word abcB 39) = _
  rw [abc_r39, abc_w39]
  kernel_rfl
theorem abc_r41 : rounds abcS abcK (word abcB) 41 = [3597076326, 2045405306, 1841658506, 887035396, 641019235, 519815328, 4034403272, 2768741693] := by
  show rnd (rounds abcS abcK (word abcB) 40) (abcK 40) (word abcB 40) = _
  rw [abc_r40, abc_w40]
  kernel_rfl
theorem abc_r42 : rounds abcS abcK (word abcB) 42 = [3745932591, 3597076326, 2045405306, 1841658506, 2206934801, 641019235, 519815328, 4034403272] := by
  show rnd (rounds abcS abcK (word abcB) 41) (abcK 41) (word abcB 41) = _
  rw [abc_r41, abc_w41]
  kernel_rfl
theorem abc_r43 : rounds abcS abcK (word abcB) 43 = [397020670, 3745932591, 3597076326, 2045405306, 3737995029, 2206934801, 641019235, 519815328] := by
  show rnd (rounds abcS abcK (word abcB) 42) (abcK 42) (word abcB 42) = _
  rw [abc_r42, abc_w42]
  kernel_rfl
theorem abc_r44 : rounds abcS abcK (word abcB) 44 = [2638983059, 397020670, 3745932591, 3597076326, 4255271982, 3737995029, 2206934801, 641019235] := by
  show rnd (rounds abcS abcK (word abcB) 43) (abcK 43) (word abcB 43) = _
  rw [abc_r43, abc_w43]
  kernel_rfl
theorem abc_r45 : rounds abcS abcK (word abcB) 45 = [643991573, 2638983059, 397020670, 3745932591, 2819559920, 4255271982, 3737995029, 2206934801] := by
  show rnd (rounds abcS abcK (word abcB) 44) (abcK 44) (word abcB 44) = _
  rw [abc_r44, abc_w44]
  kernel_rfl
theorem abc_r46 : rounds abcS abcK (word abcB) 46 = [1923828625, 643991573, 2638983059, 397020670, 3077922209, 2819559920, 4255271982, 3737995029] := by
  show rnd (rounds abcS abcK (word abcB) 45) (abcK 45) (word abcB 45) = _
  rw [abc_r45, abc_w45]
  kernel_rfl
theorem abc_r47 : rounds abcS abcK (word abcB) 47 = [2706117808, 1923828625, 643991573, 2638983059, 3581645993, 3077922209, 2819559920, 4255271982] := by
  show rnd (rounds abcS abcK (word abcB) 46) (abcK 46) (word abcB 46) = _
  rw [abc_r46, abc_w46]
  kernel_rfl
theorem abc_r48 : rounds abcS abcK (word abcB) 48 = [1098003085, 2706117808, 1923828625, 643991573, 4274981830, 3581645993, 3077922209, 2819559920] := by
  show rnd (rounds abcS abcK (word abcB) 47) (abcK 47) (word abcB 47) = _
  rw [abc_r47, abc_w47]
  kernel_rfl
theorem abc_r49 : rounds abcS abcK (word abcB) 49 = [91585771, 1098003085, 2706117808, 1923828625, 3178315832, 4274981830, 3581645993, 3077922209] := by
  show rnd (rounds abcS abcK (word abcB) 48) (abcK 48) (word abcB 48) = _
  rw [abc_r48, abc_w48]
  kernel_rfl
theorem abc_r50 : rounds abcS abcK (word abcB) 50 = [4045142696, 91585771, 1098003085, 2706117808, 1851537676, 3178315832, 4274981830, 3581645993] := by
  show rnd (rounds abcS abcK (word abcB) 49) (abcK 49) (word abcB 49) = _
  rw [abc_r49, abc_w49]
  kernel_rfl
theorem abc_r51 : rounds abcS abcK (word abcB) 51 = [2047150241, 4045142696, 91585771, 1098003085, 1391578359, 1851537676, 3178315832, 4274981830] := by
  show rnd (rounds abcS abcK (word abcB) 50) (abcK 50) (word abcB 50) = _
  rw [abc_r50, abc_w50]
  kernel_rfl
theorem abc_r52 : rounds abcS abcK (word abcB) 52 = [2288941602, 2047150241, 4045142696, 91585771, 1227037726, 1391578359, 1851537676, 3178315832] := by
  show rnd (rounds abcS abcK (word abcB) 51) (abcK 51) (word abcB 51) = _
  rw [abc_r51, abc_w51]
  kernel_rfl
theorem abc_r53 : rounds abcS abcK (word abcB) 53 = [270520975, 2288941602, 2047150241, 4045142696, 1386118400, 1227037726, 1391578359, 1851537676] := by
  show rnd (rounds abcS abcK (word abcB) 52) (abcK 52) (word abcB 52) = _
  rw [abc_r52, abc_w52]
  kernel_rfl
theorem abc_r54 : rounds abcS abcK (word abcB) 54 = [4117770203, 270520975, 2288941602, 2047150241, 2672265155, 1386118400, 1227037726, 1391578359] := by
  show rnd (rounds abcS abcK (word abcB) 53) (abcK 53) (word abcB 53) = _
  rw [abc_r53, abc_w53]
  kernel_rfl
theorem abc_r55 : rounds abcS abcK (word abcB) 55 = [1053056219, 4117770203, 270520975, 2288941602, 3842906959, 2672265155, 1386118400, 1227037726] := by
  show rnd (rounds abcS abcK (word abcB) 54) (abcK 54) (word abcB 54) = _
  rw [abc_r54, abc_w54]
  kernel_rfl
theorem abc_r56 : rounds abcS abcK (word abcB) 56 = [952932627, 1053056219, 4117770203, 270520975, 1422599787, 3842906959, 2672265155, 1386118400] := by
  show rnd (rounds abcS abcK (word abcB) 55) (abcK 55) (word abcB 55) = _
  rw [abc_r55, abc_w55]
  kernel_rfl
theorem abc_r57 : rounds abcS abcK (word abcB) 57 = [4241590395, 952932627, 1053056219, 4117770203, 2606665836, 1422599787, 3842906959, 2672265155] := by
  show rnd (rounds abcS abcK (word abcB) 56) (abcK 56) (word abcB 56) = _
  rw [abc_r56, abc_w56]
  kernel_rfl
theorem abc_r58 : rounds abcS abcK (word abcB) 58 = [3227702383, 4241590395, 952932627, 1053056219, 2118385806, 2606665836, 1422599787, 3842906959] := by
  show rnd (rounds abcS abcK (word abcB) 57) (abcK 57) (word abcB 57) = _
  rw [abc_r57, abc_w57]
  kernel_rfl
theorem abc_r59 : rounds abcS abcK (word abcB) 59 = [4290184306, 3227702383, 4241590395, 952932627, 1837350854, 2118385806, 2606665836, 1422599787] := by
  show rnd (rounds abcS abcK (word abcB) 58) (abcK 58) (word abcB 58) = _
  rw [abc_r58, abc_w58]
  kernel_rfl
theorem abc_r60 : rounds abcS abcK (word abcB) 60 = [3064893439, 4290184306, 3227702383, 4241590395, 2988158269, 1837350854, 2118385806, 2606665836] := by
  show rnd (rounds abcS abcK (word abcB) 59) (abcK 59) (word abcB 59) = _
  rw [abc_r59, abc_w59]
  kernel_rfl
theorem abc_r61 : rounds abcS abcK (word abcB) 61 = [3093179625, 3064893439, 4290184306, 3227702383, 2518632596, 2988158269, 1837350854, 2118385806] := by
  show rnd (rounds abcS abcK (word abcB) 60) (abcK 60) (word abcB 60) = _
  rw [abc_r60, abc_w60]
  kernel_rfl
theorem abc_r62 : rounds abcS abcK (word abcB) 62 = [80891244, 3093179625, 3064893439, 4290184306, 2492278198, 2518632596, 2988158269, 1837350854] := by
  show rnd (rounds abcS abcK (word abcB) 61) (abcK 61) (word abcB 61) = _
  rw [abc_r61, abc_w61]
  kernel_rfl
theorem abc_r63 : rounds abcS abcK (word abcB) 63 = [3550093669, 80891244, 3093179625, 3064893439, 4212265488, 2492278198, 2518632596, 2988158269] := by
  show rnd (rounds abcS abcK (word abcB) 62) (abcK 62) (word abcB 62) = _
  rw [abc_r62, abc_w62]
  kernel_rfl
theorem abc_r64 : rounds abcS abcK (word abcB) 64 = [1349398616, 3550093669, 80891244, 3093179625, 1593118500, 4212265488, 2492278198, 2518632596] := by
  show rnd (rounds abcS abcK (word abcB) 63) (abcK 63) (word abcB 63) = _
  rw [abc_r63, abc_w63]
  kernel_rfl
theorem abc_sum : adds (rounds abcS abcK (word abcB) 64) abcS = [3128432319, 2399260650, 1094795486, 1571693091, 2953011619, 2518121116, 3021012833, 4060091821] := by
  rw [abc_r64]
  kernel_rfl
end Go.V
/-
  The cube roots of eight primes, reckoned by the kernel.
-/
namespace Go.V
theorem roots3_0 : (List.range 8).all (fun i => (rootI (primesL.getD (0 + i) 0) 3 38).tmod 4294967296 == (roots3.getD (0 + i) 0 : Int)) = true := by decide +kernel
end Go.V
/-
  The cube roots of eight primes, reckoned by the kernel.
-/
namespace Go.V
theorem roots3_1 : (List.range 8).all (fun i => (rootI (primesL.getD (8 + i) 0) 3 38).tmod 4294967296 == (roots3.getD (8 + i) 0 : Int)) = true := by decide +kernel
end Go.V
/-
  The cube roots of eight primes, reckoned by the kernel.
-/
namespace Go.V
theorem roots3_2 : (List.range 8).all (fun i => (rootI (primesL.getD (16 + i) 0) 3 38).tmod 4294967296 == (roots3.getD (16 + i) 0 : Int)) = true := by decide +kernel
end Go.V
/-
  The cube roots of eight primes, reckoned by the kernel.
-/
namespace Go.V
theorem roots3_3 : (List.range 8).all (fun i => (rootI (primesL.getD (24 + i) 0) 3 38).tmod 4294967296 == (roots3.getD (24 + i) 0 : Int)) = true := by decide +kernel
end Go.V
/-
  The cube roots of eight primes, reckoned by the kernel.
-/
namespace Go.V
theorem roots3_4 : (List.range 8).all (fun i => (rootI (primesL.getD (32 + i) 0) 3 38).tmod 4294967296 == (roots3.getD (32 + i) 0 : Int)) = true := by decide +kernel
end Go.V
/-
  The cube roots of eight primes, reckoned by the kernel.
-/
namespace Go.V
theorem roots3_5 : (List.range 8).all (fun i => (rootI (primesL.getD (40 + i) 0) 3 38).tmod 4294967296 == (roots3.getD (40 + i) 0 : Int)) = true := by decide +kernel
end Go.V
/-
  The cube roots of eight primes, reckoned by the kernel.
-/
namespace Go.V
theorem roots3_6 : (List.range 8).all (fun i => (rootI (primesL.getD (48 + i) 0) 3 38).tmod 4294967296 == (roots3.getD (48 + i) 0 : Int)) = true := by decide +kernel
end Go.V
/-
  The cube roots of eight primes, reckoned by the kernel.
-/
namespace Go.V
theorem roots3_7 : (List.range 8).all (fun i => (rootI (primesL.getD (56 + i) 0) 3 38).tmod 4294967296 == (roots3.getD (56 + i) 0 : Int)) = true := by decide +kernel
end Go.V
/-
  The cube roots of all primes that are asked for.
-/
namespace Go.V
/-- The same as whole numbers. -/
def roots3I : List Int := roots3.map (fun n : Nat => (n : Int))
theorem roots3_of {k i : Nat} (h : (List.range 8).all (fun i => (rootI (primesL.getD (8 * k + i) 0) 3 38).tmod 4294967296 == (roots3.getD (8 * k + i) 0 : Int)) = true) (h1 : 8 * k ≤ i) (h2 : i < 8 * k + 8) :
    (rootI (primesL.getD i 0) 3 38).tmod 4294967296 = (roots3.getD i 0 : Int) := by
  have := List.all_eq_true.1 h (i - 8 * k) (by simp; omega)
  simp only [beq_iff_eq] at this
  rw [show 8 * k + (i - 8 * k) = i by omega] at this
  exact this
theorem roots3_all (i : Nat) (h : i < 64) : (rootI (primesL.getD i 0) 3 38).tmod 4294967296 = (roots3.getD i 0 : Int) := by
  by_cases h0 : i < 8
  · exact roots3_of (k := 0) roots3_0 (by omega) (by omega)
  by_cases h1 : i < 16
  · exact roots3_of (k := 1) roots3_1 (by omega) (by omega)
  by_cases h2 : i < 24
  · exact roots3_of (k := 2) roots3_2 (by omega) (by omega)
  by_cases h3 : i < 32
  · exact roots3_of (k := 3) roots3_3 (by omega) (by omega)
  by_cases h4 : i < 40
  · exact roots3_of (k := 4) roots3_4 (by omega) (by omega)
  by_cases h5 : i < 48
  · exact roots3_of (k := 5) roots3_5 (by omega) (by omega)
  by_cases h6 : i < 56
  · exact roots3_of (k := 6) roots3_6 (by omega) (by omega)
  exact roots3_of (k := 7) roots3_7 (by omega) (by omega)
theorem roots3_lt : ∀ i, i < 64 → roots3.getD i 0 < 4294967296 := by decide +kernel
end Go.V
/-
  The square roots of eight primes, reckoned by the kernel.
-/
namespace Go.V
def starts : List Nat := [1779033703, 3144134277, 1013904242, 2773480762, 1359893119, 2600822924, 528734635, 1541459225]
def startsI : List Int := starts.map (fun n : Nat => (n : Int))
theorem roots2 : (List.range 8).all (fun i => (rootI (primesL.getD i 0) 2 38).tmod 4294967296 == (starts.getD i 0 : Int)) = true := by decide +kernel
theorem roots2_all (i : Nat) (h : i < 8) : (rootI (primesL.getD i 0) 2 38).tmod 4294967296 = (starts.getD i 0 : Int) := by
  have := List.all_eq_true.1 roots2 i (by simp; omega)
  simpa only [beq_iff_eq] using this
theorem starts_lt : ∀ i, i < 8 → starts.getD i 0 < 4294967296 := by decide
theorem startsI_get : ∀ i, i < 8 → startsI.getD i 0 = (starts.getD i 0 : Int) := by decide
theorem roots3I_get : ∀ i, i < 64 → roots3I.getD i 0 = (roots3.getD i 0 : Int) := by decide +kernel
end Go.V
