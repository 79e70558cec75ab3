/-
  VALUE LOGIC, part l: rows of operations, regions, what a function comes to.
-/
import Derived.Test.YtjdlgbkpdfaloaaDoorVk
import Derived.Test.YtjdlgbkpdfaloaaDoorVx
namespace Go.V
set_option linter.unusedVariables false
set_option linter.unusedSimpArgs false

def St.put (st : St) (d : Option Tmp) (v : AV) (objs : List AObj) : St :=
  match d with
  | some d => ⟨st.nt, (d, v) :: st.slots, objs⟩
  | none => ⟨st.nt, st.slots, objs⟩

def dOk (st : St) : Option Tmp → Prop
  | some d => d < st.nt
  | none => True

theorem Rep.put {G : List (Nat × List AV)} {E E' : Env} {st : St} {a : Act} (hr : Rep G E st a) {objs' : List AObj} (hx : Ext E st.objs E' objs') (ho : ObjsRep E' objs') {d : Option Tmp} {v : AV} {u : Value} (hv : RepV E' v u) (hd : dOk st d) :
    Rep G E' (st.put d v objs') (a.put d u) := by
  cases d with
  | none => exact ⟨hr.size, fun i => RepV.mono hx.toExt0 _ _ (hr.slots i), hr.defers, ho, hr.glob.mono hx.toExt0⟩
  | some d =>
    refine ⟨by simpa [St.put, Act.put] using hr.size, fun i => ?_, hr.defers, ho, hr.glob.mono hx.toExt0⟩
    simp only [St.put, Act.put, lk]
    split
    · rename_i e
      subst e
      have hlt : d < a.tmps.size := by rw [hr.size]; exact hd
      simp only [Array.getD_eq_getD_getElem?, Array.getElem?_setIfInBounds, if_true, hlt, Option.getD_some]
      exact hv
    · rename_i e
      have : (a.tmps.setIfInBounds d u).getD i undef = a.tmps.getD i undef := by
        simp only [Array.getD_eq_getD_getElem?, Array.getElem?_setIfInBounds]
        rw [if_neg e]
      rw [this]
      exact RepV.mono hx.toExt0 _ _ (hr.slots i)

/-- The slot that an operation's guard asks. -/
def gslot (ops : Array Oper) (j : Nat) : Option Tmp := (ops[j]?).bind (·.dst)

/-- A call of a function that is handed no object. -/
def afun : AV → Option FuncId
  | .val (.func (.func f) a b) => if a.size = 0 ∧ b.size = 0 then some f else none
  | _ => none

def acall (P : Program) (G : List (Nat × List AV)) (f : Option FuncId) (vw : Option (Prop × Bool × List AV)) (K : AV → Prop) : Prop :=
  match f, vw with
  | some f, some (C, b, as) => C ∧ ∃ Q, ACalls P G f as [] Q ∧ (∃ r, Q r []) ∧ ∀ r os, Q r os → os = [] ∧ (if b then flat r else noref r) = true ∧ K r
  | _, _ => False

/-- What a slot holds that was passed over. -/
def uav : AV := .val (.tuple #[])

/-- Is a guard met? -/
def gdec : AV → Bool → Option Bool
  | .val (.bool true), w => some w
  | .val (.bool false), w => some (!w)
  | .val (.tuple _), _ => some false
  | _, _ => none

theorem gdec_some {a : AV} {w c : Bool} (h : gdec a w = some c) : (∃ b, a = .val (.bool b) ∧ c = (b == w)) ∨ (∃ x, a = .val (.tuple x) ∧ c = false) := by
  unfold gdec at h
  split at h
  · injection h with h; subst h; exact .inl ⟨true, rfl, by cases w <;> rfl⟩
  · injection h with h; subst h; exact .inl ⟨false, rfl, by cases w <;> rfl⟩
  · injection h with h; subst h; exact .inr ⟨_, rfl, rfl⟩
  · cases h

/-- The objects that a call's arguments may lead into: none where the call is marked so. -/
def oview (M : List Nat) (d : Option Tmp) (objs : List AObj) : List AObj := if (d.map (M.contains ·)).getD false then [] else objs

theorem aview_nil {P : Program} {objs : List AObj} {t : TypeId} {a : AV} {x : Prop × Bool × AV} (h : aview P [] t a = some x) : aview P objs t a = some x := by
  unfold aview at *
  cases a <;> simp_all

theorem aviews_nil {P : Program} {objs : List AObj} : ∀ (as : List AV) (ts : List TypeId) (x : Prop × Bool × List AV), aviews P [] ts as = some x → aviews P objs ts as = some x
  | [], ts, x, h => by simpa [aviews] using h
  | a :: as, ts, x, h => by
    unfold aviews at h ⊢
    split at h
    case h_2 => cases h
    rename_i C b a' C' b' as' h1 h2
    rw [aview_nil h1, aviews_nil as _ _ h2]
    exact h

theorem aviews_oview {P : Program} {M : List Nat} {d : Option Tmp} {objs : List AObj} {as : List AV} {ts : List TypeId} {x : Prop × Bool × List AV} (h : aviews P (oview M d objs) ts as = some x) : aviews P objs ts as = some x := by
  unfold oview at h
  split at h
  · exact aviews_nil as ts x h
  · exact h

/-- Is a call marked so that it may be handed an object, or hand back new ones? -/
def htok (M : List Nat) (d : Option Tmp) : Bool := M.contains (match d with | some t => t + 1000000 | none => 999999)

/-- A call that is handed one object, or none, and may hand back new ones. -/
def acallH (P : Program) (G : List (Nat × List AV)) (f : Option FuncId) (as : List AV) (objs : List AObj) (K : AV → List AObj → Prop) : Prop :=
  match f with
  | some f =>
    (∃ as' Q, hviews none as = some as' ∧ ACalls P G f as' [] Q ∧ (∃ r os, Q r os) ∧ ∀ r os, Q r os → (∀ o ∈ os, objOk o = true) ∧ ∃ r', hres (fun i => objs.length + i) os.length r = some r' ∧ K r' (objs ++ os)) ∨
    (∃ h x as' Q, objs[h]? = some x ∧ objOk x = true ∧ hviews (some h) as = some as' ∧ ACalls P G f as' [x] Q ∧ (∃ r os, Q r os) ∧
      ∀ r os, Q r os → (∀ o ∈ os, objOk o = true) ∧ ∃ y os', os = y :: os' ∧ ∃ r', hres (fun i => if i = 0 then h else objs.length + (i - 1)) os.length r = some r' ∧ K r' (objs.set h y ++ os'))
  | none => False

theorem acallH_mono {P : Program} {G : List (Nat × List AV)} {f : Option FuncId} {as : List AV} {objs : List AObj} {K K' : AV → List AObj → Prop} (hk : ∀ r os, K r os → K' r os) (h : acallH P G f as objs K) : acallH P G f as objs K' := by
  unfold acallH at *
  cases f with
  | none => exact h
  | some f =>
    rcases h with ⟨as', Q, h1, h2, h3, h4⟩ | ⟨hh, x, as', Q, h0, hx, h1, h2, h3, h4⟩
    · exact .inl ⟨as', Q, h1, h2, h3, fun r os hq => ⟨(h4 r os hq).1, by obtain ⟨r', e, k⟩ := (h4 r os hq).2; exact ⟨r', e, hk _ _ k⟩⟩⟩
    · exact .inr ⟨hh, x, as', Q, h0, hx, h1, h2, h3, fun r os hq => ⟨(h4 r os hq).1, by obtain ⟨y, os', e0, r', e, k⟩ := (h4 r os hq).2; exact ⟨y, os', e0, r', e, hk _ _ k⟩⟩⟩
theorem acallH_some {P : Program} {G : List (Nat × List AV)} {f : Option FuncId} {as : List AV} {objs : List AObj} {K : AV → List AObj → Prop} (h : acallH P G f as objs K) : ∃ r os, K r os := by
  unfold acallH at h
  cases f with
  | none => exact h.elim
  | some f =>
    rcases h with ⟨as', Q, h1, h2, ⟨r, os, hq⟩, h4⟩ | ⟨hh, x, as', Q, h0, hx, h1, h2, ⟨r, os, hq⟩, h4⟩
    · obtain ⟨_, r', _, k⟩ := h4 r os hq
      exact ⟨_, _, k⟩
    · obtain ⟨_, y, os', _, r', _, k⟩ := h4 r os hq
      exact ⟨_, _, k⟩

/-- A call, marked or not. -/
def acallM (P : Program) (G : List (Nat × List AV)) (M : List Nat) (d : Option Tmp) (f : Option FuncId) (as : List AV) (ts : List TypeId) (objs : List AObj) (K : AV → List AObj → Prop) : Prop :=
  if htok M d = true then acallH P G f as objs K else acall P G f (aviews P (oview M d objs) ts as) fun r => K r objs

def aopsK (P : Program) (G : List (Nat × List AV)) (M : List Nat) (ops : Array Oper) : List Oper → St → (St → Prop) → Prop
  | [], st, K => K st
  | o :: rest, st, K =>
    let run : Prop := match o.op with
      | .call { callee := .value f, args, argTypes } => dOk st o.dst ∧ acallM P G M o.dst (afun (ev G st.slots f)) (args.toList.map (ev G st.slots)) argTypes.toList st.objs fun r os => aopsK P G M ops rest (st.put o.dst r os) K
      | _ => match aval P ((o.dst.map (M.contains ·)).getD false) (ev G st.slots) st.objs o.op with
        | .ok C v objs' => C ∧ dOk st o.dst ∧ aopsK P G M ops rest (st.put o.dst v objs') K
        | .bad => False
    match o.guard with
    | none => run
    | some (j, want) => match gslot ops j with
      | some t => match gdec (lk st.slots t) want with
        | some c => t < st.nt ∧ (c = true → run) ∧ (c = false → dOk st o.dst ∧ aopsK P G M ops rest (st.put o.dst uav st.objs) K)
        | none => False
      | none => False

/-- What a row of operations comes to is what the state says. -/
def RQ (P : Program) (G : List (Nat × List AV)) (E : Env) (objs : List AObj) (Q : Exit → St → Prop) : Exit → Act → World → Prop :=
  fun e a' w' => ∃ st' E', E'.w = w' ∧ Q e st' ∧ Rep G E' st' a' ∧ Ext E objs E' st'.objs

theorem wpList_mono {P : Program} {ops : Array Oper} {Q Q' : Exit → Act → World → Prop} (hq : ∀ e a w, Q e a w → Q' e a w) : ∀ (l : List Oper) (a : Act) (w : World), wpList P ops Q l a w → wpList P ops Q' l a w
  | [], a, w, h => hq _ _ _ h
  | o :: rest, a, w, h => by
    unfold wpList at h ⊢
    have ih := wpList_mono (P := P) (ops := ops) hq rest
    split
    · rename_i hw
      rw [if_pos hw] at h
      rcases h with h | ⟨h1, a0, w0, h2⟩
      · left
        unfold Oper.wp at h ⊢
        cases hr : (execOp a.eval o).run P w with
        | ok n w' =>
          rw [hr] at h
          cases n <;> simp only [Oper.upon] at h ⊢ <;> first
            | exact ih _ _ h
            | (refine Calls.mono h ?_
               intro e w'' hh
               cases e with
               | returned v => exact ih _ _ hh
               | panicked chain => exact hq _ _ _ hh
               | outgrown => obtain ⟨a1, w1, h1⟩ := hh; exact ⟨a1, w1, hq _ _ _ h1⟩)
            | exact Rows.mono h fun _ _ hh => ih _ _ hh
        | halt x w' =>
          rw [hr] at h
          cases x <;> simp only [Oper.upon] at h ⊢ <;> exact hq _ _ _ h
      · exact .inr ⟨h1, a0, w0, hq _ _ _ h2⟩
    · rename_i hw
      rw [if_neg hw] at h
      exact ih _ _ h

theorem callFunc_run {P : Program} {f : FuncId} {fn : Func} (hf : P.funcs[f]? = some fn) (hb : fn.body.isSome = true) (hn : (fn.name == "runtime.NumGoroutine") = false) (args : Array Value) (w : World) :
    (callFunc f args).run P w = .ok (.enter f args) w := by
  have h1 : ¬ fn.body = none := by cases h : fn.body <;> simp_all
  have h2 : ¬ fn.name = "runtime.NumGoroutine" := by simpa using hn
  simp [callFunc, hf, h1, h2]

theorem aopsK_sound {P : Program} {G : List (Nat × List AV)} {M : List Nat} {ops : Array Oper} {Q : Exit → St → Prop} : ∀ (l : List Oper) (st : St) (E : Env) (a : Act), Rep G E st a → aopsK P G M ops l st (Q .normal) →
    wpList P ops (RQ P G E st.objs Q) l a E.w
  | [], st, E, a, hr, h => ⟨st, E, rfl, h, hr, .refl _ _⟩
  | o :: rest, st, E, a, hr, h => by
    -- the rest, from a later state
    have later : ∀ (st' : St) (E' : Env) (a' : Act), Rep G E' st' a' → Ext E st.objs E' st'.objs → aopsK P G M ops rest st' (Q .normal) → wpList P ops (RQ P G E st.objs Q) rest a' E'.w := fun st' E' a' hr' hx' h' =>
      wpList_mono (fun e a w ⟨s, E2, e1, e2, e3, e4⟩ => ⟨s, E2, e1, e2, e3, hx'.trans e4⟩) rest a' E'.w (aopsK_sound rest st' E' a' hr' h')
    -- the operation is carried out
    have run : (match o.op with
      | .call { callee := .value f, args, argTypes } => dOk st o.dst ∧ acallM P G M o.dst (afun (ev G st.slots f)) (args.toList.map (ev G st.slots)) argTypes.toList st.objs fun r os => aopsK P G M ops rest (st.put o.dst r os) (Q .normal)
      | _ => match aval P ((o.dst.map (M.contains ·)).getD false) (ev G st.slots) st.objs o.op with
        | .ok C v objs' => C ∧ dOk st o.dst ∧ aopsK P G M ops rest (st.put o.dst v objs') (Q .normal)
        | .bad => False) → o.wp P a E.w (wpList P ops (RQ P G E st.objs Q) rest) (RQ P G E st.objs Q) := by
      intro h
      split at h
      · rename_i f args argTypes hop
        obtain ⟨hd, h⟩ := h
        have hargs : RepL E (args.toList.map (ev G st.slots)) (args.map a.eval).toList := by
          rw [Array.toList_map]
          generalize args.toList = l
          induction l with
          | nil => simp [RepL]
          | cons x l ih => simp only [List.map_cons, RepL]; exact ⟨_, _, rfl, ev_sound hr x, ih⟩
        have go : ∀ f', afun (ev G st.slots f) = some f' → (∃ fn, P.funcs[f']? = some fn ∧ fn.body.isSome = true ∧ (fn.name == "runtime.NumGoroutine") = false) → (execOp a.eval o).run P E.w = .ok (.enter f' (args.map a.eval)) E.w := by
          intro f' hf hc1
          have hfv : a.eval f = .func (.func f') #[] #[] := by
            have hfv := ev_sound hr f
            unfold afun at hf
            split at hf
            case h_2 => cases hf
            rename_i f0 a0 b0 e
            rw [e] at hfv
            simp only [RepV] at hfv
            split at hf
            case isFalse => cases hf
            rename_i hab
            injection hf with hf
            subst hf
            have e1 : a0 = #[] := Array.eq_empty_of_size_eq_zero hab.1
            have e2 : b0 = #[] := Array.eq_empty_of_size_eq_zero hab.2
            rw [hfv, e1, e2]
          obtain ⟨fn, hfn, hb, hn⟩ := hc1
          obtain ⟨dst, op, ty, pos, after, guard⟩ := o
          simp only at hop
          subst hop
          simp [execOp, resolve, hfv, Deferred.ofValue, invoke, callFunc_run hfn hb hn]
        unfold acallM at h
        split at h
        · unfold acallH at h
          split at h
          case h_2 => exact h.elim
          rename_i f' hf
          rcases h with ⟨as', Q', hv', hcalls, _, hQ⟩ | ⟨hh, x, as', Q', hx0, hxo, hv', hcalls, _, hQ⟩
          · unfold Oper.wp
            rw [go f' hf hcalls.1]
            simp only [Oper.upon]
            have hcall := call_new (P := P) (R := fun r os => aopsK P G M ops rest (st.put o.dst r os) (Q Exit.normal)) hr.objs hr.glob hv' hargs hcalls hQ
            rw [show (args.map a.eval).toList.toArray = args.map a.eval from Array.toArray_toList] at hcall
            refine hcall.mono ?_
            rintro e w' ⟨E', v, r', objs', rfl, rfl, hk, hv, ho', hx'⟩
            exact later _ E' _ (hr.put hx' ho' hv hd) (by cases o.dst <;> exact hx') hk
          · unfold Oper.wp
            rw [go f' hf hcalls.1]
            simp only [Oper.upon]
            have hcall := call_one (P := P) (R := fun r os => aopsK P G M ops rest (st.put o.dst r os) (Q Exit.normal)) hr.objs hr.glob hx0 hxo hv' hargs hcalls hQ
            rw [show (args.map a.eval).toList.toArray = args.map a.eval from Array.toArray_toList] at hcall
            refine hcall.mono ?_
            rintro e w' ⟨E', v, r', objs', rfl, rfl, hk, hv, ho', hx'⟩
            exact later _ E' _ (hr.put hx' ho' hv hd) (by cases o.dst <;> exact hx') hk
        · unfold acall at h
          split at h
          case h_2 => exact h.elim
          rename_i f' C b as hf hvw
          obtain ⟨hC, Q', hcalls, _, hQ⟩ := h
          unfold Oper.wp
          rw [go f' hf hcalls.1]
          simp only [Oper.upon]
          have hcall := call_pure (P := P) hr.objs hr.glob (aviews_oview hvw) hC hargs hcalls (fun r os hq => ⟨(hQ r os hq).1, (hQ r os hq).2.1⟩)
          rw [show (args.map a.eval).toList.toArray = args.map a.eval from Array.toArray_toList] at hcall
          refine hcall.mono ?_
          rintro e w' ⟨E', v, r, rfl, rfl, hq, hv, ho', hx'⟩
          exact later _ E' _ (hr.put hx' ho' hv hd) (by cases o.dst <;> exact hx') (hQ r [] hq).2.2
      · split at h
        case h_2 => exact h.elim
        rename_i C v objs' hav
        obtain ⟨hC, hd, h⟩ := h
        obtain ⟨E', u, hrun, hv, ho', hx'⟩ := aval_sound (P := P) (g := a.eval) (fun x => ev_sound hr x) hav hC hr.objs
        unfold Oper.wp
        have hl := later _ E' _ (hr.put hx' ho' hv hd) (by cases o.dst <;> exact hx') h
        rcases hrun with e | ⟨e, rfl⟩
        · rw [e]; exact hl
        · rw [e]; exact hl
    unfold aopsK at h
    simp only at h
    unfold wpList
    split at h
    · rename_i hg
      rw [if_pos (by simp [Region.wanted, hg])]
      exact .inl (run h)
    · rename_i j want hg
      split at h
      case h_2 => exact h.elim
      rename_i t ht
      split at h
      case h_2 => exact h.elim
      rename_i c hc
      obtain ⟨hlt, h1, h2⟩ := h
      have hs := hr.slots t
      have hlt' : t < a.tmps.size := by rw [hr.size]; exact hlt
      have hwant : Region.wanted o (yielded ops a.tmps) = c := by
        simp only [Region.wanted, hg]
        unfold gslot at ht
        simp only [yielded, ht, Option.bind_some]
        rw [Array.getElem?_eq_getElem hlt']
        have e0 : a.tmps.getD t undef = a.tmps[t] := by simp [Array.getD_eq_getD_getElem?, Array.getElem?_eq_getElem hlt']
        rcases gdec_some hc with ⟨b, hb, rfl⟩ | ⟨x, hb, rfl⟩
        · rw [hb] at hs
          simp only [RepV] at hs
          rw [← e0, hs]
          cases b <;> cases want <;> rfl
        · rw [hb] at hs
          simp only [RepV] at hs
          rw [← e0, hs]
          rfl
      rw [hwant]
      cases c with
      | true =>
        rw [if_pos rfl]
        exact .inl (run (h1 rfl))
      | false =>
        rw [if_neg (by simp)]
        obtain ⟨hd, h⟩ := h2 rfl
        exact later _ E _ (hr.put (.refl _ _) hr.objs (by simp only [uav, RepV]; rfl) hd) (by cases o.dst <;> exact .refl _ _) h

section
variable {P : Program} {G : List (Nat × List AV)} {st : St} {Q : Exit → St → Prop}

theorem awp_region (M : List Nat) {id : Nat} {l : List Oper} (h : aopsK P G M l.toArray l st (Q .normal)) : awp P G (.region id l.toArray false) st Q := fun E a hr =>
  wp_region_lit (aopsK_sound l st E a hr h)
end

/-- A function's arguments in its first temporaries. -/
def argSlots : Nat → List AV → List (Nat × AV)
  | _, [] => []
  | i, a :: as => (i, a) :: argSlots (i + 1) as

theorem lk_argSlots (E : Env) : ∀ (args : List AV) (vs : List Value) (i j : Nat), RepL E args vs → RepV E (lk (argSlots i args) j) (if i ≤ j then (vs[j - i]?).getD undef else undef)
  | [], vs, i, j, h => by simp only [argSlots, lk, RepV]
  | a :: as, vs, i, j, h => by
    simp only [RepL] at h
    obtain ⟨v, vs', rfl, h1, h2⟩ := h
    simp only [argSlots, lk]
    split
    · rename_i e
      subst e
      simpa using h1
    · rename_i e
      have := lk_argSlots E as vs' (i + 1) j h2
      by_cases hle : i ≤ j
      · have h3 : i + 1 ≤ j := by omega
        rw [if_pos h3] at this
        rw [if_pos hle]
        obtain ⟨d, rfl⟩ : ∃ d, j = i + 1 + d := ⟨j - (i + 1), by omega⟩
        have e1 : i + 1 + d - (i + 1) = d := by omega
        have e2 : i + 1 + d - i = d + 1 := by omega
        rw [e1] at this
        rw [e2]
        simpa using this
      · rw [if_neg (by omega)] at this
        rw [if_neg hle]
        exact this

/-- A result as the caller sees it. -/
def afin (P : Program) (objs : List AObj) (t : TypeId) (a : AV) : Option (Prop × AV) :=
  match a with
  | .sl n cells p => some (norefs cells = true, .sl n cells (ntok p))
  | .osl r off n cap => match objs[r]?, P.underlying t with
    | some (.cells cs), some (.slice e) => match tsz P e with
      | some sz => some (off + n * sz ≤ cs.length ∧ norefs ((cs.drop off).take (n * sz)) = true, .sl n ((cs.drop off).take (n * sz)) .no)
      | none => none
    | _, _ => none
  | .ptr .. => none
  | a => some (noref a = true, a)

def ares1 (P : Program) (st : St) (t : TypeId) : ResultVar → Option (Prop × AV)
  | .tmp x => afin P st.objs t (lk st.slots x)
  | .cell x ty => match aload P ty (lk st.slots x) st.objs with
    | some (C, v) => match afin P st.objs t v with
      | some (C', v') => some (C ∧ C', v')
      | none => none
    | none => none

def aress (P : Program) (st : St) : List TypeId → List ResultVar → Option (Prop × List AV)
  | _, [] => some (True, [])
  | ts, r :: rs => match ares1 P st (ts.headD 0) r, aress P st ts.tail rs with
    | some (C, v), some (C', vs) => some (C ∧ C', v :: vs)
    | _, _ => none

/-- What a function hands back. -/
def ares (P : Program) (ts : List TypeId) (rvs : List ResultVar) (st : St) : Option (Prop × AV) :=
  match aress P st ts rvs with
  | some (C, [v]) => some (C, v)
  | some (C, vs) => some (C, .tup vs)
  | none => none

/-- The objects of a call that ends. -/
noncomputable def Env.shut (E : Env) (objs : List AObj) : Env := E.lend objs

theorem afin_sound {P : Program} {E : Env} {objs : List AObj} (ho : ObjsRep E objs) {t : TypeId} {a a' : AV} {C : Prop} {v : Value} (h : afin P objs t a = some (C, a')) (hC : C) (hv : RepV E a v) : RepV (E.lend objs) a' v := by
  unfold afin at h
  split at h
  · simp only [Option.some.injEq, Prod.mk.injEq] at h
    obtain ⟨rfl, rfl⟩ := h
    rename_i n cells p
    exact (aview_sound (P := P) (t := t) (a := .sl n cells p) ho rfl hC hv).1
  · rename_i r off n cap
    split at h
    case h_2 => cases h
    rename_i cs e hr ht
    split at h
    case h_2 => cases h
    rename_i sz hsz
    simp only [Option.some.injEq, Prod.mk.injEq] at h
    obtain ⟨rfl, rfl⟩ := h
    exact (aview_sound (P := P) (t := t) (a := .osl r off n cap) (a' := .sl n ((cs.drop off).take (n * sz)) .no) (b := true) ho (by simp only [aview, hr, ht, hsz]) hC hv).1
  · cases h
  · simp only [Option.some.injEq, Prod.mk.injEq] at h
    obtain ⟨rfl, rfl⟩ := h
    exact noref_move (E := E) (E' := E.lend objs) rfl (fun g _ => lend_le ho g) _ _ hC hv

def rvSem (tmps : Array Value) : ResultVar → Sem Value
  | .tmp t => pure (tmps.getD t undef)
  | .cell a t => do loadVar t (← asAddr (tmps.getD a undef))

theorem results_eq (fn : Func) (tmps : Array Value) : results fn tmps = (do
    let vs ← fn.results.mapM (rvSem tmps)
    pure (if h : vs.size = 1 then vs[0] else .tuple vs)) := rfl

theorem ares1_sound {P : Program} {G : List (Nat × List AV)} {E : Env} {st : St} {a : Act} (hr : Rep G E st a) {t : TypeId} {rv : ResultVar} {C : Prop} {v : AV} (h : ares1 P st t rv = some (C, v)) (hC : C) :
    ∃ u, RepV (E.lend st.objs) v u ∧ (rvSem a.tmps rv).run P E.w = .ok u E.w := by
  cases rv with
  | tmp x => exact ⟨_, afin_sound hr.objs h hC (hr.slots x), rfl⟩
  | cell x ty =>
    simp only [ares1] at h
    split at h
    case h_2 => cases h
    rename_i C1 v1 hl
    split at h
    case h_2 => cases h
    rename_i C2 v2 hf
    simp only [Option.some.injEq, Prod.mk.injEq] at h
    obtain ⟨rfl, rfl⟩ := h
    obtain ⟨u, hu, hrun⟩ := aload_sound (P := P) hl hC.1 hr.objs (hr.slots x)
    refine ⟨u, afin_sound hr.objs hf hC.2 hu, ?_⟩
    have hp : ∃ ad, a.tmps.getD x undef = .pointer (some ad) := by
      have := hr.slots x
      unfold aload at hl
      split at hl
      · rename_i e; rw [e] at this; simp only [RepV] at this; obtain ⟨_, _, _, h⟩ := this; exact ⟨_, h⟩
      · rename_i e; rw [e] at this; simp only [RepV] at this; obtain ⟨_, _, h, _⟩ := this; exact ⟨_, h⟩
      · cases hl
    obtain ⟨ad, had⟩ := hp
    rw [had] at hrun
    simp only [rvSem]
    rw [had]
    simpa [Instr.loadAt, Instr.sureAddr, asAddr] using hrun

theorem aress_sound {P : Program} {G : List (Nat × List AV)} {E : Env} {st : St} {a : Act} (hr : Rep G E st a) : ∀ {rvs : List ResultVar} {ts : List TypeId} {C : Prop} {vs : List AV}, aress P st ts rvs = some (C, vs) → C →
    ∃ us, RepL (E.lend st.objs) vs us ∧ (rvs.mapM (m := Sem) (rvSem a.tmps)).run P E.w = .ok us E.w
  | [], ts, C, vs, h, hC => by
    simp only [aress, Option.some.injEq, Prod.mk.injEq] at h
    obtain ⟨rfl, rfl⟩ := h
    exact ⟨[], by simp only [RepL], rfl⟩
  | rv :: rvs, ts, C, vs, h, hC => by
    unfold aress at h
    split at h
    case h_2 => cases h
    rename_i C1 v1 C2 vs2 h1 h2
    simp only [Option.some.injEq, Prod.mk.injEq] at h
    obtain ⟨rfl, rfl⟩ := h
    obtain ⟨u, hu, hrun⟩ := ares1_sound hr h1 hC.1
    obtain ⟨us, hus, hruns⟩ := aress_sound hr h2 hC.2
    refine ⟨u :: us, by simp only [RepL]; exact ⟨u, us, rfl, hu, hus⟩, ?_⟩
    simp only [List.mapM_cons, Sem.run_bind]
    rw [hrun]
    simp only [Result.andThen_ok]
    rw [hruns]
    rfl

theorem ares_sound {P : Program} {G : List (Nat × List AV)} {E : Env} {st : St} {a : Act} (hr : Rep G E st a) {fn : Func} {C : Prop} {v : AV} (h : ares P fn.resultTypes.toList fn.results.toList st = some (C, v)) (hC : C) :
    ∃ u, RepV (E.lend st.objs) v u ∧ (results fn a.tmps).run P E.w = .ok u E.w := by
  unfold ares at h
  have key : ∀ {C : Prop} {vs : List AV}, aress P st fn.resultTypes.toList fn.results.toList = some (C, vs) → C → ∃ us, RepL (E.lend st.objs) vs us ∧
      (fn.results.mapM (m := Sem) (rvSem a.tmps)).run P E.w = .ok us.toArray E.w := by
    intro C vs h hC
    obtain ⟨us, h1, h2⟩ := aress_sound hr h hC
    refine ⟨us, h1, ?_⟩
    rw [Array.mapM_eq_mapM_toList]
    simp only [Sem.run_map]
    rw [h2]
    rfl
  split at h
  · rename_i C1 v1 h1
    simp only [Option.some.injEq, Prod.mk.injEq] at h
    obtain ⟨rfl, rfl⟩ := h
    obtain ⟨us, hus, hrun⟩ := key h1 hC
    simp only [RepL] at hus
    obtain ⟨u, us', rfl, hu, rfl⟩ := hus
    refine ⟨u, hu, ?_⟩
    rw [results_eq]
    simp only [Sem.run_bind]
    rw [hrun]
    simp
  · rename_i C1 vs1 hne h1
    simp only [Option.some.injEq, Prod.mk.injEq] at h
    obtain ⟨rfl, rfl⟩ := h
    obtain ⟨us, hus, hrun⟩ := key h1 hC
    refine ⟨.tuple us.toArray, by simp only [RepV]; exact ⟨us, rfl, hus⟩, ?_⟩
    rw [results_eq]
    simp only [Sem.run_bind]
    rw [hrun]
    have : us.length ≠ 1 := by
      rw [hus.length]
      intro e
      match vs1, e with
      | [x], _ => exact hne x rfl
    simp [this]
  · cases h

/-- The end of a function. -/
def Fin (P : Program) (ts : List TypeId) (rvs : List ResultVar) (Q : AV → List AObj → Prop) : Exit → St → Prop
  | .normal, st => ∃ C r, ares P ts rvs st = some (C, r) ∧ C ∧ Q r []
  | .ret, st => ∃ C r, ares P ts rvs st = some (C, r) ∧ C ∧ Q r []
  | _, _ => False

/-- What a function that is handed no object comes to. -/
theorem acalls_of_awp {P : Program} {G : List (Nat × List AV)} {f : FuncId} {fn : Func} {c : Code} {args : List AV} {Q : AV → List AObj → Prop} (hf : P.funcs[f]? = some fn) (hb : fn.body = some c) (hn : (fn.name == "runtime.NumGoroutine") = false)
    {nt : Nat} {rts : Array TypeId} {rvs : Array ResultVar} (hnt : fn.ntmps = nt) (hrt : fn.resultTypes = rts) (hrv : fn.results = rvs) (hle : args.length ≤ nt)
    (h : awp P G c ⟨nt, argSlots 0 args, []⟩ (Fin P rts.toList rvs.toList Q)) : ACalls P G f args [] Q := by
  subst hnt hrt hrv
  refine ⟨⟨fn, hf, by simp [hb], hn⟩, fun E vs hl ho hG => ?_⟩
  refine calls_of_wp hf hb ?_
  have hlen := hl.length
  have hrep : Rep G E ⟨fn.ntmps, argSlots 0 args, []⟩ { tmps := vs.toArray ++ Array.replicate (fn.ntmps - vs.toArray.size) undef, defers := [] } := by
    refine ⟨by simp; omega, fun i => ?_, rfl, ho, hG⟩
    have := lk_argSlots E args vs 0 i hl
    simp only [Nat.zero_le, if_true, Nat.sub_zero] at this
    have e : (vs.toArray ++ Array.replicate (fn.ntmps - vs.toArray.size) undef).getD i undef = (vs[i]?).getD undef := by
      rw [Array.getD_eq_getD_getElem?, Array.getElem?_append]
      split
      · simp
      · rename_i hge
        have : vs.length ≤ i := by simpa using hge
        rw [List.getElem?_eq_none this]
        simp only [Array.getElem?_replicate]
        split <;> rfl
    rw [e]
    exact this
  refine wp_mono (h E _ hrep) ?_
  rintro e a' w' ⟨st', E', rfl, hfinq, hr', hx'⟩
  have he : e = .normal ∨ e = .ret := by cases e <;> first | exact .inl rfl | exact .inr rfl | exact hfinq.elim
  obtain ⟨C, r, hres, hC, hq⟩ : ∃ C r, ares P fn.resultTypes.toList fn.results.toList st' = some (C, r) ∧ C ∧ Q r [] := by rcases he with rfl | rfl <;> exact hfinq
  obtain ⟨u, hu, hrun⟩ := ares_sound (P := P) hr' hres hC
  have hfin : ∃ E2 v r' outs', E2.w = E'.w ∧ Ending.returned u = .returned v ∧ Q r' outs' ∧ RepV E2 r' v ∧ ObjsRep E2 outs' ∧ Ext E [] E2 outs' := by
    refine ⟨E'.lend st'.objs, u, r, [], rfl, rfl, hq, hu, ⟨rfl, fun r o h => by simp at h, fun r r' o o' g h => by simp at h⟩, ?_⟩
    have hnow : ∀ g, ¬ Ow E ([] : List AObj) g := by rintro g ⟨r, o, h, _⟩; simp at h
    refine { size := hx'.size, lim := fun g hg => Nat.le_trans (hx'.lim g hg) (lend_le hr'.objs g), cell := hx'.cell, k := by have := ho.1; simp [this], ρ := fun r hr => by have := ho.1; simp [this] at hr,
             os := hx'.os, tape := hx'.tape, output := hx'.output, frame := fun g hg hn => ?_, own := fun g hw _ => ?_ }
    · have h1 := hx'.frame g hg (hnow g)
      refine ⟨h1.1, ?_⟩
      rw [lend_not (fun ⟨r, cs, h2, h3⟩ => hnow g (hx'.own g ⟨r, _, h2, h3⟩ hg))]
      exact h1.2
    · obtain ⟨r, o, h, _⟩ := hw
      simp at h
  rcases he with rfl | rfl
  · exact ⟨hr'.defers, u, hrun, hfin⟩
  · exact ⟨hr'.defers, u, hrun, hfin⟩

end Go.V
