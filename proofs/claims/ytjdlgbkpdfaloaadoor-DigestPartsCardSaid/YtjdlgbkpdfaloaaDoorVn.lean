/-
  VALUE LOGIC, part n: regions whose operations may come in another order.
-/
import Derived.Test.YtjdlgbkpdfaloaaDoorVm
import Derived.Orders
namespace Go.V
set_option linter.unusedVariables false
set_option linter.unusedSimpArgs false

/-- One operation, carried out. -/
def Run (P : Program) (G : List (Nat × List AV)) (M : List Nat) (o : Oper) (st : St) (R : AV → List AObj → Prop) : Prop :=
  match o.op with
  | .call { callee := .value f, args, argTypes } => dOk st o.dst ∧ acallM P G M o.dst (afun (ev G st.slots f)) (args.toList.map (ev G st.slots)) argTypes.toList st.objs R
  | _ => match aval P ((o.dst.map (M.contains ·)).getD false) (ev G st.slots) st.objs o.op with
    | .ok C v objs' => C ∧ dOk st o.dst ∧ R v objs'
    | .bad => False

/-- One operation. -/
def Mid (P : Program) (G : List (Nat × List AV)) (M : List Nat) (ops : Array Oper) (o : Oper) (st : St) (R : AV → List AObj → Prop) : Prop :=
  match o.guard with
  | none => Run P G M o st R
  | some (j, want) => match gslot ops j with
    | some t => match gdec (lk st.slots t) want with
      | some c => t < st.nt ∧ (c = true → Run P G M o st R) ∧ (c = false → dOk st o.dst ∧ R uav st.objs)
      | none => False
    | none => False

section
variable {P : Program} {G : List (Nat × List AV)} {M : List Nat} {ops : Array Oper}

theorem aopsK_cons {o : Oper} {rest : List Oper} {st : St} {K : St → Prop} : aopsK P G M ops (o :: rest) st K = Mid P G M ops o st (fun v objs' => aopsK P G M ops rest (st.put o.dst v objs') K) := by
  conv => lhs; unfold aopsK
  unfold Mid Run
  rfl

theorem acall_mono {f : Option FuncId} {vw : Option (Prop × Bool × List AV)} {K K' : AV → Prop} (hk : ∀ r, K r → K' r) (h : acall P G f vw K) : acall P G f vw K' := by
  unfold acall at *
  split at h
  · obtain ⟨h1, Q, h2, h3, h4⟩ := h
    exact ⟨h1, Q, h2, h3, fun r os hq => ⟨(h4 r os hq).1, (h4 r os hq).2.1, hk _ (h4 r os hq).2.2⟩⟩
  · exact h

theorem acall_some {f : Option FuncId} {vw : Option (Prop × Bool × List AV)} {K : AV → Prop} (h : acall P G f vw K) : ∃ r, K r := by
  unfold acall at h
  split at h
  · obtain ⟨h1, Q, h2, ⟨r, h3⟩, h4⟩ := h
    exact ⟨r, (h4 r [] h3).2.2⟩
  · exact h.elim

theorem acallM_mono {d : Option Tmp} {f : Option FuncId} {as : List AV} {ts : List TypeId} {objs : List AObj} {K K' : AV → List AObj → Prop} (hk : ∀ r os, K r os → K' r os) (h : acallM P G M d f as ts objs K) : acallM P G M d f as ts objs K' := by
  unfold acallM at *
  split
  · rename_i hm
    rw [if_pos hm] at h
    exact acallH_mono hk h
  · rename_i hm
    rw [if_neg hm] at h
    exact acall_mono (fun r => hk r _) h
theorem acallM_some {d : Option Tmp} {f : Option FuncId} {as : List AV} {ts : List TypeId} {objs : List AObj} {K : AV → List AObj → Prop} (h : acallM P G M d f as ts objs K) : ∃ r os, K r os := by
  unfold acallM at h
  split at h
  · exact acallH_some h
  · obtain ⟨r, h⟩ := acall_some h
    exact ⟨r, _, h⟩

def isCall (o : Oper) : Bool := match o.op with | .call { callee := .value _, .. } => true | _ => false

theorem isCall_true {o : Oper} (h : isCall o = true) : ∃ f args ts, o.op = .call { callee := .value f, args := args, argTypes := ts } := by
  unfold isCall at h
  split at h
  · rename_i e; exact ⟨_, _, _, e⟩
  · cases h

theorem Run_call {o : Oper} {st : St} {R : AV → List AObj → Prop} {f : Operand} {args : Array Operand} {ts : Array TypeId} (h : o.op = .call { callee := .value f, args := args, argTypes := ts }) :
    Run P G M o st R = (dOk st o.dst ∧ acallM P G M o.dst (afun (ev G st.slots f)) (args.toList.map (ev G st.slots)) ts.toList st.objs R) := by
  unfold Run
  rw [h]

/-- What no call comes to. -/
def Val (o : Oper) (st : St) (r : V.R) (R : AV → List AObj → Prop) : Prop := match r with | .ok C v objs' => C ∧ dOk st o.dst ∧ R v objs' | .bad => False

theorem Run_val {o : Oper} {st : St} {R : AV → List AObj → Prop} (hc : isCall o = false) : Run P G M o st R = Val o st (aval P ((o.dst.map (M.contains ·)).getD false) (ev G st.slots) st.objs o.op) R := by
  unfold Run
  split
  · rename_i e
    simp [isCall, e] at hc
  · rfl

theorem Mid_none {o : Oper} {st : St} {R : AV → List AObj → Prop} (h : o.guard = none) : Mid P G M ops o st R = Run P G M o st R := by
  unfold Mid
  rw [h]

theorem Mid_guard {o : Oper} {st : St} {R : AV → List AObj → Prop} {j : Nat} {want : Bool} (h : o.guard = some (j, want)) (hm : Mid P G M ops o st R) :
    ∃ t c, gslot ops j = some t ∧ gdec (lk st.slots t) want = some c ∧ ∀ R', Mid P G M ops o st R' = (t < st.nt ∧ (c = true → Run P G M o st R') ∧ (c = false → dOk st o.dst ∧ R' uav st.objs)) := by
  have key : ∀ R', Mid P G M ops o st R' = match gslot ops j with
    | some t => match gdec (lk st.slots t) want with
      | some c => t < st.nt ∧ (c = true → Run P G M o st R') ∧ (c = false → dOk st o.dst ∧ R' uav st.objs)
      | none => False
    | none => False := fun R' => by
      unfold Mid
      rw [h]
  rw [key] at hm
  cases ht : gslot ops j with
  | none => rw [ht] at hm; exact hm.elim
  | some t =>
    rw [ht] at hm
    simp only [ht] at key
    simp only at hm
    split at hm
    case h_2 => exact hm.elim
    rename_i b hb
    refine ⟨t, b, rfl, hb, fun R' => ?_⟩
    rw [key, hb]

theorem Run_mono {o : Oper} {st : St} {R R' : AV → List AObj → Prop} (hr : ∀ v os, R v os → R' v os) (h : Run P G M o st R) : Run P G M o st R' := by
  cases hc : isCall o with
  | true =>
    obtain ⟨f, args, ts, e⟩ := isCall_true hc
    rw [Run_call e] at h ⊢
    exact ⟨h.1, acallM_mono (fun r os => hr r os) h.2⟩
  | false =>
    rw [Run_val hc] at h ⊢
    unfold Val at *
    split at h
    · exact ⟨h.1, h.2.1, hr _ _ h.2.2⟩
    · exact h.elim

theorem Mid_mono {o : Oper} {st : St} {R R' : AV → List AObj → Prop} (hr : ∀ v os, R v os → R' v os) (h : Mid P G M ops o st R) : Mid P G M ops o st R' := by
  cases hg : o.guard with
  | none =>
    rw [Mid_none hg] at h ⊢
    exact Run_mono hr h
  | some g =>
    obtain ⟨t, b, _, _, hd⟩ := Mid_guard hg h
    rw [hd] at h ⊢
    exact ⟨h.1, fun e => Run_mono hr (h.2.1 e), fun e => ⟨(h.2.2 e).1, hr _ _ (h.2.2 e).2⟩⟩

theorem Run_some {o : Oper} {st : St} {R : AV → List AObj → Prop} (h : Run P G M o st R) : ∃ v os, R v os := by
  cases hc : isCall o with
  | true =>
    obtain ⟨f, args, ts, e⟩ := isCall_true hc
    rw [Run_call e] at h
    exact acallM_some h.2
  | false =>
    rw [Run_val hc] at h
    unfold Val at h
    split at h
    · exact ⟨_, _, h.2.2⟩
    · exact h.elim

theorem bool_other {b w : Bool} (h : ¬ b = w) : b = !w := by cases b <;> cases w <;> simp_all
theorem bool_same {b w : Bool} (h : b = w) : ¬ b = !w := by cases b <;> cases w <;> simp_all

theorem Mid_some {o : Oper} {st : St} {R : AV → List AObj → Prop} (h : Mid P G M ops o st R) : ∃ v os, R v os := by
  cases hg : o.guard with
  | none =>
    rw [Mid_none hg] at h
    exact Run_some h
  | some g =>
    obtain ⟨t, b, _, _, hd⟩ := Mid_guard hg h
    rw [hd] at h
    obtain ⟨h1, h2, h3⟩ := h
    by_cases e : b = true
    · exact Run_some (h2 e)
    · exact ⟨_, _, (h3 (by simpa using e)).2⟩

/-- What no call is comes to one value. -/
theorem Run_det {o : Oper} {st : St} {R : AV → List AObj → Prop} (hc : isCall o = false) (h : Run P G M o st R) : ∃ v os, ∀ R', Run P G M o st R' ↔ R' v os := by
  simp only [Run_val hc] at h ⊢
  unfold Val at *
  cases hv : aval P ((o.dst.map (M.contains ·)).getD false) (ev G st.slots) st.objs o.op with
  | bad => rw [hv] at h; exact h.elim
  | ok C v os =>
    rw [hv] at h
    exact ⟨v, os, fun R' => ⟨fun h => h.2.2, fun h' => ⟨h.1, h.2.1, h'⟩⟩⟩

theorem Mid_det {o : Oper} {st : St} {R : AV → List AObj → Prop} (hc : isCall o = false) (h : Mid P G M ops o st R) : ∃ v os, ∀ R', Mid P G M ops o st R' ↔ R' v os := by
  cases hg : o.guard with
  | none =>
    simp only [Mid_none hg] at h ⊢
    exact Run_det hc h
  | some g =>
    obtain ⟨t, b, _, _, hd⟩ := Mid_guard hg h
    rw [hd] at h
    simp only [hd]
    obtain ⟨h1, h2, h3⟩ := h
    by_cases e : b = true
    · obtain ⟨v, os, hv⟩ := Run_det hc (h2 e)
      exact ⟨v, os, fun R' => ⟨fun h => (hv R').1 (h.2.1 e), fun h => ⟨h1, fun _ => (hv R').2 h, fun e' => by rw [e] at e'; cases e'⟩⟩⟩
    · exact ⟨uav, st.objs, fun R' => ⟨fun h => (h.2.2 (by simpa using e)).2, fun h => ⟨h1, fun e'' => absurd e'' e, fun _ => ⟨(h3 (by simpa using e)).1, h⟩⟩⟩⟩

theorem aopsK_mono {K K' : St → Prop} (hk : ∀ s, K s → K' s) : ∀ (l : List Oper) (st : St), aopsK P G M ops l st K → aopsK P G M ops l st K'
  | [], st, h => hk _ h
  | o :: l, st, h => by
    rw [aopsK_cons] at h ⊢
    exact Mid_mono (fun v os h => aopsK_mono hk l _ h) h

/-- How an operation stands to the objects: 0 not at all, 1 reads, 2 writes. -/
def cls (M : List Nat) (o : Oper) : Nat := match o.op with
  | .move _ | .assign _ | .pick .. | .build .. | .nilCheck _ | .binOp .. | .unOp .. | .sliceToArrayPointer .. | .slice .. | .fieldAddr .. | .field .. | .indexAddr .. | .index .. | .extract .. => 0
  | .call { callee := .builtin .len, .. } | .call { callee := .builtin .min, .. } | .call { callee := .builtin .max, .. } => 0
  | .buildSlice .. => if (o.dst.map (M.contains ·)).getD false then 2 else 0
  | .convert .. => if (o.dst.map (M.contains ·)).getD false then 1 else 0
  | .load .. => if (o.dst.map (M.contains ·)).getD false then 0 else 1
  | .call { callee := .value _, .. } => if htok M o.dst then 2 else if (o.dst.map (M.contains ·)).getD false then 0 else 1
  | _ => 2

theorem ofO_iff {objs : List AObj} {o : Option (Prop × AV)} {C : Prop} {v : AV} {objs' : List AObj} : R.ofO objs o = .ok C v objs' → objs' = objs ∧ ∀ o2, R.ofO o2 o = .ok C v o2 := by
  intro h
  obtain ⟨rfl, rfl⟩ := ofO_ok h
  exact ⟨rfl, fun _ => rfl⟩
theorem ofV_iff {objs : List AObj} {o : Option AV} {C : Prop} {v : AV} {objs' : List AObj} : R.ofV objs o = .ok C v objs' → objs' = objs ∧ ∀ o2, R.ofV o2 o = .ok C v o2 := by
  intro h
  cases o with
  | none => cases h
  | some x =>
    unfold R.ofV at h
    injection h with h1 h2 h3
    subst h1 h2 h3
    exact ⟨rfl, fun _ => rfl⟩

theorem aval_cls0 {o : Oper} {mt : Bool} (hmt : mt = (o.dst.map (M.contains ·)).getD false) {f : Operand → AV} {objs objs' : List AObj} {C : Prop} {v : AV} (hc : cls M o = 0) (h : aval P mt f objs o.op = .ok C v objs') : objs' = objs ∧ ∀ o2, aval P mt f o2 o.op = .ok C v o2 := by
  obtain ⟨dst, op, ty, pos, af, g⟩ := o
  cases op <;> simp only [cls] at hc <;> (try (exact absurd hc (by decide))) <;> simp only [aval] at h ⊢
  case convert s d x =>
    have hm : mt = false := by
      rw [hmt]
      cases hq : (dst.map (M.contains ·)).getD false with
      | false => rfl
      | true => simp only [hq] at hc; simp at hc
    simp only [hm, Bool.false_eq_true, if_false] at h ⊢
    cases hd : P.underlying d with
    | none =>
      rw [hd] at h
      simp only at h ⊢
      exact ofO_iff h
    | some td =>
      rw [hd] at h
      cases td <;> simp only at h ⊢
      case slice e =>
        unfold abytes at h ⊢
        cases hx : f x with
        | val u =>
          rw [hx] at h
          cases u <;> simp only at h ⊢ <;> (try cases h)
          rw [hd] at h
          rw [hd]
          cases hs : P.underlying s with
          | none => rw [hs] at h; cases h
          | some ts =>
            rw [hs] at h
            cases ts <;> simp only at h ⊢ <;> (try cases h)
            exact ⟨rfl, fun _ => rfl⟩
        | _ => rw [hx] at h; cases h
      all_goals exact ofO_iff h
  case load t x =>
    have hm : mt = true := by
      rw [hmt]
      cases hq : (dst.map (M.contains ·)).getD false with
      | true => rfl
      | false => simp only [hq] at hc; simp at hc
    simp only [hm, if_true] at h ⊢
    exact ofO_iff h
  case buildSlice t n ps =>
    have hm : mt = false := by
      rw [hmt]
      cases hq : (dst.map (M.contains ·)).getD false with
      | false => rfl
      | true => simp only [hq] at hc; simp at hc
    simp only [hm, Bool.false_eq_true, if_false] at h ⊢
    unfold abuildSlice at h ⊢
    split at h
    case h_2 => cases h
    split at h
    case h_2 => cases h
    split at h
    case h_2 => cases h
    injection h with e1 e2 e3
    subst e1 e2 e3
    exact ⟨rfl, fun o2 => rfl⟩
  case call c =>
    obtain ⟨callee, args, ts⟩ := c
    cases callee with
    | value f => cases h
    | invoke r n => simp at hc
    | builtin b =>
      simp only at h ⊢
      cases b <;> simp at hc
      all_goals
        unfold abuiltin at h ⊢
        split at h <;> first | exact ofV_iff h | cases h | contradiction
  all_goals first
    | exact ofO_iff h
    | exact ofV_iff h
    | (injection h with e1 e2 e3; subst e1 e2 e3; exact ⟨rfl, fun _ => rfl⟩)

theorem aparts_congr {f f' : Operand → AV} (ps : Array (Nat × Operand)) (h : ∀ x ∈ ((ps.toList.map (·.2)).toArray : Array Operand), f x = f' x) : aparts f ps = aparts f' ps := by
  unfold aparts
  apply List.map_congr_left
  intro p hp
  rw [h p.2 (by simp only [List.mem_toArray, List.mem_map]; exact ⟨p, hp, rfl⟩)]

/-- What an operation comes to hangs on its operands. -/
theorem aval_congr {mt : Bool} {f f' : Operand → AV} {objs : List AObj} (op : Op) (h : ∀ x ∈ op.operands, f x = f' x) : aval P mt f objs op = aval P mt f' objs op := by
  cases op <;> simp only [Op.operands] at h <;> simp only [aval]
  case build t ps => rw [aparts_congr ps h]
  case buildSlice t n ps => rw [aparts_congr ps h]
  case slice t x lo hi mx => cases lo <;> cases hi <;> cases mx <;> simp_all
  case call c =>
    obtain ⟨callee, args, ts⟩ := c
    cases callee with
    | builtin b =>
      simp only [Call.operands] at h
      have : args.toList.map f = args.toList.map f' := List.map_congr_left fun x hx => h x (by simpa using hx)
      show abuiltin P mt objs b ts.toList (args.toList.map f) = abuiltin P mt objs b ts.toList (args.toList.map f')
      rw [this]
    | _ => rfl
  all_goals (first | rfl | (simp_all; done))

theorem mem_looks {o : Oper} {t : Tmp} (h : Operand.tmp t ∈ o.op.operands) : t ∈ o.looksAt ops := List.mem_append_left _ (List.mem_filterMap.2 ⟨.tmp t, by simpa using h, rfl⟩)

theorem ev_congr {s s' : List (Nat × AV)} {x : Operand} (h : ∀ t, x = .tmp t → lk s t = lk s' t) : ev G s x = ev G s' x := by
  cases x with
  | tmp t => exact h t rfl
  | _ => rfl

theorem Run_congr {o : Oper} {st st' : St} {R : AV → List AObj → Prop} (hn : st.nt = st'.nt) (ho : st.objs = st'.objs) (hl : ∀ t ∈ o.looksAt ops, lk st.slots t = lk st'.slots t) (h : Run P G M o st R) : Run P G M o st' R := by
  have he : ∀ x ∈ o.op.operands, ev G st.slots x = ev G st'.slots x := fun x hx => ev_congr fun t e => hl t (mem_looks (e ▸ hx))
  have hd : dOk st o.dst → dOk st' o.dst := fun h => by
    unfold dOk at *
    split at h <;> simp_all
  cases hc : isCall o with
  | true =>
    obtain ⟨f, args, ts, e⟩ := isCall_true hc
    rw [Run_call e] at h ⊢
    have e1 : ev G st'.slots f = ev G st.slots f := (he f (by simp [e, Op.operands, Call.operands])).symm
    have e2 : args.toList.map (ev G st'.slots) = args.toList.map (ev G st.slots) := List.map_congr_left fun x hx => (he x (by simp [e, Op.operands, Call.operands]; simp at hx; simp [hx])).symm
    rw [e1, e2, ← ho]
    exact ⟨hd h.1, h.2⟩
  | false =>
    rw [Run_val hc] at h ⊢
    rw [aval_congr o.op he, ho] at h
    unfold Val at *
    split at h
    · exact ⟨h.1, hd h.2.1, h.2.2⟩
    · exact h.elim

theorem Mid_congr {o : Oper} {st st' : St} {R : AV → List AObj → Prop} (hn : st.nt = st'.nt) (ho : st.objs = st'.objs) (hl : ∀ t ∈ o.looksAt ops, lk st.slots t = lk st'.slots t) (h : Mid P G M ops o st R) : Mid P G M ops o st' R := by
  have hd : dOk st o.dst → dOk st' o.dst := fun h => by
    unfold dOk at *
    split at h <;> simp_all
  cases hg : o.guard with
  | none =>
    rw [Mid_none hg] at h ⊢
    exact Run_congr hn ho hl h
  | some g =>
    obtain ⟨t, b, ht, hb, hd'⟩ := Mid_guard hg h
    rw [hd'] at h
    have hlt : gdec (lk st'.slots t) g.2 = some b := by
      rw [← hb]
      refine congrArg (gdec · g.2) (hl t (List.mem_append_right _ ?_)).symm
      rw [hg]
      unfold gslot at ht
      simp [ht]
    have : Mid P G M ops o st' R = (t < st'.nt ∧ (b = true → Run P G M o st' R) ∧ (b = false → dOk st' o.dst ∧ R uav st'.objs)) := by
      unfold Mid
      rw [hg]
      simp only [ht]
      rw [hlt]
    rw [this]
    exact ⟨hn ▸ h.1, fun e => Run_congr hn ho hl (h.2.1 e), fun e => ⟨hd (h.2.2 e).1, ho ▸ (h.2.2 e).2⟩⟩

theorem aval_cls1 {o : Oper} {mt : Bool} (hmt : mt = (o.dst.map (M.contains ·)).getD false) {f : Operand → AV} {objs objs' : List AObj} {C : Prop} {v : AV} (hc : cls M o ≤ 1) (h : aval P mt f objs o.op = .ok C v objs') : objs' = objs := by
  by_cases h0 : cls M o = 0
  · exact (aval_cls0 hmt h0 h).1
  · obtain ⟨dst, op, ty, pos, af, g⟩ := o
    cases op <;> simp only [cls] at hc h0 <;> (try (exact absurd trivial h0)) <;> (try (exact absurd rfl h0)) <;> (try (exact absurd hc (by decide))) <;> simp only [aval] at h
    case load t x => exact (ofO_ok h).2
    case buildSlice t n ps => exact absurd hc (by split at hc <;> simp_all)
    case convert s d x =>
      have hq : ∀ o : Option (Prop × AV), R.ofO objs o = .ok C v objs' → objs' = objs := fun o h => (ofO_ok h).2
      split at h
      · unfold abytes at h
        split at h
        case h_2 => cases h
        split at h
        case h_2 => cases h
        injection h with _ _ h
        exact h.symm
      · split at h
        · exact hq _ h
        · exact hq _ h
    case call c =>
      obtain ⟨callee, args, ts⟩ := c
      cases callee with
      | value f => simp at h
      | invoke r n => simp at h
      | builtin b => cases b <;> simp at hc h0

theorem cls_call {o : Oper} (h : isCall o = true) (hc : cls M o ≤ 1) : htok M o.dst = false ∧ (cls M o = 0 → (o.dst.map (M.contains ·)).getD false = true) := by
  obtain ⟨f, args, ts, e⟩ := isCall_true h
  simp only [cls, e] at hc ⊢
  cases hh : htok M o.dst with
  | true => rw [hh] at hc; simp at hc
  | false =>
    refine ⟨rfl, ?_⟩
    cases (o.dst.map (M.contains ·)).getD false <;> simp

theorem Run_keep {o : Oper} {st : St} {R : AV → List AObj → Prop} (hc : cls M o ≤ 1) (h : Run P G M o st R) : Run P G M o st (fun v os => os = st.objs ∧ R v os) := by
  cases hcl : isCall o with
  | true =>
    obtain ⟨f, args, ts, e⟩ := isCall_true hcl
    have hm := (cls_call hcl hc).1
    rw [Run_call e] at h ⊢
    unfold acallM at h ⊢
    rw [hm] at h ⊢
    simp only [Bool.false_eq_true, if_false] at h ⊢
    exact ⟨h.1, acall_mono (fun r hr => ⟨trivial, hr⟩) h.2⟩
  | false =>
    rw [Run_val hcl] at h ⊢
    unfold Val at *
    split at h
    · rename_i hv
      exact ⟨h.1, h.2.1, aval_cls1 rfl hc hv, h.2.2⟩
    · exact h.elim

theorem Mid_keep {o : Oper} {st : St} {R : AV → List AObj → Prop} (hc : cls M o ≤ 1) (h : Mid P G M ops o st R) : Mid P G M ops o st (fun v os => os = st.objs ∧ R v os) := by
  cases hg : o.guard with
  | none =>
    rw [Mid_none hg] at h ⊢
    exact Run_keep hc h
  | some g =>
    obtain ⟨t, b, _, _, hd⟩ := Mid_guard hg h
    rw [hd] at h ⊢
    exact ⟨h.1, fun e => Run_keep hc (h.2.1 e), fun e => ⟨(h.2.2 e).1, rfl, (h.2.2 e).2⟩⟩

theorem Run_move {o : Oper} {st : St} {R : AV → List AObj → Prop} (hc : cls M o = 0) (h : Run P G M o st R) (o2 : List AObj) : Run P G M o ⟨st.nt, st.slots, o2⟩ (fun v os => os = o2 ∧ R v st.objs) := by
  cases hcl : isCall o with
  | true =>
    obtain ⟨f, args, ts, e⟩ := isCall_true hcl
    have hm := (cls_call hcl (by omega)).2 hc
    have hm1 := (cls_call (M := M) hcl (by omega)).1
    rw [Run_call e] at h ⊢
    have ho : ∀ os, oview M o.dst os = [] := fun os => by unfold oview; rw [hm]; rfl
    unfold acallM at h ⊢
    rw [hm1] at h ⊢
    simp only [Bool.false_eq_true, if_false] at h ⊢
    rw [ho] at h ⊢
    exact ⟨h.1, acall_mono (fun r hr => ⟨trivial, hr⟩) h.2⟩
  | false =>
    rw [Run_val hcl] at h ⊢
    unfold Val at *
    split at h
    · rename_i hv
      obtain ⟨h1, h2⟩ := aval_cls0 rfl hc hv
      rw [h2 o2]
      exact ⟨h.1, h.2.1, rfl, h1 ▸ h.2.2⟩
    · exact h.elim

theorem Mid_move {o : Oper} {st : St} {R : AV → List AObj → Prop} (hc : cls M o = 0) (h : Mid P G M ops o st R) (o2 : List AObj) : Mid P G M ops o ⟨st.nt, st.slots, o2⟩ (fun v os => os = o2 ∧ R v st.objs) := by
  cases hg : o.guard with
  | none =>
    rw [Mid_none hg] at h ⊢
    exact Run_move hc h o2
  | some g =>
    obtain ⟨t, b, ht, hb, hd⟩ := Mid_guard hg h
    rw [hd] at h
    have : ∀ R', Mid P G M ops o ⟨st.nt, st.slots, o2⟩ R' = (t < st.nt ∧ (b = true → Run P G M o ⟨st.nt, st.slots, o2⟩ R') ∧ (b = false → dOk st o.dst ∧ R' uav o2)) := fun R' => by
      unfold Mid
      rw [hg]
      simp only [ht, hb]
      rfl
    rw [this]
    exact ⟨h.1, fun e => Run_move hc (h.2.1 e) o2, fun e => ⟨(h.2.2 e).1, rfl, (h.2.2 e).2⟩⟩

/-- States that say the same. -/
def Same (s s' : St) : Prop := s.nt = s'.nt ∧ s.objs = s'.objs ∧ ∀ i, lk s.slots i = lk s'.slots i

theorem put_nt (st : St) (d : Option Tmp) (v : AV) (os : List AObj) : (st.put d v os).nt = st.nt := by cases d <;> rfl
theorem put_objs (st : St) (d : Option Tmp) (v : AV) (os : List AObj) : (st.put d v os).objs = os := by cases d <;> rfl
theorem put_lk (st : St) (d : Option Tmp) (v : AV) (os : List AObj) (t : Tmp) (h : ∀ e, d = some e → e ≠ t) : lk (st.put d v os).slots t = lk st.slots t := by
  cases d with
  | none => rfl
  | some e => simp only [St.put, lk]; rw [if_neg (h e rfl)]

theorem put_swap (st : St) (d e : Option Tmp) (v u : AV) (o1 o2 o3 o4 : List AObj) (h : ∀ x, d = some x → e ≠ some x) (ho : o2 = o4) : Same ((st.put d v o1).put e u o2) ((st.put e u o3).put d v o4) := by
  subst ho
  refine ⟨by simp only [put_nt], by simp only [put_objs], fun i => ?_⟩
  cases d with
  | none => cases e <;> rfl
  | some x => cases e with
    | none => rfl
    | some y =>
      have : y ≠ x := fun e => h x rfl (by rw [e])
      simp only [St.put, lk]
      by_cases h1 : y = i
      · subst h1
        rw [if_pos rfl, if_neg (Ne.symm this), if_pos rfl]
      · rw [if_neg h1, if_neg h1]

def indep (M : List Nat) (ops : Array Oper) (x y : Oper) : Bool :=
  x.apart ops y && (cls M x == 0 || cls M y == 0 || (cls M x ≤ 1 && cls M y ≤ 1)) && (!isCall x || !isCall y)

theorem commute {oi oj : Oper} {st : St} {K : St → Prop} (hi : indep M ops oi oj = true) (hK : ∀ s s', Same s s' → K s → K s')
    (h : Mid P G M ops oi st (fun v os => Mid P G M ops oj (st.put oi.dst v os) (fun u os' => K ((st.put oi.dst v os).put oj.dst u os')))) :
    Mid P G M ops oj st (fun u os' => Mid P G M ops oi (st.put oj.dst u os') (fun v os => K ((st.put oj.dst u os').put oi.dst v os))) := by
  unfold indep at hi
  simp only [Bool.and_eq_true, Bool.or_eq_true, beq_iff_eq, Bool.not_eq_true', decide_eq_true_eq] at hi
  obtain ⟨⟨hap, hcl⟩, hcall⟩ := hi
  obtain ⟨a1, a2, a3⟩ := Oper.apart_spec hap
  have lj : ∀ v os, ∀ t ∈ oj.looksAt ops, lk (st.put oi.dst v os).slots t = lk st.slots t := fun v os t ht => put_lk _ _ _ _ _ fun e he h => a1 e he (h ▸ ht)
  have li : ∀ v os, ∀ t ∈ oi.looksAt ops, lk (st.put oj.dst v os).slots t = lk st.slots t := fun v os t ht => put_lk _ _ _ _ _ fun e he h => a3 e he (h ▸ ht)
  have toj : ∀ v R, Mid P G M ops oj (st.put oi.dst v st.objs) R → Mid P G M ops oj st R := fun v R h => Mid_congr (put_nt ..) (put_objs ..) (lj v _) h
  have toi : ∀ v R, Mid P G M ops oi st R → Mid P G M ops oi (st.put oj.dst v st.objs) R := fun v R h => Mid_congr (put_nt ..).symm (put_objs ..).symm (fun t ht => (li v _ t ht).symm) h
  cases hci : isCall oi with
  | false =>
    obtain ⟨v0, o0, hd⟩ := Mid_det hci h
    have h' := (hd _).1 h
    by_cases hj0 : cls M oj = 0
    · have h2 := Mid_move hj0 h' st.objs
      rw [put_objs, put_nt] at h2
      have h3 := Mid_congr (st := ⟨st.nt, (st.put oi.dst v0 o0).slots, st.objs⟩) (st' := st) rfl rfl (lj v0 o0) h2
      refine Mid_mono ?_ h3
      rintro u os' ⟨rfl, hk⟩
      refine toi u _ ((hd _).2 (hK _ _ (put_swap _ _ _ _ _ _ _ _ _ a2 rfl) hk))
    · have hi1 : cls M oi ≤ 1 := by omega
      have ho : o0 = st.objs := ((hd _).1 (Mid_keep hi1 h)).1
      subst ho
      have h2 := toj _ _ h'
      by_cases hi0 : cls M oi = 0
      · refine Mid_mono ?_ h2
        intro u os' hk
        have h3 := Mid_move hi0 ((hd (fun v os => v = v0 ∧ os = st.objs)).2 ⟨rfl, rfl⟩) os'
        have h4 := Mid_congr (st := ⟨st.nt, st.slots, os'⟩) (st' := st.put oj.dst u os') (put_nt ..).symm (put_objs ..).symm (fun t ht => (li u _ t ht).symm) h3
        refine Mid_mono ?_ h4
        rintro v os ⟨rfl, rfl, _⟩
        exact hK _ _ (put_swap _ _ _ _ _ _ _ _ _ a2 rfl) hk
      · have hj1 : cls M oj ≤ 1 := by omega
        refine Mid_mono ?_ (Mid_keep hj1 h2)
        rintro u os' ⟨rfl, hk⟩
        exact toi u _ ((hd _).2 (hK _ _ (put_swap _ _ _ _ _ _ _ _ _ a2 rfl) hk))
  | true =>
    have hcj : isCall oj = false := by rcases hcall with h | h <;> simp_all
    by_cases hbig : ¬ cls M oi ≤ 1
    · have hj0 : cls M oj = 0 := by omega
      have conv : ∀ v os R, Mid P G M ops oj (st.put oi.dst v os) R → Mid P G M ops oj st (fun u os' => os' = st.objs ∧ R u os) := fun v os R h => by
        have h2 := Mid_move hj0 h st.objs
        rw [put_objs, put_nt] at h2
        exact Mid_congr (st := ⟨st.nt, (st.put oi.dst v os).slots, st.objs⟩) (st' := st) rfl rfl (lj v os) h2
      obtain ⟨v1, os1, hj⟩ := Mid_some h
      obtain ⟨u0, o0, hd⟩ := Mid_det hcj (conv v1 os1 _ hj)
      refine (hd _).2 ?_
      have ho : o0 = st.objs := ((hd _).1 (conv v1 os1 _ hj)).1
      subst ho
      refine toi _ _ (Mid_mono ?_ h)
      intro v os hm
      have hq := (hd _).1 (conv v os _ hm)
      exact hK _ _ (put_swap _ _ _ _ _ _ _ _ _ a2 rfl) hq.2
    have hi1 : cls M oi ≤ 1 := Classical.not_not.1 hbig
    have hk := Mid_keep hi1 h
    obtain ⟨v1, os1, e1, hj⟩ := Mid_some hk
    subst e1
    obtain ⟨u0, o0, hd⟩ := Mid_det hcj (toj _ _ hj)
    refine (hd _).2 ?_
    by_cases hj1 : cls M oj ≤ 1
    · have ho : o0 = st.objs := ((hd _).1 (Mid_keep hj1 (toj _ _ hj))).1
      subst ho
      refine toi _ _ (Mid_mono ?_ hk)
      rintro v os ⟨rfl, hm⟩
      exact hK _ _ (put_swap _ _ _ _ _ _ _ _ _ a2 rfl) ((hd _).1 (toj _ _ hm))
    · have hi0 : cls M oi = 0 := by omega
      have h4 := Mid_congr (st := ⟨st.nt, st.slots, o0⟩) (st' := st.put oj.dst u0 o0) (put_nt ..).symm (put_objs ..).symm (fun t ht => (li u0 _ t ht).symm) (Mid_move hi0 hk o0)
      refine Mid_mono ?_ h4
      rintro v os ⟨rfl, _, hm⟩
      exact hK _ _ (put_swap _ _ _ _ _ _ _ _ _ a2 rfl) ((hd _).1 (toj _ _ hm))

theorem Same.symm {s s' : St} (h : Same s s') : Same s' s := ⟨h.1.symm, h.2.1.symm, fun i => (h.2.2 i).symm⟩
theorem Same.trans {s s' s'' : St} (h : Same s s') (h' : Same s' s'') : Same s s'' := ⟨h.1.trans h'.1, h.2.1.trans h'.2.1, fun i => (h.2.2 i).trans (h'.2.2 i)⟩

theorem Same.put {s s' : St} (h : Same s s') (d : Option Tmp) (v : AV) (os : List AObj) : Same (s.put d v os) (s'.put d v os) := by
  refine ⟨by simp only [put_nt]; exact h.1, by simp only [put_objs], fun i => ?_⟩
  cases d with
  | none => exact h.2.2 i
  | some d => simp only [St.put, lk]; split <;> first | rfl | exact h.2.2 i

def aOp (P : Program) (G : List (Nat × List AV)) (M : List Nat) (ops : Array Oper) (i : Nat) (K : St → Prop) (st : St) : Prop :=
  match ops[i]? with
  | none => K st
  | some o => Mid P G M ops o st fun v os => K (st.put o.dst v os)

def aAny (P : Program) (G : List (Nat × List AV)) (M : List Nat) (ops : Array Oper) (Q : St → Prop) : Nat → Array Bool → St → Prop
  | 0, listed, st => Region.ready .any ops listed = [] ∧ Q st
  | fuel + 1, listed, st => (Region.ready .any ops listed = [] → Q st) ∧ ∀ i ∈ Region.ready .any ops listed, aOp P G M ops i (aAny P G M ops Q fuel (listed.setIfInBounds i true)) st

theorem aOp_mono {i : Nat} {K K' : St → Prop} {st : St} (hk : ∀ s, K s → K' s) (h : aOp P G M ops i K st) : aOp P G M ops i K' st := by
  unfold aOp at *
  cases ho : ops[i]? with
  | none => rw [ho] at h; exact hk _ h
  | some o => rw [ho] at h; exact Mid_mono (fun _ _ => hk _) h

theorem aOp_same {i : Nat} {K : St → Prop} {s s' : St} (hk : ∀ s s', Same s s' → K s → K s') (hs : Same s s') (h : aOp P G M ops i K s) : aOp P G M ops i K s' := by
  unfold aOp at *
  cases ho : ops[i]? with
  | none => rw [ho] at h; exact hk _ _ hs h
  | some o =>
    rw [ho] at h
    exact Mid_congr hs.1 hs.2.1 (fun t _ => hs.2.2 t) (Mid_mono (fun v os => hk _ _ (hs.put _ _ _)) h)

theorem aAny_same {Q : St → Prop} (hQ : ∀ s s', Same s s' → Q s → Q s') : ∀ (fuel : Nat) (listed : Array Bool) (s s' : St), Same s s' → aAny P G M ops Q fuel listed s → aAny P G M ops Q fuel listed s'
  | 0, listed, s, s', hs, h => ⟨h.1, hQ _ _ hs h.2⟩
  | fuel + 1, listed, s, s', hs, h => ⟨fun e => hQ _ _ hs (h.1 e), fun i hi => aOp_same (aAny_same hQ fuel _) hs (h.2 i hi)⟩

theorem aAny_first {Q : St → Prop} (hQ : ∀ s s', Same s s' → Q s → Q s') {i : Nat} {oi : Oper} (hi : ops[i]? = some oi) (W : Nat → Bool) (hWi : W i = true) :
    ∀ (fuel : Nat) (listed : Array Bool) (st : St), (∀ k, W k = true → listed.getD k true = false ∧ (k = i ∨ ∃ o, ops[k]? = some o ∧ ∃ e ∈ o.after, Region.binds .any e = true ∧ W e.on = true)) →
      (∀ k o, ops[k]? = some o → W k = false → listed.getD k true = false → indep M ops oi o = true) → i ∈ Region.ready .any ops listed →
      aOp P G M ops i (aAny P G M ops Q fuel (listed.setIfInBounds i true)) st → aAny P G M ops Q (fuel + 1) listed st := by
  intro fuel
  induction fuel with
  | zero =>
    intro listed st hW hind hr h
    refine ⟨fun e => (by rw [e] at hr; cases hr), fun j hj => ?_⟩
    by_cases hji : j = i
    · subst hji; exact h
    · exfalso
      have hm := ready_mono hj hji
      unfold aOp at h
      rw [hi] at h
      obtain ⟨v, os, h0⟩ := Mid_some h
      rw [h0.1] at hm
      cases hm
  | succ fuel ih =>
    intro listed st hW hind hr h
    refine ⟨fun e => (by rw [e] at hr; cases hr), fun j hj => ?_⟩
    by_cases hji : j = i
    · subst hji; exact h
    · obtain ⟨hjun, oj, hoj, hall⟩ := mem_ready.1 hj
      have hWj : W j = false := by
        cases hw : W j with
        | false => rfl
        | true =>
          obtain ⟨h1, h2⟩ := hW j hw
          rcases h2 with h2 | ⟨o, ho, e, he, hb, hwe⟩
          · exact absurd h2 hji
          · rw [hoj] at ho
            injection ho with ho
            subst ho
            have h3 := hall e he hb
            have h4 := (hW _ hwe).1
            rcases Nat.lt_or_ge e.on listed.size with h' | h'
            · simp [h'] at h3 h4; rw [h3] at h4; cases h4
            · simp [Array.getElem?_eq_none h'] at h3
      have hin := hind j oj hoj hWj hjun
      have h1 : Mid P G M ops oi st fun v os => Mid P G M ops oj (st.put oi.dst v os) fun u os' => aAny P G M ops Q fuel ((listed.setIfInBounds i true).setIfInBounds j true) ((st.put oi.dst v os).put oj.dst u os') := by
        unfold aOp at h
        rw [hi] at h
        refine Mid_mono (fun v os hk => ?_) h
        have h2 := hk.2 j (ready_mono hj hji)
        unfold aOp at h2
        rw [hoj] at h2
        exact h2
      have h2 := commute hin (aAny_same hQ fuel _) h1
      unfold aOp
      rw [hoj]
      refine Mid_mono (fun u os hk => ?_) h2
      refine ih (listed.setIfInBounds j true) _ (fun k hk => ?_) (fun k o hk hw hun => hind k o hk hw ?_) (ready_mono hr (Ne.symm hji)) ?_
      · refine ⟨?_, (hW k hk).2⟩
        have hne : j ≠ k := fun e => by subst e; rw [hWj] at hk; cases hk
        rw [getD_set_ne true hne]
        exact (hW k hk).1
      · by_cases hjk : j = k
        · subst hjk; exact hjun
        · rw [getD_set_ne true hjk] at hun; exact hun
      · unfold aOp
        rw [hi]
        rw [Array.setIfInBounds_comm _ _ (Ne.symm hji)] at hk
        exact hk

/-- Who waits for number i. -/
def waits (ops : Array Oper) (i : Nat) : Array Bool :=
  (List.range ops.size).foldl (fun acc k => acc.push (k == i || ((ops[k]?).map (·.after.any fun e => Region.binds .any e && acc.getD e.on false)).getD false)) #[]

def freeV (M : List Nat) (ops : Array Oper) (listed : Array Bool) (i : Nat) (oi : Oper) (W : Array Bool) : Bool :=
  W.getD i false && decide (W.size ≤ ops.size) && (List.range ops.size).all fun k => match ops[k]? with
    | none => true
    | some o => if W.getD k false then !listed.getD k true && (k == i || o.after.any fun e => Region.binds .any e && W.getD e.on false) else listed.getD k true || indep M ops oi o

def lexV (M : List Nat) (ops : Array Oper) : Nat → Nat → Array Bool → Bool
  | 0, _, listed => (Region.ready .any ops listed).isEmpty
  | fuel + 1, k, listed => (Region.ready .any ops listed).contains k && (match ops[k]? with | some o => freeV M ops listed k o (waits ops k) | none => false) && lexV M ops fuel (k + 1) (listed.setIfInBounds k true)

theorem aAny_lex {Q : St → Prop} (hQ : ∀ s s', Same s s' → Q s → Q s') : ∀ (l : List Oper) (k : Nat) (listed : Array Bool) (st : St), (∀ j, l[j]? = ops[k + j]?) → lexV M ops l.length k listed = true → aopsK P G M ops l st Q → aAny P G M ops Q l.length listed st
  | [], k, listed, st, hl, hB, h => ⟨by simpa [lexV] using hB, h⟩
  | o :: l, k, listed, st, hl, hB, h => by
    have h0 : ops[k]? = some o := by simpa using (hl 0).symm
    simp only [List.length_cons, lexV, Bool.and_eq_true, h0] at hB
    obtain ⟨⟨hr, hf⟩, hB'⟩ := hB
    unfold freeV at hf
    simp only [Bool.and_eq_true, decide_eq_true_eq, List.all_eq_true, List.mem_range] at hf
    obtain ⟨⟨hWk, hsz⟩, hall⟩ := hf
    refine aAny_first hQ h0 (fun k' => (waits ops k).getD k' false) hWk l.length listed st (fun j hj => ?_) (fun j o' hj hw hun => ?_) (by simpa using hr) ?_
    · have hlt : j < ops.size := by
        rcases Nat.lt_or_ge j (waits ops k).size with h' | h'
        · omega
        · simp [Array.getElem?_eq_none h'] at hj
      have := hall j hlt
      rw [Array.getElem?_eq_getElem hlt] at this
      simp only [hj, if_true, Bool.and_eq_true, Bool.not_eq_true', Bool.or_eq_true, beq_iff_eq] at this
      refine ⟨this.1, this.2.imp id fun h => ?_⟩
      rw [← Array.any_toList, List.any_eq_true] at h
      obtain ⟨e, he, hb⟩ := h
      simp only [Bool.and_eq_true] at hb
      exact ⟨_, Array.getElem?_eq_getElem hlt, e, by simpa using he, hb⟩
    · have hlt : j < ops.size := (Array.getElem?_eq_some_iff.1 hj).1
      have := hall j hlt
      rw [hj] at this
      simp only [hw, hun, Bool.false_or, if_false, Bool.false_eq_true] at this
      exact this
    · rw [aopsK_cons] at h
      unfold aOp
      rw [h0]
      exact Mid_mono (fun v os hk => aAny_lex hQ l (k + 1) _ _ (fun j => by have := hl (j + 1); simpa [Nat.add_assoc, Nat.add_comm 1 j] using this) hB' hk) h

theorem Rep.same {E : Env} {s s' : St} {a : Act} (hs : Same s s') (h : Rep G E s a) : Rep G E s' a :=
  ⟨hs.1 ▸ h.size, fun i => hs.2.2 i ▸ h.slots i, h.defers, hs.2.1 ▸ h.objs, h.glob⟩

theorem Owp_mono {o : Oper} {a : Act} {w : World} {K K' : Act → World → Prop} {Q Q' : Exit → Act → World → Prop} (hk : ∀ a w, K a w → K' a w) (hq : ∀ e a w, e ≠ .normal → Q e a w → Q' e a w) (h : o.wp P a w K Q) : o.wp P a w K' Q' := by
  unfold Oper.wp at h ⊢
  cases hr : (execOp a.eval o).run P w with
  | ok n w' =>
    rw [hr] at h
    cases n <;> simp only [Oper.upon] at h ⊢ <;> first
      | exact hk _ _ h
      | (refine Calls.mono h ?_
         intro e w'' hh
         cases e with
         | returned v => exact hk _ _ hh
         | panicked chain => exact hq _ _ _ (by simp) hh
         | outgrown => obtain ⟨a1, w1, h1⟩ := hh; exact ⟨a1, w1, hq _ _ _ (by simp) h1⟩)
      | exact Rows.mono h fun _ _ hh => hk _ _ hh
  | halt x w' =>
    rw [hr] at h
    cases x <;> simp only [Oper.upon] at h ⊢ <;> exact hq _ _ _ (by simp) h

/-- One operation's answer, in the program. -/
theorem aOp_sound {Q : Exit → Act → World → Prop} {i : Nat} {K : St → Prop} {K' : Act → World → Prop} {st : St} {E : Env} {a : Act} (hr : Rep G E st a)
    (hk : ∀ s E' a', K s → Rep G E' s a' → Ext E st.objs E' s.objs → K' a' E'.w) (h : aOp P G M ops i K st) : wpOp P ops Q i K' a E.w := by
  unfold aOp at h
  unfold wpOp
  cases ho : ops[i]? with
  | none =>
    rw [ho] at h
    exact hk _ E a h hr (.refl _ _)
  | some o =>
    rw [ho] at h
    simp only at h ⊢
    have h1 : aopsK P G M ops [o] st ((fun (e : Exit) (s : St) => e = .normal ∧ K s) .normal) := by
      rw [aopsK_cons]
      exact Mid_mono (fun v os hk => ⟨rfl, hk⟩) h
    have h2 := aopsK_sound (Q := fun (e : Exit) (s : St) => e = .normal ∧ K s) [o] st E a hr h1
    unfold wpList at h2
    have none' : ∀ e a w, RQ P G E st.objs (fun (e : Exit) (s : St) => e = .normal ∧ K s) e a w → K' a w := by
      rintro e a w ⟨s, E', rfl, ⟨_, h1⟩, h2, h3⟩
      exact hk s E' a h1 h2 h3
    split
    · rename_i hw
      rw [if_pos hw] at h2
      rcases h2 with h2 | ⟨_, a0, w0, s, E', _, ⟨h3, _⟩, _⟩
      · refine .inl ?_
        exact Owp_mono (fun a w h => none' _ a w h) (fun e a w hne ⟨s, E', _, ⟨h, _⟩, _⟩ => absurd h hne) h2
      · cases h3
    · rename_i hw
      rw [if_neg hw] at h2
      exact none' _ _ _ h2

theorem aAny_sound {Q : Exit → Act → World → Prop} {Q' : St → Prop} : ∀ (fuel : Nat) (listed : Array Bool) (st : St) (E : Env) (a : Act), Rep G E st a →
    (∀ s E' a', Q' s → Rep G E' s a' → Ext E st.objs E' s.objs → Q .normal a' E'.w) → aAny P G M ops Q' fuel listed st → wpAny P .any ops Q fuel listed a E.w
  | 0, listed, st, E, a, hr, hq, h => ⟨h.1, hq st E a h.2 hr (.refl _ _)⟩
  | fuel + 1, listed, st, E, a, hr, hq, h => ⟨fun e => hq st E a (h.1 e) hr (.refl _ _), fun i hi =>
      aOp_sound hr (fun s E' a' hk hr' hx => aAny_sound fuel _ s E' a' hr' (fun s' E'' a'' h1 h2 h3 => hq s' E'' a'' h1 h2 (hx.trans h3)) hk) (h.2 i hi)⟩

/-- The world behind a draw. -/
def Env.drew (E : Env) : Env := { E with w := { E.w with drawn := E.w.drawn + 1 } }

theorem drew_ext0 (E : Env) : Ext0 E E.drew := ⟨Nat.le_refl _, fun _ _ => Nat.le_refl _, fun _ _ _ _ => rfl, Nat.le_refl _, fun _ _ => .refl _⟩

theorem drew_objs {E : Env} {objs : List AObj} (h : ObjsRep E objs) : ObjsRep E.drew objs := by
  refine ⟨h.1, fun r o hr => ?_, h.2.2⟩
  have := h.2.1 r o hr
  cases o with
  | cells cs =>
    rcases this with e | ⟨g, vs, t, fz, h1, h2, h3, h4, h5, h6⟩
    · exact .inl e
    · exact .inr ⟨g, vs, t, fz, h1, h2, h3, h4, h5, RepL.mono (drew_ext0 E) _ _ h6⟩
  | tok sz n => exact this
  | dead => exact this

theorem drew_ext {E : Env} {objs : List AObj} : Ext E objs E.drew objs :=
  { drew_ext0 E with os := rfl, tape := rfl, output := rfl, frame := fun _ _ _ => ⟨rfl, rfl⟩, own := fun _ h _ => h }

theorem Rep.drew {E : Env} {st : St} {a : Act} (h : Rep G E st a) : Rep G E.drew st a :=
  ⟨h.size, fun i => RepV.mono (drew_ext0 E) _ _ (h.slots i), h.defers, drew_objs h.objs, h.glob.mono (drew_ext0 E)⟩

/-- A region that draws its order. -/
theorem awp_draw (M : List Nat) {st : St} {Q : Exit → St → Prop} {id : Nat} {l : List Oper} (hm : P.follows .mixedOrders = true) (hB : lexV M l.toArray l.length 0 (Array.replicate l.length false) = true)
    (h : aopsK P G M l.toArray l st (Q .normal)) : awp P G (.region id l.toArray true) st Q := fun E a hr => by
  refine wp_region_any hm ?_
  have h1 : aAny P G M l.toArray (fun s => ∃ s', Same s' s ∧ Q .normal s') l.length (Array.replicate l.length false) st := by
    refine aAny_lex (fun s s' hs ⟨s0, h1, h2⟩ => ⟨s0, h1.trans hs, h2⟩) l 0 _ st (by simp) hB ?_
    exact aopsK_mono (fun s h => ⟨s, ⟨rfl, rfl, fun _ => rfl⟩, h⟩) l st h
  have h2 := aAny_sound (P := P) (Q := fun e a' w' => ∃ st' E', E'.w = w' ∧ Q e st' ∧ Rep G E' st' a' ∧ Ext E st.objs E' st'.objs) l.length _ st E.drew a hr.drew (fun s E' a' ⟨s', hs, hq⟩ hr' hx => by
    exact ⟨s', E', rfl, hq, hr'.same ⟨hs.1.symm, hs.2.1.symm, fun i => (hs.2.2 i).symm⟩, drew_ext.trans (hs.2.1 ▸ hx)⟩) h1
  simp only [List.size_toArray]
  exact h2
end

/-- What a guard asks. -/
def gval (ops : Array Oper) (s : List (Nat × AV)) (j : Nat) (w : Bool) : Option Bool := match gslot ops j with
  | some t => gdec (lk s t) w
  | none => none
def gok (ops : Array Oper) (nt j : Nat) : Prop := match gslot ops j with
  | some t => t < nt
  | none => False

theorem gdec_eqs : (∀ w, gdec (.val (.bool true)) w = some w) ∧ (∀ w, gdec (.val (.bool false)) w = some (!w)) ∧ (∀ w x, gdec (.val (.tuple x)) w = some false) ∧ uav = .val (.tuple #[]) := by
  refine ⟨?_, ?_, ?_, ?_⟩ <;> intros <;> rfl

/-- Guards that are plain. -/
theorem K_g {P : Program} {G : List (Nat × List AV)} {M : List Nat} {ops : Array Oper} {rest : List Oper} {nt : Nat} {s : List (Nat × AV)} {os : List AObj} {K : St → Prop} {dst : Option Tmp} {op : Op} {ty : TypeId} {pos : String} {af : Array Edge} {j : Nat} {w c : Bool}
    (h : gval ops s j w = some c) :
    aopsK P G M ops (⟨dst, op, ty, pos, af, some (j, w)⟩ :: rest) ⟨nt, s, os⟩ K = (gok ops nt j ∧ (c = true → aopsK P G M ops (⟨dst, op, ty, pos, af, none⟩ :: rest) ⟨nt, s, os⟩ K) ∧ (c = false → dOk ⟨nt, s, os⟩ dst ∧ aopsK P G M ops rest ((⟨nt, s, os⟩ : St).put dst uav os) K)) := by
  rw [aopsK_cons, aopsK_cons]
  unfold gval at h
  unfold gok Mid
  cases ht : gslot ops j with
  | none => rw [ht] at h; cases h
  | some t =>
    rw [ht] at h
    simp only [ht, h]
    rfl
theorem K_gT {P : Program} {G : List (Nat × List AV)} {M : List Nat} {ops : Array Oper} {rest : List Oper} {nt : Nat} {s : List (Nat × AV)} {os : List AObj} {K : St → Prop} {dst : Option Tmp} {op : Op} {ty : TypeId} {pos : String} {af : Array Edge} {j : Nat} {w : Bool}
    (h : gval ops s j w = some true) :
    aopsK P G M ops (⟨dst, op, ty, pos, af, some (j, w)⟩ :: rest) ⟨nt, s, os⟩ K = (gok ops nt j ∧ aopsK P G M ops (⟨dst, op, ty, pos, af, none⟩ :: rest) ⟨nt, s, os⟩ K) := by
  rw [K_g h]; simp
theorem K_gF {P : Program} {G : List (Nat × List AV)} {M : List Nat} {ops : Array Oper} {rest : List Oper} {nt : Nat} {s : List (Nat × AV)} {os : List AObj} {K : St → Prop} {dst : Option Tmp} {op : Op} {ty : TypeId} {pos : String} {af : Array Edge} {j : Nat} {w : Bool}
    (h : gval ops s j w = some false) :
    aopsK P G M ops (⟨dst, op, ty, pos, af, some (j, w)⟩ :: rest) ⟨nt, s, os⟩ K = (gok ops nt j ∧ dOk ⟨nt, s, os⟩ dst ∧ aopsK P G M ops rest ((⟨nt, s, os⟩ : St).put dst uav os) K) := by
  rw [K_g h]; simp

theorem Bs_getD {l : List UInt8} {i : Nat} (h : i < l.length) : (Bs l).getD i .top = B (l.getD i 0) := by
  simp [Bs, List.getD_eq_getElem?_getD, List.getElem?_map, List.getElem?_eq_getElem h]
theorem drop_getD {α : Type} (l : List α) (k i : Nat) (d : α) : (l.drop k).getD i d = l.getD (k + i) d := by simp [List.getD_eq_getElem?_getD, List.getElem?_drop]

theorem awp_condT {P : Program} {G : List (Nat × List AV)} {st : St} {Q : Exit → St → Prop} {t : Nat} {x y : Code} (h : lk st.slots t = .val (.bool true)) (hx : awp P G x st Q) : awp P G (.cond (.tmp t) x y) st Q :=
  awp_cond rfl h (fun _ => hx) (fun e => by cases e)
theorem awp_condF {P : Program} {G : List (Nat × List AV)} {st : St} {Q : Exit → St → Prop} {t : Nat} {x y : Code} (h : lk st.slots t = .val (.bool false)) (hy : awp P G y st Q) : awp P G (.cond (.tmp t) x y) st Q :=
  awp_cond rfl h (fun e => by cases e) (fun _ => hy)

theorem K_store (P : Program) (G : List (Nat × List AV)) (M : List Nat) (ops : Array Oper) (rest : List Oper) (nt : Nat) (s : List (Nat × AV)) (os : List AObj) (K : St → Prop) (ty : TypeId) (pos : String) (af : Array Edge) (t : TypeId) (x y : Operand) :
    aopsK P G M ops (⟨none, .store t x y, ty, pos, af, none⟩ :: rest) ⟨nt, s, os⟩ K = andR (astore P t (ev G s x) (ev G s y) os) fun _ os' => aopsK P G M ops rest ⟨nt, s, os'⟩ K :=
  (K_eqs P G M ops rest nt s os K 0 ty pos af).2.2.2.2.2.2.2.2.1 t x y
theorem K_nil0 (P : Program) (G : List (Nat × List AV)) (M : List Nat) (ops : Array Oper) (rest : List Oper) (nt : Nat) (s : List (Nat × AV)) (os : List AObj) (K : St → Prop) (ty : TypeId) (pos : String) (af : Array Edge) (x : Operand) :
    aopsK P G M ops (⟨none, .nilCheck x, ty, pos, af, none⟩ :: rest) ⟨nt, s, os⟩ K = andV (anil (ev G s x)) fun _ => aopsK P G M ops rest ⟨nt, s, os⟩ K :=
  (K_eqs P G M ops rest nt s os K 0 ty pos af).2.2.2.2.2.2.2.2.2.2.1 x
theorem K_blt0 (P : Program) (G : List (Nat × List AV)) (M : List Nat) (ops : Array Oper) (rest : List Oper) (nt : Nat) (s : List (Nat × AV)) (os : List AObj) (K : St → Prop) (ty : TypeId) (pos : String) (af : Array Edge) (b : Builtin) (args : Array Operand) (ts : Array TypeId) :
    aopsK P G M ops (⟨none, .call ⟨.builtin b, args, ts⟩, ty, pos, af, none⟩ :: rest) ⟨nt, s, os⟩ K = andR (abuiltin P false os b ts.toList (args.toList.map (ev G s))) fun v os' => aopsK P G M ops rest ⟨nt, s, os'⟩ K :=
  (K_eqs P G M ops rest nt s os K 0 ty pos af).2.2.2.2.2.2.2.2.2.2.2.2.2.2.2.2.2.2.2.2.2.2 b args ts
end Go.V
