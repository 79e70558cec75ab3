/-
  VALUE LOGIC, part m: the equations by which a row of operations is gone through.
-/
import Derived.Test.YtjdlgbkpdfaloaaDoorVl
namespace Go.V
set_option linter.unusedVariables false
set_option linter.unusedSimpArgs false

/-- On with what an operation answers. -/
def andO (o : Option (Prop × AV)) (k : AV → Prop) : Prop := match o with | some (C, v) => C ∧ k v | none => False
def andV (o : Option AV) (k : AV → Prop) : Prop := match o with | some v => k v | none => False
def andR (o : R) (k : AV → List AObj → Prop) : Prop := match o with | .ok C v objs => C ∧ k v objs | .bad => False
/-- A call. -/
def andC (P : Program) (G : List (Nat × List AV)) (f : Option FuncId) (vw : Option (Prop × Bool × List AV)) (k : AV → Prop) : Prop := acall P G f vw k

/-- A call that is handed an object, or hands back new ones. -/
def andH (P : Program) (G : List (Nat × List AV)) (f : Option FuncId) (as : List AV) (objs : List AObj) (k : AV → List AObj → Prop) : Prop := acallH P G f as objs k

@[congr] theorem andH_congr {P : Program} {G : List (Nat × List AV)} {f f' : Option FuncId} {as as' : List AV} {objs objs' : List AObj} {k : AV → List AObj → Prop} (h : f = f') (h' : as = as') (h'' : objs = objs') : andH P G f as objs k = andH P G f' as' objs' k := by rw [h, h', h'']
@[congr] theorem andO_congr {o o' : Option (Prop × AV)} {k : AV → Prop} (h : o = o') : andO o k = andO o' k := by rw [h]
@[congr] theorem andV_congr {o o' : Option AV} {k : AV → Prop} (h : o = o') : andV o k = andV o' k := by rw [h]
@[congr] theorem andR_congr {o o' : R} {k : AV → List AObj → Prop} (h : o = o') : andR o k = andR o' k := by rw [h]
@[congr] theorem andC_congr {P : Program} {G : List (Nat × List AV)} {f f' : Option FuncId} {vw vw' : Option (Prop × Bool × List AV)} {k : AV → Prop} (h : f = f') (h' : vw = vw') : andC P G f vw k = andC P G f' vw' k := by rw [h, h']

/-- On behind a call. -/
def RestC (P : Program) (G : List (Nat × List AV)) (M : List Nat) (ops : Array Oper) (rest : List Oper) (st : St) (K : St → Prop) (d : Option Tmp) (r : AV) : Prop := aopsK P G M ops rest (st.put d r st.objs) K

/-- The same, with the objects that come back. -/
def RestH (P : Program) (G : List (Nat × List AV)) (M : List Nat) (ops : Array Oper) (rest : List Oper) (st : St) (K : St → Prop) (d : Option Tmp) (r : AV) (os : List AObj) : Prop := aopsK P G M ops rest (st.put d r os) K

section
variable (P : Program) (G : List (Nat × List AV)) (M : List Nat) (ops : Array Oper) (rest : List Oper) (nt : Nat) (s : List (Nat × AV)) (os : List AObj) (K : St → Prop) (d : Nat) (ty : TypeId) (pos : String) (af : Array Edge)

theorem K_nil (st : St) : aopsK P G M ops [] st K = K st := rfl

theorem K_some (op : Op) (hne : ∀ f args ts, op ≠ .call ⟨.value f, args, ts⟩) :
    aopsK P G M ops (⟨some d, op, ty, pos, af, none⟩ :: rest) ⟨nt, s, os⟩ K = andR (aval P (M.contains d) (ev G s) os op) fun v os' => d < nt ∧ aopsK P G M ops rest ⟨nt, (d, v) :: s, os'⟩ K := by
  have key : ∀ r : R, (match r with | .ok C v objs' => C ∧ dOk ⟨nt, s, os⟩ (some d) ∧ aopsK P G M ops rest ((⟨nt, s, os⟩ : St).put (some d) v objs') K | .bad => False) =
      andR r fun v os' => d < nt ∧ aopsK P G M ops rest ⟨nt, (d, v) :: s, os'⟩ K := fun r => by cases r <;> rfl
  have k0 := key (aval P (M.contains d) (ev G s) os op)
  conv => lhs; unfold aopsK
  cases op with
  | call c =>
    obtain ⟨callee, args, ts⟩ := c
    cases callee with
    | value f => exact absurd rfl (hne f args ts)
    | builtin b => exact k0
    | invoke r n => rfl
  | _ => exact k0

theorem K_none (op : Op) (hne : ∀ f args ts, op ≠ .call ⟨.value f, args, ts⟩) :
    aopsK P G M ops (⟨none, op, ty, pos, af, none⟩ :: rest) ⟨nt, s, os⟩ K = andR (aval P false (ev G s) os op) fun v os' => aopsK P G M ops rest ⟨nt, s, os'⟩ K := by
  have key : ∀ r : R, (match r with | .ok C v objs' => C ∧ dOk ⟨nt, s, os⟩ none ∧ aopsK P G M ops rest ((⟨nt, s, os⟩ : St).put none v objs') K | .bad => False) =
      andR r fun v os' => aopsK P G M ops rest ⟨nt, s, os'⟩ K := fun r => by cases r <;> simp [andR, dOk, St.put]
  have k0 := key (aval P false (ev G s) os op)
  conv => lhs; unfold aopsK
  cases op with
  | call c =>
    obtain ⟨callee, args, ts⟩ := c
    cases callee with
    | value f => exact absurd rfl (hne f args ts)
    | builtin b => exact k0
    | invoke r n => rfl
  | _ => exact k0

theorem K_call (f : Operand) (args : Array Operand) (ts : Array TypeId) :
    aopsK P G M ops (⟨some d, .call ⟨.value f, args, ts⟩, ty, pos, af, none⟩ :: rest) ⟨nt, s, os⟩ K =
      (d < nt ∧ if M.contains (d + 1000000) = true then andH P G (afun (ev G s f)) (args.toList.map (ev G s)) os (RestH P G M ops rest ⟨nt, s, os⟩ K (some d))
        else andC P G (afun (ev G s f)) (aviews P (if M.contains d = true then [] else os) ts.toList (args.toList.map (ev G s))) (RestC P G M ops rest ⟨nt, s, os⟩ K (some d))) := by
  conv => lhs; unfold aopsK
  simp only [dOk, acallM]
  rfl
theorem K_call0 (f : Operand) (args : Array Operand) (ts : Array TypeId) :
    aopsK P G M ops (⟨none, .call ⟨.value f, args, ts⟩, ty, pos, af, none⟩ :: rest) ⟨nt, s, os⟩ K =
      (if M.contains 999999 = true then andH P G (afun (ev G s f)) (args.toList.map (ev G s)) os (RestH P G M ops rest ⟨nt, s, os⟩ K none)
        else andC P G (afun (ev G s f)) (aviews P os ts.toList (args.toList.map (ev G s))) (RestC P G M ops rest ⟨nt, s, os⟩ K none)) := by
  conv => lhs; unfold aopsK
  simp only [dOk, true_and, acallM]
  rfl
end

/-- The equations for the kinds of operations. -/
theorem K_eqs : 
    (∀ (P : Program) (G : List (Nat × List AV)) (M : List Nat) (ops : Array Oper) (rest : List Oper) (nt : Nat) (s : List (Nat × AV)) (os : List AObj) (K : St → Prop) (d : Nat) (ty : TypeId) (pos : String) (af : Array Edge),
      (∀ x, aopsK P G M ops (⟨some d, .move x, ty, pos, af, none⟩ :: rest) ⟨nt, s, os⟩ K = (d < nt ∧ aopsK P G M ops rest ⟨nt, (d, ev G s x) :: s, os⟩ K)) ∧
      (∀ x, aopsK P G M ops (⟨some d, .assign x, ty, pos, af, none⟩ :: rest) ⟨nt, s, os⟩ K = (d < nt ∧ aopsK P G M ops rest ⟨nt, (d, ev G s x) :: s, os⟩ K)) ∧
      (∀ c a b, aopsK P G M ops (⟨some d, .pick c a b, ty, pos, af, none⟩ :: rest) ⟨nt, s, os⟩ K = andV (apick (ev G s c) (ev G s a) (ev G s b)) fun v => d < nt ∧ aopsK P G M ops rest ⟨nt, (d, v) :: s, os⟩ K) ∧
      (∀ t, aopsK P G M ops (⟨some d, .alloc t, ty, pos, af, none⟩ :: rest) ⟨nt, s, os⟩ K = andR (aalloc P t os) fun v os' => d < nt ∧ aopsK P G M ops rest ⟨nt, (d, v) :: s, os'⟩ K) ∧
      (∀ t x, aopsK P G M ops (⟨some d, .box t x, ty, pos, af, none⟩ :: rest) ⟨nt, s, os⟩ K = andR (abox P (ev G s x) os) fun v os' => d < nt ∧ aopsK P G M ops rest ⟨nt, (d, v) :: s, os'⟩ K) ∧
      (∀ t ps, aopsK P G M ops (⟨some d, .build t ps, ty, pos, af, none⟩ :: rest) ⟨nt, s, os⟩ K = andO (abuild P t (aparts (ev G s) ps)) fun v => d < nt ∧ aopsK P G M ops rest ⟨nt, (d, v) :: s, os⟩ K) ∧
      (∀ t n ps, aopsK P G M ops (⟨some d, .buildSlice t n ps, ty, pos, af, none⟩ :: rest) ⟨nt, s, os⟩ K = andR (if M.contains d = true then abuildOwn P t n (aparts (ev G s) ps) os else abuildSlice P t n (aparts (ev G s) ps) os) fun v os' => d < nt ∧ aopsK P G M ops rest ⟨nt, (d, v) :: s, os'⟩ K) ∧
      (∀ t x, aopsK P G M ops (⟨some d, .load t x, ty, pos, af, none⟩ :: rest) ⟨nt, s, os⟩ K = andO (aload P t (ev G s x) (if M.contains d = true then [] else os)) fun v => d < nt ∧ aopsK P G M ops rest ⟨nt, (d, v) :: s, os⟩ K) ∧
      (∀ t x y, aopsK P G M ops (⟨none, .store t x y, ty, pos, af, none⟩ :: rest) ⟨nt, s, os⟩ K = andR (astore P t (ev G s x) (ev G s y) os) fun _ os' => aopsK P G M ops rest ⟨nt, s, os'⟩ K) ∧
      (∀ x, aopsK P G M ops (⟨some d, .nilCheck x, ty, pos, af, none⟩ :: rest) ⟨nt, s, os⟩ K = andV (anil (ev G s x)) fun v => d < nt ∧ aopsK P G M ops rest ⟨nt, (d, v) :: s, os⟩ K) ∧
      (∀ x, aopsK P G M ops (⟨none, .nilCheck x, ty, pos, af, none⟩ :: rest) ⟨nt, s, os⟩ K = andV (anil (ev G s x)) fun _ => aopsK P G M ops rest ⟨nt, s, os⟩ K) ∧
      (∀ op t x y yt, aopsK P G M ops (⟨some d, .binOp op t x y yt, ty, pos, af, none⟩ :: rest) ⟨nt, s, os⟩ K = andO (abin P op t (ev G s x) (ev G s y)) fun v => d < nt ∧ aopsK P G M ops rest ⟨nt, (d, v) :: s, os⟩ K) ∧
      (∀ op t x, aopsK P G M ops (⟨some d, .unOp op t x, ty, pos, af, none⟩ :: rest) ⟨nt, s, os⟩ K = andV (aun op (ev G s x)) fun v => d < nt ∧ aopsK P G M ops rest ⟨nt, (d, v) :: s, os⟩ K) ∧
      (∀ t x, aopsK P G M ops (⟨some d, .sliceToArrayPointer t x, ty, pos, af, none⟩ :: rest) ⟨nt, s, os⟩ K = andO (aarrayAt P t (ev G s x)) fun v => d < nt ∧ aopsK P G M ops rest ⟨nt, (d, v) :: s, os⟩ K) ∧
      (∀ t l c, aopsK P G M ops (⟨some d, .makeSlice t l c, ty, pos, af, none⟩ :: rest) ⟨nt, s, os⟩ K = andR (amake P t (M.contains d) (ev G s l) (ev G s c) os) fun v os' => d < nt ∧ aopsK P G M ops rest ⟨nt, (d, v) :: s, os'⟩ K) ∧
      (∀ t x lo hi mx, aopsK P G M ops (⟨some d, .slice t x lo hi mx, ty, pos, af, none⟩ :: rest) ⟨nt, s, os⟩ K = andO (aslice P t (ev G s x) (lo.map (ev G s)) (hi.map (ev G s)) (mx.map (ev G s))) fun v => d < nt ∧ aopsK P G M ops rest ⟨nt, (d, v) :: s, os⟩ K) ∧
      (∀ t x i, aopsK P G M ops (⟨some d, .fieldAddr t x i, ty, pos, af, none⟩ :: rest) ⟨nt, s, os⟩ K = andO (afieldAddr P t (ev G s x) i) fun v => d < nt ∧ aopsK P G M ops rest ⟨nt, (d, v) :: s, os⟩ K) ∧
      (∀ t x i, aopsK P G M ops (⟨some d, .field t x i, ty, pos, af, none⟩ :: rest) ⟨nt, s, os⟩ K = andO (afield P t (ev G s x) i) fun v => d < nt ∧ aopsK P G M ops rest ⟨nt, (d, v) :: s, os⟩ K) ∧
      (∀ t x i, aopsK P G M ops (⟨some d, .indexAddr t x i, ty, pos, af, none⟩ :: rest) ⟨nt, s, os⟩ K = andO (aidxAddr P t (ev G s x) (ev G s i)) fun v => d < nt ∧ aopsK P G M ops rest ⟨nt, (d, v) :: s, os⟩ K) ∧
      (∀ t x i, aopsK P G M ops (⟨some d, .index t x i, ty, pos, af, none⟩ :: rest) ⟨nt, s, os⟩ K = andO (aidx P t (ev G s x) (ev G s i)) fun v => d < nt ∧ aopsK P G M ops rest ⟨nt, (d, v) :: s, os⟩ K) ∧
      (∀ x i, aopsK P G M ops (⟨some d, .extract x i, ty, pos, af, none⟩ :: rest) ⟨nt, s, os⟩ K = andV (aext (ev G s x) i) fun v => d < nt ∧ aopsK P G M ops rest ⟨nt, (d, v) :: s, os⟩ K) ∧
      (∀ b args ts, aopsK P G M ops (⟨some d, .call ⟨.builtin b, args, ts⟩, ty, pos, af, none⟩ :: rest) ⟨nt, s, os⟩ K = andR (abuiltin P (M.contains d) os b ts.toList (args.toList.map (ev G s))) fun v os' => d < nt ∧ aopsK P G M ops rest ⟨nt, (d, v) :: s, os'⟩ K) ∧
      (∀ b args ts, aopsK P G M ops (⟨none, .call ⟨.builtin b, args, ts⟩, ty, pos, af, none⟩ :: rest) ⟨nt, s, os⟩ K = andR (abuiltin P false os b ts.toList (args.toList.map (ev G s))) fun v os' => aopsK P G M ops rest ⟨nt, s, os'⟩ K)) := by
  intro P G M ops rest nt s os K d ty pos af
  have ofO : ∀ (o : Option (Prop × AV)) (k : AV → List AObj → Prop), andR (R.ofO os o) k = andO o fun v => k v os := fun o k => by cases o <;> rfl
  have ofV : ∀ (o : Option AV) (k : AV → List AObj → Prop), andR (R.ofV os o) k = andV o fun v => k v os := fun o k => by cases o <;> simp [R.ofV, andR, andV]
  refine ⟨?_, ?_, ?_, ?_, ?_, ?_, ?_, ?_, ?_, ?_, ?_, ?_, ?_, ?_, ?_, ?_, ?_, ?_, ?_, ?_, ?_, ?_, ?_⟩ <;> intros <;>
    first
    | (rw [K_some _ _ _ _ _ _ _ _ _ _ _ _ _ _ (fun _ _ _ => by simp)]; simp only [aval, ofO, ofV]; done)
    | (rw [K_some _ _ _ _ _ _ _ _ _ _ _ _ _ _ (fun _ _ _ => by simp)]; simp only [aval, andR, true_and]; done)
    | (rw [K_none _ _ _ _ _ _ _ _ _ _ _ _ _ (fun _ _ _ => by simp)]; simp only [aval, ofO, ofV]; done)

theorem K_conv (P : Program) (G : List (Nat × List AV)) (M : List Nat) (ops : Array Oper) (rest : List Oper) (nt : Nat) (s : List (Nat × AV)) (os : List AObj) (K : St → Prop) (d : Nat) (ty : TypeId) (pos : String) (af : Array Edge)
    (src dst : TypeId) (x : Operand) : aopsK P G M ops (⟨some d, .convert src dst x, ty, pos, af, none⟩ :: rest) ⟨nt, s, os⟩ K =
      andR (match P.underlying dst with | some (.slice _) => abytes P src dst (ev G s x) os | _ => if M.contains d = true then R.ofO os (aconvO P src dst (ev G s x) os) else R.ofO os (aconv P src dst (ev G s x))) fun v os' => d < nt ∧ aopsK P G M ops rest ⟨nt, (d, v) :: s, os'⟩ K := by
  rw [K_some _ _ _ _ _ _ _ _ _ _ _ _ _ _ (fun _ _ _ => by simp)]; rfl

theorem K_ops :
    (∀ C v k, andO (some (C, v)) k = (C ∧ k v)) ∧ (∀ v k, andV (some v) k = k v) ∧ (∀ C v os k, andR (.ok C v os) k = (C ∧ k v os)) ∧
    (∀ os C v, R.ofO os (some (C, v)) = .ok C v os) ∧ (∀ os v, R.ofV os (some v) = .ok True v os) ∧
    (∀ G s t, ev G s (.tmp t) = lk s t) ∧ (∀ G s v, ev G s (.const v) = cav v) ∧ (∀ G s g, ev G s (.global g) = gav G g) ∧ (∀ G s f, ev G s (.func f) = .val (.func (.func f) #[] #[])) ∧
    (cav (.slice none 0 0) = .sl 0 [] .full) ∧ (∀ k n, cav (.int k n) = .val (.int k n)) ∧ (∀ b, cav (.bool b) = .val (.bool b)) ∧ (∀ x, cav (.string x) = .val (.string x)) ∧
    (∀ f, afun (.val (.func (.func f) #[] #[])) = some f) ∧ (∀ i a r j, lk ((i, a) :: r) j = if i = j then a else lk r j) ∧
    (∀ nt s os t, dOk ⟨nt, s, os⟩ (some t) = (t < nt)) ∧ (∀ nt s os os' t v, (⟨nt, s, os⟩ : St).put (some t) v os' = ⟨nt, (t, v) :: s, os'⟩) := by
  refine ⟨?_, ?_, ?_, ?_, ?_, ?_, ?_, ?_, ?_, ?_, ?_, ?_, ?_, ?_, ?_, ?_, ?_⟩ <;> intros <;> rfl

/-- A call by what the function comes to. -/
theorem andC_mk {P : Program} {G : List (Nat × List AV)} {f : FuncId} {C : Prop} {b : Bool} {as : List AV} {k : AV → Prop} {Q : AV → List AObj → Prop} (hC : C) (h : ACalls P G f as [] Q) (hx : ∃ r, Q r [])
    (hQ : ∀ r os, Q r os → os = [] ∧ (if b then flat r else noref r) = true ∧ k r) : andC P G (some f) (some (C, b, as)) k := ⟨hC, Q, h, hx, hQ⟩

/-- A call of a function that answers one value. -/
theorem andC_eq {P : Program} {G : List (Nat × List AV)} {f : FuncId} {C : Prop} {b : Bool} {as : List AV} {k : AV → Prop} {v : AV} (hC : C) (h : ACalls P G f as [] (fun r os => os = [] ∧ r = v))
    (hf : (if b then flat v else noref v) = true) (hk : k v) : andC P G (some f) (some (C, b, as)) k := ⟨hC, _, h, ⟨v, rfl, rfl⟩, fun r os ⟨h1, h2⟩ => by subst h1 h2; exact ⟨rfl, hf, hk⟩⟩

/-- A marked call that is handed nothing. -/
theorem andH_new {P : Program} {G : List (Nat × List AV)} {f : FuncId} {as as' : List AV} {objs : List AObj} {k : AV → List AObj → Prop} {v : AV} {os : List AObj} {v' : AV} (hv : hviews none as = some as') (h : ACalls P G f as' [] (fun r o => o = os ∧ r = v))
    (ho : (∀ o ∈ os, objOk o = true)) (hr : hres (fun i => objs.length + i) os.length v = some v') (hk : k v' (objs ++ os)) : andH P G (some f) as objs k :=
  .inl ⟨as', _, hv, h, ⟨v, os, rfl, rfl⟩, fun r o ⟨h1, h2⟩ => by subst h1 h2; exact ⟨ho, v', hr, hk⟩⟩
/-- A marked call that is handed the object h. -/
theorem andH_one {P : Program} {G : List (Nat × List AV)} {f : FuncId} {as as' : List AV} {objs : List AObj} {k : AV → List AObj → Prop} {v : AV} {os' : List AObj} {y : AObj} {v' : AV} (h : Nat) (x : AObj) (hx : objs[h]? = some x) (hxo : objOk x = true) (hv : hviews (some h) as = some as')
    (hc : ACalls P G f as' [x] (fun r o => o = y :: os' ∧ r = v)) (ho : (∀ o ∈ y :: os', objOk o = true)) (hr : hres (fun i => if i = 0 then h else objs.length + (i - 1)) (y :: os').length v = some v') (hk : k v' (objs.set h y ++ os')) : andH P G (some f) as objs k :=
  .inr ⟨h, x, as', _, hx, hxo, hv, hc, ⟨v, y :: os', rfl, rfl⟩, fun r o ⟨h1, h2⟩ => by subst h1 h2; exact ⟨ho, y, os', rfl, v', hr, hk⟩⟩

theorem RestH_eqs : (∀ P G M ops rest nt s os K d r os', RestH P G M ops rest ⟨nt, s, os⟩ K (some d) r os' = aopsK P G M ops rest ⟨nt, (d, r) :: s, os'⟩ K) ∧
    (∀ P G M ops rest nt s os K r os', RestH P G M ops rest ⟨nt, s, os⟩ K none r os' = aopsK P G M ops rest ⟨nt, s, os'⟩ K) := ⟨fun _ _ _ _ _ _ _ _ _ _ _ _ => rfl, fun _ _ _ _ _ _ _ _ _ _ _ => rfl⟩
theorem RestC_eqs : (∀ P G M ops rest nt s os K d r, RestC P G M ops rest ⟨nt, s, os⟩ K (some d) r = aopsK P G M ops rest ⟨nt, (d, r) :: s, os⟩ K) ∧
    (∀ P G M ops rest nt s os K r, RestC P G M ops rest ⟨nt, s, os⟩ K none r = aopsK P G M ops rest ⟨nt, s, os⟩ K) := ⟨fun _ _ _ _ _ _ _ _ _ _ _ => rfl, fun _ _ _ _ _ _ _ _ _ _ => rfl⟩

/-- The values of whole numbers. -/
theorem K_int (P : Program) (t : TypeId) :
    (∀ op k a k' b, abin P op t (.val (.int k a)) (.val (.int k' b)) = aint op k a k' b) ∧ (∀ op a b, abin P op t (.val (.bool a)) (.val (.bool b)) = abool P op t a b) ∧ (∀ op a b, abin P op t (.val (.string a)) (.val (.string b)) = astr op a b) ∧ (∀ op xs ys, abin P op t (.agg xs) (.agg ys) = aagg P op t xs ys) ∧ (∀ op r off, abin P op t (.ptr r off) (.val (.pointer none)) = aptr P op t) := by
  refine ⟨?_, ?_, ?_, ?_, ?_⟩ <;> intros <;> rfl

theorem K_fin (P : Program) (ts : List TypeId) (rvs : List ResultVar) (Q : AV → List AObj → Prop) (st : St) :
    (Fin P ts rvs Q .ret st = andO (ares P ts rvs st) fun r => Q r []) ∧ (Fin P ts rvs Q .normal st = andO (ares P ts rvs st) fun r => Q r []) := by
  have : (∃ C r, ares P ts rvs st = some (C, r) ∧ C ∧ Q r []) = andO (ares P ts rvs st) fun r => Q r [] := by
    cases h : ares P ts rvs st with
    | none => simp [andO]
    | some x =>
      obtain ⟨C, r⟩ := x
      simp only [andO]
      apply propext
      constructor
      · rintro ⟨C', r', e, h1, h2⟩
        injection e with e
        injection e with e1 e2
        subst e1 e2
        exact ⟨h1, h2⟩
      · rintro ⟨h1, h2⟩; exact ⟨C, r, rfl, h1, h2⟩
  exact ⟨this, this⟩

def keep (ls : List Nat) (s : List (Nat × AV)) : List (Nat × AV) := ls.map fun i => (i, lk s i)

/-- Only some temporaries are kept in mind. -/
theorem awp_keep {P : Program} {G : List (Nat × List AV)} {c : Code} {nt : Nat} {s : List (Nat × AV)} {os : List AObj} {Q : Exit → St → Prop} (ls : List Nat) (h : awp P G c ⟨nt, keep ls s, os⟩ Q) : awp P G c ⟨nt, s, os⟩ Q :=
  awp_weak (.sub fun p hp => by
    simp only [keep, List.mem_map] at hp
    obtain ⟨i, _, rfl⟩ := hp
    rfl) h

theorem Weak.of_keep {G : List (Nat × List AV)} {nt : Nat} {s s' : List (Nat × AV)} {os : List AObj} (ls : List Nat) (h : keep ls s = s') : Weak G ⟨nt, s, os⟩ ⟨nt, s', os⟩ := by
  subst h
  exact .sub fun p hp => by
    simp only [keep, List.mem_map] at hp
    obtain ⟨i, _, rfl⟩ := hp
    rfl

theorem keep_eqs : (∀ s, keep [] s = []) ∧ (∀ i r s, keep (i :: r) s = (i, lk s i) :: keep r s) := ⟨fun _ => rfl, fun _ _ _ => rfl⟩

theorem Bs_length (l : List UInt8) : (Bs l).length = l.length := by simp [Bs]
theorem Bs_append (a b : List UInt8) : Bs (a ++ b) = Bs a ++ Bs b := by simp [Bs]
theorem Bs_take (l : List UInt8) (n : Nat) : (Bs l).take n = Bs (l.take n) := by simp [Bs]
theorem Bs_drop (l : List UInt8) (n : Nat) : (Bs l).drop n = Bs (l.drop n) := by simp [Bs]
theorem Bs_one (l : List UInt8) : (Bs l).all oneC = true := by
  induction l with
  | nil => rfl
  | cons x l ih => simp only [Bs, List.map_cons, List.all_cons] at *; rw [ih]; rfl
theorem Bs_isByte (l : List UInt8) : (Bs l).all isByte = true := by
  induction l with
  | nil => rfl
  | cons x l ih => simp only [Bs, List.map_cons, List.all_cons] at *; rw [ih]; rfl
theorem Bs_bytes (l : List UInt8) : (Bs l).map byteOf = l := by
  induction l with
  | nil => rfl
  | cons x l ih =>
    simp only [Bs, List.map_cons] at *
    rw [ih]
    simp [B, byteOf]

/-- A slice without room becomes one that may grow. -/
theorem Weak.tok {G : List (Nat × List AV)} {nt : Nat} {s : List (Nat × AV)} {os : List AObj} (sz i n : Nat) (cells : List AV) (h : lk s i = .sl n cells .full) : Weak G ⟨nt, s, os⟩ ⟨nt, (i, .sl n cells (.tok os.length)) :: s, os ++ [.tok sz n]⟩ := fun E a hr => by
  have hi := hr.slots i
  simp only at hi
  rw [h] at hi
  simp only [RepV] at hi
  obtain ⟨A, cap, hv, hn, hc, hp⟩ := hi
  have hcap : cap = n := hp
  subst hcap
  have hadd := ext0_add E (.slice A cap cap)
  obtain ⟨hx2, ho2⟩ := add_obj (o := .tok sz cap) (u := .slice A cap cap) (.refl E os) hr.objs ⟨A, cap, rfl, Nat.le_refl _, fun h => by omega⟩ (by intro g hg; cases A <;> simp [ownBlk] at hg)
  have hk := hr.objs.1
  simp only at hk
  refine ⟨E.add (.slice A cap cap), rfl, ⟨hr.size, fun j => ?_, hr.defers, ho2, hr.glob.mono hadd⟩, hx2⟩
  simp only [lk]
  split
  · rename_i e
    subst e
    rw [hv]
    simp only [RepV]
    refine ⟨A, cap, rfl, Nat.le_refl _, ?_, PermOk_tok (by simp [Env.add, hk]) (by simp [Env.add, hk]) rfl⟩
    rcases hc with e' | ⟨g, o, hA, hg, hl, hat⟩
    · exact .inl e'
    · exact .inr ⟨g, o, hA, hg, hl, RepAt.mono hadd g hg cells o hl hat⟩
  · exact RepV.mono hadd _ _ (hr.slots j)

theorem awp_tok {P : Program} {G : List (Nat × List AV)} {c : Code} {nt : Nat} {s : List (Nat × AV)} {os : List AObj} {Q : Exit → St → Prop} (sz i : Nat) {n : Nat} {cells : List AV} (h : lk s i = .sl n cells .full)
    (hq : awp P G c ⟨nt, (i, .sl n cells (.tok os.length)) :: s, os ++ [.tok sz n]⟩ Q) : awp P G c ⟨nt, s, os⟩ Q := awp_weak (.tok sz i n cells h) hq

/-- A loop, from a state that stands for one of the family. -/
theorem awp_loop_from {α : Type} {P : Program} {G : List (Nat × List AV)} {c : Code} {st : St} {Q : Exit → St → Prop} (S : α → St) (I : α → Prop) (μ : α → Nat) (x : α) (h₀ : I x) (hw : Weak G st (S x))
    (round : ∀ x, I x → awp P G c (S x) (Then (fun s => ∃ y, I y ∧ μ y < μ x ∧ Weak G s (S y)) Q)) : awp P G (.loop c) st Q := awp_weak hw (awp_loop S I μ x h₀ round)

theorem Bs_nil : Bs [] = [] := rfl
theorem zrep_byte (m : Nat) : zrep [.int .u8 0] m = Bs (List.replicate m 0) := by
  induction m with
  | zero => rfl
  | succ m ih =>
    unfold zrep at *
    simp only [List.replicate_succ, List.flatten_cons, ih]
    rfl

/-- Noughts. -/
def zvs (k : IntKind) (n : Nat) : List Value := List.replicate n (Value.int k 0)
def Z (n : Nat) : List UInt8 := List.replicate n 0
theorem Z_length (n : Nat) : (Z n).length = n := by simp [Z]
theorem zvs_u8 (n : Nat) : (zvs .u8 n).map cav = Bs (Z n) := by
  simp only [zvs, Z, Bs, List.map_replicate]
  rfl
theorem zvs_length (k : IntKind) (n : Nat) : (zvs k n).length = n := by simp [zvs]

end Go.V
