/-
  VALUE LOGIC, part k: one operation, a row of them; regions; calls; functions.
-/
import Derived.Test.YtjdlgbkpdfaloaaDoorVr
namespace Go.V
set_option linter.unusedVariables false
set_option linter.unusedSimpArgs false

/-- A pointer to an object of the call's own, and nil. -/
def aptr (P : Program) (op : BinOp) (t : TypeId) : Option (Prop × AV) :=
  match P.underlying t with
  | some (.pointer _) => match op with
    | .eql => some (True, .val (.bool false))
    | .neq => some (True, .val (.bool true))
    | _ => none
  | _ => none

def abin (P : Program) (op : BinOp) (t : TypeId) (x y : AV) : Option (Prop × AV) :=
  match x, y with
  | .val (.int k a), .val (.int k' b) => aint op k a k' b
  | .val (.bool a), .val (.bool b) => abool P op t a b
  | .val (.string a), .val (.string b) => astr op a b
  | .agg xs, .agg ys => aagg P op t xs ys
  | .ptr _ _, .val (.pointer none) => aptr P op t
  | _, _ => none

def R.ofO (objs : List AObj) : Option (Prop × AV) → R
  | some (C, v) => .ok C v objs
  | none => .bad
def R.ofV (objs : List AObj) : Option AV → R
  | some v => .ok True v objs
  | none => .bad

/-- The builtins. -/
def abuiltin (P : Program) (mt : Bool) (objs : List AObj) (b : Builtin) (ts : List TypeId) (as : List AV) : R :=
  match b, ts, as with
  | .len, [t], [x] => R.ofV objs (alen P t x)
  | .min, _, [x, y] => R.ofV objs (amin2 true x y)
  | .max, _, [x, y] => R.ofV objs (amin2 false x y)
  | .append, [sT, xT], [s, x] => aappend P sT xT mt s x objs
  | .copy, [dT, sT], [d, s] => acopy P dT d s objs
  | _, _, _ => .bad

/-- One operation, but for calls of functions. -/
def aval (P : Program) (mt : Bool) (f : Operand → AV) (objs : List AObj) : Op → R
  | .move x => .ok True (f x) objs
  | .assign x => .ok True (f x) objs
  | .pick c a b => R.ofV objs (apick (f c) (f a) (f b))
  | .alloc t => aalloc P t objs
  | .box t x => abox P (f x) objs
  | .build t parts => R.ofO objs (abuild P t (aparts f parts))
  | .buildSlice t n parts => if mt = true then abuildOwn P t n (aparts f parts) objs else abuildSlice P t n (aparts f parts) objs
  | .load t x => R.ofO objs (aload P t (f x) (if mt = true then [] else objs))
  | .store t x y => astore P t (f x) (f y) objs
  | .nilCheck x => R.ofV objs (anil (f x))
  | .binOp op t x y _ => R.ofO objs (abin P op t (f x) (f y))
  | .unOp op _ x => R.ofV objs (aun op (f x))
  | .convert s d x => match P.underlying d with
    | some (.slice _) => abytes P s d (f x) objs
    | _ => if mt = true then R.ofO objs (aconvO P s d (f x) objs) else R.ofO objs (aconv P s d (f x))
  | .sliceToArrayPointer t x => R.ofO objs (aarrayAt P t (f x))
  | .makeSlice t l c => amake P t mt (f l) (f c) objs
  | .slice t x lo hi mx => R.ofO objs (aslice P t (f x) (lo.map f) (hi.map f) (mx.map f))
  | .fieldAddr t x i => R.ofO objs (afieldAddr P t (f x) i)
  | .field t x i => R.ofO objs (afield P t (f x) i)
  | .indexAddr t x i => R.ofO objs (aidxAddr P t (f x) (f i))
  | .index t x i => R.ofO objs (aidx P t (f x) (f i))
  | .extract x i => R.ofV objs (aext (f x) i)
  | .call { callee := .builtin b, args, argTypes } => abuiltin P mt objs b argTypes.toList (args.toList.map f)
  | _ => .bad

theorem ofO_ok {objs objs' : List AObj} {o : Option (Prop × AV)} {C : Prop} {v : AV} (h : R.ofO objs o = .ok C v objs') : o = some (C, v) ∧ objs' = objs := by
  unfold R.ofO at h
  split at h
  · injection h with h1 h2 h3
    subst h1 h2 h3
    exact ⟨rfl, rfl⟩
  · cases h
theorem ofV_ok {objs objs' : List AObj} {o : Option AV} {C : Prop} {v : AV} (h : R.ofV objs o = .ok C v objs') : o = some v ∧ objs' = objs := by
  unfold R.ofV at h
  split at h
  · injection h with h1 h2 h3
    subst h1 h2 h3
    exact ⟨rfl, rfl⟩
  · cases h

theorem aload_nil {P : Program} {t : TypeId} {x : AV} {objs : List AObj} {r : Prop × AV} (h : aload P t x [] = some r) : aload P t x objs = some r := by
  unfold aload at *
  split at h <;> first | exact h | (simp at h) | cases h
theorem aload_if {P : Program} {t : TypeId} {x : AV} {objs : List AObj} {mt : Bool} {r : Prop × AV} (h : aload P t x (if mt = true then [] else objs) = some r) : aload P t x objs = some r := by
  cases mt with
  | true => exact aload_nil h
  | false => exact h

theorem run_equal_nil {P : Program} {w : World} {t el : TypeId} (ht : P.underlying t = some (.pointer el)) (a : Addr) : (Op.equal t (.pointer (some a)) (.pointer none)).run P w = .ok false w := by
  show (Op.equalIn (9999 + 1) t (.pointer (some a)) (.pointer none)).run P w = _
  unfold Op.equalIn
  simp only [Sem.run_bind, run_underlying ht, Result.andThen_ok]
  rfl
theorem run_ptr_nil {P : Program} {w : World} {t el : TypeId} (ht : P.underlying t = some (.pointer el)) (a : Addr) (op : BinOp) {X Y : Operand} (h : op = .eql ∨ op = .neq) : (do eqGuard op t X Y (.pointer (some a)) (.pointer none); binOp op t (.pointer (some a)) (.pointer none) : Sem Value).run P w = .ok (.bool (op == .neq)) w := by
  have h1 : (eqGuard op t X Y (.pointer (some a)) (.pointer none)).run P w = .ok () w := by
    rcases h with rfl | rfl <;> rfl
  rw [Sem.run_bind, h1, Result.andThen_ok]
  rcases h with rfl | rfl
  · show (do pure (.bool (← Op.equal t (.pointer (some a)) (.pointer none))) : Sem Value).run P w = _
    rw [Sem.run_bind, run_equal_nil ht, Result.andThen_ok]
    rfl
  · show (do pure (.bool (!(← Op.equal t (.pointer (some a)) (.pointer none)))) : Sem Value).run P w = _
    rw [Sem.run_bind, run_equal_nil ht, Result.andThen_ok]
    rfl

theorem abin_sound {P : Program} {E : Env} {op : BinOp} {t : TypeId} {x y v : AV} {C : Prop} {u u' : Value} (h : abin P op t x y = some (C, v)) (hC : C) (hx : RepV E x u) (hy : RepV E y u') (X Y : Operand) :
    ∃ r, RepV E v r ∧ (do eqGuard op t X Y u u'; binOp op t u u' : Sem Value).run P E.w = .ok r E.w := by
  unfold abin at h
  split at h
  · simp only [RepV] at hx hy
    subst hx hy
    obtain ⟨r, rfl, hr⟩ := aint_sound (P := P) (w := E.w) t h hC
    exact ⟨r, by simp only [RepV], by simp only [eqGuard_at_int, Sem.run_bind, Sem.run_pure, Result.andThen_ok, hr]⟩
  · simp only [RepV] at hx hy
    subst hx hy
    obtain ⟨r, rfl, hr⟩ := abool_sound (P := P) (w := E.w) h hC
    exact ⟨r, by simp only [RepV], by simp only [eqGuard_at_bool, Sem.run_bind, Sem.run_pure, Result.andThen_ok, hr]⟩
  · simp only [RepV] at hx hy
    subst hx hy
    obtain ⟨r, rfl, hr⟩ := astr_sound (P := P) (w := E.w) t h hC
    exact ⟨r, by simp only [RepV], by simp only [eqGuard_at_string, Sem.run_bind, Sem.run_pure, Result.andThen_ok, hr]⟩
  · simp only [RepV] at hx hy
    obtain ⟨us, rfl, hx⟩ := hx
    obtain ⟨vs, rfl, hy⟩ := hy
    exact aagg_sound h hC hx hy X Y
  · simp only [RepV] at hx hy
    subst hy
    obtain ⟨_, g, _, rfl⟩ := hx
    unfold aptr at h
    split at h
    case h_2 => cases h
    rename_i el ht
    cases op <;> simp only [reduceCtorEq, Option.some.injEq, Prod.mk.injEq] at h
    all_goals
      obtain ⟨_, rfl⟩ := h
      refine ⟨_, by simp only [RepV]; rfl, ?_⟩
      exact run_ptr_nil ht _ _ (by simp)
  · cases h

theorem aval_sound {P : Program} {mt : Bool} {E : Env} {objs objs' : List AObj} {f : Operand → AV} {g : Operand → Value} (hfg : ∀ x, RepV E (f x) (g x)) {o : Oper} {C : Prop} {v : AV} (h : aval P mt f objs o.op = .ok C v objs') (hC : C)
    (ho : ObjsRep E objs) : OpOk E objs ((execOp g o).run P E.w) v objs' := by
  obtain ⟨dst, op, ty, pos, after, guard⟩ := o
  have pure1 : ∀ {s : Sem Value} {v : AV}, (∃ u, RepV E v u ∧ s.run P E.w = .ok u E.w) → OpOk E objs ((do pure (.value (← s)) : Sem Next).run P E.w) v objs := by
    rintro s v ⟨u, h1, h2⟩
    exact .pure (u := u) (by simp only [Sem.run_bind, h2, Result.andThen_ok, Sem.run_pure]) h1 ho
  have eff1 : ∀ {s : Sem Value} {v : AV} {objs' : List AObj}, (∃ E' u, s.run P E.w = .ok u E'.w ∧ RepV E' v u ∧ ObjsRep E' objs' ∧ Ext E objs E' objs') → OpOk E objs ((do pure (.value (← s)) : Sem Next).run P E.w) v objs' := by
    rintro s v objs' ⟨E', u, h1, h2, h3, h4⟩
    exact ⟨E', u, .inl (by simp only [Sem.run_bind, h1, Result.andThen_ok, Sem.run_pure]), h2, h3, h4⟩
  cases op <;> simp only [aval] at h
  case move x => injection h with h1 h2 h3; subst h1 h2 h3; exact .pure (u := g x) rfl (hfg x) ho
  case assign x => injection h with h1 h2 h3; subst h1 h2 h3; exact .pure (u := g x) rfl (hfg x) ho
  case pick c a b =>
    obtain ⟨hh, rfl⟩ := ofV_ok h; replace h := hh; clear hh
    obtain ⟨u, h1, h2⟩ := apick_sound (P := P) h (hfg c) (hfg a) (hfg b)
    exact .pure h2 h1 ho
  case alloc t => exact eff1 (aalloc_sound h ho _)
  case box t x => exact eff1 (abox_sound h ho (hfg x))
  case build t parts =>
    obtain ⟨hh, rfl⟩ := ofO_ok h; replace h := hh; clear hh
    exact pure1 (abuild_sound hfg h hC)
  case buildSlice t n parts =>
    cases mt with
    | true => exact eff1 (abuildOwn_sound hfg h hC ho)
    | false => exact eff1 (abuildSlice_sound hfg h hC ho)
  case load t x =>
    obtain ⟨hh, rfl⟩ := ofO_ok h; replace h := hh; clear hh
    exact pure1 (aload_sound (aload_if h) hC ho (hfg x))
  case store t x y =>
    obtain ⟨E', h1, rfl, h2, h3⟩ := astore_sound (P := P) h hC ho (hfg x) (hfg y)
    exact ⟨E', undef, .inr ⟨by simp only [execOp, Sem.run_bind, h1, Result.andThen_ok, Sem.run_pure], rfl⟩, by simp only [RepV], h2, h3⟩
  case nilCheck x =>
    obtain ⟨hh, rfl⟩ := ofV_ok h; replace h := hh; clear hh
    have hx := hfg x
    unfold anil at h
    split at h
    · rename_i r off e
      injection h with h
      subst h
      rw [e] at hx
      refine .pure (u := g x) ?_ hx ho
      simp only [RepV] at hx
      obtain ⟨_, _, _, hv⟩ := hx
      simp only [execOp, hv, Sem.run_pure]
    · rename_i cells e
      injection h with h
      subst h
      rw [e] at hx
      refine .pure (u := g x) ?_ hx ho
      simp only [RepV] at hx
      obtain ⟨_, _, hv, _⟩ := hx
      simp only [execOp, hv, Sem.run_pure]
    · cases h
  case binOp op t x y yt =>
    obtain ⟨hh, rfl⟩ := ofO_ok h; replace h := hh; clear hh
    exact pure1 (abin_sound h hC (hfg x) (hfg y) x y)
  case unOp op t x =>
    obtain ⟨hh, rfl⟩ := ofV_ok h; replace h := hh; clear hh
    exact pure1 (aun_sound h (hfg x))
  case convert s d x =>
    split at h
    · exact eff1 (abytes_sound h hC ho (hfg x))
    · split at h
      · obtain ⟨hh, rfl⟩ := ofO_ok h; replace h := hh; clear hh
        exact pure1 (aconvO_sound ho h hC (hfg x))
      · obtain ⟨hh, rfl⟩ := ofO_ok h; replace h := hh; clear hh
        exact pure1 (aconv_sound h hC (hfg x))
  case sliceToArrayPointer t x =>
    obtain ⟨hh, rfl⟩ := ofO_ok h; replace h := hh; clear hh
    exact pure1 (aarrayAt_sound h hC (hfg x))
  case makeSlice t l c => exact eff1 (amake_sound h hC ho (hfg l) (hfg c))
  case slice t x lo hi mx =>
    obtain ⟨hh, rfl⟩ := ofO_ok h; replace h := hh; clear hh
    exact pure1 (aslice_sound hfg h hC (hfg x))
  case fieldAddr t x i =>
    obtain ⟨hh, rfl⟩ := ofO_ok h; replace h := hh; clear hh
    exact pure1 (afieldAddr_sound h hC (hfg x))
  case field t x i =>
    obtain ⟨hh, rfl⟩ := ofO_ok h; replace h := hh; clear hh
    exact pure1 (afield_sound h hC (hfg x))
  case indexAddr t x i =>
    obtain ⟨hh, rfl⟩ := ofO_ok h; replace h := hh; clear hh
    exact pure1 (aidxAddr_sound h hC (hfg x) (hfg i))
  case index t x i =>
    obtain ⟨hh, rfl⟩ := ofO_ok h; replace h := hh; clear hh
    exact pure1 (aidx_sound h hC (hfg x) (hfg i))
  case extract x i =>
    obtain ⟨hh, rfl⟩ := ofV_ok h; replace h := hh; clear hh
    exact pure1 (aext_sound h (hfg x))
  case call c =>
    obtain ⟨callee, args, argTypes⟩ := c
    cases callee with
    | builtin b =>
      obtain ⟨args⟩ := args
      obtain ⟨argTypes⟩ := argTypes
      simp only at h
      unfold abuiltin at h
      split at h
      · rename_i t x e2
        obtain ⟨hh, rfl⟩ := ofV_ok h; replace h := hh; clear hh
        obtain ⟨X, rfl, rfl⟩ : ∃ X, args = [X] ∧ x = f X := by
          match args, e2 with
          | [X], e2 => simp at e2; exact ⟨X, rfl, e2.symm⟩
        have := alen_sound (P := P) (ty := ty) h (hfg X)
        simpa [execOp, resolve, invoke, builtin] using pure1 this
      · rename_i x y e2
        obtain ⟨hh, rfl⟩ := ofV_ok h; replace h := hh; clear hh
        obtain ⟨X, Y, rfl, rfl, rfl⟩ : ∃ X Y, args = [X, Y] ∧ x = f X ∧ y = f Y := by
          match args, e2 with
          | [X, Y], e2 => simp at e2; exact ⟨X, Y, rfl, e2.1.symm, e2.2.symm⟩
        have := fun (ts : Array TypeId) => amin_sound (P := P) (ts := ts) (ty := ty) h (hfg X) (hfg Y)
        simpa [execOp, resolve, invoke, builtin] using pure1 (this _)
      · rename_i x y e2
        obtain ⟨hh, rfl⟩ := ofV_ok h; replace h := hh; clear hh
        obtain ⟨X, Y, rfl, rfl, rfl⟩ : ∃ X Y, args = [X, Y] ∧ x = f X ∧ y = f Y := by
          match args, e2 with
          | [X, Y], e2 => simp at e2; exact ⟨X, Y, rfl, e2.1.symm, e2.2.symm⟩
        have := fun (ts : Array TypeId) => amax_sound (P := P) (ts := ts) (ty := ty) h (hfg X) (hfg Y)
        simpa [execOp, resolve, invoke, builtin] using pure1 (this _)
      · rename_i sT xT x y e2
        obtain ⟨X, Y, rfl, rfl, rfl⟩ : ∃ X Y, args = [X, Y] ∧ x = f X ∧ y = f Y := by
          match args, e2 with
          | [X, Y], e2 => simp at e2; exact ⟨X, Y, rfl, e2.1.symm, e2.2.symm⟩
        have := aappend_sound (P := P) (ty := ty) h hC ho (hfg X) (hfg Y)
        simpa [execOp, resolve, invoke, builtin] using eff1 this
      · rename_i dT sT x y e2
        obtain ⟨X, Y, rfl, rfl, rfl⟩ : ∃ X Y, args = [X, Y] ∧ x = f X ∧ y = f Y := by
          match args, e2 with
          | [X, Y], e2 => simp at e2; exact ⟨X, Y, rfl, e2.1.symm, e2.2.symm⟩
        have := acopy_sound (P := P) (sT := sT) (ty := ty) h hC ho (hfg X) (hfg Y)
        simpa [execOp, resolve, invoke, builtin] using eff1 this
      · cases h
    | value f' => simp only [reduceCtorEq] at h
    | invoke r n => simp only [reduceCtorEq] at h
  all_goals (first | cases h | simp only [reduceCtorEq] at h)

end Go.V
