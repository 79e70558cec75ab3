/-
  VALUE LOGIC, part o: from what a function comes to, to the call in a world.
-/
import Derived.Test.YtjdlgbkpdfaloaaDoorVn
import Derived.Below
namespace Go.V
open Go.RowKit
set_option linter.unusedVariables false

/-- The environment at a call from outside. -/
def Env.start (w : World) (N : Nat) : Env := ⟨w, fun _ => N, 0, fun _ => undef⟩

theorem ObjsRep_nil (w : World) (N : Nat) : ObjsRep (Env.start w N) [] := ⟨rfl, fun r o h => by simp at h, fun r r' o o' g h => by simp at h⟩

theorem law_calls {P : Program} {f : FuncId} {args : List AV} {vs : List Value} (h : ACalls P [] f args [] (fun r os => os = [] ∧ r = .val (.bool true))) (w : World) (N : Nat) (hr : RepL (Env.start w N) args vs) :
    Calls P f vs.toArray w fun e w' => e = .returned (.bool true) ∧ Below w.heap.size w w' := by
  refine (h.2 (Env.start w N) vs hr (ObjsRep_nil w N) (fun g cells hm => by simp at hm)).mono ?_
  rintro e w' ⟨E', v, r, outs', rfl, rfl, ⟨rfl, rfl⟩, hv, ho, hx⟩
  simp only [RepV] at hv
  subst hv
  refine ⟨rfl, hx.os, hx.tape, hx.output, hx.size, fun k hk => (hx.frame k hk ?_).1⟩
  rintro ⟨r, o, h1, _⟩
  simp at h1

/-- Of a slice's room nothing is known any more. -/
theorem Weak.noperm {G : List (Nat × List AV)} {nt : Nat} {s : List (Nat × AV)} {os : List AObj} (i n : Nat) (cells : List AV) (p : Perm) (h : lk s i = .sl n cells p) : Weak G ⟨nt, s, os⟩ ⟨nt, (i, .sl n cells .no) :: s, os⟩ := fun E a hr => by
  refine ⟨E, rfl, ⟨hr.size, fun j => ?_, hr.defers, hr.objs, hr.glob⟩, .refl _ _⟩
  simp only [lk]
  split
  · rename_i e
    subst e
    have hi := hr.slots i
    simp only at hi
    rw [h] at hi
    simp only [RepV] at hi ⊢
    obtain ⟨A, cap, e1, e2, e3, _⟩ := hi
    exact ⟨A, cap, e1, e2, e3, trivial⟩
  · exact hr.slots j

theorem awp_noperm {P : Program} {G : List (Nat × List AV)} {c : Code} {nt : Nat} {s : List (Nat × AV)} {os : List AObj} {Q : Exit → St → Prop} (i : Nat) {n : Nat} {cells : List AV} {p : Perm} (h : lk s i = .sl n cells p)
    (hq : awp P G c ⟨nt, (i, .sl n cells .no) :: s, os⟩ Q) : awp P G c ⟨nt, s, os⟩ Q := awp_weak (.noperm i n cells p h) hq
end Go.V
