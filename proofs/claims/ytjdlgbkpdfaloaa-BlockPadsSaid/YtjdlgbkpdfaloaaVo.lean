/-
  VALUE LOGIC, part o: from what a function comes to, to the call in a world.
-/
import Derived.Test.YtjdlgbkpdfaloaaVn
import Derived.Below
namespace Go.V
open Go.RowKit
set_option linter.unusedVariables false

/-- The environment at a call from outside. -/
def Env.start (w : World) (N : Nat) : Env := ⟨w, fun _ => N, 0, fun _ => undef⟩

theorem ObjsRep_nil (w : World) (N : Nat) : ObjsRep (Env.start w N) [] := ⟨rfl, fun r o h => by simp at h, fun r r' o o' g h => by simp at h⟩

theorem law_calls {P : Program} {f : FuncId} {args : List AV} {vs : List Value} (h : ACalls P [] f args [] (fun r os => os = [] ∧ r = .val (.bool true))) (w : World) (N : Nat) (hr : RepL (Env.start w N) args vs) :
    Calls P f vs.toArray w fun e w' => e = .returned (.bool true) ∧ Below w.heap.size w w' := by
  refine (h.2 (Env.start w N) vs hr (ObjsRep_nil w N) (fun g cells hm => by simp at hm)).mono ?_
  rintro e w' ⟨E', v, r, outs', rfl, rfl, ⟨rfl, rfl⟩, hv, ho, hx⟩
  simp only [RepV] at hv
  subst hv
  refine ⟨rfl, hx.os, hx.tape, hx.output, hx.size, fun k hk => (hx.frame k hk ?_).1⟩
  rintro ⟨r, o, h1, _⟩
  simp at h1
end Go.V
