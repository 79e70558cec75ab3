/-
  The table's words as whole numbers. No program in sight.
-/
import Derived.Test.YtjdlgbkpdfaloaaDoorPp
namespace Go.V
def tabW : List Int := roots3.map (fun n : Nat => (n : Int))
theorem tabW_get : ∀ i, i < 64 → tabW.getD i 0 = (roots3.getD i 0 : Int) := by decide +kernel
end Go.V
