/-
  The square roots of eight primes, reckoned by the kernel.
-/
import Derived.Test.YtjdlgbkpdfaloaaDoorPr
namespace Go.V
def starts : List Nat := [1779033703, 3144134277, 1013904242, 2773480762, 1359893119, 2600822924, 528734635, 1541459225]
def startsI : List Int := starts.map (fun n : Nat => (n : Int))
theorem roots2 : (List.range 8).all (fun i => (rootI (primesL.getD i 0) 2 38).tmod 4294967296 == (starts.getD i 0 : Int)) = true := by decide +kernel
theorem roots2_all (i : Nat) (h : i < 8) : (rootI (primesL.getD i 0) 2 38).tmod 4294967296 = (starts.getD i 0 : Int) := by
  have := List.all_eq_true.1 roots2 i (by simp; omega)
  simpa only [beq_iff_eq] using this
theorem starts_lt : ∀ i, i < 8 → starts.getD i 0 < 4294967296 := by decide
theorem startsI_get : ∀ i, i < 8 → startsI.getD i 0 = (starts.getD i 0 : Int) := by decide
theorem roots3I_get : ∀ i, i < 64 → roots3I.getD i 0 = (roots3.getD i 0 : Int) := by decide +kernel
end Go.V
