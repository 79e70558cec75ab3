/-
  The cube roots of all primes that are asked for.
-/
import Derived.Test.YtjdlgbkpdfaloaaDoorPq0
import Derived.Test.YtjdlgbkpdfaloaaDoorPq1
import Derived.Test.YtjdlgbkpdfaloaaDoorPq2
import Derived.Test.YtjdlgbkpdfaloaaDoorPq3
import Derived.Test.YtjdlgbkpdfaloaaDoorPq4
import Derived.Test.YtjdlgbkpdfaloaaDoorPq5
import Derived.Test.YtjdlgbkpdfaloaaDoorPq6
import Derived.Test.YtjdlgbkpdfaloaaDoorPq7
namespace Go.V
/-- The same as whole numbers. -/
def roots3I : List Int := roots3.map (fun n : Nat => (n : Int))
theorem roots3_of {k i : Nat} (h : (List.range 8).all (fun i => (rootI (primesL.getD (8 * k + i) 0) 3 38).tmod 4294967296 == (roots3.getD (8 * k + i) 0 : Int)) = true) (h1 : 8 * k ≤ i) (h2 : i < 8 * k + 8) :
    (rootI (primesL.getD i 0) 3 38).tmod 4294967296 = (roots3.getD i 0 : Int) := by
  have := List.all_eq_true.1 h (i - 8 * k) (by simp; omega)
  simp only [beq_iff_eq] at this
  rw [show 8 * k + (i - 8 * k) = i by omega] at this
  exact this
theorem roots3_all (i : Nat) (h : i < 64) : (rootI (primesL.getD i 0) 3 38).tmod 4294967296 = (roots3.getD i 0 : Int) := by
  by_cases h0 : i < 8
  · exact roots3_of (k := 0) roots3_0 (by omega) (by omega)
  by_cases h1 : i < 16
  · exact roots3_of (k := 1) roots3_1 (by omega) (by omega)
  by_cases h2 : i < 24
  · exact roots3_of (k := 2) roots3_2 (by omega) (by omega)
  by_cases h3 : i < 32
  · exact roots3_of (k := 3) roots3_3 (by omega) (by omega)
  by_cases h4 : i < 40
  · exact roots3_of (k := 4) roots3_4 (by omega) (by omega)
  by_cases h5 : i < 48
  · exact roots3_of (k := 5) roots3_5 (by omega) (by omega)
  by_cases h6 : i < 56
  · exact roots3_of (k := 6) roots3_6 (by omega) (by omega)
  exact roots3_of (k := 7) roots3_7 (by omega) (by omega)
theorem roots3_lt : ∀ i, i < 64 → roots3.getD i 0 < 4294967296 := by decide +kernel
end Go.V
