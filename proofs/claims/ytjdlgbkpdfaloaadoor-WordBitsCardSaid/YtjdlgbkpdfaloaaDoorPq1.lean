/-
  The cube roots of eight primes, reckoned by the kernel.
-/
import Derived.Test.YtjdlgbkpdfaloaaDoorPp
namespace Go.V
theorem roots3_1 : (List.range 8).all (fun i => (rootI (primesL.getD (8 + i) 0) 3 38).tmod 4294967296 == (roots3.getD (8 + i) 0 : Int)) = true := by decide +kernel
end Go.V
