/-
  The cube roots of eight primes, reckoned by the kernel.
-/
import Derived.Test.YtjdlgbkpdfaloaaDoorPp
namespace Go.V
theorem roots3_5 : (List.range 8).all (fun i => (rootI (primesL.getD (40 + i) 0) 3 38).tmod 4294967296 == (roots3.getD (40 + i) 0 : Int)) = true := by decide +kernel
end Go.V
