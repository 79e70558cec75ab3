/-
  ROOTS OF PRIMES, RECKONED. No program in sight but its kinds of numbers.
-/
import Derived.Laws.BitsLemmas
namespace Go.V

def w64 (z : Int) : Int := IntKind.i64.wrap z
def digitsI (x : Int) : List Int := [x.tmod 65536, (w64 (x.tdiv 65536)).tmod 65536, w64 ((w64 (x.tdiv 65536)).tdiv 65536)]
def upd1 (out : List Int) (p : Nat) (x y : Int) : List Int := out.set p (w64 (out.getD p 0 + (w64 (x * y)).tmod 65536))
def upd2 (out : List Int) (p : Nat) (x y : Int) : List Int := out.set (p + 1) (w64 (out.getD (p + 1) 0 + w64 ((w64 (x * y)).tdiv 65536)))
def innI (b : List Int) (i : Nat) (x : Int) (out : List Int) : Nat → List Int
  | 0 => out
  | k + 1 => upd2 (upd1 (innI b i x out k) (i + k) x (b.getD k 0)) (i + k) x (b.getD k 0)
def outI (a b : List Int) (out : List Int) : Nat → List Int
  | 0 => out
  | i + 1 => innI b i (a.getD i 0) (outI a b out i) b.length
def car1 (o : List Int) (i : Nat) : List Int := o.set (i + 1) (w64 (o.getD (i + 1) 0 + w64 ((o.getD i 0).tdiv 65536)))
def car2 (o : List Int) (i : Nat) : List Int := o.set i ((o.getD i 0).tmod 65536)
def carI (n : Nat) (out : List Int) : Nat → List Int
  | 0 => out
  | i + 1 => if i + 1 < n then car2 (car1 (carI n out i) i) i else carI n out i
def timesI (a b : List Int) : List Int := carI (a.length + b.length) (outI a b (List.replicate (a.length + b.length) 0) a.length) (a.length + b.length)
def aboveI (a b : List Int) : Nat → Bool
  | 0 => false
  | i + 1 => if a.getD i 0 = b.getD i 0 then aboveI a b i else decide (b.getD i 0 < a.getD i 0)
def isAbove (a b : List Int) : Bool := aboveI a b (a.length + b.length + 1)

theorem innI_length (b : List Int) (i : Nat) (x : Int) (out : List Int) : ∀ k, (innI b i x out k).length = out.length
  | 0 => rfl
  | k + 1 => by simp [innI, upd1, upd2, innI_length b i x out k]
theorem outI_length (a b out : List Int) : ∀ i, (outI a b out i).length = out.length
  | 0 => rfl
  | i + 1 => by simp [outI, innI_length, outI_length a b out i]
theorem carI_length (n : Nat) (out : List Int) : ∀ i, (carI n out i).length = out.length
  | 0 => rfl
  | i + 1 => by unfold carI; split <;> simp [car1, car2, carI_length n out i]
theorem timesI_length (a b : List Int) : (timesI a b).length = a.length + b.length := by simp [timesI, carI_length, outI_length]

/-- What is not to be passed. -/
def mostI (p : Int) (power : Nat) : List Int := List.replicate (2 * power) 0 ++ [p]
def stepI (p : Int) (power : Nat) (r : Int) (bit : Nat) : Int :=
  let t := w64 (r + w64 (1 * 2 ^ bit))
  if t ≥ 137438953472 then r else
    let x := digitsI t
    let y := timesI x x
    let z := if power = 3 then timesI y x else y
    if isAbove z (mostI p power) then r else t
def rootI (p : Int) (power : Nat) : Nat → Int
  | 0 => 0
  | j + 1 => stepI p power (rootI p power j) (37 - j)

def isP (n : Nat) : Bool := (List.range n).all fun d => d < 2 || n % d != 0
def cntP (n : Nat) : Nat := ((List.range n).filter fun m => 2 ≤ m && isP m).length

def primesL : List Nat := [2, 3, 5, 7, 11, 13, 17, 19, 23, 29, 31, 37, 41, 43, 47, 53, 59, 61, 67, 71, 73, 79, 83, 89, 97, 101, 103, 107, 109, 113, 127, 131, 137, 139, 149, 151, 157, 163, 167, 173, 179, 181, 191, 193, 197, 199, 211, 223, 227, 229, 233, 239, 241, 251, 257, 263, 269, 271, 277, 281, 283, 293, 307, 311]

theorem primes_ok : ∀ i, i < 64 → isP (primesL.getD i 0) = true ∧ cntP (primesL.getD i 0) = i ∧ 2 ≤ primesL.getD i 0 ∧ primesL.getD i 0 < 312 := by decide +kernel

def roots3 : List Nat := [
  1116352408, 1899447441, 3049323471, 3921009573, 961987163, 1508970993, 2453635748, 2870763221,
  3624381080, 310598401, 607225278, 1426881987, 1925078388, 2162078206, 2614888103, 3248222580,
  3835390401, 4022224774, 264347078, 604807628, 770255983, 1249150122, 1555081692, 1996064986,
  2554220882, 2821834349, 2952996808, 3210313671, 3336571891, 3584528711, 113926993, 338241895,
  666307205, 773529912, 1294757372, 1396182291, 1695183700, 1986661051, 2177026350, 2456956037,
  2730485921, 2820302411, 3259730800, 3345764771, 3516065817, 3600352804, 4094571909, 275423344,
  430227734, 506948616, 659060556, 883997877, 958139571, 1322822218, 1537002063, 1747873779,
  1955562222, 2024104815, 2227730452, 2361852424, 2428436474, 2756734187, 3204031479, 3329325298]

def noD (x d : Nat) : Bool := (List.range d).all fun e => e < 2 || x % e != 0
theorem noD_succ (x d : Nat) : noD x (d + 1) = (noD x d && (decide (d < 2) || x % d != 0)) := by
  unfold noD
  rw [List.range_succ, List.all_append]
  simp
theorem isP_noD (x : Nat) : isP x = noD x x := rfl

theorem cnt_succ (x : Nat) : cntP (x + 1) = cntP x + (if 2 ≤ x ∧ isP x = true then 1 else 0) := by
  unfold cntP
  rw [List.range_succ, List.filter_append, List.length_append]
  congr 1
  by_cases h : 2 ≤ x ∧ isP x = true
  · rw [if_pos h]; simp [h.1, h.2]
  · rw [if_neg h]
    rw [List.filter_cons_of_neg]
    · rfl
    · simpa using h

theorem cnt_mono {a b : Nat} (h : a ≤ b) : cntP a ≤ cntP b := by
  induction b with
  | zero => have : a = 0 := by omega
            subst this; exact Nat.le_refl _
  | succ b ih =>
    by_cases e : a = b + 1
    · subst e; exact Nat.le_refl _
    · have := ih (by omega)
      rw [cnt_succ]
      omega
theorem cnt2 : cntP 2 = 0 := by decide
end Go.V
