/-
  Words of 32 bits as whole numbers: turned round about, chosen, summed without carry; a number out of its bits. No program in sight.
-/
import Derived.Test.YtjdlgbkpdfaloaaDoorVp
namespace Go.V
set_option linter.unusedVariables false

def rotl (x k : Nat) : Nat := (x * 2 ^ k % 4294967296) ||| (x / 2 ^ (32 - k))

theorem rotl_bit {x k : Nat} (hx : x < 4294967296) (hk : k < 32) (i : Nat) : (rotl x k).testBit i = (decide (i < 32) && x.testBit ((i + (32 - k)) % 32)) := by
  unfold rotl
  rw [show (4294967296 : Nat) = 2 ^ 32 from rfl, Nat.testBit_or, Nat.testBit_mod_two_pow, ← Nat.shiftLeft_eq, ← Nat.shiftRight_eq_div_pow, Nat.testBit_shiftLeft, Nat.testBit_shiftRight]
  by_cases hi : i < 32
  · by_cases hki : k ≤ i
    · have e : (i + (32 - k)) % 32 = i - k := by omega
      have hz : x.testBit (32 - k + i) = false := Nat.testBit_lt_two_pow (Nat.lt_of_lt_of_le hx (by rw [show (4294967296 : Nat) = 2 ^ 32 from rfl]; exact Nat.pow_le_pow_right (by omega) (by omega)))
      simp [hi, hki, e, hz]
    · have e : (i + (32 - k)) % 32 = 32 - k + i := by omega
      simp [hi, hki, e]
  · have hz : x.testBit (32 - k + i) = false := Nat.testBit_lt_two_pow (Nat.lt_of_lt_of_le hx (by rw [show (4294967296 : Nat) = 2 ^ 32 from rfl]; exact Nat.pow_le_pow_right (by omega) (by omega)))
    simp [hi, hz]

theorem lt32_of_bits {x : Nat} (h : ∀ i, 32 ≤ i → x.testBit i = false) : x < 4294967296 := by
  rw [show (4294967296 : Nat) = 2 ^ 32 from rfl]
  exact Nat.lt_pow_two_of_testBit x h

theorem bit_high {x : Nat} (hx : x < 4294967296) {i : Nat} (hi : 32 ≤ i) : x.testBit i = false :=
  Nat.testBit_lt_two_pow (Nat.lt_of_lt_of_le hx (by rw [show (4294967296 : Nat) = 2 ^ 32 from rfl]; exact Nat.pow_le_pow_right (by omega) hi))

theorem rotl_lt {x k : Nat} (hx : x < 4294967296) (hk : k < 32) : rotl x k < 4294967296 :=
  lt32_of_bits fun i hi => by rw [rotl_bit hx hk]; simp [show ¬ i < 32 by omega]

/-- A number out of its bits. -/
def bsum (f : Nat → Bool) : Nat → Nat
  | 0 => 0
  | n + 1 => bsum f n + (f n).toNat * 2 ^ n

theorem bsum_lt (f : Nat → Bool) : ∀ n, bsum f n < 2 ^ n
  | 0 => by simp [bsum]
  | n + 1 => by
    have := bsum_lt f n
    simp only [bsum, Nat.pow_succ]
    have h : (f n).toNat ≤ 1 := by cases f n <;> simp
    have : (f n).toNat * 2 ^ n ≤ 1 * 2 ^ n := Nat.mul_le_mul_right _ h
    omega

theorem bsum_bit (f : Nat → Bool) : ∀ n i, (bsum f n).testBit i = (decide (i < n) && f i)
  | 0, i => by simp [bsum]
  | n + 1, i => by
    have hlt := bsum_lt f n
    have ih := bsum_bit f n i
    simp only [bsum]
    cases hf : f n with
    | false =>
      simp only [Bool.toNat_false, Nat.zero_mul, Nat.add_zero, ih]
      by_cases h : i = n
      · subst h; simp [hf]
      · by_cases h2 : i < n
        · simp [h2, show i < n + 1 by omega]
        · simp [h2, show ¬ i < n + 1 by omega]
    | true =>
      simp only [Bool.toNat_true, Nat.one_mul]
      rw [Nat.add_comm]
      by_cases h : i = n
      · subst h
        rw [Nat.testBit_two_pow_add_eq, ih]
        simp [hf]
      · by_cases h2 : i < n
        · rw [Nat.testBit_two_pow_add_gt h2, ih]
          simp [h2, show i < n + 1 by omega]
        · have : (2 ^ n + bsum f n) < 2 ^ (n + 1) := by rw [Nat.pow_succ]; omega
          rw [Nat.testBit_lt_two_pow (Nat.lt_of_lt_of_le this (Nat.pow_le_pow_right (by omega) (by omega)))]
          simp [show ¬ i < n + 1 by omega]

theorem bsum_eq {f : Nat → Bool} {x : Nat} (hx : x < 4294967296) (h : ∀ i, i < 32 → f i = x.testBit i) : bsum f 32 = x := by
  apply Nat.eq_of_testBit_eq
  intro i
  rw [bsum_bit]
  by_cases hi : i < 32
  · simp [hi, h i hi]
  · rw [bit_high hx (by omega)]
    simp [hi]

/-- Turned to the right by n. -/
def turn (x : Nat) (n : Int) : Nat := rotl x ((-n) % 32).toNat

theorem turn_bit {x : Nat} (hx : x < 4294967296) (n : Int) (i : Nat) : (turn x n).testBit i = (decide (i < 32) && x.testBit (((i : Int) + n) % 32).toNat) := by
  have h0 : (0 : Int) ≤ (-n) % 32 := Int.emod_nonneg _ (by omega)
  have h1 : (-n) % 32 < 32 := Int.emod_lt_of_pos _ (by omega)
  unfold turn
  rw [rotl_bit hx (by omega)]
  congr 2
  omega

theorem turn_lt {x : Nat} (hx : x < 4294967296) (n : Int) : turn x n < 4294967296 :=
  lt32_of_bits fun i hi => by rw [turn_bit hx]; simp [show ¬ i < 32 by omega]

theorem turn_back {x : Nat} (hx : x < 4294967296) (n : Int) : turn (turn x n) (-n) = x := by
  apply Nat.eq_of_testBit_eq
  intro i
  rw [turn_bit (turn_lt hx n), turn_bit hx]
  by_cases hi : i < 32
  · have h0 : (0 : Int) ≤ ((i : Int) + -n) % 32 := Int.emod_nonneg _ (by omega)
    have h1 : ((i : Int) + -n) % 32 < 32 := Int.emod_lt_of_pos _ (by omega)
    have hc : ((((i : Int) + -n) % 32).toNat : Int) = ((i : Int) + -n) % 32 := Int.toNat_of_nonneg h0
    have hlt : (((i : Int) + -n) % 32).toNat < 32 := by omega
    rw [hc]
    have e : (((i : Int) + -n) % 32 + n) % 32 = (i : Int) := by omega
    rw [e]
    simp [hi, hlt]
  · simp [hi, bit_high hx (show 32 ≤ i by omega)]

theorem bit_mod {x : Nat} (i : Nat) : x / 2 ^ i % 2 = (x.testBit i).toNat := (Nat.toNat_testBit x i).symm

def choose (x y z : Nat) : Nat := (x &&& y) ^^^ ((4294967295 ^^^ x) &&& z)
def most (x y z : Nat) : Nat := ((x &&& y) ^^^ (x &&& z)) ^^^ (y &&& z)
def xor3 (x y z : Nat) : Nat := (x ^^^ y) ^^^ z

theorem ones_bit (i : Nat) : (4294967295 : Nat).testBit i = decide (i < 32) := by
  rw [show (4294967295 : Nat) = 2 ^ 32 - 1 from rfl, Nat.testBit_two_pow_sub_one]

theorem choose_bit (x y z i : Nat) (hi : i < 32) : (choose x y z).testBit i = (if x.testBit i then y.testBit i else z.testBit i) := by
  simp only [choose, Nat.testBit_xor, Nat.testBit_and, ones_bit, hi, decide_true]
  cases x.testBit i <;> cases y.testBit i <;> cases z.testBit i <;> rfl
theorem choose_lt {x y z : Nat} (hx : x < 4294967296) (hy : y < 4294967296) (hz : z < 4294967296) : choose x y z < 4294967296 :=
  lt32_of_bits fun i hi => by simp [choose, Nat.testBit_xor, Nat.testBit_and, bit_high hx hi, bit_high hz hi]
theorem most_bit (x y z i : Nat) : (most x y z).testBit i = decide (2 ≤ (x.testBit i).toNat + (y.testBit i).toNat + (z.testBit i).toNat) := by
  simp only [most, Nat.testBit_xor, Nat.testBit_and]
  cases x.testBit i <;> cases y.testBit i <;> cases z.testBit i <;> rfl
theorem most_lt {x y z : Nat} (hx : x < 4294967296) (hy : y < 4294967296) (hz : z < 4294967296) : most x y z < 4294967296 :=
  lt32_of_bits fun i hi => by simp [most, Nat.testBit_xor, Nat.testBit_and, bit_high hx hi, bit_high hy hi]
theorem xor3_bit (x y z i : Nat) : (xor3 x y z).testBit i = decide (((x.testBit i).toNat + (y.testBit i).toNat + (z.testBit i).toNat) % 2 = 1) := by
  simp only [xor3, Nat.testBit_xor]
  cases x.testBit i <;> cases y.testBit i <;> cases z.testBit i <;> rfl
theorem xor3_lt {x y z : Nat} (hx : x < 4294967296) (hy : y < 4294967296) (hz : z < 4294967296) : xor3 x y z < 4294967296 :=
  lt32_of_bits fun i hi => by simp [xor3, Nat.testBit_xor, bit_high hx hi, bit_high hy hi, bit_high hz hi]

/-- The sums of SHA-256. -/
def great (i : Int) (x : Nat) : Nat := if i = 0 then xor3 (turn x 2) (turn x 13) (turn x 22) else if i = 1 then xor3 (turn x 6) (turn x 11) (turn x 25) else 0
def small (i : Int) (x : Nat) : Nat := if i = 0 then xor3 (turn x 7) (turn x 18) (x / 8) else if i = 1 then xor3 (turn x 17) (turn x 19) (x / 1024) else 0
theorem xor3_eq (a b c : Nat) : (a ^^^ b) ^^^ c = xor3 a b c := rfl
theorem small0 (x : Nat) : small 0 x = xor3 (turn x 7) (turn x 18) (x / 8) := if_pos rfl
theorem small1 (x : Nat) : small 1 x = xor3 (turn x 17) (turn x 19) (x / 1024) := (if_neg (by omega)).trans (if_pos rfl)
theorem small2 {i : Int} (x : Nat) (h0 : i ≠ 0) (h1 : i ≠ 1) : small i x = 0 := (if_neg h0).trans (if_neg h1)
theorem great0 (x : Nat) : great 0 x = xor3 (turn x 2) (turn x 13) (turn x 22) := if_pos rfl
theorem great1 (x : Nat) : great 1 x = xor3 (turn x 6) (turn x 11) (turn x 25) := (if_neg (by omega)).trans (if_pos rfl)
theorem great2 {i : Int} (x : Nat) (h0 : i ≠ 0) (h1 : i ≠ 1) : great i x = 0 := (if_neg h0).trans (if_neg h1)
theorem great_lt {i : Int} {x : Nat} (hx : x < 4294967296) : great i x < 4294967296 := by
  unfold great
  split
  · exact xor3_lt (turn_lt hx _) (turn_lt hx _) (turn_lt hx _)
  · split
    · exact xor3_lt (turn_lt hx _) (turn_lt hx _) (turn_lt hx _)
    · omega
theorem small_lt {i : Int} {x : Nat} (hx : x < 4294967296) : small i x < 4294967296 := by
  unfold small
  split
  · exact xor3_lt (turn_lt hx _) (turn_lt hx _) (by omega)
  · split
    · exact xor3_lt (turn_lt hx _) (turn_lt hx _) (by omega)
    · omega

/-- Four bytes as a number. -/
def gw (b : List UInt8) : Nat := (b.getD 0 0).toNat * 16777216 + (b.getD 1 0).toNat * 65536 + (b.getD 2 0).toNat * 256 + (b.getD 3 0).toNat
theorem gw_lt (b : List UInt8) : gw b < 4294967296 := by
  have h0 := (b.getD 0 0).toNat_lt
  have h1 := (b.getD 1 0).toNat_lt
  have h2 := (b.getD 2 0).toNat_lt
  have h3 := (b.getD 3 0).toNat_lt
  unfold gw
  omega

theorem or_disj {a b k : Nat} (hb : b < 2 ^ k) : (a * 2 ^ k) ||| b = a * 2 ^ k + b := by
  rw [Nat.mul_comm]
  exact (Nat.two_pow_add_eq_or_of_lt hb a).symm

theorem gw_or (a b c d : Nat) (ha : a < 256) (hb : b < 256) (hc : c < 256) (hd : d < 256) :
    (((a * 2 ^ 24 ||| b * 2 ^ 16) ||| c * 2 ^ 8) ||| d) = a * 16777216 + b * 65536 + c * 256 + d := by
  rw [show (a * 2 ^ 24 ||| b * 2 ^ 16) = (a * 2 ^ 8 + b) * 2 ^ 16 by rw [or_disj (by omega)]; omega]
  rw [show ((a * 2 ^ 8 + b) * 2 ^ 16 ||| c * 2 ^ 8) = ((a * 2 ^ 8 + b) * 2 ^ 8 + c) * 2 ^ 8 by rw [or_disj (by omega)]; omega]
  rw [or_disj (by omega)]
  omega

theorem or32 {a b : Nat} (ha : a < 4294967296) (hb : b < 4294967296) : a ||| b < 4294967296 := by
  rw [show (4294967296 : Nat) = 2 ^ 32 from rfl] at *
  exact Nat.or_lt_two_pow ha hb

theorem shl_lt {a : Nat} (ha : a < 256) (k : Nat) (hk : k ≤ 24) : a * 2 ^ k < 4294967296 := by
  have h1 : a * 2 ^ k < 2 ^ 8 * 2 ^ k := Nat.mul_lt_mul_of_pos_right ha (Nat.pow_pos (by omega))
  rw [← Nat.pow_add] at h1
  have h2 : (2 : Nat) ^ (8 + k) ≤ 2 ^ 32 := Nat.pow_le_pow_right (by omega) (by omega)
  exact Nat.lt_of_lt_of_le h1 h2

theorem gw_word (a b c d : Nat) (ha : a < 256) (hb : b < 256) (hc : c < 256) (hd : d < 256) :
    (((a % 4294967296 * 2 ^ 24 % 4294967296 ||| b % 4294967296 * 2 ^ 16 % 4294967296) % 4294967296 ||| c % 4294967296 * 2 ^ 8 % 4294967296) % 4294967296 ||| d % 4294967296) % 4294967296 = a * 16777216 + b * 65536 + c * 256 + d := by
  have b0 := shl_lt ha 24 (by omega)
  have b1 := shl_lt hb 16 (by omega)
  have b2 := shl_lt hc 8 (by omega)
  have h1 : (a * 2 ^ 24 ||| b * 2 ^ 16) < 4294967296 := or32 b0 b1
  have h2 : ((a * 2 ^ 24 ||| b * 2 ^ 16) ||| c * 2 ^ 8) < 4294967296 := or32 h1 b2
  have h3 : (((a * 2 ^ 24 ||| b * 2 ^ 16) ||| c * 2 ^ 8) ||| d) < 4294967296 := or32 h2 (Nat.lt_of_lt_of_le hd (by decide))
  rw [Nat.mod_eq_of_lt (Nat.lt_of_lt_of_le ha (by decide)), Nat.mod_eq_of_lt (Nat.lt_of_lt_of_le hb (by decide)), Nat.mod_eq_of_lt (Nat.lt_of_lt_of_le hc (by decide)), Nat.mod_eq_of_lt (Nat.lt_of_lt_of_le hd (by decide))]
  rw [Nat.mod_eq_of_lt b0, Nat.mod_eq_of_lt b1, Nat.mod_eq_of_lt b2, Nat.mod_eq_of_lt h1, Nat.mod_eq_of_lt h2, Nat.mod_eq_of_lt h3]
  exact gw_or a b c d ha hb hc hd

end Go.V
