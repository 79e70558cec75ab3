/-
  Eight words, and a block, plain: the rounds. No program in sight.
-/
import Derived.Test.YtjdlgbkpdfaloaaDoorPx
namespace Go.V
set_option linter.unusedVariables false

theorem and32 {a b : Nat} (ha : a < 4294967296) : a &&& b < 4294967296 := lt32_of_bits fun i hi => by simp [Nat.testBit_and, bit_high ha hi]
theorem xor32 {a b : Nat} (ha : a < 4294967296) (hb : b < 4294967296) : a ^^^ b < 4294967296 := lt32_of_bits fun i hi => by simp [Nat.testBit_xor, bit_high ha hi, bit_high hb hi]

theorem choose_or {e f g : Nat} (he : e < 4294967296) (hf : f < 4294967296) (hg : g < 4294967296) : ((e &&& f) % 4294967296 ||| ((e ^^^ 4294967295) % 4294967296 &&& g) % 4294967296) % 4294967296 = V.choose e f g := by
  have h1 : e ^^^ 4294967295 < 4294967296 := xor32 he (by omega)
  rw [Nat.mod_eq_of_lt (and32 he), Nat.mod_eq_of_lt h1, Nat.mod_eq_of_lt (and32 h1), Nat.mod_eq_of_lt (or32 (and32 he) (and32 h1))]
  apply Nat.eq_of_testBit_eq
  intro i
  by_cases hi : i < 32
  · rw [choose_bit _ _ _ _ hi]
    simp only [Nat.testBit_or, Nat.testBit_and, Nat.testBit_xor, ones_bit, hi, decide_true]
    cases e.testBit i <;> cases f.testBit i <;> cases g.testBit i <;> rfl
  · rw [bit_high (choose_lt he hf hg) (by omega), bit_high (or32 (and32 he) (and32 h1)) (by omega)]

theorem most_or {a b c : Nat} (ha : a < 4294967296) (hb : b < 4294967296) (hc : c < 4294967296) : (((a &&& b) % 4294967296 ||| (a &&& c) % 4294967296) % 4294967296 ||| (b &&& c) % 4294967296) % 4294967296 = most a b c := by
  rw [Nat.mod_eq_of_lt (and32 ha), Nat.mod_eq_of_lt (and32 ha), Nat.mod_eq_of_lt (and32 hb), Nat.mod_eq_of_lt (or32 (and32 ha) (and32 ha)), Nat.mod_eq_of_lt (or32 (or32 (and32 ha) (and32 ha)) (and32 hb))]
  apply Nat.eq_of_testBit_eq
  intro i
  rw [most_bit]
  simp only [Nat.testBit_or, Nat.testBit_and]
  cases a.testBit i <;> cases b.testBit i <;> cases c.testBit i <;> rfl

theorem xor3_mod {a b c : Nat} (ha : a < 4294967296) (hb : b < 4294967296) (hc : c < 4294967296) : ((a ^^^ b) % 4294967296 ^^^ c) % 4294967296 = xor3 a b c := by
  rw [Nat.mod_eq_of_lt (xor32 ha hb), Nat.mod_eq_of_lt (xor32 (xor32 ha hb) hc)]
  rfl

theorem turn_or {x n : Nat} (h1 : 1 ≤ n) (h2 : n ≤ 31) : (x / 2 ^ n ||| x * 2 ^ (32 - n) % 4294967296) = turn x (n : Int) := by
  have e : ((-(n : Int)) % 32).toNat = 32 - n := by omega
  unfold turn
  rw [e]
  unfold rotl
  rw [show 32 - (32 - n) = n by omega, Nat.or_comm]

/-- One round of the eight words. -/
def rnd (s : List Nat) (k w : Nat) : List Nat :=
  match s with
  | [a, b, c, d, e, f, g, h] => [((h + great 1 e + V.choose e f g + k + w) % 4294967296 + (great 0 a + most a b c) % 4294967296) % 4294967296, a, b, c, (d + (h + great 1 e + V.choose e f g + k + w) % 4294967296) % 4294967296, e, f, g]
  | s => s
def rounds (s : List Nat) (K W : Nat → Nat) : Nat → List Nat
  | 0 => s
  | i + 1 => rnd (rounds s K W i) (K i) (W i)

def words8 (s : List Nat) : Prop := ∃ a b c d e f g h, s = [a, b, c, d, e, f, g, h] ∧ a < 4294967296 ∧ b < 4294967296 ∧ c < 4294967296 ∧ d < 4294967296 ∧ e < 4294967296 ∧ f < 4294967296 ∧ g < 4294967296 ∧ h < 4294967296

theorem rounds_words {s : List Nat} (hs : words8 s) (K W : Nat → Nat) : ∀ i, words8 (rounds s K W i)
  | 0 => hs
  | i + 1 => by
    obtain ⟨a, b, c, d, e, f, g, h, hr, ha, hb, hc, hd, he, hf, hg, hh⟩ := rounds_words hs K W i
    simp only [rounds, hr, rnd]
    exact ⟨_, _, _, _, _, _, _, _, rfl, Nat.mod_lt _ (by omega), ha, hb, hc, Nat.mod_lt _ (by omega), he, hf, hg⟩

/-- The words put to those that came in. -/
def adds (s h : List Nat) : List Nat := List.zipWith (fun a b => (a + b) % 4294967296) s h

/-- Eight words of which the first j are put to. -/
def mix (V A : Nat → Nat) (j : Nat) : List Int := (List.range 8).map fun p => if p < j then ((A p : Nat) : Int) else ((V p : Nat) : Int)
theorem mix_length (V A : Nat → Nat) (j : Nat) : (mix V A j).length = 8 := by simp [mix]
theorem mix_getD (V A : Nat → Nat) {j p : Nat} (hj : j ≤ p) (hp : p < 8) : (mix V A j).getD p 0 = ((V p : Nat) : Int) := by
  simp [mix, List.getD_eq_getElem?_getD, hp, show ¬ p < j by omega]
theorem mix_set (V A : Nat → Nat) (j : Nat) : (mix V A j).set j ((A j : Nat) : Int) = mix V A (j + 1) := by
  apply List.ext_getElem?
  intro p
  simp only [mix, List.getElem?_set, List.length_map, List.length_range, List.getElem?_map]
  by_cases e : j = p
  · subst e
    by_cases h : j < 8
    · simp [h]
    · simp [h]
  · by_cases h : p < 8
    · by_cases h2 : p < j
      · simp [e, h, h2, show p < j + 1 by omega]
      · simp [e, h, h2, show ¬ p < j + 1 by omega]
    · simp [e, h]
theorem mix_zero {l : List Nat} (hl : l.length = 8) (A : Nat → Nat) : l.map (fun n : Nat => (n : Int)) = mix (fun p => l.getD p 0) A 0 := by
  apply List.ext_getElem?
  intro p
  simp only [mix, List.getElem?_map]
  by_cases h : p < 8
  · simp [h, List.getElem?_eq_getElem (show p < l.length by omega)]
  · simp [h, List.getElem?_eq_none (show l.length ≤ p by omega)]
theorem mix_eight {l h : List Nat} (hl : l.length = 8) (hh : h.length = 8) (V : Nat → Nat) : (adds l h).map (fun n : Nat => (n : Int)) = mix V (fun p => (l.getD p 0 + h.getD p 0) % 4294967296) 8 := by
  apply List.ext_getElem?
  intro p
  simp only [mix, adds, List.getElem?_map, List.getElem?_zipWith]
  by_cases hp : p < 8
  · simp [hp, List.getElem?_eq_getElem (show p < l.length by omega), List.getElem?_eq_getElem (show p < h.length by omega)]
  · simp [hp, List.getElem?_eq_none (show l.length ≤ p by omega)]

theorem words8_length {s : List Nat} (h : words8 s) : s.length = 8 := by
  obtain ⟨a, b, c, d, e, f, g, h, rfl, _⟩ := h
  rfl
theorem words8_lt {s : List Nat} (h : words8 s) (p : Nat) : s.getD p 0 < 4294967296 := by
  obtain ⟨a, b, c, d, e, f, g, h, rfl, ha, hb, hc, hd, he, hf, hg, hh⟩ := h
  rcases p with _ | _ | _ | _ | _ | _ | _ | _ | p <;> simp <;> assumption

/-- A round, as both walk it. -/
theorem round_form {s : List Nat} (hs : words8 s) (K W : Nat → Nat) (i : Nat) : ∃ a b c d e f g h, rounds s K W i = [a, b, c, d, e, f, g, h] ∧ (a < 4294967296 ∧ b < 4294967296 ∧ c < 4294967296 ∧ d < 4294967296 ∧ e < 4294967296 ∧ f < 4294967296 ∧ g < 4294967296 ∧ h < 4294967296) ∧
    rounds s K W (i + 1) = [(((((h + great 1 e) % 4294967296 + V.choose e f g) % 4294967296 + K i) % 4294967296 + W i) % 4294967296 + (great 0 a + most a b c) % 4294967296) % 4294967296, a, b, c, (d + ((((h + great 1 e) % 4294967296 + V.choose e f g) % 4294967296 + K i) % 4294967296 + W i) % 4294967296) % 4294967296, e, f, g] := by
  obtain ⟨a, b, c, d, e, f, g, h, hr, ha, hb, hc, hd, he, hf, hg, hh⟩ := rounds_words hs K W i
  refine ⟨a, b, c, d, e, f, g, h, hr, ⟨ha, hb, hc, hd, he, hf, hg, hh⟩, ?_⟩
  simp only [rounds, hr, rnd]
  generalize great 1 e = g1
  generalize V.choose e f g = ch
  generalize great 0 a = g0
  generalize most a b c = mo
  have e1 : ((((h + g1) % 4294967296 + ch) % 4294967296 + K i) % 4294967296 + W i) % 4294967296 = (h + g1 + ch + K i + W i) % 4294967296 := by omega
  rw [e1]
end Go.V
