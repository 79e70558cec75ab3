/-
  Signs of 16 digits, and tags out of texts, plain. No program in sight.
-/
import Derived.Test.YtjdlgbkpdfaloaaPt
import Derived.Lib.Bytealg
namespace Go.V
set_option linter.unusedVariables false

def digs : List UInt8 := [48, 49, 50, 51, 52, 53, 54, 55, 56, 57, 97, 98, 99, 100, 101, 102]
/-- A sign's number; -1: it is none. -/
def hexv (c : UInt8) : Int := Lib.indexByte digs c

theorem hexv_dig : ∀ n, n < 16 → hexv (dig n) = (n : Int) := by decide
theorem hexv_all : ∀ n, n < 256 → (hexv (UInt8.ofNat n) = -1 ∧ ∀ k, k < 16 → dig k ≠ UInt8.ofNat n) ∨ ∃ k : Nat, k < 16 ∧ hexv (UInt8.ofNat n) = (k : Int) ∧ dig k = UInt8.ofNat n := by
  have h : ∀ n, n < 256 → ((hexv (UInt8.ofNat n) == -1 && (List.range 16).all (fun k => dig k != UInt8.ofNat n)) || (List.range 16).any (fun k => hexv (UInt8.ofNat n) == (k : Int) && dig k == UInt8.ofNat n)) = true := by decide +kernel
  intro n hn
  have := h n hn
  simp only [Bool.or_eq_true, Bool.and_eq_true, beq_iff_eq, List.all_eq_true, List.any_eq_true, List.mem_range, bne_iff_ne, ne_eq] at this
  rcases this with ⟨a, b⟩ | ⟨k, a, b, c⟩
  · exact .inl ⟨a, b⟩
  · exact .inr ⟨k, a, b, c⟩
theorem hexv_cases (c : UInt8) : (hexv c = -1 ∧ ∀ k, k < 16 → dig k ≠ c) ∨ ∃ k : Nat, k < 16 ∧ hexv c = (k : Int) ∧ dig k = c := by
  have h := hexv_all c.toNat c.toNat_lt
  rwa [show UInt8.ofNat c.toNat = c from by simp] at h
theorem hexv_none {c : UInt8} (h : ∀ k, k < 16 → dig k ≠ c) : hexv c = -1 := by
  rcases hexv_cases c with ⟨h1, _⟩ | ⟨k, h1, _, h3⟩
  · exact h1
  · exact absurd h3 (h k h1)

/-- The j-th byte that a text's digits say. -/
def pb (s : List UInt8) (j : Nat) : UInt8 := UInt8.ofNat ((hexv (s.getD (2 * j) 0)).toNat * 16 + (hexv (s.getD (2 * j + 1) 0)).toNat)
def good (s : List UInt8) (j : Nat) : Prop := 0 ≤ hexv (s.getD (2 * j) 0) ∧ 0 ≤ hexv (s.getD (2 * j + 1) 0)
def goods (s : List UInt8) : Bool := s.length == 64 && (List.range 32).all fun j => decide (0 ≤ hexv (s.getD (2 * j) 0)) && decide (0 ≤ hexv (s.getD (2 * j + 1) 0))
/-- A row of 32 bytes of which the first i are known. -/
def row32 (f : Nat → UInt8) (i : Nat) : List UInt8 := (List.range 32).map fun j => if j < i then f j else 0
def ptag (s : List UInt8) : List UInt8 := if goods s then row32 (pb s) 32 else List.replicate 32 0

theorem goods_iff (s : List UInt8) : goods s = true ↔ s.length = 64 ∧ ∀ j, j < 32 → good s j := by
  simp only [goods, good, Bool.and_eq_true, beq_iff_eq, List.all_eq_true, List.mem_range, decide_eq_true_eq]
theorem row32_length (f : Nat → UInt8) (i : Nat) : (row32 f i).length = 32 := by simp [row32]
theorem row32_zero (f : Nat → UInt8) : List.replicate 32 (0 : UInt8) = row32 f 0 := by
  apply List.ext_getElem?
  intro j
  simp only [row32, List.getElem?_replicate, List.getElem?_map]
  by_cases h : j < 32 <;> simp [h]
theorem row32_put (f : Nat → UInt8) (i : Nat) (h : i < 32) : putAt (row32 f i) i (f i) = row32 f (i + 1) := by
  have hs : putAt (row32 f i) i (f i) = (row32 f i).set i (f i) := by
    rw [List.set_eq_take_append_cons_drop, if_pos (by rw [row32_length]; exact h)]
    rfl
  rw [hs]
  · apply List.ext_getElem?
    intro j
    simp only [row32, List.getElem?_set, List.length_map, List.length_range, List.getElem?_map]
    by_cases e : i = j
    · subst e
      simp [h]
    · by_cases h' : j < 32
      · by_cases h2 : j < i
        · simp [e, h', h2, show j < i + 1 by omega]
        · simp [e, h', h2, show ¬ j < i + 1 by omega]
      · simp [e, h']
theorem ptag_length (s : List UInt8) : (ptag s).length = 32 := by
  unfold ptag
  split
  · exact row32_length _ _
  · rfl

theorem texts_get : ∀ (t : List UInt8) (j : Nat), j < t.length → (texts t).getD (2 * j) 0 = dig ((t.getD j 0).toNat / 16) ∧ (texts t).getD (2 * j + 1) 0 = dig ((t.getD j 0).toNat % 16)
  | [], j, h => by simp at h
  | x :: t, 0, h => by simp [texts]
  | x :: t, j + 1, h => by
    have := texts_get t j (by simpa using h)
    rw [show 2 * (j + 1) = 2 * j + 1 + 1 by omega]
    simpa [texts] using this

theorem ptag_texts (t : List UInt8) (ht : t.length = 32) : goods (texts t) = true ∧ ptag (texts t) = t := by
  have hj : ∀ j, j < 32 → hexv ((texts t).getD (2 * j) 0) = ((t.getD j 0).toNat / 16 : Nat) ∧ hexv ((texts t).getD (2 * j + 1) 0) = ((t.getD j 0).toNat % 16 : Nat) := by
    intro j hj
    have h := texts_get t j (by omega)
    have hx := (t.getD j 0).toNat_lt
    rw [h.1, h.2]
    exact ⟨hexv_dig _ (by omega), hexv_dig _ (by omega)⟩
  have hg : goods (texts t) = true := (goods_iff _).2 ⟨by rw [texts_length]; omega, fun j h => by
    have := hj j h
    unfold good
    rw [this.1, this.2]
    omega⟩
  refine ⟨hg, ?_⟩
  unfold ptag
  rw [if_pos hg]
  apply List.ext_getElem?
  intro j
  simp only [row32, List.getElem?_map]
  by_cases h : j < 32
  · have := hj j h
    simp only [List.getElem?_range h, Option.map_some, if_pos h, pb]
    rw [this.1, this.2]
    simp only [Int.toNat_natCast]
    have e : (t.getD j 0).toNat / 16 * 16 + (t.getD j 0).toNat % 16 = (t.getD j 0).toNat := by omega
    rw [e]
    rw [List.getD_eq_getElem?_getD, List.getElem?_eq_getElem (by omega)]
    simp
  · rw [List.getElem?_eq_none (by simp; omega), List.getElem?_eq_none (by omega)]
    rfl
end Go.V
