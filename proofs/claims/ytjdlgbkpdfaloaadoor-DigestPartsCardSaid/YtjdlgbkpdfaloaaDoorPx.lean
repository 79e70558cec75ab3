/-
  The words of a block, plain: each out of the ones ahead of it. No program in sight.
-/
import Derived.Test.YtjdlgbkpdfaloaaDoorPw
namespace Go.V
set_option linter.unusedVariables false

def wstep (b : List UInt8) (i : Nat) (l : List Nat) : Nat :=
  if i < 16 then gw (b.drop (4 * i)) else (small 1 (l.getD (i - 2) 0) + l.getD (i - 7) 0 + small 0 (l.getD (i - 15) 0) + l.getD (i - 16) 0) % 4294967296
def wlist (b : List UInt8) : Nat → List Nat
  | 0 => []
  | i + 1 => wlist b i ++ [wstep b i (wlist b i)]
/-- The word of a block. -/
def word (b : List UInt8) (i : Nat) : Nat := wstep b i (wlist b i)

theorem wlist_length (b : List UInt8) : ∀ i, (wlist b i).length = i
  | 0 => rfl
  | i + 1 => by simp [wlist, wlist_length b i]
theorem wlist_get (b : List UInt8) : ∀ i j, j < i → (wlist b i).getD j 0 = word b j
  | 0, j, h => by omega
  | i + 1, j, h => by
    have hl := wlist_length b i
    rw [wlist]
    by_cases e : j = i
    · subst e
      rw [List.getD_eq_getElem?_getD, List.getElem?_append_right (by omega)]
      simp [hl, word]
    · rw [List.getD_eq_getElem?_getD, List.getElem?_append_left (by omega), ← List.getD_eq_getElem?_getD]
      exact wlist_get b i j (by omega)
theorem word_lt (b : List UInt8) (i : Nat) : word b i < 4294967296 := by
  unfold word wstep
  split
  · exact gw_lt _
  · exact Nat.mod_lt _ (by omega)
theorem word_small (b : List UInt8) (i : Nat) (h : i < 16) : word b i = gw (b.drop (4 * i)) := if_pos h
theorem word_big (b : List UInt8) (i : Nat) (h : 16 ≤ i) : word b i = (small 1 (word b (i - 2)) + word b (i - 7) + small 0 (word b (i - 15)) + word b (i - 16)) % 4294967296 := by
  have e : word b i = (small 1 ((wlist b i).getD (i - 2) 0) + (wlist b i).getD (i - 7) 0 + small 0 ((wlist b i).getD (i - 15) 0) + (wlist b i).getD (i - 16) 0) % 4294967296 := if_neg (by omega)
  rw [e, wlist_get b i _ (by omega), wlist_get b i _ (by omega), wlist_get b i _ (by omega), wlist_get b i _ (by omega)]

/-- A row of n numbers of which the first i are known. -/
def arr (n : Nat) (W : Nat → Nat) (i : Nat) : List Int := (List.range n).map fun j => if j < i then ((W j : Nat) : Int) else 0
theorem arr_length (n : Nat) (W : Nat → Nat) (i : Nat) : (arr n W i).length = n := by simp [arr]
theorem arr_getD {n : Nat} (W : Nat → Nat) {i j : Nat} (h : j < i) (hn : j < n) : (arr n W i).getD j 0 = ((W j : Nat) : Int) := by
  simp [arr, List.getD_eq_getElem?_getD, hn, h]
theorem arr_set {n : Nat} (W : Nat → Nat) (i : Nat) : (arr n W i).set i ((W i : Nat) : Int) = arr n W (i + 1) := by
  apply List.ext_getElem?
  intro j
  simp only [arr, List.getElem?_set, List.length_map, List.length_range, List.getElem?_map, List.getElem?_range]
  by_cases e : i = j
  · subst e
    by_cases h : i < n
    · simp [h]
    · simp [h]
  · by_cases h : j < n
    · by_cases h2 : j < i
      · simp [e, h, h2, show j < i + 1 by omega]
      · simp [e, h, h2, show ¬ j < i + 1 by omega]
    · simp [e, h]
theorem arr_zero (n : Nat) (W : Nat → Nat) : List.replicate n (0 : Int) = arr n W 0 := by
  apply List.ext_getElem?
  intro j
  simp only [arr, List.getElem?_replicate, List.getElem?_map]
  by_cases h : j < n <;> simp [h]
end Go.V
