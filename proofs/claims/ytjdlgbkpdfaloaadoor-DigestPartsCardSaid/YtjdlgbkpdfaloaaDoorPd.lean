/-
  What is written to a digest, plain: byte by byte, and block by block. No program in sight.
-/
import Derived.Test.YtjdlgbkpdfaloaaDoorPc
namespace Go.V
set_option linter.unusedVariables false

/-- A digest: eight words, the bytes that wait, how many were written. -/
structure DS where
  h : List Nat
  rest : List UInt8
  many : Nat

section
variable (C : List Nat → List UInt8 → List Nat)

/-- One byte more. -/
def dstep (s : DS) (c : UInt8) : DS :=
  ⟨if s.many % 64 = 63 then C s.h (s.rest.set (s.many % 64) c) else s.h, s.rest.set (s.many % 64) c, s.many + 1⟩
def runs (s : DS) (l : List UInt8) : DS := l.foldl (dstep C) s

theorem runs_nil (s : DS) : runs C s [] = s := rfl
theorem runs_append (s : DS) (a b : List UInt8) : runs C s (a ++ b) = runs C (runs C s a) b := List.foldl_append
theorem runs_many (s : DS) (l : List UInt8) : (runs C s l).many = s.many + l.length := by
  induction l generalizing s with
  | nil => rfl
  | cons c l ih => rw [show runs C s (c :: l) = runs C (dstep C s c) l from rfl, ih]; simp only [dstep, List.length_cons]; omega

/-- A digest as it should be. -/
def DOk (s : DS) : Prop := words8 s.h ∧ s.rest.length = 64

variable {C}
theorem dstep_ok (hC : ∀ h b, words8 h → b.length = 64 → words8 (C h b)) {s : DS} (hs : DOk s) (c : UInt8) : DOk (dstep C s c) := by
  refine ⟨?_, by simp [dstep, hs.2]⟩
  simp only [dstep]
  split
  · exact hC _ _ hs.1 (by simp [hs.2])
  · exact hs.1
theorem runs_ok (hC : ∀ h b, words8 h → b.length = 64 → words8 (C h b)) {s : DS} (hs : DOk s) (l : List UInt8) : DOk (runs C s l) := by
  induction l generalizing s with
  | nil => exact hs
  | cons c l ih => exact ih (dstep_ok hC hs c)

theorem set_chunk {r b : List UInt8} {at' : Nat} (c : UInt8) (h : at' < r.length) : (r.set at' c).take (at' + 1) ++ b ++ (r.set at' c).drop (at' + 1 + b.length) = r.take at' ++ (c :: b) ++ r.drop (at' + (c :: b).length) := by
  have h1 : (r.set at' c).take (at' + 1) = r.take at' ++ [c] := by
    rw [List.take_add_one, List.take_set_of_le (Nat.le_refl _)]
    simp [h]
  have h2 : (r.set at' c).drop (at' + 1 + b.length) = r.drop (at' + (c :: b).length) := by
    rw [List.drop_set_of_lt (by omega)]
    congr 1
    simp only [List.length_cons]
    omega
  rw [h1, h2]
  simp

/-- Bytes that find room, at one blow. -/
theorem runs_chunk (b : List UInt8) : ∀ (s : DS), s.rest.length = 64 → s.many % 64 + b.length ≤ 64 → 0 < b.length →
    runs C s b = ⟨if s.many % 64 + b.length = 64 then C s.h (s.rest.take (s.many % 64) ++ b ++ s.rest.drop (s.many % 64 + b.length)) else s.h, s.rest.take (s.many % 64) ++ b ++ s.rest.drop (s.many % 64 + b.length), s.many + b.length⟩ := by
  induction b with
  | nil => intro s _ _ h; simp at h
  | cons c b ih =>
    intro s hr hle _
    have hat : s.many % 64 < 64 := Nat.mod_lt _ (by omega)
    rw [show runs C s (c :: b) = runs C (dstep C s c) b from rfl]
    by_cases hb : b.length = 0
    · have hb' : b = [] := List.length_eq_zero_iff.1 hb
      subst hb'
      rw [runs_nil]
      have hch := set_chunk (r := s.rest) (b := []) c (by omega : s.many % 64 < s.rest.length)
      have hch' : s.rest.set (s.many % 64) c = s.rest.take (s.many % 64) ++ [c] ++ s.rest.drop (s.many % 64 + [c].length) := by
        rw [← hch]
        simp
      simp only [dstep]
      rw [hch']
      congr 1
      have : (s.many % 64 = 63) = (s.many % 64 + [c].length = 64) := by simp
      simp only [this]
    · simp only [List.length_cons] at hle
      have hne : ¬ s.many % 64 = 63 := by omega
      have e : dstep C s c = ⟨s.h, s.rest.set (s.many % 64) c, s.many + 1⟩ := by simp only [dstep, hne, if_false]
      have hm : (s.many + 1) % 64 = s.many % 64 + 1 := by omega
      rw [e, ih _ (by simp [hr]) (by simp only; omega) (by omega)]
      simp only [hm]
      rw [set_chunk c (by omega)]
      have e2 : s.many % 64 + 1 + b.length = s.many % 64 + (c :: b).length := by simp only [List.length_cons]; omega
      have e3 : s.many + 1 + b.length = s.many + (c :: b).length := by simp only [List.length_cons]; omega
      rw [e2, e3]

/-- The words behind so many blocks. -/
def blocks (C : List Nat → List UInt8 → List Nat) (h : List Nat) (l : List UInt8) : Nat → List Nat
  | 0 => h
  | i + 1 => C (blocks C h l i) ((l.drop (64 * i)).take 64)

theorem blocks_append (h : List Nat) (l m : List UInt8) : ∀ n, 64 * n ≤ l.length → blocks C h (l ++ m) n = blocks C h l n
  | 0, _ => rfl
  | n + 1, hn => by
    simp only [blocks]
    rw [blocks_append h l m n (by omega)]
    congr 1
    rw [List.drop_append_of_le_length (by omega), List.take_append_of_le_length (by rw [List.length_drop]; omega)]

theorem snoc_ind {α : Type} {p : List α → Prop} (h0 : p []) (h1 : ∀ l c, p l → p (l ++ [c])) (l : List α) : p l := by
  have key : ∀ n (l : List α), l.length = n → p l := by
    intro n
    induction n with
    | zero => intro l hl; rw [List.length_eq_zero_iff.1 hl]; exact h0
    | succ n ih =>
      intro l hl
      have hne : l ≠ [] := by intro e; subst e; simp at hl
      rw [← List.dropLast_concat_getLast hne]
      exact h1 _ _ (ih _ (by simp [hl]))
  exact key _ l rfl

/-- From the start: the words are those of the blocks that are full, what waits is what is left. -/
theorem runs_blocks (h : List Nat) (r : List UInt8) (hr : r.length = 64) (l : List UInt8) : (runs C ⟨h, r, 0⟩ l).h = blocks C h l (l.length / 64) ∧ (runs C ⟨h, r, 0⟩ l).rest.length = 64 ∧ (runs C ⟨h, r, 0⟩ l).rest.take (l.length % 64) = l.drop (64 * (l.length / 64)) := by
  induction l using snoc_ind with
  | h0 => exact ⟨rfl, hr, rfl⟩
  | h1 l c ih =>
    obtain ⟨i1, i2, i3⟩ := ih
    have hm : (runs C ⟨h, r, 0⟩ l).many = l.length := by rw [runs_many]; simp
    rw [runs_append]
    generalize runs C ⟨h, r, 0⟩ l = s at i1 i2 i3 hm
    have e : runs C s [c] = dstep C s c := rfl
    rw [e]
    have hl : (l ++ [c]).length = l.length + 1 := by simp
    rw [hl]
    have hlt : l.length % 64 < 64 := Nat.mod_lt _ (by omega)
    have htk : (s.rest.set (l.length % 64) c).take (l.length % 64 + 1) = l.drop (64 * (l.length / 64)) ++ [c] := by
      rw [List.take_add_one, List.take_set_of_le (Nat.le_refl _), i3]
      simp [i2, hlt]
    have hdl : 64 * (l.length / 64) ≤ l.length := by omega
    simp only [dstep, hm]
    refine ⟨?_, by simp [i2], ?_⟩
    · by_cases h63 : l.length % 64 = 63
      · rw [if_pos h63, i1]
        have hd : (l.length + 1) / 64 = l.length / 64 + 1 := by omega
        rw [hd]
        simp only [blocks]
        rw [blocks_append h l [c] _ hdl]
        congr 1
        rw [List.drop_append_of_le_length hdl, ← htk, h63, List.take_take, Nat.min_eq_left (Nat.le_refl _), List.take_of_length_le (by simp [i2])]
      · rw [if_neg h63, i1]
        have hd : (l.length + 1) / 64 = l.length / 64 := by omega
        rw [hd, blocks_append h l [c] _ hdl]
    · by_cases h63 : l.length % 64 = 63
      · have hd : (l.length + 1) / 64 = l.length / 64 + 1 := by omega
        have hmz : (l.length + 1) % 64 = 0 := by omega
        rw [hmz, hd, List.take_zero, List.drop_eq_nil_of_le (by simp; omega)]
      · have hd : (l.length + 1) / 64 = l.length / 64 := by omega
        have hmz : (l.length + 1) % 64 = l.length % 64 + 1 := by omega
        rw [hmz, hd, htk, List.drop_append_of_le_length hdl]
end
end Go.V
