/-
  Fields, plain: their bytes, and back. No program in sight.
-/
import Derived.Test.YtjdlgbkpdfaloaaVw
import Derived.Test.YtjdlgbkpdfaloaaPv
namespace Go.V
set_option linter.unusedVariables false

/-- A field's bytes; all fields' bytes. -/
def fby (f : FieldV) : List UInt8 := f.1 :: (vb f.2.length ++ f.2)
def join (l : List FieldV) : List UInt8 := l.flatMap fby
/-- What 'great' counts. -/
def bulk (l : List FieldV) : Nat := (l.map fun f => f.2.length + 1).sum

/-- The field with which bytes begin, and how many these are. -/
def getF (b : List UInt8) : Option (FieldV × Nat) :=
  if b.length = 0 ∨ (G (b.drop 1)).2 = 0 ∨ b.length - 1 - (G (b.drop 1)).2 < (G (b.drop 1)).1 then none
  else some ((b.getD 0 0, (b.drop (1 + (G (b.drop 1)).2)).take (G (b.drop 1)).1), 1 + (G (b.drop 1)).2 + (G (b.drop 1)).1)
def allF : Nat → List UInt8 → Option (List FieldV)
  | 0, b => if b.length = 0 then some [] else none
  | n + 1, b => if b.length = 0 then some [] else match getF b with
    | none => none
    | some (f, k) => (allF n (b.drop k)).map (f :: ·)
/-- All fields. -/
def allOf (b : List UInt8) : Option (List FieldV) := allF b.length b

theorem join_nil : join [] = [] := rfl
theorem join_cons (f : FieldV) (l : List FieldV) : join (f :: l) = fby f ++ join l := rfl
theorem join_append (a b : List FieldV) : join (a ++ b) = join a ++ join b := by simp [join]
theorem bulk_nil : bulk [] = 0 := rfl
theorem bulk_cons (f : FieldV) (l : List FieldV) : bulk (f :: l) = f.2.length + 1 + bulk l := by simp [bulk]
theorem bulk_append (a b : List FieldV) : bulk (a ++ b) = bulk a + bulk b := by simp [bulk]
theorem bulk_mem {f : FieldV} {l : List FieldV} (h : f ∈ l) : f.2.length + 1 ≤ bulk l := by
  induction l with
  | nil => cases h
  | cons x l ih =>
    rw [bulk_cons]
    cases List.mem_cons.1 h with
    | inl e => subst e; omega
    | inr e => have := ih e; omega
theorem length_bulk (l : List FieldV) : l.length ≤ bulk l := by
  induction l with
  | nil => simp [bulk]
  | cons f l ih => rw [bulk_cons, List.length_cons]; omega
theorem bulk_take_le (l : List FieldV) (i : Nat) : bulk (l.take i) ≤ bulk l := by
  conv => rhs; rw [← List.take_append_drop i l, bulk_append]
  omega

theorem G_le (b : List UInt8) : (G b).2 ≤ b.length ∧ (G b).1 < 18446744073709551616 := by
  rcases G_cases b with ⟨h, _⟩ | ⟨n, hn, hp, h⟩
  · rw [h]; exact ⟨Nat.zero_le _, by omega⟩
  · rw [h]; exact ⟨hp.length_le, hn⟩
theorem getF_size {b : List UInt8} {f : FieldV} {k : Nat} (h : getF b = some (f, k)) : 2 ≤ k ∧ k ≤ b.length := by
  unfold getF at h
  split at h
  · cases h
  · rename_i hn
    injection h with h
    injection h with _ h
    have hg := (G_le (b.drop 1)).1
    rw [List.length_drop] at hg
    omega
theorem allF_enough : ∀ (n : Nat) (b : List UInt8), b.length ≤ n → allF n b = allOf b := by
  have key : ∀ (m n : Nat) (b : List UInt8), b.length ≤ m → b.length ≤ n → allF m b = allF n b := by
    intro m
    induction m with
    | zero =>
      intro n b hm hn
      have h0 : b.length = 0 := by omega
      cases n <;> simp [allF, h0]
    | succ m ih =>
      intro n b hm hn
      by_cases h0 : b.length = 0
      · cases n <;> simp [allF, h0]
      · cases n with
        | zero => omega
        | succ n =>
          simp only [allF, h0, if_false]
          cases hg : getF b with
          | none => rfl
          | some x =>
            obtain ⟨f, k⟩ := x
            have := getF_size hg
            simp only
            rw [ih n (b.drop k) (by rw [List.length_drop]; omega) (by rw [List.length_drop]; omega)]
  exact fun n b h => key n b.length b h (Nat.le_refl _)
theorem allOf_nil {b : List UInt8} (h : b.length = 0) : allOf b = some [] := by
  unfold allOf
  rw [h]
  simp [allF, h]
theorem allOf_none {b : List UInt8} (h : b.length ≠ 0) (hg : getF b = none) : allOf b = none := by
  unfold allOf
  cases hb : b.length with
  | zero => exact absurd hb h
  | succ n => simp only [allF, h, if_false, hg]
theorem allOf_some {b : List UInt8} {f : FieldV} {k : Nat} (hg : getF b = some (f, k)) : allOf b = (allOf (b.drop k)).map (f :: ·) := by
  have hk := getF_size hg
  unfold allOf
  cases hb : b.length with
  | zero => omega
  | succ n =>
    have h0 : ¬ b.length = 0 := by omega
    simp only [allF, h0, if_false, hg]
    rw [allF_enough n (b.drop k) (by rw [List.length_drop]; omega)]
    rfl
end Go.V
