/-
  Fields, plain: they come back from their bytes; what is read is written as it was.
-/
import Derived.Test.YtjdlgbkpdfaloaaPf
namespace Go.V
set_option linter.unusedVariables false

theorem getF_fby (f : FieldV) (r : List UInt8) (h : f.2.length < 18446744073709551616) : getF (fby f ++ r) = some (f, (fby f).length) := by
  obtain ⟨k, v⟩ := f
  simp only at h
  have e0 : fby (k, v) ++ r = k :: (vb v.length ++ (v ++ r)) := by simp [fby]
  have hg : G ((fby (k, v) ++ r).drop 1) = (v.length, (vb v.length).length) := by
    rw [e0, List.drop_succ_cons, List.drop_zero]
    exact G_vb _ h
  have hl : (fby (k, v) ++ r).length = 1 + (vb v.length).length + v.length + r.length := by rw [e0]; simp; omega
  have hp := List.length_pos_iff.2 (vb_ne v.length)
  unfold getF
  rw [hg]
  simp only
  rw [hl, if_neg (by omega)]
  have h1 : (fby (k, v) ++ r).getD 0 0 = k := by rw [e0]; rfl
  have h2 : (fby (k, v) ++ r).drop (1 + (vb v.length).length) = v ++ r := by
    rw [e0, Nat.add_comm, List.drop_succ_cons, List.drop_left]
  rw [h1, h2, List.take_left]
  have h3 : 1 + (vb v.length).length + v.length = (fby (k, v)).length := by simp [fby]; omega
  rw [h3]

theorem allOf_join : ∀ l : List FieldV, bulk l < 18446744073709551616 → allOf (join l) = some l
  | [], _ => allOf_nil rfl
  | f :: l, h => by
    rw [bulk_cons] at h
    rw [join_cons, allOf_some (getF_fby f (join l) (by omega)), List.drop_left, allOf_join l (by omega)]
    rfl

theorem fby_getF {b : List UInt8} {f : FieldV} {k : Nat} (hg : getF b = some (f, k)) : fby f = b.take k := by
  unfold getF at hg
  split at hg
  · cases hg
  · rename_i hn
    injection hg with hg
    injection hg with h1 h2
    rcases G_cases (b.drop 1) with ⟨h, _⟩ | ⟨n, hn64, hp, h⟩
    · rw [h] at hn; simp at hn
    · rw [h] at h1 h2 hn
      simp only at h1 h2 hn
      obtain ⟨t, ht⟩ := hp
      cases b with
      | nil => simp at hn
      | cons c r =>
        simp only [List.drop_succ_cons, List.drop_zero, List.length_cons] at ht hn h1 h2
        have hr : r.length = (vb n).length + t.length := by rw [← ht, List.length_append]
        have hd : (c :: r).drop (1 + (vb n).length) = t := by rw [Nat.add_comm, List.drop_succ_cons, ← ht, List.drop_left]
        rw [hd] at h1
        have htl : (t.take n).length = n := by rw [List.length_take]; omega
        subst h1 h2
        simp only [fby, htl]
        rw [show 1 + (vb n).length + n = ((vb n).length + n) + 1 by omega, List.take_succ_cons, ← ht, List.take_append, List.take_of_length_le (by omega : (vb n).length ≤ (vb n).length + n), Nat.add_sub_cancel_left]
        rfl

theorem join_allF : ∀ (n : Nat) (b : List UInt8) (l : List FieldV), allF n b = some l → join l = b
  | 0, b, l, h => by
    simp only [allF] at h
    split at h
    · rename_i h0
      injection h with h; subst h
      rw [List.length_eq_zero_iff.1 h0]; rfl
    · cases h
  | n + 1, b, l, h => by
    simp only [allF] at h
    split at h
    · rename_i h0
      injection h with h; subst h
      rw [List.length_eq_zero_iff.1 h0]; rfl
    · split at h
      · cases h
      · rename_i f k hg
        cases ha : allF n (b.drop k) with
        | none => rw [ha] at h; cases h
        | some l' =>
          rw [ha] at h
          injection h with h
          subst h
          rw [join_cons, join_allF n _ _ ha, fby_getF hg, List.take_append_drop]
theorem join_allOf {b : List UInt8} {l : List FieldV} (h : allOf b = some l) : join l = b := join_allF _ _ _ h
theorem bulk_join (l : List FieldV) : bulk l ≤ (join l).length := by
  induction l with
  | nil => exact Nat.le_refl _
  | cons f l ih =>
    rw [bulk_cons, join_cons, List.length_append]
    have : (fby f).length = f.2.length + (vb f.2.length).length + 1 := by simp [fby]; omega
    omega
end Go.V
