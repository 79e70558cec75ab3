/-
  PLAIN LAWS OF NUMBERS IN GROUPS OF SEVEN BITS. No program in sight.
-/
import Derived.Laws.BitsLemmas
namespace Go.V

/-- A number's bytes. -/
def vb (n : Nat) : List UInt8 := if h : n < 128 then [UInt8.ofNat n] else UInt8.ofNat (n % 128 + 128) :: vb (n / 128)
termination_by n
decreasing_by omega

theorem vb_small {n : Nat} (h : n < 128) : vb n = [UInt8.ofNat n] := by rw [vb]; simp [h]
theorem vb_more {n : Nat} (h : 128 ≤ n) : vb n = UInt8.ofNat (n % 128 + 128) :: vb (n / 128) := by rw [vb]; simp [show ¬ n < 128 by omega]
theorem vb_ne (n : Nat) : vb n ≠ [] := by
  rw [vb]; split <;> simp

/-- The number that bytes stand for. -/
def val : List UInt8 → Nat
  | [] => 0
  | c :: r => c.toNat % 128 + 128 * val r

theorem toNat_of {a : Nat} (h : a < 256) : (UInt8.ofNat a).toNat = a := by simp; omega

theorem val_vb (n : Nat) : val (vb n) = n := by
  induction n using Nat.strongRecOn with
  | _ n ih =>
    by_cases h : n < 128
    · rw [vb_small h]
      simp only [val]
      rw [toNat_of (by omega)]
      omega
    · rw [vb_more (by omega)]
      simp only [val]
      rw [toNat_of (by omega), ih (n / 128) (by omega)]
      omega

theorem vb_pre {m n : Nat} (h : vb m <+: vb n) : m = n := by
  induction m using Nat.strongRecOn generalizing n with
  | _ m ih =>
    by_cases hm : m < 128
    · rw [vb_small hm] at h
      by_cases hn : n < 128
      · rw [vb_small hn] at h
        have := List.prefix_iff_eq_take.1 h
        simp at this
        have h2 := congrArg UInt8.toNat this
        rw [toNat_of (by omega), toNat_of (by omega)] at h2
        exact h2
      · rw [vb_more (by omega)] at h
        obtain ⟨t, ht⟩ := h
        have h2 := congrArg UInt8.toNat (List.cons.inj ht).1
        rw [toNat_of (by omega), toNat_of (by omega)] at h2
        omega
    · rw [vb_more (by omega : 128 ≤ m)] at h
      by_cases hn : n < 128
      · rw [vb_small hn] at h
        obtain ⟨t, ht⟩ := h
        simp at ht
        exact absurd ht.2.1 (vb_ne _)
      · rw [vb_more (by omega : 128 ≤ n)] at h
        have h1 := List.cons_prefix_cons.1 h
        have h2 := congrArg UInt8.toNat h1.1
        rw [toNat_of (by omega), toNat_of (by omega)] at h2
        have := ih (m / 128) (by omega) h1.2
        omega

theorem vb_pre2 {m n : Nat} {l : List UInt8} (h : vb m <+: l) (h' : vb n <+: l) : m = n := by
  rcases List.prefix_or_prefix_of_prefix h h' with h | h
  · exact vb_pre h
  · exact (vb_pre h).symm

theorem vb_len (n k : Nat) : (vb n).length ≤ k + 1 ↔ n < 128 ^ (k + 1) := by
  induction n using Nat.strongRecOn generalizing k with
  | _ n ih =>
    by_cases h : n < 128
    · rw [vb_small h]
      have : 128 ≤ 128 ^ (k + 1) := by rw [Nat.pow_succ]; have := Nat.pow_pos (n := k) (show 0 < 128 by omega); omega
      simp
      omega
    · rw [vb_more (by omega)]
      cases k with
      | zero =>
        simp only [List.length_cons, Nat.zero_add, Nat.pow_one]
        have := List.length_pos_iff.2 (vb_ne (n / 128))
        omega
      | succ k =>
        simp only [List.length_cons]
        have := ih (n / 128) (by omega) k
        rw [show (vb (n / 128)).length + 1 ≤ k + 1 + 1 ↔ (vb (n / 128)).length ≤ k + 1 by omega, this, Nat.pow_succ 128 (k + 1)]
        omega

theorem vb_len10 {n : Nat} (h : n < 18446744073709551616) : (vb n).length ≤ 10 := (vb_len n 9).2 (by omega)

/-- All but the last are 128 or more, the last one is less. -/
theorem vb_form (n : Nat) : ∃ p c, vb n = p ++ [c] ∧ (∀ x ∈ p, 128 ≤ x.toNat) ∧ c.toNat < 128 := by
  induction n using Nat.strongRecOn with
  | _ n ih =>
    by_cases h : n < 128
    · exact ⟨[], _, vb_small h, by simp, by rw [toNat_of (by omega)]; exact h⟩
    · obtain ⟨p, c, h1, h2, h3⟩ := ih (n / 128) (by omega)
      refine ⟨UInt8.ofNat (n % 128 + 128) :: p, c, by rw [vb_more (by omega), h1]; rfl, ?_, h3⟩
      intro x hx
      rcases List.mem_cons.1 hx with rfl | hx
      · rw [toNat_of (by omega)]; omega
      · exact h2 x hx

/-- The number with which bytes begin, from the byte of number i on. -/
def vg : Nat → List UInt8 → Option (Nat × Nat)
  | _, [] => none
  | i, c :: r =>
    if 10 ≤ i then none
    else if i = 9 ∧ 1 < c.toNat then none
    else if c.toNat < 128 then (if 0 < i ∧ c.toNat = 0 then none else some (c.toNat, 1))
    else (vg (i + 1) r).map fun x => (c.toNat % 128 + 128 * x.1, x.2 + 1)

theorem vg_some : ∀ (l : List UInt8) (i v s : Nat), vg i l = some (v, s) → i ≤ 9 ∧ v < 2 ^ (64 - 7 * i) ∧ vb v <+: l ∧ s = (vb v).length ∧ (0 < i → 0 < v)
  | [], i, v, s, h => by simp [vg] at h
  | c :: r, i, v, s, h => by
    unfold vg at h
    split at h
    · cases h
    · rename_i hi
      split at h
      · cases h
      · rename_i h9
        split at h
        · rename_i hc
          split at h
          · cases h
          · rename_i h0
            simp only [Option.some.injEq, Prod.mk.injEq] at h
            obtain ⟨rfl, rfl⟩ := h
            refine ⟨by omega, ?_, ?_, by rw [vb_small hc]; rfl, by omega⟩
            · by_cases e : i = 9
              · subst e; simp; omega
              · have : 2 ^ (64 - 7 * 8) ≤ 2 ^ (64 - 7 * i) := Nat.pow_le_pow_right (by omega) (by omega)
                omega
            · rw [vb_small hc]
              simp
        · rename_i hc
          cases hr : vg (i + 1) r with
          | none => rw [hr] at h; cases h
          | some x =>
            obtain ⟨v', s'⟩ := x
            rw [hr] at h
            simp only [Option.map_some, Option.some.injEq, Prod.mk.injEq] at h
            obtain ⟨rfl, rfl⟩ := h
            obtain ⟨h1, h2, h3, h4, h5⟩ := vg_some r (i + 1) v' s' hr
            have hv := h5 (by omega)
            have hlt : c.toNat < 256 := c.toNat_lt
            have hm : (c.toNat % 128 + 128 * v') / 128 = v' := by omega
            have hm2 : (c.toNat % 128 + 128 * v') % 128 = c.toNat % 128 := by omega
            have hvb : vb (c.toNat % 128 + 128 * v') = c :: vb v' := by
              rw [vb_more (by omega), hm, hm2]
              congr 1
              apply UInt8.toNat_inj.1
              rw [toNat_of (by omega)]
              omega
            refine ⟨by omega, ?_, ?_, ?_, by omega⟩
            · have : 2 ^ (64 - 7 * i) = 128 * 2 ^ (64 - 7 * (i + 1)) := by
                rw [show 64 - 7 * i = (64 - 7 * (i + 1)) + 7 by omega, Nat.pow_add]
                omega
              omega
            · rw [hvb]
              exact (List.cons_prefix_cons).2 ⟨rfl, h3⟩
            · rw [hvb, h4]; rfl

theorem vg_vb : ∀ (n i : Nat) (b : List UInt8), i ≤ 9 → n < 2 ^ (64 - 7 * i) → (0 < i → 0 < n) → vg i (vb n ++ b) = some (n, (vb n).length) := by
  intro n
  induction n using Nat.strongRecOn with
  | _ n ih =>
    intro i b hi hn hp
    by_cases h : n < 128
    · rw [vb_small h]
      simp only [List.cons_append, List.nil_append, vg]
      rw [if_neg (by omega), toNat_of (by omega), if_neg, if_pos h, if_neg (by omega)]
      · rfl
      · rintro ⟨rfl, h1⟩
        simp at hn
        omega
    · have h9 : i ≠ 9 := by
        rintro rfl
        simp at hn
        omega
      rw [vb_more (by omega)]
      simp only [List.cons_append, vg]
      rw [if_neg (by omega), if_neg (by omega), toNat_of (by omega), if_neg (by omega)]
      have : 2 ^ (64 - 7 * i) = 128 * 2 ^ (64 - 7 * (i + 1)) := by
        rw [show 64 - 7 * i = (64 - 7 * (i + 1)) + 7 by omega, Nat.pow_add]
        omega
      rw [ih (n / 128) (by omega) (i + 1) b (by omega) (by omega) (by omega)]
      simp only [Option.map_some, List.length_cons, Option.some.injEq, Prod.mk.injEq, and_true]
      omega

/-- What is answered of any bytes. -/
def G (b : List UInt8) : Nat × Nat := (vg 0 b).getD (0, 0)

theorem G_vb {n : Nat} (b : List UInt8) (h : n < 18446744073709551616) : G (vb n ++ b) = (n, (vb n).length) := by
  unfold G
  rw [vg_vb n 0 b (by omega) (by simpa using h) (by omega)]
  rfl

theorem G_pre {n : Nat} {b : List UInt8} (h : n < 18446744073709551616) (hp : vb n <+: b) : G b = (n, (vb n).length) := by
  obtain ⟨t, rfl⟩ := hp
  exact G_vb t h

theorem G_cases (b : List UInt8) : (G b = (0, 0) ∧ ∀ n, n < 18446744073709551616 → ¬ vb n <+: b) ∨ ∃ n, n < 18446744073709551616 ∧ vb n <+: b ∧ G b = (n, (vb n).length) := by
  unfold G
  cases h : vg 0 b with
  | none =>
    refine .inl ⟨rfl, fun n hn hp => ?_⟩
    obtain ⟨t, rfl⟩ := hp
    rw [vg_vb n 0 t (by omega) (by simpa using hn) (by omega)] at h
    cases h
  | some x =>
    obtain ⟨v, s⟩ := x
    obtain ⟨_, h2, h3, h4, _⟩ := vg_some b 0 v s h
    exact .inr ⟨v, by simpa using h2, h3, by rw [h4]; rfl⟩

/-- From the byte of number i on, what was before it put together. -/
theorem vg_step (b : List UInt8) (i : Nat) (h : ∀ k, k < i → 128 ≤ (b.getD k 0).toNat) (hi : i ≤ 10) (hl : i ≤ b.length) :
    vg 0 b = (vg i (b.drop i)).map fun x => (val (b.take i) + 128 ^ i * x.1, x.2 + i) := by
  induction i with
  | zero => simp [val]
  | succ i ih =>
    rw [ih (fun k hk => h k (by omega)) (by omega) (by omega)]
    have hc := h i (by omega)
    have hd : b.drop i = b.getD i 0 :: b.drop (i + 1) := by
      rw [List.drop_eq_getElem_cons (by omega)]
      simp [List.getD_eq_getElem?_getD, List.getElem?_eq_getElem (show i < b.length by omega)]
    have ht : val (b.take (i + 1)) = val (b.take i) + 128 ^ i * ((b.getD i 0).toNat % 128) := by
      have : b.take (i + 1) = b.take i ++ [b.getD i 0] := by
        rw [List.take_add_one]
        simp [List.getD_eq_getElem?_getD, List.getElem?_eq_getElem (show i < b.length by omega)]
      rw [this]
      have key : ∀ (l : List UInt8) (c : UInt8), val (l ++ [c]) = val l + 128 ^ l.length * (c.toNat % 128) := by
        intro l c
        induction l with
        | nil => simp [val]
        | cons x l ih => simp only [List.cons_append, val, ih, List.length_cons, Nat.pow_succ, Nat.mul_add]; rw [Nat.mul_comm (128 ^ l.length) 128, Nat.mul_assoc]; omega
      rw [key, List.length_take, Nat.min_eq_left (by omega)]
    rw [hd]
    by_cases h9 : i = 9
    · subst h9
      conv => lhs; unfold vg
      rw [if_neg (by omega), if_pos ⟨rfl, by omega⟩]
      have : vg (9 + 1) (b.drop (9 + 1)) = none := by cases b.drop (9 + 1) <;> simp [vg]
      rw [this]
      rfl
    · conv => lhs; unfold vg
      rw [if_neg (by omega), if_neg (by omega), if_neg (by omega)]
      simp only [Option.map_map]
      congr 1
      funext x
      simp only [Function.comp, Prod.mk.injEq]
      refine ⟨?_, by omega⟩
      rw [ht, Nat.pow_succ, Nat.mul_add, ← Nat.mul_assoc (128 ^ i) 128 x.1]
      omega

/-- How many bits a number has. -/
def len64 (n : Nat) : Nat := if n = 0 then 0 else Nat.log2 n + 1

theorem len64_le (n j : Nat) : len64 n ≤ j ↔ n < 2 ^ j := by
  unfold len64
  split
  · rename_i h
    subst h
    have := Nat.two_pow_pos j
    omega
  · rename_i h
    rw [show Nat.log2 n + 1 ≤ j ↔ Nat.log2 n < j by omega, Nat.log2_lt h]

theorem len64_shift (n k : Nat) (h : 2 ^ k ≤ n) : len64 n = k + len64 (n / 2 ^ k) := by
  have h1 : ∀ i, n / 2 ^ k < 2 ^ i ↔ n < 2 ^ (k + i) := fun i => by
    rw [Nat.div_lt_iff_lt_mul (Nat.two_pow_pos k), Nat.pow_add, Nat.mul_comm]
  apply Nat.le_antisymm
  · rw [len64_le, ← h1, ← len64_le]
    exact Nat.le_refl _
  · have h2 : ¬ len64 n ≤ k := by rw [len64_le]; omega
    have h3 := (len64_le n (len64 n)).1 (Nat.le_refl _)
    rw [show len64 n = k + (len64 n - k) by omega, ← h1, ← len64_le] at h3
    omega

theorem vb_size (n : Nat) : (vb n).length = max ((len64 n + 6) / 7) 1 := by
  have hpos := List.length_pos_iff.2 (vb_ne n)
  have h : ∀ k, (vb n).length ≤ k + 1 ↔ len64 n ≤ 7 * (k + 1) := fun k => by
    rw [vb_len, len64_le, Nat.pow_mul]
  have h1 := (h ((vb n).length - 1)).1 (by omega)
  by_cases h0 : (vb n).length = 1
  · omega
  · have h2 := mt (h ((vb n).length - 2)).2 (by omega)
    omega

theorem val_lt (l : List UInt8) : val l < 128 ^ l.length := by
  induction l with
  | nil => simp [val]
  | cons c l ih => simp only [val, List.length_cons, Nat.pow_succ]; omega

theorem val_snoc (l : List UInt8) (c : UInt8) : val (l ++ [c]) = val l + 128 ^ l.length * (c.toNat % 128) := by
  induction l with
  | nil => simp [val]
  | cons x l ih => simp only [List.cons_append, val, ih, List.length_cons, Nat.pow_succ, Nat.mul_add]; rw [Nat.mul_comm (128 ^ l.length) 128, Nat.mul_assoc]; omega

theorem take_snoc (b : List UInt8) (i : Nat) (h : i < b.length) : b.take (i + 1) = b.take i ++ [b.getD i 0] := by
  rw [List.take_add_one]
  simp [List.getD_eq_getElem?_getD, List.getElem?_eq_getElem h]

theorem val_take_succ (b : List UInt8) (i : Nat) (h : i < b.length) : val (b.take (i + 1)) = val (b.take i) + 128 ^ i * ((b.getD i 0).toNat % 128) := by
  rw [take_snoc b i h, val_snoc, List.length_take, Nat.min_eq_left (by omega)]

theorem val_take_lt (b : List UInt8) (i : Nat) (h : i ≤ b.length) : val (b.take i) < 128 ^ i := by
  have := val_lt (b.take i)
  rwa [List.length_take, Nat.min_eq_left h] at this

theorem drop_cons (b : List UInt8) (i : Nat) (h : i < b.length) : b.drop i = b.getD i 0 :: b.drop (i + 1) := by
  rw [List.drop_eq_getElem_cons h]
  simp [List.getD_eq_getElem?_getD, List.getElem?_eq_getElem h]

/-- Nothing more comes. -/
theorem G_end (b : List UInt8) (i : Nat) (h : ∀ k, k < i → 128 ≤ (b.getD k 0).toNat) (hi : i = min b.length 10) : G b = (0, 0) := by
  unfold G
  rw [vg_step b i h (by omega) (by omega)]
  by_cases hl : i = b.length
  · subst hl
    simp [vg]
  · have : vg i (b.drop i) = none := by
      cases b.drop i with
      | nil => simp [vg]
      | cons c r => unfold vg; rw [if_pos (by omega)]
    rw [this]
    rfl

theorem G_at (b : List UInt8) (i : Nat) (h : ∀ k, k < i → 128 ≤ (b.getD k 0).toNat) (hi : i < b.length) (h9 : i ≤ 9) :
    G b = if i = 9 ∧ 1 < (b.getD i 0).toNat then (0, 0) else if (b.getD i 0).toNat < 128 then (if 0 < i ∧ (b.getD i 0).toNat = 0 then (0, 0) else (val (b.take (i + 1)), i + 1)) else G b := by
  by_cases hc : (b.getD i 0).toNat < 128 ∨ i = 9
  · have e : G b = ((vg i (b.drop i)).map fun x => (val (b.take i) + 128 ^ i * x.1, x.2 + i)).getD (0, 0) := by
      unfold G
      rw [vg_step b i h (by omega) (by omega)]
    rw [drop_cons b i hi] at e
    unfold vg at e
    rw [if_neg (by omega)] at e
    by_cases h91 : i = 9 ∧ 1 < (b.getD i 0).toNat
    · rw [if_pos h91] at e ⊢
      exact e
    · rw [if_neg h91] at e ⊢
      have hc' : (b.getD i 0).toNat < 128 := by omega
      rw [if_pos hc'] at e ⊢
      split at e
      · rename_i h0; rw [if_pos h0]; exact e
      · rename_i h0
        rw [if_neg h0, e, val_take_succ b i hi, Nat.mod_eq_of_lt hc']
        simp [Nat.add_comm 1 i]
  · rw [if_neg (by omega), if_neg (by omega)]

theorem or_val (b : List UInt8) (i : Nat) (hi : i < b.length) (h9 : i ≤ 9) (hc : i = 9 → (b.getD i 0).toNat ≤ 1) : (val (b.take i) ||| (b.getD i 0).toNat % 128 * 2 ^ (7 * i) % 18446744073709551616) % 18446744073709551616 = val (b.take (i + 1)) := by
  have h1 := val_take_lt b i (by omega)
  have hp : 128 ^ i = 2 ^ (7 * i) := by rw [Nat.pow_mul]
  have h2 : (b.getD i 0).toNat % 128 * 2 ^ (7 * i) < 18446744073709551616 := by
    by_cases e : i = 9
    · subst e
      have := hc rfl
      simp at *
      omega
    · have : 2 ^ (7 * i) ≤ 2 ^ 56 := Nat.pow_le_pow_right (by omega) (by omega)
      have h3 : (b.getD i 0).toNat % 128 < 128 := Nat.mod_lt _ (by omega)
      calc (b.getD i 0).toNat % 128 * 2 ^ (7 * i) ≤ 127 * 2 ^ 56 := Nat.mul_le_mul (by omega) this
        _ < _ := by omega
  rw [Nat.mod_eq_of_lt h2, val_take_succ b i hi, hp, Nat.mul_comm ((b.getD i 0).toNat % 128), Nat.or_comm, ← Nat.two_pow_add_eq_or_of_lt (by rw [← hp]; exact h1)]
  rw [Nat.add_comm]
  apply Nat.mod_eq_of_lt
  rw [hp] at h1
  by_cases e : i = 9
  · subst e
    have := hc rfl
    simp at *
    omega
  · have h3 : (b.getD i 0).toNat % 128 < 128 := Nat.mod_lt _ (by omega)
    have h4 : 2 ^ (7 * i) * ((b.getD i 0).toNat % 128) ≤ 2 ^ (7 * i) * 127 := Nat.mul_le_mul_left _ (by omega)
    have : 2 ^ (7 * i) ≤ 2 ^ 56 := Nat.pow_le_pow_right (by omega) (by omega)
    omega

/-- Where the first byte below 128 stands, there a number ends. -/
theorem vb_last {v : Nat} (b : List UInt8) (i : Nat) (hall : ∀ k, k < i → 128 ≤ (b.getD k 0).toNat) (hi : i < b.length) (hc : (b.getD i 0).toNat < 128) (h : vb v <+: b) : vb v = b.take (i + 1) := by
  obtain ⟨p, c, h1, h2, h3⟩ := vb_form v
  have hl : (vb v).length = p.length + 1 := by rw [h1]; simp
  have hget : ∀ k, k < (vb v).length → b.getD k 0 = (vb v).getD k 0 := fun k hk => by
    obtain ⟨t, rfl⟩ := h
    simp [List.getD_eq_getElem?_getD, List.getElem?_append_left hk]
  have e : p.length = i := by
    rcases Nat.lt_trichotomy p.length i with h' | h' | h'
    · have h4 := hall p.length h'
      rw [hget p.length (by omega), h1] at h4
      simp at h4
      omega
    · exact h'
    · have h4 := hget i (by omega)
      rw [h1] at h4
      simp only [List.getD_eq_getElem?_getD, List.getElem?_append_left h', List.getElem?_eq_getElem h', Option.getD_some] at h4
      have h5 := h2 p[i] (List.getElem_mem h')
      rw [← h4] at h5
      simp only [List.getD_eq_getElem?_getD] at hc
      omega
  rw [List.prefix_iff_eq_take.1 h, hl, e]

theorem G_short {n i : Nat} (h : i < (vb n).length) : G ((vb n).take i) = (0, 0) := by
  rcases G_cases ((vb n).take i) with h' | ⟨m, hm, hp, hg⟩
  · exact h'.1
  · exfalso
    have := vb_pre (hp.trans (List.take_prefix _ _))
    subst this
    have := hp.length_le
    rw [List.length_take] at this
    omega
end Go.V
