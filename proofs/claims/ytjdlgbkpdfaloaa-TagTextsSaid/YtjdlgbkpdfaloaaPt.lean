/-
  PLAIN LAWS OF TAGS. No program in sight.
-/
namespace Go.V

theorem or_zero {a b : Nat} : a ||| b = 0 ↔ a = 0 ∧ b = 0 := by
  constructor
  · intro h
    constructor
    · apply Nat.eq_of_testBit_eq
      intro i
      have := congrArg (·.testBit i) h
      simp [Nat.testBit_or] at this
      simp [this.1]
    · apply Nat.eq_of_testBit_eq
      intro i
      have := congrArg (·.testBit i) h
      simp [Nat.testBit_or] at this
      simp [this.2]
  · rintro ⟨rfl, rfl⟩; rfl

theorem xor_zero {a b : Nat} : a ^^^ b = 0 ↔ a = b := by
  constructor
  · intro h
    apply Nat.eq_of_testBit_eq
    intro i
    have := congrArg (·.testBit i) h
    simp [Nat.testBit_xor] at this
    exact this
  · rintro rfl; simp

theorem eq_step (u : Nat) (x y : UInt8) (hu : u < 256) : (u ||| (x.toNat ^^^ y.toNat) % 256) % 256 < 256 ∧ ((u ||| (x.toNat ^^^ y.toNat) % 256) % 256 = 0 ↔ u = 0 ∧ x = y) := by
  have h1 : x.toNat ^^^ y.toNat < 2 ^ 8 := Nat.xor_lt_two_pow x.toNat_lt y.toNat_lt
  have h2 : u ||| (x.toNat ^^^ y.toNat) < 2 ^ 8 := Nat.or_lt_two_pow hu h1
  refine ⟨Nat.mod_lt _ (by omega), ?_⟩
  rw [Nat.mod_eq_of_lt h1, Nat.mod_eq_of_lt h2, or_zero, xor_zero, UInt8.toNat_inj]

/-- A number's sign, of 16. -/
def dig (n : Nat) : UInt8 := ([48, 49, 50, 51, 52, 53, 54, 55, 56, 57, 97, 98, 99, 100, 101, 102] : List UInt8).getD n 0

/-- A tag's digits. -/
def texts : List UInt8 → List UInt8
  | [] => []
  | x :: r => dig (x.toNat / 16) :: dig (x.toNat % 16) :: texts r

theorem texts_snoc (l : List UInt8) (x : UInt8) : texts (l ++ [x]) = texts l ++ [dig (x.toNat / 16), dig (x.toNat % 16)] := by
  induction l with
  | nil => rfl
  | cons y l ih => simp only [List.cons_append, texts, ih]

theorem texts_length (l : List UInt8) : (texts l).length = 2 * l.length := by
  induction l with
  | nil => rfl
  | cons y l ih => simp only [texts, List.length_cons, ih]; omega

theorem take_all_eq {a b : List UInt8} (hl : a.length = b.length) : a = b ↔ ∀ k, k < a.length → a.getD k 0 = b.getD k 0 := by
  constructor
  · rintro rfl k _; rfl
  · intro h
    apply List.ext_getElem hl
    intro i h1 h2
    have := h i h1
    simpa [List.getD_eq_getElem?_getD, List.getElem?_eq_getElem h1, List.getElem?_eq_getElem h2] using this

theorem and15 (n : Nat) (h : n < 256) : n &&& 15 = n % 16 := by
  have := Nat.and_two_pow_sub_one_eq_mod n 4
  simpa using this

/-- With one bit turned a byte is another one. -/
theorem flip_ne (x : UInt8) (k : Nat) (hk : k < 8) : UInt8.ofNat (x.toNat ^^^ 2 ^ k % 256) ≠ x := by
  intro h
  have h1 := congrArg UInt8.toNat h
  have hp : 2 ^ k < 2 ^ 8 := Nat.pow_lt_pow_right (by omega) hk
  have h2 : x.toNat ^^^ 2 ^ k < 2 ^ 8 := Nat.xor_lt_two_pow x.toNat_lt hp
  rw [Nat.mod_eq_of_lt hp] at h1
  simp only [UInt8.toNat_ofNat'] at h1
  rw [Nat.mod_eq_of_lt h2] at h1
  have h3 : 2 ^ k = 0 := by
    have h4 := congrArg (x.toNat ^^^ ·) h1
    simp only [← Nat.xor_assoc, Nat.xor_self, Nat.zero_xor] at h4
    exact h4
  exact absurd h3 (Nat.pos_iff_ne_zero.1 (Nat.two_pow_pos k))

/-- A list with one byte put in another's place. -/
def putAt (b : List UInt8) (k : Nat) (x : UInt8) : List UInt8 := b.take k ++ x :: b.drop (k + 1)
theorem putAt_length (b : List UInt8) (k : Nat) (x : UInt8) (h : k < b.length) : (putAt b k x).length = b.length := by
  simp [putAt]; omega
theorem putAt_ne (b : List UInt8) (k : Nat) (x : UInt8) (h : k < b.length) (hx : x ≠ b.getD k 0) : putAt b k x ≠ b := by
  intro e
  have := congrArg (·.getD k 0) e
  simp only [putAt, List.getD_eq_getElem?_getD] at this
  rw [List.getElem?_append_right (by simp; omega)] at this
  simp [Nat.min_eq_left (Nat.le_of_lt h)] at this
  exact hx (by simpa [List.getD_eq_getElem?_getD] using this)
end Go.V
