/-
  VALUE LOGIC, part p: whole numbers as natural ones.
-/
import Derived.Test.YtjdlgbkpdfaloaaDoorVo
import Derived.Laws.BitsLemmas
import Derived.Laws.Strings
namespace Go.V

theorem n_tmod (a n : Nat) : Int.tmod (a : Int) (no_index (@OfNat.ofNat Int n _)) = ((a % (@OfNat.ofNat Nat n _) : Nat) : Int) := rfl
theorem n_tdiv (a n : Nat) : Int.tdiv (a : Int) (no_index (@OfNat.ofNat Int n _)) = ((a / (@OfNat.ofNat Nat n _) : Nat) : Int) := rfl
theorem n_add (a n : Nat) : (a : Int) + (no_index (@OfNat.ofNat Int n _)) = ((a + (@OfNat.ofNat Nat n _) : Nat) : Int) := rfl
theorem n_radd (a n : Nat) : (no_index (@OfNat.ofNat Int n _)) + (a : Int) = (((@OfNat.ofNat Nat n _) + a : Nat) : Int) := rfl
theorem n_mul (a n : Nat) : (a : Int) * (no_index (@OfNat.ofNat Int n _)) = ((a * (@OfNat.ofNat Nat n _) : Nat) : Int) := rfl
theorem n_rmul (a n : Nat) : (no_index (@OfNat.ofNat Int n _)) * (a : Int) = (((@OfNat.ofNat Nat n _) * a : Nat) : Int) := rfl
theorem n_addn (a b : Nat) : (a : Int) + (b : Int) = ((a + b : Nat) : Int) := rfl
theorem n_muln (a b : Nat) : (a : Int) * (b : Int) = ((a * b : Nat) : Int) := rfl
theorem n_tmodn (a b : Nat) : Int.tmod (a : Int) (b : Int) = ((a % b : Nat) : Int) := rfl
theorem n_tdivn (a b : Nat) : Int.tdiv (a : Int) (b : Int) = ((a / b : Nat) : Int) := rfl
theorem n_fdiv (a k : Nat) : Int.fdiv (a : Int) (2 ^ k) = ((a / 2 ^ k : Nat) : Int) := by
  rw [Int.fdiv_eq_ediv_of_nonneg _ (by exact Int.le_of_lt (Int.pow_pos (by omega)))]
  rw [show (2 : Int) ^ k = ((2 ^ k : Nat) : Int) from by simp]
  rfl
theorem n_shl (a k : Nat) : (a : Int) * 2 ^ k = ((a * 2 ^ k : Nat) : Int) := by simp
theorem n_rshl (k n : Nat) : (no_index (@OfNat.ofNat Int n _)) * (2 : Int) ^ k = (((@OfNat.ofNat Nat n _) * 2 ^ k : Nat) : Int) := by
  have := n_shl (@OfNat.ofNat Nat n _) k
  exact this
theorem n_u8 (n : Nat) : IntKind.u8.wrap (n : Int) = ((n % 256 : Nat) : Int) := by simp [IntKind.wrap, IntKind.bits, IntKind.signed]
theorem n_u16 (n : Nat) : IntKind.u16.wrap (n : Int) = ((n % 65536 : Nat) : Int) := by simp [IntKind.wrap, IntKind.bits, IntKind.signed]
theorem n_u32 (n : Nat) : IntKind.u32.wrap (n : Int) = ((n % 4294967296 : Nat) : Int) := by simp [IntKind.wrap, IntKind.bits, IntKind.signed]
theorem n_u64 (n : Nat) : IntKind.u64.wrap (n : Int) = ((n % 18446744073709551616 : Nat) : Int) := by simp [IntKind.wrap, IntKind.bits, IntKind.signed]
theorem n_i64 {n : Nat} (h : n < 9223372036854775808) : IntKind.i64.wrap (n : Int) = (n : Int) := by
  simp [IntKind.wrap, IntKind.bits, IntKind.signed]
  omega
theorem z_i64 {n : Int} (h0 : -9223372036854775808 ≤ n) (h1 : n ≤ 9223372036854775807) : IntKind.i64.wrap n = n := by
  simp [IntKind.wrap, IntKind.bits, IntKind.signed]
  omega

theorem n_bits (k : IntKind) (a b : Nat) (hs : ∀ n : Nat, n < 2 ^ k.bits → k.wrap (n : Int) = (n : Int)) :
    bits .and k a b = (((a &&& b) % 2 ^ k.bits : Nat) : Int) ∧ bits .or k a b = (((a ||| b) % 2 ^ k.bits : Nat) : Int) ∧ bits .xor k a b = (((a ^^^ b) % 2 ^ k.bits : Nat) : Int) := by
  refine ⟨?_, ?_, ?_⟩
  all_goals
    simp only [bits, BitVec.ofInt_natCast, BitVec.toNat_and, BitVec.toNat_or, BitVec.toNat_xor, BitVec.toNat_ofNat]
    rw [hs]
  · rw [Nat.and_mod_two_pow]
  · exact Nat.and_lt_two_pow _ (Nat.mod_lt _ (Nat.two_pow_pos _))
  · rw [Nat.or_mod_two_pow]
  · exact Nat.or_lt_two_pow (Nat.mod_lt _ (Nat.two_pow_pos _)) (Nat.mod_lt _ (Nat.two_pow_pos _))
  · rw [Nat.xor_mod_two_pow]
  · exact Nat.xor_lt_two_pow (Nat.mod_lt _ (Nat.two_pow_pos _)) (Nat.mod_lt _ (Nat.two_pow_pos _))

theorem hs8 (n : Nat) (h : n < 2 ^ IntKind.u8.bits) : IntKind.u8.wrap (n : Int) = (n : Int) := by
  rw [n_u8]; simp [IntKind.bits] at h; omega
theorem hs32 (n : Nat) (h : n < 2 ^ IntKind.u32.bits) : IntKind.u32.wrap (n : Int) = (n : Int) := by
  rw [n_u32]; simp [IntKind.bits] at h; omega
theorem hs64 (n : Nat) (h : n < 2 ^ IntKind.u64.bits) : IntKind.u64.wrap (n : Int) = (n : Int) := by
  rw [n_u64]; simp [IntKind.bits] at h; omega

theorem n_and8 (a b : Nat) : bits .and .u8 (a : Int) (b : Int) = (((a &&& b) % 256 : Nat) : Int) := (n_bits .u8 a b hs8).1
theorem n_or8 (a b : Nat) : bits .or .u8 (a : Int) (b : Int) = (((a ||| b) % 256 : Nat) : Int) := (n_bits .u8 a b hs8).2.1
theorem n_xor8 (a b : Nat) : bits .xor .u8 (a : Int) (b : Int) = (((a ^^^ b) % 256 : Nat) : Int) := (n_bits .u8 a b hs8).2.2
theorem n_and32 (a b : Nat) : bits .and .u32 (a : Int) (b : Int) = (((a &&& b) % 4294967296 : Nat) : Int) := (n_bits .u32 a b hs32).1
theorem n_or32 (a b : Nat) : bits .or .u32 (a : Int) (b : Int) = (((a ||| b) % 4294967296 : Nat) : Int) := (n_bits .u32 a b hs32).2.1
theorem n_xor32 (a b : Nat) : bits .xor .u32 (a : Int) (b : Int) = (((a ^^^ b) % 4294967296 : Nat) : Int) := (n_bits .u32 a b hs32).2.2
theorem n_and64 (a b : Nat) : bits .and .u64 (a : Int) (b : Int) = (((a &&& b) % 18446744073709551616 : Nat) : Int) := (n_bits .u64 a b hs64).1
theorem n_or64 (a b : Nat) : bits .or .u64 (a : Int) (b : Int) = (((a ||| b) % 18446744073709551616 : Nat) : Int) := (n_bits .u64 a b hs64).2.1
theorem n_xor64 (a b : Nat) : bits .xor .u64 (a : Int) (b : Int) = (((a ^^^ b) % 18446744073709551616 : Nat) : Int) := (n_bits .u64 a b hs64).2.2
theorem n_or8l (a n : Nat) : bits .or .u8 (a : Int) (no_index (@OfNat.ofNat Int n _)) = (((a ||| (@OfNat.ofNat Nat n _)) % 256 : Nat) : Int) := n_or8 a n
theorem n_and8l (a n : Nat) : bits .and .u8 (a : Int) (no_index (@OfNat.ofNat Int n _)) = (((a &&& (@OfNat.ofNat Nat n _)) % 256 : Nat) : Int) := n_and8 a n
theorem n_and32l (a n : Nat) : bits .and .u32 (a : Int) (no_index (@OfNat.ofNat Int n _)) = (((a &&& (@OfNat.ofNat Nat n _)) % 4294967296 : Nat) : Int) := n_and32 a n
theorem n_xor32l (a n : Nat) : bits .xor .u32 (a : Int) (no_index (@OfNat.ofNat Int n _)) = (((a ^^^ (@OfNat.ofNat Nat n _)) % 4294967296 : Nat) : Int) := n_xor32 a n


theorem B_of (n : Nat) : AV.val (.int .u8 ((n % 256 : Nat) : Int)) = B (UInt8.ofNat n) := by
  simp [B]
theorem B_lit (n : Nat) (h : n < 256) : AV.val (.int .u8 (no_index (@OfNat.ofNat Int n _))) = B (UInt8.ofNat n) := by
  have : ((n : Nat) : Int) = ((UInt8.ofNat n).toNat : Int) := by simp; omega
  exact congrArg (fun z : Int => AV.val (.int .u8 z)) this
theorem B_un (b : UInt8) : AV.val (.int .u8 (b.toNat : Int)) = B b := rfl
theorem B_cons (b : UInt8) (l : List UInt8) : B b :: Bs l = Bs (b :: l) := rfl
theorem B_app (l : List UInt8) (b : UInt8) : Bs l ++ [B b] = Bs (l ++ [b]) := by simp [Bs]

theorem d_lt (a n : Nat) : decide ((a : Int) < (no_index (@OfNat.ofNat Int n _))) = decide (a < (@OfNat.ofNat Nat n _)) := by
  apply decide_eq_decide.2
  exact Int.ofNat_lt
theorem d_ge (a n : Nat) : decide ((a : Int) ≥ (no_index (@OfNat.ofNat Int n _))) = decide ((@OfNat.ofNat Nat n _) ≤ a) := by
  apply decide_eq_decide.2
  exact Int.ofNat_le
theorem d_gt (a n : Nat) : decide ((a : Int) > (no_index (@OfNat.ofNat Int n _))) = decide ((@OfNat.ofNat Nat n _) < a) := by
  apply decide_eq_decide.2
  exact Int.ofNat_lt
theorem d_le (a n : Nat) : decide ((a : Int) ≤ (no_index (@OfNat.ofNat Int n _))) = decide (a ≤ (@OfNat.ofNat Nat n _)) := by
  apply decide_eq_decide.2
  exact Int.ofNat_le
theorem d_ltn (a b : Nat) : decide ((a : Int) < (b : Int)) = decide (a < b) := by
  apply decide_eq_decide.2
  exact Int.ofNat_lt
theorem d_len (a b : Nat) : decide ((a : Int) ≤ (b : Int)) = decide (a ≤ b) := by
  apply decide_eq_decide.2
  exact Int.ofNat_le
theorem d_gtn (a b : Nat) : decide ((a : Int) > (b : Int)) = decide (b < a) := by
  apply decide_eq_decide.2
  exact Int.ofNat_lt
theorem d_gen (a b : Nat) : decide ((a : Int) ≥ (b : Int)) = decide (b ≤ a) := by
  apply decide_eq_decide.2
  exact Int.ofNat_le
theorem d_eq (a n : Nat) : ((a : Int) == (no_index (@OfNat.ofNat Int n _))) = (a == (@OfNat.ofNat Nat n _)) := by
  rw [Bool.eq_iff_iff]
  simp only [beq_iff_eq]
  exact Int.ofNat_inj
theorem d_eqn (a b : Nat) : ((a : Int) == (b : Int)) = (a == b) := by
  rw [Bool.eq_iff_iff]
  simp only [beq_iff_eq]
  exact Int.ofNat_inj
theorem d_ne (a n : Nat) : ((a : Int) != (no_index (@OfNat.ofNat Int n _))) = (a != (@OfNat.ofNat Nat n _)) := by unfold bne; rw [d_eq]
theorem d_nen (a b : Nat) : ((a : Int) != (b : Int)) = (a != b) := by unfold bne; rw [d_eqn]
theorem ba_size (l : List UInt8) : (ByteArray.mk l.toArray).size = l.length := by simp [ByteArray.size]
theorem ba_extract (l : List UInt8) (i j : Nat) : (ByteArray.mk l.toArray).extract i j = ⟨((l.drop i).take (j - i)).toArray⟩ := by
  apply ByteArray.ext
  rw [ByteArray.data_extract]
  simp
end Go.V
