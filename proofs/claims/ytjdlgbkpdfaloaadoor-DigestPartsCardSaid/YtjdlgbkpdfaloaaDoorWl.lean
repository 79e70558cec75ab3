/- The walks of layer 1 (word). -/
import Derived.Test.YtjdlgbkpdfaloaaDoorWa
import Derived.Test.YtjdlgbkpdfaloaaDoorPw
namespace Go.Proofs.YtjdlgbkpdfaloaaDoor
open Go Go.V
set_option linter.unusedSimpArgs false
set_option linter.unusedVariables false

theorem u64_of (n : Int) : ∃ m : Nat, IntKind.u64.wrap n = (m : Int) ∧ m % 32 = (n % 32).toNat := by
  refine ⟨(n % 18446744073709551616).toNat, ?_, by omega⟩
  simp [IntKind.wrap, IntKind.signed, IntKind.bits]
  omega

theorem rot_ok (x : Nat) (n : Int) (hx : x < 4294967296) : ACalls Tryd.prog [] 47 [.val (.int .u32 (x : Int)), .val (.int .i64 n)] [] (fun r os => os = [] ∧ r = .val (.int .u32 (rotl x (n % 32).toNat : Int))) := by
  obtain ⟨m, hm, hm32⟩ := u64_of n
  generalize hk : (n % 32).toNat = k at hm32
  have hk32 : k < 32 := by omega
  have ha : bits BinOp.and IntKind.u64 (m : Int) 31 = (k : Int) := by
    have h := n_and64 m 31
    rw [show m &&& 31 = m % 32 from Nat.and_two_pow_sub_one_eq_mod m 5, hm32, Nat.mod_eq_of_lt (by omega)] at h
    exact h
  have hw : IntKind.u64.wrap (32 - (k : Int)) = ((32 - k : Nat) : Int) := by
    rw [show (32 : Int) - (k : Int) = ((32 - k : Nat) : Int) by omega, n_u64, Nat.mod_eq_of_lt (by omega)]
  have e1 : (if k ≤ 32 then k else 32) = k := if_pos (by omega)
  have e2 : (if 32 - k ≤ 32 then 32 - k else 32) = 32 - k := if_pos (by omega)
  refine acalls_of_awp Tryd.func47 rfl rfl Tryd.ntmps47 (rts := #[23]) rfl Tryd.results47 (by simp) ?_
  simp only [argSlots, Nat.reduceAdd]
  refine awp_seq_k fun K hK => awp_region [] ?_
  simp only [K_eqs, Nat.reduceLT, K_ops, cav, K_nil, Then, true_and]
  (repeat' apply And.intro) <;> try (first | exact True.intro | omega)
  refine hK _ ?_
  clear hK K
  refine awp_seq_k fun K hK => awp_region [] ?_
  simp only [K_eqs, Nat.reduceLT, K_ops, Nat.reduceEqDiff, reduceCtorEq, if_true, if_false, K_conv, Tryd.underlying60, List.contains_nil, Bool.false_eq_true, aconvO, aview, noref, aconv, Tryd.underlying3, Option.isSome_some, hm, and_true, cav, K_int, aint, ha, K_nil, Then, true_and]
  (repeat' apply And.intro) <;> try (first | exact True.intro | omega)
  refine hK _ ?_
  clear hK K
  refine awp_seq_k fun K hK => awp_region [] ?_
  simp only [K_eqs, Nat.reduceLT, K_ops, reduceCtorEq, if_false, if_true, Nat.reduceEqDiff, K_int, aint, Int.toNat_natCast, IntKind.bits, Nat.min_def, e1, n_shl, n_u32, cav, hw, e2, n_fdiv, n_or32, K_nil, Then, true_and]
  (repeat' apply And.intro) <;> try (first | exact True.intro | omega)
  refine hK _ ?_
  clear hK K
  have hr : rotl x k % 4294967296 = rotl x k := Nat.mod_eq_of_lt (rotl_lt hx hk32)
  rw [show (x * 2 ^ k % 4294967296 ||| x / 2 ^ (32 - k)) = rotl x k from rfl, hr]
  refine awp_ret ?_
  simp only [K_fin, ares, aress, ares1, afin, K_ops, Nat.reduceEqDiff, reduceCtorEq, if_false, if_true, noref, and_true, true_and]

theorem tmod32 (n : Int) : -32 < n.tmod 32 ∧ n.tmod 32 < 32 ∧ (n.tmod 32) % 32 = n % 32 := by
  have h := Int.tmod_def n 32
  refine ⟨?_, Int.tmod_lt_of_pos n (by omega), by omega⟩
  by_cases hn : 0 ≤ n
  · have := Int.tmod_nonneg 32 hn; omega
  · have h1 := Int.neg_tmod (-n) 32
    rw [Int.neg_neg] at h1
    have h2 := Int.tmod_lt_of_pos (-n) (show (0 : Int) < 32 by omega)
    omega

theorem turn_ok (x : Nat) (n : Int) (hx : x < 4294967296) : ACalls Tryd.prog [] 19 [.val (.int .u32 (x : Int)), .val (.int .i64 n)] [] (fun r os => os = [] ∧ r = .val (.int .u32 (turn x n : Int))) := by
  obtain ⟨h1, h2, h3⟩ := tmod32 n
  have hw : IntKind.i64.wrap (0 - n.tmod 32) = -(n.tmod 32) := by rw [i64_wrap (by omega) (by omega)]; omega
  have hr := rot_ok x (-(n.tmod 32)) hx
  rw [show (-(n.tmod 32)) % 32 = (-n) % 32 by omega] at hr
  refine acalls_of_awp Tryd.func19 rfl rfl Tryd.ntmps19 (rts := #[23]) rfl Tryd.results19 (by simp) ?_
  simp only [argSlots, Nat.reduceAdd]
  refine awp_seq_k fun K hK => awp_region [] ?_
  simp only [K_eqs, Nat.reduceLT, K_ops, cav, K_nil, Then, true_and]
  (repeat' apply And.intro) <;> try (first | exact True.intro | omega)
  refine hK _ ?_
  clear hK K
  refine awp_seq_k fun K hK => awp_region [] ?_
  simp only [K_eqs, Nat.reduceLT, K_ops, reduceCtorEq, if_false, if_true, Nat.reduceEqDiff, cav, K_int, aint, ne_eq, Int.reduceEq, not_false_eq_true, and_true, aun, hw, K_call, Nat.reduceAdd, List.contains_nil, Bool.false_eq_true, List.map_cons, List.map_nil, aviews, aview, noref, ntok, List.tail_cons, List.headD_cons, Tryd.underlying3, true_and, Bool.or_false]
  refine andC_eq (by simp [norefs_Bs, norefs, noref]) (hr) (by simp [noref, norefs, norefs_Bs, flat]) ?_
  simp only [RestC_eqs, K_eqs, Nat.reduceLT, K_ops, Nat.reduceEqDiff, reduceCtorEq, if_false, if_true, K_nil, Then, true_and]
  refine hK _ ?_
  refine awp_ret ?_
  simp only [K_fin, ares, aress, ares1, afin, K_ops, Nat.reduceEqDiff, reduceCtorEq, if_false, if_true, noref, and_true, true_and]
  rfl

theorem bit_ok (x i : Nat) (hi : i < 32) : ACalls Tryd.prog [] 49 [.val (.int .u32 (x : Int)), .val (.int .i64 (i : Int))] [] (fun r os => os = [] ∧ r = .val (.int .u32 ((x.testBit i).toNat : Int))) := by
  have e1 : (if i ≤ 32 then i else 32) = i := if_pos (by omega)
  have e2 : i % 18446744073709551616 = i := Nat.mod_eq_of_lt (by omega)
  refine acalls_of_awp Tryd.func49 rfl rfl Tryd.ntmps49 (rts := #[23]) rfl Tryd.results49 (by simp) ?_
  simp only [argSlots, Nat.reduceAdd]
  refine awp_seq_k fun K hK => awp_region [] ?_
  simp only [K_eqs, Nat.reduceLT, K_ops, cav, K_nil, Then, true_and]
  (repeat' apply And.intro) <;> try (first | exact True.intro | omega)
  refine hK _ ?_
  clear hK K
  refine awp_seq_k fun K hK => awp_region [] ?_
  simp only [K_eqs, Nat.reduceLT, K_ops, reduceCtorEq, if_false, if_true, Nat.reduceEqDiff, K_conv, Tryd.underlying60, List.contains_nil, Bool.false_eq_true, aconvO, aview, noref, aconv, Tryd.underlying3, Option.isSome_some, n_u64, e2, and_true, K_int, aint, Int.toNat_natCast, IntKind.bits, Nat.min_def, e1, n_fdiv, cav, ne_eq, Int.reduceEq, not_false_eq_true, n_tmod, bit_mod, K_nil, Then, true_and]
  (repeat' apply And.intro) <;> try (first | exact True.intro | omega)
  refine hK _ ?_
  clear hK K
  refine awp_ret ?_
  simp only [K_fin, ares, aress, ares1, afin, K_ops, Nat.reduceEqDiff, reduceCtorEq, if_false, if_true, noref, and_true, true_and]

/-- What one round of the loops over bits gives. -/
theorem bsum_step (f : Nat → Bool) (i : Nat) (hi : i < 32) : ((f i).toNat * 2 ^ i) % 4294967296 = (f i).toNat * 2 ^ i ∧ (bsum f i + (f i).toNat * 2 ^ i) % 4294967296 = bsum f (i + 1) := by
  have h := bsum_lt f (i + 1)
  have h2 : 2 ^ (i + 1) ≤ 2 ^ 32 := Nat.pow_le_pow_right (by omega) (by omega)
  have e : bsum f (i + 1) = bsum f i + (f i).toNat * 2 ^ i := rfl
  constructor
  · exact Nat.mod_eq_of_lt (by omega)
  · rw [← e]; exact Nat.mod_eq_of_lt (by omega)

theorem refturn_ok (x : Nat) (n : Int) (hx : x < 4294967296) : ACalls Tryd.prog [] 24 [.val (.int .u32 (x : Int)), .val (.int .i64 n)] [] (fun r os => os = [] ∧ r = .val (.int .u32 (turn x n : Int))) := by
  obtain ⟨h1, h2, h3⟩ := tmod32 n
  generalize hf : (fun j : Nat => x.testBit (((j : Int) + n) % 32).toNat) = f
  have hres : bsum f 32 = turn x n := bsum_eq (turn_lt hx n) fun i hi => by rw [turn_bit hx, ← hf]; simp [hi]
  refine acalls_of_awp Tryd.func24 rfl rfl Tryd.ntmps24 (rts := #[23]) rfl Tryd.results24 (by simp) ?_
  simp only [argSlots, Nat.reduceAdd]
  refine awp_seq_k fun K hK => awp_region [] ?_
  simp only [K_eqs, Nat.reduceLT, K_ops, cav, K_nil, Then, true_and]
  (repeat' apply And.intro) <;> try (first | exact True.intro | omega)
  refine hK _ ?_
  clear hK K
  refine awp_seq_k fun K hK => awp_region [] ?_
  simp only [K_eqs, Nat.reduceLT, K_ops, cav, K_nil, Then, true_and]
  (repeat' apply And.intro) <;> try (first | exact True.intro | omega)
  refine hK _ ?_
  clear hK K
  refine awp_seq_k fun K1 hK1 => ?_
  refine awp_seq_k fun K hK => awp_region [] ?_
  simp only [K_eqs, Nat.reduceLT, K_ops, cav, K_nil, Then, true_and]
  (repeat' apply And.intro) <;> try (first | exact True.intro | omega)
  refine hK _ ?_
  clear hK K
  refine awp_keep [0, 1, 5, 6] ?_
  simp only [keep_eqs, K_ops, Nat.reduceEqDiff, if_true, if_false]
  refine awp_block ?_
  refine awp_loop_from (fun i : Nat => ⟨27, [(0, .val (.int .u32 (x : Int))), (1, .val (.int .i64 n)), (5, .val (.int .u32 (bsum f i : Int))), (6, .val (.int .i64 (i : Int)))], []⟩)
    (fun i => i ≤ 32) (fun i => 32 - i) 0 (by omega) (.of_keep [0, 1, 5, 6] rfl) ?_
  intro i hi
  refine awp_seq_k fun K2 hK2 => ?_
  refine awp_seq_k fun K hK => awp_region [] ?_
  simp only [K_eqs, Nat.reduceLT, K_ops, reduceCtorEq, Nat.reduceEqDiff, if_true, if_false, cav, K_int, aint, d_lt, K_nil, Then, true_and]
  (repeat' apply And.intro) <;> try (first | exact True.intro | omega)
  refine hK _ ?_
  clear hK K
  refine awp_cond rfl rfl (fun h => ?_) (fun h => ?_)
  · have hlt : i < 32 := of_decide_eq_true h
    refine awp_skip (hK2 _ ?_)
    clear hK2 K2
    refine awp_keep [0, 1, 5, 6] ?_
    simp only [keep_eqs, K_ops, Nat.reduceEqDiff, if_true, if_false]
    refine awp_seq ?_
    refine awp_block ?_
    have hj : (IntKind.i64.wrap (IntKind.i64.wrap ((i : Int) + n.tmod 32) + 32)).tmod 32 = ((((i : Int) + n) % 32).toNat : Int) := by
      rw [i64_wrap (n := (i : Int) + n.tmod 32) (by omega) (by omega), i64_wrap (by omega) (by omega)]
      rw [Int.tmod_eq_emod_of_nonneg (by omega)]
      omega
    generalize hjj : (((i : Int) + n) % 32).toNat = j at hj
    have hj32 : j < 32 := by omega
    have hfi : x.testBit j = f i := by rw [← hf, ← hjj]
    refine awp_seq_k fun K hK => awp_region [] ?_
    simp only [K_eqs, Nat.reduceLT, K_ops, reduceCtorEq, Nat.reduceEqDiff, if_true, if_false, cav, K_int, aint, ne_eq, Int.reduceEq, not_false_eq_true, and_true, hj, K_nil, Then, true_and]
    (repeat' apply And.intro) <;> try (first | exact True.intro | omega)
    refine hK _ ?_
    clear hK K
    refine awp_keep [0, 1, 5, 6, 7] ?_
    simp only [keep_eqs, K_ops, Nat.reduceEqDiff, if_true, if_false]
    obtain ⟨s1, s2⟩ := bsum_step f i hlt
    have e1 : (if i ≤ 32 then i else 32) = i := if_pos (by omega)
    have e2 : i % 18446744073709551616 = i := Nat.mod_eq_of_lt (by omega)
    refine awp_region [] ?_
    simp only [K_eqs, Nat.reduceLT, K_ops, reduceCtorEq, Nat.reduceEqDiff, if_false, if_true, K_call, Nat.reduceAdd, List.contains_nil, Bool.false_eq_true, List.map_cons, List.map_nil, aviews, aview, noref, and_true, Bool.or_false, true_and]
    refine andC_eq (by simp [norefs_Bs, norefs, noref]) (bit_ok x j hj32) (by simp [noref, norefs, norefs_Bs, flat]) ?_
    simp only [hfi, RestC_eqs, K_eqs, Nat.reduceLT, K_ops, Nat.reduceEqDiff, reduceCtorEq, if_false, if_true, K_conv, Tryd.underlying60, List.contains_nil, Bool.false_eq_true, aconvO, aview, noref, aconv, Tryd.underlying3, Option.isSome_some, n_u64, e2, and_true, K_int, aint, Int.toNat_natCast, IntKind.bits, Nat.min_def, e1, n_shl, n_u32, s1, n_addn, s2, K_nil, true_and]
    refine ⟨by omega, ?_⟩
    simp only [InBlock, Then]
    refine awp_keep [0, 1, 5, 6] ?_
    simp only [keep_eqs, K_ops, Nat.reduceEqDiff, if_true, if_false]
    have h6 : IntKind.i64.wrap ((i + 1 : Nat) : Int) = ((i + 1 : Nat) : Int) := n_i64 (by omega)
    refine awp_region [] ?_
    simp only [K_eqs, Nat.reduceLT, K_ops, reduceCtorEq, Nat.reduceEqDiff, if_true, if_false, cav, K_int, aint, n_add, h6, K_nil, Then, true_and]
    refine ⟨i + 1, by omega, by omega, .of_keep [0, 1, 5, 6] rfl⟩
  · have he : i = 32 := by have := of_decide_eq_false h; omega
    subst he
    refine awp_exit ?_
    simp only [Then, InBlock, if_true]
    refine hK1 _ ?_
    clear hK1 K1 hK2 K2
    refine awp_keep [5] ?_
    simp only [keep_eqs, K_ops, Nat.reduceEqDiff, if_true, if_false]
    refine awp_seq_k fun K hK => awp_region [] ?_
    simp only [K_eqs, Nat.reduceLT, K_ops, if_true, Nat.reduceEqDiff, if_false, K_nil, Then, true_and]
    (repeat' apply And.intro) <;> try (first | exact True.intro | omega)
    refine hK _ ?_
    clear hK K
    refine awp_ret ?_
    simp only [K_fin, ares, aress, ares1, afin, K_ops, Nat.reduceEqDiff, if_false, if_true, noref, and_true, true_and]
    rw [hres]

theorem sum_ok (x y z : Nat) (hx : x < 4294967296) (hy : y < 4294967296) (hz : z < 4294967296) : ACalls Tryd.prog [] 48 [.val (.int .u32 (x : Int)), .val (.int .u32 (y : Int)), .val (.int .u32 (z : Int))] [] (fun r os => os = [] ∧ r = .val (.int .u32 (xor3 x y z : Int))) := by
  generalize hf : (fun j : Nat => (xor3 x y z).testBit j) = f
  have hres : bsum f 32 = xor3 x y z := bsum_eq (xor3_lt hx hy hz) fun i hi => by rw [← hf]
  refine acalls_of_awp Tryd.func48 rfl rfl Tryd.ntmps48 (rts := #[23]) rfl Tryd.results48 (by simp) ?_
  simp only [argSlots, Nat.reduceAdd]
  refine awp_seq_k fun K hK => awp_region [] ?_
  simp only [K_eqs, Nat.reduceLT, K_ops, cav, K_nil, Then, true_and]
  (repeat' apply And.intro) <;> try (first | exact True.intro | omega)
  refine hK _ ?_
  clear hK K
  refine awp_seq_k fun K hK => awp_region [] ?_
  simp only [K_eqs, Nat.reduceLT, K_ops, cav, K_nil, Then, true_and]
  (repeat' apply And.intro) <;> try (first | exact True.intro | omega)
  refine hK _ ?_
  clear hK K
  refine awp_seq_k fun K1 hK1 => ?_
  refine awp_seq_k fun K hK => awp_region [] ?_
  simp only [K_eqs, Nat.reduceLT, K_ops, cav, K_nil, Then, true_and]
  (repeat' apply And.intro) <;> try (first | exact True.intro | omega)
  refine hK _ ?_
  clear hK K
  refine awp_keep [0, 1, 2, 7, 8] ?_
  simp only [keep_eqs, K_ops, Nat.reduceEqDiff, if_true, if_false]
  refine awp_block ?_
  refine awp_loop_from (fun i : Nat => ⟨31, [(0, .val (.int .u32 (x : Int))), (1, .val (.int .u32 (y : Int))), (2, .val (.int .u32 (z : Int))), (7, .val (.int .u32 (bsum f i : Int))), (8, .val (.int .i64 (i : Int)))], []⟩)
    (fun i => i ≤ 32) (fun i => 32 - i) 0 (by omega) (.of_keep [0, 1, 2, 7, 8] rfl) ?_
  intro i hi
  refine awp_seq_k fun K2 hK2 => ?_
  refine awp_seq_k fun K hK => awp_region [] ?_
  simp only [K_eqs, Nat.reduceLT, K_ops, reduceCtorEq, Nat.reduceEqDiff, if_true, if_false, cav, K_int, aint, d_lt, K_nil, Then, true_and]
  (repeat' apply And.intro) <;> try (first | exact True.intro | omega)
  refine hK _ ?_
  clear hK K
  refine awp_cond rfl rfl (fun h => ?_) (fun h => ?_)
  · have hlt : i < 32 := of_decide_eq_true h
    refine awp_skip (hK2 _ ?_)
    clear hK2 K2
    refine awp_keep [0, 1, 2, 7, 8] ?_
    simp only [keep_eqs, K_ops, Nat.reduceEqDiff, if_true, if_false]
    refine awp_seq ?_
    refine awp_block ?_
    have hfi : (((x.testBit i).toNat + (y.testBit i).toNat) % 4294967296 + (z.testBit i).toNat) % 4294967296 % 2 = (f i).toNat := by
      rw [← hf]
      show _ = ((xor3 x y z).testBit i).toNat
      rw [xor3_bit]
      cases x.testBit i <;> cases y.testBit i <;> cases z.testBit i <;> rfl
    obtain ⟨s1, s2⟩ := bsum_step f i hlt
    have e1 : (if i ≤ 32 then i else 32) = i := if_pos (by omega)
    have e2 : i % 18446744073709551616 = i := Nat.mod_eq_of_lt (by omega)
    refine awp_region [] ?_
    simp only [K_eqs, Nat.reduceLT, K_ops, reduceCtorEq, Nat.reduceEqDiff, if_false, if_true, K_call, Nat.reduceAdd, List.contains_nil, Bool.false_eq_true, List.map_cons, List.map_nil, aviews, aview, noref, and_true, Bool.or_false, true_and]
    refine andC_eq (by simp [norefs_Bs, norefs, noref]) (bit_ok x i hlt) (by simp [noref, norefs, norefs_Bs, flat]) ?_
    simp only [RestC_eqs, K_eqs, Nat.reduceLT, K_ops, Nat.reduceEqDiff, reduceCtorEq, if_false, if_true, K_call, Nat.reduceAdd, List.contains_nil, Bool.false_eq_true, List.map_cons, List.map_nil, aviews, aview, noref, and_true, Bool.or_false, true_and]
    refine andC_eq (by simp [norefs_Bs, norefs, noref]) (bit_ok y i hlt) (by simp [noref, norefs, norefs_Bs, flat]) ?_
    simp only [RestC_eqs, K_eqs, K_ops, Nat.reduceEqDiff, reduceCtorEq, if_false, if_true, K_int, aint, Nat.reduceLT, K_call, Nat.reduceAdd, List.contains_nil, Bool.false_eq_true, List.map_cons, List.map_nil, aviews, aview, noref, and_true, Bool.or_false, true_and]
    refine andC_eq (by simp [norefs_Bs, norefs, noref]) (bit_ok z i hlt) (by simp [noref, norefs, norefs_Bs, flat]) ?_
    simp only [n_addn, n_u32, RestC_eqs, K_eqs, K_ops, Nat.reduceEqDiff, reduceCtorEq, if_false, if_true, K_int, aint, Nat.reduceLT, cav, ne_eq, Int.reduceEq, not_false_eq_true, and_true, n_tmod, hfi, K_conv, Tryd.underlying60, List.contains_nil, Bool.false_eq_true, aconvO, aview, noref, aconv, Tryd.underlying3, Option.isSome_some, n_u64, e2, Int.toNat_natCast, IntKind.bits, Nat.min_def, e1, n_shl, s1, s2, K_nil, true_and]
    refine ⟨by omega, ?_⟩
    simp only [InBlock, Then]
    refine awp_keep [0, 1, 2, 7, 8] ?_
    simp only [keep_eqs, K_ops, Nat.reduceEqDiff, if_true, if_false]
    have h6 : IntKind.i64.wrap ((i + 1 : Nat) : Int) = ((i + 1 : Nat) : Int) := n_i64 (by omega)
    refine awp_region [] ?_
    simp only [K_eqs, Nat.reduceLT, K_ops, reduceCtorEq, Nat.reduceEqDiff, if_true, if_false, cav, K_int, aint, n_add, h6, K_nil, Then, true_and]
    refine ⟨i + 1, by omega, by omega, .of_keep [0, 1, 2, 7, 8] rfl⟩
  · have he : i = 32 := by have := of_decide_eq_false h; omega
    subst he
    refine awp_exit ?_
    simp only [Then, InBlock, if_true]
    refine hK1 _ ?_
    clear hK1 K1 hK2 K2
    refine awp_keep [7] ?_
    simp only [keep_eqs, K_ops, Nat.reduceEqDiff, if_true, if_false]
    refine awp_seq_k fun K hK => awp_region [] ?_
    simp only [K_eqs, Nat.reduceLT, K_ops, if_true, Nat.reduceEqDiff, if_false, K_nil, Then, true_and]
    (repeat' apply And.intro) <;> try (first | exact True.intro | omega)
    refine hK _ ?_
    clear hK K
    refine awp_ret ?_
    simp only [K_fin, ares, aress, ares1, afin, K_ops, Nat.reduceEqDiff, if_false, if_true, noref, and_true, true_and]
    rw [hres]

end Go.Proofs.YtjdlgbkpdfaloaaDoor
