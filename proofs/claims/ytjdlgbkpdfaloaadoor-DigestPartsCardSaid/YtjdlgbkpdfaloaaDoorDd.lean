/- The walks of the words' sums. -/
import Derived.Test.YtjdlgbkpdfaloaaDoorDp
import Derived.Test.YtjdlgbkpdfaloaaDoorWl
import Derived.Test.YtjdlgbkpdfaloaaDoorWm
import Derived.Test.YtjdlgbkpdfaloaaDoorWn
namespace Go.Proofs.YtjdlgbkpdfaloaaDoor
open Go Go.V
set_option linter.unusedSimpArgs false
set_option linter.unusedVariables false

theorem great_ok (i : Int) (x : Nat) (hx : x < 4294967296) : ACalls Tryd.prog [] 20 [.val (.int .i64 i), .val (.int .u32 (x : Int))] [] (fun r os => os = [] ∧ r = .val (.int .u32 (great i x : Int))) := by
  have hm : ∀ a b, (turn x a ^^^ turn x b) % 4294967296 = turn x a ^^^ turn x b := fun a b => Nat.mod_eq_of_lt (lt32_of_bits fun j hj => by simp [Nat.testBit_xor, bit_high (turn_lt hx _) hj])
  have f0 : ((turn x 2 ^^^ turn x 13) ^^^ turn x 22) % 4294967296 = great 0 x := by
    have h := (Nat.mod_eq_of_lt (xor3_lt (turn_lt hx 2) (turn_lt hx 13) (turn_lt hx 22))).trans (great0 x).symm
    rw [xor3_eq]
    exact h
  have f1 : ((turn x 6 ^^^ turn x 11) ^^^ turn x 25) % 4294967296 = great 1 x := by
    have h := (Nat.mod_eq_of_lt (xor3_lt (turn_lt hx 6) (turn_lt hx 11) (turn_lt hx 25))).trans (great1 x).symm
    rw [xor3_eq]
    exact h
  refine acalls_of_awp Tryd.func20 rfl rfl Tryd.ntmps20 (rts := #[23]) rfl Tryd.results20 (by simp) ?_
  simp only [argSlots, Nat.reduceAdd]
  refine awp_seq_k fun K hK => awp_region [] ?_
  simp only [K_eqs, Nat.reduceLT, K_ops, cav, K_nil, Then, true_and]
  (repeat' apply And.intro) <;> try (first | exact True.intro | omega)
  refine hK _ ?_
  clear hK K
  refine awp_seq_k fun K1 hK1 => ?_
  refine awp_seq_k fun K hK => awp_region [] ?_
  simp only [K_eqs, Nat.reduceLT, K_ops, reduceCtorEq, if_false, if_true, K_nil, Then, true_and]
  (repeat' apply And.intro) <;> try (first | exact True.intro | omega)
  refine hK _ ?_
  clear hK K
  refine awp_block ?_
  refine awp_keep [1, 5] ?_
  simp only [keep_eqs, K_ops, Nat.reduceEqDiff, if_true, if_false]
  by_cases h0 : i = 0
  · subst h0
    refine awp_seq_k fun K hK => awp_region [] ?_
    simp only [K_eqs, K_ops, Nat.reduceEqDiff, if_true, if_false, cav, K_int, aint, beq_self_eq_true, Nat.reduceLT, K_nil, Then, true_and]
    (repeat' apply And.intro) <;> try (first | exact True.intro | omega)
    refine hK _ ?_
    clear hK K
    refine awp_condT rfl ?_
    refine awp_keep [1] ?_
    simp only [keep_eqs, K_ops, Nat.reduceEqDiff, if_true, if_false]
    refine awp_seq_k fun K hK => awp_region [] ?_
    simp only [K_eqs, Nat.reduceLT, K_ops, if_true, K_call, Nat.reduceAdd, List.contains_nil, Bool.false_eq_true, List.map_cons, Nat.reduceEqDiff, if_false, cav, List.map_nil, aviews, aview, noref, and_true, Bool.or_false, true_and]
    refine andC_eq (by simp [norefs_Bs, norefs, noref]) (turn_ok x 2 hx) (by simp [noref, norefs, norefs_Bs, flat]) ?_
    simp only [RestC_eqs, K_eqs, Nat.reduceLT, K_ops, Nat.reduceEqDiff, if_true, if_false, K_call, Nat.reduceAdd, List.contains_nil, Bool.false_eq_true, List.map_cons, cav, List.map_nil, aviews, aview, noref, and_true, Bool.or_false, true_and]
    refine andC_eq (by simp [norefs_Bs, norefs, noref]) (turn_ok x 13 hx) (by simp [noref, norefs, norefs_Bs, flat]) ?_
    simp only [RestC_eqs, K_eqs, K_ops, Nat.reduceEqDiff, if_false, if_true, K_int, aint, n_xor32, Nat.reduceLT, K_call, Nat.reduceAdd, List.contains_nil, Bool.false_eq_true, List.map_cons, cav, List.map_nil, aviews, aview, noref, and_true, Bool.or_false, true_and]
    refine andC_eq (by simp [norefs_Bs, norefs, noref]) (turn_ok x 22 hx) (by simp [noref, norefs, norefs_Bs, flat]) ?_
    simp only [hm, RestC_eqs, K_eqs, K_ops, Nat.reduceEqDiff, if_false, if_true, K_int, aint, n_xor32, f0, Nat.reduceLT, K_nil, Then, true_and]
    refine hK _ ?_
    refine awp_keep [4] ?_
    simp only [keep_eqs, K_ops, Nat.reduceEqDiff, if_true, if_false]
    refine awp_ret ?_
    simp only [InBlock, Then, K_fin, ares, aress, ares1, afin, K_ops, if_true, noref, and_true, true_and]
  have hb0 : (i == 0) = false := by simpa using h0
  refine awp_seq_k fun K hK => awp_region [] ?_
  simp only [K_eqs, K_ops, Nat.reduceEqDiff, if_true, if_false, cav, K_int, aint, hb0, Nat.reduceLT, K_nil, Then, true_and]
  (repeat' apply And.intro) <;> try (first | exact True.intro | omega)
  refine hK _ ?_
  clear hK K
  refine awp_condF rfl ?_
  refine awp_keep [1, 5] ?_
  simp only [keep_eqs, K_ops, Nat.reduceEqDiff, if_true, if_false]
  by_cases h1 : i = 1
  · subst h1
    refine awp_seq_k fun K hK => awp_region [] ?_
    simp only [K_eqs, K_ops, Nat.reduceEqDiff, if_true, if_false, cav, K_int, aint, beq_self_eq_true, Nat.reduceLT, K_nil, Then, true_and]
    (repeat' apply And.intro) <;> try (first | exact True.intro | omega)
    refine hK _ ?_
    clear hK K
    refine awp_condT rfl ?_
    refine awp_keep [1] ?_
    simp only [keep_eqs, K_ops, Nat.reduceEqDiff, if_true, if_false]
    refine awp_seq_k fun K hK => awp_region [] ?_
    simp only [K_eqs, Nat.reduceLT, K_ops, if_true, K_call, Nat.reduceAdd, List.contains_nil, Bool.false_eq_true, List.map_cons, Nat.reduceEqDiff, if_false, cav, List.map_nil, aviews, aview, noref, and_true, Bool.or_false, true_and]
    refine andC_eq (by simp [norefs_Bs, norefs, noref]) (turn_ok x 6 hx) (by simp [noref, norefs, norefs_Bs, flat]) ?_
    simp only [RestC_eqs, K_eqs, Nat.reduceLT, K_ops, Nat.reduceEqDiff, if_true, if_false, K_call, Nat.reduceAdd, List.contains_nil, Bool.false_eq_true, List.map_cons, cav, List.map_nil, aviews, aview, noref, and_true, Bool.or_false, true_and]
    refine andC_eq (by simp [norefs_Bs, norefs, noref]) (turn_ok x 11 hx) (by simp [noref, norefs, norefs_Bs, flat]) ?_
    simp only [RestC_eqs, K_eqs, K_ops, Nat.reduceEqDiff, if_false, if_true, K_int, aint, n_xor32, Nat.reduceLT, K_call, Nat.reduceAdd, List.contains_nil, Bool.false_eq_true, List.map_cons, cav, List.map_nil, aviews, aview, noref, and_true, Bool.or_false, true_and]
    refine andC_eq (by simp [norefs_Bs, norefs, noref]) (turn_ok x 25 hx) (by simp [noref, norefs, norefs_Bs, flat]) ?_
    simp only [hm, RestC_eqs, K_eqs, K_ops, Nat.reduceEqDiff, if_false, if_true, K_int, aint, n_xor32, f1, Nat.reduceLT, K_nil, Then, true_and]
    refine hK _ ?_
    refine awp_keep [4] ?_
    simp only [keep_eqs, K_ops, Nat.reduceEqDiff, if_true, if_false]
    refine awp_ret ?_
    simp only [InBlock, Then, K_fin, ares, aress, ares1, afin, K_ops, if_true, noref, and_true, true_and]
  have hb1 : (i == 1) = false := by simpa using h1
  refine awp_seq_k fun K hK => awp_region [] ?_
  simp only [K_eqs, K_ops, Nat.reduceEqDiff, if_true, if_false, cav, K_int, aint, hb1, Nat.reduceLT, K_nil, Then, true_and]
  (repeat' apply And.intro) <;> try (first | exact True.intro | omega)
  refine hK _ ?_
  clear hK K
  refine awp_condF rfl ?_
  refine awp_skip ?_
  simp only [InBlock, Then]
  refine hK1 _ ?_
  clear hK1 K1
  refine awp_seq_k fun K hK => awp_region [] ?_
  simp only [K_eqs, Nat.reduceLT, K_ops, cav, K_nil, Then, true_and]
  (repeat' apply And.intro) <;> try (first | exact True.intro | omega)
  refine hK _ ?_
  clear hK K
  refine awp_keep [4] ?_
  simp only [keep_eqs, K_ops, Nat.reduceEqDiff, if_true, if_false]
  refine awp_ret ?_
  simp only [K_fin, ares, aress, ares1, afin, K_ops, if_true, noref, and_true, true_and]
  rw [great2 x h0 h1]
  rfl

theorem refgreat_ok (i : Int) (x : Nat) (hx : x < 4294967296) : ACalls Tryd.prog [] 21 [.val (.int .i64 i), .val (.int .u32 (x : Int))] [] (fun r os => os = [] ∧ r = .val (.int .u32 (great i x : Int))) := by
  refine acalls_of_awp Tryd.func21 rfl rfl Tryd.ntmps21 (rts := #[23]) rfl Tryd.results21 (by simp) ?_
  simp only [argSlots, Nat.reduceAdd]
  refine awp_seq_k fun K hK => awp_region [] ?_
  simp only [K_eqs, Nat.reduceLT, K_ops, cav, K_nil, Then, true_and]
  (repeat' apply And.intro) <;> try (first | exact True.intro | omega)
  refine hK _ ?_
  clear hK K
  refine awp_seq_k fun K1 hK1 => ?_
  by_cases h0 : i = 0
  · subst h0
    refine awp_seq_k fun K hK => awp_region [] ?_
    simp only [K_eqs, Nat.reduceLT, K_ops, reduceCtorEq, if_false, if_true, Nat.reduceEqDiff, cav, K_int, aint, beq_self_eq_true, K_nil, Then, true_and]
    (repeat' apply And.intro) <;> try (first | exact True.intro | omega)
    refine hK _ ?_
    clear hK K
    refine awp_condT rfl ?_
    refine awp_keep [1] ?_
    simp only [keep_eqs, K_ops, Nat.reduceEqDiff, if_true, if_false]
    refine awp_seq_k fun K hK => awp_region [] ?_
    simp only [K_eqs, Nat.reduceLT, K_ops, if_true, K_call, Nat.reduceAdd, List.contains_nil, Bool.false_eq_true, List.map_cons, Nat.reduceEqDiff, if_false, cav, List.map_nil, aviews, aview, noref, and_true, Bool.or_false, true_and]
    refine andC_eq (by simp [norefs_Bs, norefs, noref]) (refturn_ok x 2 hx) (by simp [noref, norefs, norefs_Bs, flat]) ?_
    simp only [RestC_eqs, K_eqs, Nat.reduceLT, K_ops, Nat.reduceEqDiff, if_true, if_false, K_call, Nat.reduceAdd, List.contains_nil, Bool.false_eq_true, List.map_cons, cav, List.map_nil, aviews, aview, noref, and_true, Bool.or_false, true_and]
    refine andC_eq (by simp [norefs_Bs, norefs, noref]) (refturn_ok x 13 hx) (by simp [noref, norefs, norefs_Bs, flat]) ?_
    simp only [RestC_eqs, K_eqs, Nat.reduceLT, K_ops, Nat.reduceEqDiff, if_true, if_false, K_call, Nat.reduceAdd, List.contains_nil, Bool.false_eq_true, List.map_cons, cav, List.map_nil, aviews, aview, noref, and_true, Bool.or_false, true_and]
    refine andC_eq (by simp [norefs_Bs, norefs, noref]) (refturn_ok x 22 hx) (by simp [noref, norefs, norefs_Bs, flat]) ?_
    simp only [RestC_eqs, K_call, Nat.reduceLT, Nat.reduceAdd, List.contains_nil, Bool.false_eq_true, K_ops, List.map_cons, Nat.reduceEqDiff, if_false, if_true, List.map_nil, aviews, aview, noref, and_true, Bool.or_false, true_and]
    refine andC_eq (by simp [norefs_Bs, norefs, noref]) (sum_ok (turn x 2) (turn x 13) (turn x 22) (turn_lt hx _) (turn_lt hx _) (turn_lt hx _)) (by simp [noref, norefs, norefs_Bs, flat]) ?_
    simp only [RestC_eqs, K_eqs, Nat.reduceLT, K_ops, Nat.reduceEqDiff, if_false, if_true, K_nil, Then, true_and]
    refine hK _ ?_
    refine awp_keep [4] ?_
    simp only [keep_eqs, K_ops, Nat.reduceEqDiff, if_true, if_false]
    refine awp_ret ?_
    simp only [Then, K_fin, ares, aress, ares1, afin, K_ops, if_true, noref, and_true, true_and]
    rw [great0]
  have hb0 : (i == 0) = false := by simpa using h0
  refine awp_seq_k fun K hK => awp_region [] ?_
  simp only [K_eqs, Nat.reduceLT, K_ops, reduceCtorEq, if_false, if_true, Nat.reduceEqDiff, cav, K_int, aint, hb0, K_nil, Then, true_and]
  (repeat' apply And.intro) <;> try (first | exact True.intro | omega)
  refine hK _ ?_
  clear hK K
  refine awp_condF rfl (awp_skip (hK1 _ ?_))
  clear hK1 K1
  refine awp_keep [0, 1] ?_
  simp only [keep_eqs, K_ops, Nat.reduceEqDiff, if_true, if_false]
  refine awp_seq_k fun K1 hK1 => ?_
  by_cases h1 : i = 1
  · subst h1
    refine awp_seq_k fun K hK => awp_region [] ?_
    simp only [K_eqs, Nat.reduceLT, K_ops, reduceCtorEq, if_false, if_true, Nat.reduceEqDiff, cav, K_int, aint, beq_self_eq_true, K_nil, Then, true_and]
    (repeat' apply And.intro) <;> try (first | exact True.intro | omega)
    refine hK _ ?_
    clear hK K
    refine awp_condT rfl ?_
    refine awp_keep [1] ?_
    simp only [keep_eqs, K_ops, Nat.reduceEqDiff, if_true, if_false]
    refine awp_seq_k fun K hK => awp_region [] ?_
    simp only [K_eqs, Nat.reduceLT, K_ops, if_true, K_call, Nat.reduceAdd, List.contains_nil, Bool.false_eq_true, List.map_cons, Nat.reduceEqDiff, if_false, cav, List.map_nil, aviews, aview, noref, and_true, Bool.or_false, true_and]
    refine andC_eq (by simp [norefs_Bs, norefs, noref]) (refturn_ok x 6 hx) (by simp [noref, norefs, norefs_Bs, flat]) ?_
    simp only [RestC_eqs, K_eqs, Nat.reduceLT, K_ops, Nat.reduceEqDiff, if_true, if_false, K_call, Nat.reduceAdd, List.contains_nil, Bool.false_eq_true, List.map_cons, cav, List.map_nil, aviews, aview, noref, and_true, Bool.or_false, true_and]
    refine andC_eq (by simp [norefs_Bs, norefs, noref]) (refturn_ok x 11 hx) (by simp [noref, norefs, norefs_Bs, flat]) ?_
    simp only [RestC_eqs, K_eqs, Nat.reduceLT, K_ops, Nat.reduceEqDiff, if_true, if_false, K_call, Nat.reduceAdd, List.contains_nil, Bool.false_eq_true, List.map_cons, cav, List.map_nil, aviews, aview, noref, and_true, Bool.or_false, true_and]
    refine andC_eq (by simp [norefs_Bs, norefs, noref]) (refturn_ok x 25 hx) (by simp [noref, norefs, norefs_Bs, flat]) ?_
    simp only [RestC_eqs, K_call, Nat.reduceLT, Nat.reduceAdd, List.contains_nil, Bool.false_eq_true, K_ops, List.map_cons, Nat.reduceEqDiff, if_false, if_true, List.map_nil, aviews, aview, noref, and_true, Bool.or_false, true_and]
    refine andC_eq (by simp [norefs_Bs, norefs, noref]) (sum_ok (turn x 6) (turn x 11) (turn x 25) (turn_lt hx _) (turn_lt hx _) (turn_lt hx _)) (by simp [noref, norefs, norefs_Bs, flat]) ?_
    simp only [RestC_eqs, K_eqs, Nat.reduceLT, K_ops, Nat.reduceEqDiff, if_false, if_true, K_nil, Then, true_and]
    refine hK _ ?_
    refine awp_keep [4] ?_
    simp only [keep_eqs, K_ops, Nat.reduceEqDiff, if_true, if_false]
    refine awp_ret ?_
    simp only [Then, K_fin, ares, aress, ares1, afin, K_ops, if_true, noref, and_true, true_and]
    rw [great1]
  have hb1 : (i == 1) = false := by simpa using h1
  refine awp_seq_k fun K hK => awp_region [] ?_
  simp only [K_eqs, Nat.reduceLT, K_ops, reduceCtorEq, if_false, if_true, Nat.reduceEqDiff, cav, K_int, aint, hb1, K_nil, Then, true_and]
  (repeat' apply And.intro) <;> try (first | exact True.intro | omega)
  refine hK _ ?_
  clear hK K
  refine awp_condF rfl (awp_skip (hK1 _ ?_))
  clear hK1 K1
  refine awp_seq_k fun K hK => awp_region [] ?_
  simp only [K_eqs, Nat.reduceLT, K_ops, cav, K_nil, Then, true_and]
  (repeat' apply And.intro) <;> try (first | exact True.intro | omega)
  refine hK _ ?_
  clear hK K
  refine awp_keep [4] ?_
  simp only [keep_eqs, K_ops, Nat.reduceEqDiff, if_true, if_false]
  refine awp_ret ?_
  simp only [K_fin, ares, aress, ares1, afin, K_ops, if_true, noref, and_true, true_and]
  rw [great2 x h0 h1]
  rfl

theorem choose_ok (x y z : Nat) (hx : x < 4294967296) (hy : y < 4294967296) (hz : z < 4294967296) : ACalls Tryd.prog [] 25 [.val (.int .u32 (x : Int)), .val (.int .u32 (y : Int)), .val (.int .u32 (z : Int))] [] (fun r os => os = [] ∧ r = .val (.int .u32 (V.choose x y z : Int))) := by
  have hn : bits BinOp.xor IntKind.u32 (if IntKind.u32.signed then -1 else IntKind.u32.max) (x : Int) = ((4294967295 ^^^ x : Nat) : Int) := by
    have h := n_xor32 4294967295 x
    rw [Nat.mod_eq_of_lt (lt32_of_bits fun j hj => by simp [Nat.testBit_xor, ones_bit, bit_high hx hj, show ¬ j < 32 by omega])] at h
    exact h
  have m1 : (x &&& y) % 4294967296 = x &&& y := Nat.mod_eq_of_lt (lt32_of_bits fun j hj => by simp [Nat.testBit_and, bit_high hx hj])
  have m2 : ((4294967295 ^^^ x) &&& z) % 4294967296 = (4294967295 ^^^ x) &&& z := Nat.mod_eq_of_lt (lt32_of_bits fun j hj => by simp [Nat.testBit_and, bit_high hz hj])
  have m3 : ((x &&& y) ^^^ ((4294967295 ^^^ x) &&& z)) % 4294967296 = V.choose x y z := Nat.mod_eq_of_lt (choose_lt hx hy hz)
  generalize 4294967295 ^^^ x = nx at hn m2 m3
  refine acalls_of_awp Tryd.func25 rfl rfl Tryd.ntmps25 (rts := #[23]) rfl Tryd.results25 (by simp) ?_
  simp only [argSlots, Nat.reduceAdd]
  refine awp_seq_k fun K hK => awp_region [] ?_
  simp only [K_eqs, Nat.reduceLT, K_ops, cav, K_nil, Then, true_and]
  (repeat' apply And.intro) <;> try (first | exact True.intro | omega)
  refine hK _ ?_
  clear hK K
  refine awp_seq_k fun K hK => awp_region [] ?_
  simp only [K_eqs, Nat.reduceLT, K_ops, reduceCtorEq, if_false, if_true, Nat.reduceEqDiff, K_int, aint, n_and32, m1, aun, hn, K_nil, Then, true_and, m2, n_xor32, m3]
  (repeat' apply And.intro) <;> try (first | exact True.intro | omega)
  refine hK _ ?_
  clear hK K
  refine awp_ret ?_
  simp only [K_fin, ares, aress, ares1, afin, K_ops, Nat.reduceEqDiff, reduceCtorEq, if_false, if_true, noref, and_true, true_and]

theorem most_ok (x y z : Nat) (hx : x < 4294967296) (hy : y < 4294967296) (hz : z < 4294967296) : ACalls Tryd.prog [] 27 [.val (.int .u32 (x : Int)), .val (.int .u32 (y : Int)), .val (.int .u32 (z : Int))] [] (fun r os => os = [] ∧ r = .val (.int .u32 (most x y z : Int))) := by
  have m1 : (x &&& y) % 4294967296 = x &&& y := Nat.mod_eq_of_lt (lt32_of_bits fun j hj => by simp [Nat.testBit_and, bit_high hx hj])
  have m2 : (x &&& z) % 4294967296 = x &&& z := Nat.mod_eq_of_lt (lt32_of_bits fun j hj => by simp [Nat.testBit_and, bit_high hz hj])
  have m4 : (y &&& z) % 4294967296 = y &&& z := Nat.mod_eq_of_lt (lt32_of_bits fun j hj => by simp [Nat.testBit_and, bit_high hz hj])
  have m5 : ((x &&& y) ^^^ (x &&& z)) % 4294967296 = (x &&& y) ^^^ (x &&& z) := Nat.mod_eq_of_lt (lt32_of_bits fun j hj => by simp [Nat.testBit_and, Nat.testBit_xor, bit_high hx hj])
  have m3 : (((x &&& y) ^^^ (x &&& z)) ^^^ (y &&& z)) % 4294967296 = most x y z := Nat.mod_eq_of_lt (most_lt hx hy hz)
  refine acalls_of_awp Tryd.func27 rfl rfl Tryd.ntmps27 (rts := #[23]) rfl Tryd.results27 (by simp) ?_
  simp only [argSlots, Nat.reduceAdd]
  refine awp_seq_k fun K hK => awp_region [] ?_
  simp only [K_eqs, Nat.reduceLT, K_ops, cav, K_nil, Then, true_and]
  (repeat' apply And.intro) <;> try (first | exact True.intro | omega)
  refine hK _ ?_
  clear hK K
  refine awp_seq_k fun K hK => awp_region [] ?_
  simp only [K_eqs, Nat.reduceLT, K_ops, reduceCtorEq, if_false, if_true, Nat.reduceEqDiff, K_int, aint, n_and32, m1, m2, n_xor32, m5, m4, m3, K_nil, Then, true_and]
  (repeat' apply And.intro) <;> try (first | exact True.intro | omega)
  refine hK _ ?_
  clear hK K
  refine awp_ret ?_
  simp only [K_fin, ares, aress, ares1, afin, K_ops, Nat.reduceEqDiff, reduceCtorEq, if_false, if_true, noref, and_true, true_and]

theorem refchoose_ok (x y z : Nat) (hx : x < 4294967296) (hy : y < 4294967296) (hz : z < 4294967296) : ACalls Tryd.prog [] 26 [.val (.int .u32 (x : Int)), .val (.int .u32 (y : Int)), .val (.int .u32 (z : Int))] [] (fun r os => os = [] ∧ r = .val (.int .u32 (V.choose x y z : Int))) := by
  generalize hf : (fun j : Nat => (V.choose x y z).testBit j) = f
  have hres : bsum f 32 = V.choose x y z := bsum_eq (choose_lt hx hy hz) fun i hi => by rw [← hf]
  refine acalls_of_awp Tryd.func26 rfl rfl Tryd.ntmps26 (rts := #[23]) rfl Tryd.results26 (by simp) ?_
  simp only [argSlots, Nat.reduceAdd]
  refine awp_seq_k fun K hK => awp_region [] ?_
  simp only [K_eqs, Nat.reduceLT, K_ops, cav, K_nil, Then, true_and]
  (repeat' apply And.intro) <;> try (first | exact True.intro | omega)
  refine hK _ ?_
  clear hK K
  refine awp_seq_k fun K hK => awp_region [] ?_
  simp only [K_eqs, Nat.reduceLT, K_ops, cav, K_nil, Then, true_and]
  (repeat' apply And.intro) <;> try (first | exact True.intro | omega)
  refine hK _ ?_
  clear hK K
  refine awp_seq_k fun K1 hK1 => ?_
  refine awp_seq_k fun K hK => awp_region [] ?_
  simp only [K_eqs, Nat.reduceLT, K_ops, cav, K_nil, Then, true_and]
  (repeat' apply And.intro) <;> try (first | exact True.intro | omega)
  refine hK _ ?_
  clear hK K
  refine awp_keep [0, 1, 2, 7, 8] ?_
  simp only [keep_eqs, K_ops, Nat.reduceEqDiff, if_true, if_false]
  refine awp_block ?_
  refine awp_loop_from (fun i : Nat => ⟨31, [(0, .val (.int .u32 (x : Int))), (1, .val (.int .u32 (y : Int))), (2, .val (.int .u32 (z : Int))), (7, .val (.int .u32 (bsum f i : Int))), (8, .val (.int .i64 (i : Int)))], []⟩)
    (fun i => i ≤ 32) (fun i => 32 - i) 0 (by omega) (.of_keep [0, 1, 2, 7, 8] rfl) ?_
  intro i hi
  refine awp_seq_k fun K2 hK2 => ?_
  refine awp_seq_k fun K hK => awp_region [] ?_
  simp only [K_eqs, Nat.reduceLT, K_ops, reduceCtorEq, Nat.reduceEqDiff, if_true, if_false, cav, K_int, aint, d_lt, K_nil, Then, true_and]
  (repeat' apply And.intro) <;> try (first | exact True.intro | omega)
  refine hK _ ?_
  clear hK K
  refine awp_cond rfl rfl (fun h => ?_) (fun h => ?_)
  · have hlt : i < 32 := of_decide_eq_true h
    refine awp_skip (hK2 _ ?_)
    clear hK2 K2
    refine awp_keep [0, 1, 2, 7, 8] ?_
    simp only [keep_eqs, K_ops, Nat.reduceEqDiff, if_true, if_false]
    refine awp_seq ?_
    refine awp_block ?_
    have hfi : f i = (if x.testBit i then y.testBit i else z.testBit i) := by
      rw [← hf]
      show (V.choose x y z).testBit i = _
      rw [choose_bit _ _ _ _ hlt]
    obtain ⟨s1, s2⟩ := bsum_step f i hlt
    have e1 : (if i ≤ 32 then i else 32) = i := if_pos (by omega)
    have e2 : i % 18446744073709551616 = i := Nat.mod_eq_of_lt (by omega)
    refine awp_seq_k fun K hK => awp_region [] ?_
    simp only [K_eqs, Nat.reduceLT, K_ops, reduceCtorEq, Nat.reduceEqDiff, if_false, if_true, K_call, Nat.reduceAdd, List.contains_nil, Bool.false_eq_true, List.map_cons, List.map_nil, aviews, aview, noref, and_true, Bool.or_false, true_and]
    refine andC_eq (by simp [norefs_Bs, norefs, noref]) (bit_ok z i hlt) (by simp [noref, norefs, norefs_Bs, flat]) ?_
    simp only [RestC_eqs, K_eqs, Nat.reduceLT, K_ops, Nat.reduceEqDiff, reduceCtorEq, if_false, if_true, K_nil, Then, true_and]
    refine hK _ ?_
    clear hK K
    refine awp_keep [0, 1, 2, 7, 8, 9] ?_
    simp only [keep_eqs, K_ops, Nat.reduceEqDiff, if_true, if_false]
    refine awp_seq_k fun K3 hK3 => ?_
    refine awp_seq_k fun K hK => awp_region [] ?_
    simp only [K_eqs, Nat.reduceLT, K_ops, reduceCtorEq, if_false, if_true, Nat.reduceEqDiff, K_call, Nat.reduceAdd, List.contains_nil, Bool.false_eq_true, List.map_cons, List.map_nil, aviews, aview, noref, and_true, Bool.or_false, true_and]
    refine andC_eq (by simp [norefs_Bs, norefs, noref]) (bit_ok x i hlt) (by simp [noref, norefs, norefs_Bs, flat]) ?_
    simp only [RestC_eqs, K_eqs, K_ops, Nat.reduceEqDiff, reduceCtorEq, if_false, if_true, cav, K_int, aint, Nat.reduceLT, K_nil, Then, true_and]
    refine hK _ ?_
    clear hK K
    cases hxi : x.testBit i
    · rw [hxi] at hfi
      simp only [Bool.false_eq_true, if_false] at hfi
      refine awp_condF rfl (awp_skip (hK3 _ ?_))
      clear hK3 K3
      refine awp_keep [0, 1, 2, 7, 8, 9] ?_
      simp only [keep_eqs, K_ops, Nat.reduceEqDiff, if_true, if_false]
      rw [← hfi]
      refine awp_region [] ?_
      simp only [K_eqs, Nat.reduceLT, K_ops, reduceCtorEq, Nat.reduceEqDiff, if_false, if_true, K_conv, Tryd.underlying60, List.contains_nil, Bool.false_eq_true, aconvO, aview, noref, aconv, Tryd.underlying3, Option.isSome_some, n_u64, e2, and_true, K_int, aint, Int.toNat_natCast, IntKind.bits, Nat.min_def, e1, n_shl, n_u32, s1, n_addn, s2, K_nil, true_and]
      refine ⟨by omega, ?_⟩
      simp only [InBlock, Then]
      refine awp_keep [0, 1, 2, 7, 8] ?_
      simp only [keep_eqs, K_ops, Nat.reduceEqDiff, if_true, if_false]
      have h6 : IntKind.i64.wrap ((i + 1 : Nat) : Int) = ((i + 1 : Nat) : Int) := n_i64 (by omega)
      refine awp_region [] ?_
      simp only [K_eqs, Nat.reduceLT, K_ops, reduceCtorEq, Nat.reduceEqDiff, if_true, if_false, cav, K_int, aint, n_add, h6, K_nil, Then, true_and]
      refine ⟨i + 1, by omega, by omega, .of_keep [0, 1, 2, 7, 8] rfl⟩
    · rw [hxi] at hfi
      simp only [if_true] at hfi
      refine awp_condT rfl ?_
      refine awp_keep [0, 1, 2, 7, 8] ?_
      simp only [keep_eqs, K_ops, Nat.reduceEqDiff, if_true, if_false]
      refine awp_region [] ?_
      simp only [K_eqs, Nat.reduceLT, K_ops, reduceCtorEq, Nat.reduceEqDiff, if_false, if_true, K_call, Nat.reduceAdd, List.contains_nil, Bool.false_eq_true, List.map_cons, List.map_nil, aviews, aview, noref, and_true, Bool.or_false, true_and]
      refine andC_eq (by simp [norefs_Bs, norefs, noref]) (bit_ok y i hlt) (by simp [noref, norefs, norefs_Bs, flat]) ?_
      simp only [RestC_eqs, K_eqs, Nat.reduceLT, K_ops, Nat.reduceEqDiff, reduceCtorEq, if_false, if_true, K_nil, Then, true_and]
      refine hK3 _ ?_
      clear hK3 K3
      refine awp_keep [0, 1, 2, 7, 8, 9] ?_
      simp only [keep_eqs, K_ops, Nat.reduceEqDiff, if_true, if_false]
      rw [← hfi]
      refine awp_region [] ?_
      simp only [K_eqs, Nat.reduceLT, K_ops, reduceCtorEq, Nat.reduceEqDiff, if_false, if_true, K_conv, Tryd.underlying60, List.contains_nil, Bool.false_eq_true, aconvO, aview, noref, aconv, Tryd.underlying3, Option.isSome_some, n_u64, e2, and_true, K_int, aint, Int.toNat_natCast, IntKind.bits, Nat.min_def, e1, n_shl, n_u32, s1, n_addn, s2, K_nil, true_and]
      refine ⟨by omega, ?_⟩
      simp only [InBlock, Then]
      refine awp_keep [0, 1, 2, 7, 8] ?_
      simp only [keep_eqs, K_ops, Nat.reduceEqDiff, if_true, if_false]
      have h6 : IntKind.i64.wrap ((i + 1 : Nat) : Int) = ((i + 1 : Nat) : Int) := n_i64 (by omega)
      refine awp_region [] ?_
      simp only [K_eqs, Nat.reduceLT, K_ops, reduceCtorEq, Nat.reduceEqDiff, if_true, if_false, cav, K_int, aint, n_add, h6, K_nil, Then, true_and]
      refine ⟨i + 1, by omega, by omega, .of_keep [0, 1, 2, 7, 8] rfl⟩
  · have he : i = 32 := by have := of_decide_eq_false h; omega
    subst he
    refine awp_exit ?_
    simp only [Then, InBlock, if_true]
    refine hK1 _ ?_
    clear hK1 K1 hK2 K2
    refine awp_keep [7] ?_
    simp only [keep_eqs, K_ops, Nat.reduceEqDiff, if_true, if_false]
    refine awp_seq_k fun K hK => awp_region [] ?_
    simp only [K_eqs, Nat.reduceLT, K_ops, if_true, Nat.reduceEqDiff, if_false, K_nil, Then, true_and]
    (repeat' apply And.intro) <;> try (first | exact True.intro | omega)
    refine hK _ ?_
    clear hK K
    refine awp_ret ?_
    simp only [K_fin, ares, aress, ares1, afin, K_ops, Nat.reduceEqDiff, if_false, if_true, noref, and_true, true_and]
    rw [hres]

theorem refmost_ok (x y z : Nat) (hx : x < 4294967296) (hy : y < 4294967296) (hz : z < 4294967296) : ACalls Tryd.prog [] 28 [.val (.int .u32 (x : Int)), .val (.int .u32 (y : Int)), .val (.int .u32 (z : Int))] [] (fun r os => os = [] ∧ r = .val (.int .u32 (most x y z : Int))) := by
  generalize hf : (fun j : Nat => (most x y z).testBit j) = f
  have hres : bsum f 32 = most x y z := bsum_eq (most_lt hx hy hz) fun i hi => by rw [← hf]
  refine acalls_of_awp Tryd.func28 rfl rfl Tryd.ntmps28 (rts := #[23]) rfl Tryd.results28 (by simp) ?_
  simp only [argSlots, Nat.reduceAdd]
  refine awp_seq_k fun K hK => awp_region [] ?_
  simp only [K_eqs, Nat.reduceLT, K_ops, cav, K_nil, Then, true_and]
  (repeat' apply And.intro) <;> try (first | exact True.intro | omega)
  refine hK _ ?_
  clear hK K
  refine awp_seq_k fun K hK => awp_region [] ?_
  simp only [K_eqs, Nat.reduceLT, K_ops, cav, K_nil, Then, true_and]
  (repeat' apply And.intro) <;> try (first | exact True.intro | omega)
  refine hK _ ?_
  clear hK K
  refine awp_seq_k fun K1 hK1 => ?_
  refine awp_seq_k fun K hK => awp_region [] ?_
  simp only [K_eqs, Nat.reduceLT, K_ops, cav, K_nil, Then, true_and]
  (repeat' apply And.intro) <;> try (first | exact True.intro | omega)
  refine hK _ ?_
  clear hK K
  refine awp_keep [0, 1, 2, 7, 8] ?_
  simp only [keep_eqs, K_ops, Nat.reduceEqDiff, if_true, if_false]
  refine awp_block ?_
  refine awp_loop_from (fun i : Nat => ⟨31, [(0, .val (.int .u32 (x : Int))), (1, .val (.int .u32 (y : Int))), (2, .val (.int .u32 (z : Int))), (7, .val (.int .u32 (bsum f i : Int))), (8, .val (.int .i64 (i : Int)))], []⟩)
    (fun i => i ≤ 32) (fun i => 32 - i) 0 (by omega) (.of_keep [0, 1, 2, 7, 8] rfl) ?_
  intro i hi
  refine awp_seq_k fun K2 hK2 => ?_
  refine awp_seq_k fun K hK => awp_region [] ?_
  simp only [K_eqs, Nat.reduceLT, K_ops, reduceCtorEq, Nat.reduceEqDiff, if_true, if_false, cav, K_int, aint, d_lt, K_nil, Then, true_and]
  (repeat' apply And.intro) <;> try (first | exact True.intro | omega)
  refine hK _ ?_
  clear hK K
  refine awp_cond rfl rfl (fun h => ?_) (fun h => ?_)
  · have hlt : i < 32 := of_decide_eq_true h
    refine awp_skip (hK2 _ ?_)
    clear hK2 K2
    refine awp_keep [0, 1, 2, 7, 8] ?_
    simp only [keep_eqs, K_ops, Nat.reduceEqDiff, if_true, if_false]
    refine awp_seq ?_
    refine awp_block ?_
    have hfi : f i = decide (2 ≤ ((x.testBit i).toNat + (y.testBit i).toNat) % 4294967296 + (z.testBit i).toNat) := by
      rw [← hf]
      show (most x y z).testBit i = _
      rw [most_bit]
      cases x.testBit i <;> cases y.testBit i <;> cases z.testBit i <;> rfl
    have hmm : (((x.testBit i).toNat + (y.testBit i).toNat) % 4294967296 + (z.testBit i).toNat) % 4294967296 = ((x.testBit i).toNat + (y.testBit i).toNat) % 4294967296 + (z.testBit i).toNat := by
      cases x.testBit i <;> cases y.testBit i <;> cases z.testBit i <;> rfl
    obtain ⟨s1, s2⟩ := bsum_step f i hlt
    have e1 : (if i ≤ 32 then i else 32) = i := if_pos (by omega)
    have e2 : i % 18446744073709551616 = i := Nat.mod_eq_of_lt (by omega)
    refine awp_seq_k fun K hK => awp_region [] ?_
    simp only [K_eqs, Nat.reduceLT, K_ops, reduceCtorEq, if_false, if_true, Nat.reduceEqDiff, K_call, Nat.reduceAdd, List.contains_nil, Bool.false_eq_true, List.map_cons, List.map_nil, aviews, aview, noref, and_true, Bool.or_false, true_and]
    refine andC_eq (by simp [norefs_Bs, norefs, noref]) (bit_ok x i hlt) (by simp [noref, norefs, norefs_Bs, flat]) ?_
    simp only [RestC_eqs, K_eqs, Nat.reduceLT, K_ops, Nat.reduceEqDiff, reduceCtorEq, if_false, if_true, K_call, Nat.reduceAdd, List.contains_nil, Bool.false_eq_true, List.map_cons, List.map_nil, aviews, aview, noref, and_true, Bool.or_false, true_and]
    refine andC_eq (by simp [norefs_Bs, norefs, noref]) (bit_ok y i hlt) (by simp [noref, norefs, norefs_Bs, flat]) ?_
    simp only [RestC_eqs, K_eqs, K_ops, Nat.reduceEqDiff, reduceCtorEq, if_false, if_true, K_int, aint, Nat.reduceLT, K_call, Nat.reduceAdd, List.contains_nil, Bool.false_eq_true, List.map_cons, List.map_nil, aviews, aview, noref, and_true, Bool.or_false, true_and]
    refine andC_eq (by simp [norefs_Bs, norefs, noref]) (bit_ok z i hlt) (by simp [noref, norefs, norefs_Bs, flat]) ?_
    simp only [n_addn, n_u32, RestC_eqs, K_eqs, K_ops, Nat.reduceEqDiff, reduceCtorEq, if_false, if_true, K_int, aint, hmm, Nat.reduceLT, cav, d_ge, ← hfi, K_nil, Then, true_and]
    refine hK _ ?_
    clear hK K
    cases hfv : f i
    · have hb : bsum f i = bsum f (i + 1) := by simp [bsum, hfv]
      refine awp_condF rfl (awp_skip ?_)
      rw [hb]
      simp only [InBlock, Then]
      refine awp_keep [0, 1, 2, 7, 8] ?_
      simp only [keep_eqs, K_ops, Nat.reduceEqDiff, if_true, if_false]
      have h6 : IntKind.i64.wrap ((i + 1 : Nat) : Int) = ((i + 1 : Nat) : Int) := n_i64 (by omega)
      refine awp_region [] ?_
      simp only [K_eqs, Nat.reduceLT, K_ops, reduceCtorEq, Nat.reduceEqDiff, if_true, if_false, cav, K_int, aint, n_add, h6, K_nil, Then, true_and]
      refine ⟨i + 1, by omega, by omega, .of_keep [0, 1, 2, 7, 8] rfl⟩
    · rw [hfv] at s1 s2
      simp only [Bool.toNat_true] at s1 s2
      refine awp_condT rfl ?_
      refine awp_keep [0, 1, 2, 7, 8] ?_
      simp only [keep_eqs, K_ops, Nat.reduceEqDiff, if_true, if_false]
      refine awp_region [] ?_
      simp only [K_eqs, Nat.reduceLT, K_ops, reduceCtorEq, Nat.reduceEqDiff, if_false, if_true, K_conv, Tryd.underlying60, List.contains_nil, Bool.false_eq_true, aconvO, aview, noref, aconv, Tryd.underlying3, Option.isSome_some, n_u64, e2, and_true, cav, K_int, aint, Int.toNat_natCast, IntKind.bits, Nat.min_def, e1, n_rshl, n_u32, s1, n_addn, s2, K_nil, true_and]
      refine ⟨by omega, ?_⟩
      simp only [InBlock, Then]
      refine awp_keep [0, 1, 2, 7, 8] ?_
      simp only [keep_eqs, K_ops, Nat.reduceEqDiff, if_true, if_false]
      have h6 : IntKind.i64.wrap ((i + 1 : Nat) : Int) = ((i + 1 : Nat) : Int) := n_i64 (by omega)
      refine awp_region [] ?_
      simp only [K_eqs, Nat.reduceLT, K_ops, reduceCtorEq, Nat.reduceEqDiff, if_true, if_false, cav, K_int, aint, n_add, h6, K_nil, Then, true_and]
      refine ⟨i + 1, by omega, by omega, .of_keep [0, 1, 2, 7, 8] rfl⟩
  · have he : i = 32 := by have := of_decide_eq_false h; omega
    subst he
    refine awp_exit ?_
    simp only [Then, InBlock, if_true]
    refine hK1 _ ?_
    clear hK1 K1 hK2 K2
    refine awp_keep [7] ?_
    simp only [keep_eqs, K_ops, Nat.reduceEqDiff, if_true, if_false]
    refine awp_seq_k fun K hK => awp_region [] ?_
    simp only [K_eqs, Nat.reduceLT, K_ops, if_true, Nat.reduceEqDiff, if_false, K_nil, Then, true_and]
    (repeat' apply And.intro) <;> try (first | exact True.intro | omega)
    refine hK _ ?_
    clear hK K
    refine awp_ret ?_
    simp only [K_fin, ares, aress, ares1, afin, K_ops, Nat.reduceEqDiff, if_false, if_true, noref, and_true, true_and]
    rw [hres]
end Go.Proofs.YtjdlgbkpdfaloaaDoor
