/- The walks of layer 1 (word), second part. -/
import Derived.Test.YtjdlgbkpdfaloaaDoorWl
namespace Go.Proofs.YtjdlgbkpdfaloaaDoor
open Go Go.V
set_option linter.unusedSimpArgs false
set_option linter.unusedVariables false

theorem small_ok (i : Int) (x : Nat) (hx : x < 4294967296) : ACalls Tryd.prog [] 22 [.val (.int .i64 i), .val (.int .u32 (x : Int))] [] (fun r os => os = [] ∧ r = .val (.int .u32 (small i x : Int))) := by
  have f0 : ((turn x 7 ^^^ turn x 18) ^^^ x / 2 ^ 3) % 4294967296 = small 0 x := by
    have h := (Nat.mod_eq_of_lt (xor3_lt (turn_lt hx 7) (turn_lt hx 18) (show x / 8 < 4294967296 by omega))).trans (small0 x).symm
    rw [show (2 : Nat) ^ 3 = 8 from rfl, xor3_eq]
    exact h
  have f1 : ((turn x 17 ^^^ turn x 19) ^^^ x / 2 ^ 10) % 4294967296 = small 1 x := by
    have h := (Nat.mod_eq_of_lt (xor3_lt (turn_lt hx 17) (turn_lt hx 19) (show x / 1024 < 4294967296 by omega))).trans (small1 x).symm
    rw [show (2 : Nat) ^ 10 = 1024 from rfl, xor3_eq]
    exact h
  have hm : ∀ a b, (turn x a ^^^ turn x b) % 4294967296 = turn x a ^^^ turn x b := fun a b => Nat.mod_eq_of_lt (lt32_of_bits fun j hj => by simp [Nat.testBit_xor, bit_high (turn_lt hx _) hj])
  refine acalls_of_awp Tryd.func22 rfl rfl Tryd.ntmps22 (rts := #[23]) rfl Tryd.results22 (by simp) ?_
  simp only [argSlots, Nat.reduceAdd]
  refine awp_seq_k fun K hK => awp_region [] ?_
  simp only [K_eqs, Nat.reduceLT, K_ops, cav, K_nil, Then, true_and]
  (repeat' apply And.intro) <;> try (first | exact True.intro | omega)
  refine hK _ ?_
  clear hK K
  refine awp_seq_k fun K1 hK1 => ?_
  refine awp_seq_k fun K hK => awp_region [] ?_
  simp only [K_eqs, Nat.reduceLT, K_ops, reduceCtorEq, if_false, if_true, K_nil, Then, true_and]
  (repeat' apply And.intro) <;> try (first | exact True.intro | omega)
  refine hK _ ?_
  clear hK K
  refine awp_block ?_
  refine awp_keep [1, 5] ?_
  simp only [keep_eqs, K_ops, Nat.reduceEqDiff, if_true, if_false]
  by_cases h0 : i = 0
  · subst h0
    refine awp_seq_k fun K hK => awp_region [] ?_
    simp only [K_eqs, K_ops, Nat.reduceEqDiff, if_true, if_false, cav, K_int, aint, beq_self_eq_true, Nat.reduceLT, K_nil, Then, true_and]
    (repeat' apply And.intro) <;> try (first | exact True.intro | omega)
    refine hK _ ?_
    clear hK K
    refine awp_condT rfl ?_
    refine awp_keep [1] ?_
    simp only [keep_eqs, K_ops, Nat.reduceEqDiff, if_true, if_false]
    refine awp_seq_k fun K hK => awp_region [] ?_
    simp only [K_eqs, Nat.reduceLT, K_ops, if_true, K_call, Nat.reduceAdd, List.contains_nil, Bool.false_eq_true, List.map_cons, Nat.reduceEqDiff, if_false, cav, List.map_nil, aviews, aview, noref, and_true, Bool.or_false, true_and]
    refine andC_eq (by simp [norefs_Bs, norefs, noref]) (turn_ok x 7 hx) (by simp [noref, norefs, norefs_Bs, flat]) ?_
    simp only [RestC_eqs, K_eqs, Nat.reduceLT, K_ops, Nat.reduceEqDiff, if_true, if_false, K_call, Nat.reduceAdd, List.contains_nil, Bool.false_eq_true, List.map_cons, cav, List.map_nil, aviews, aview, noref, and_true, Bool.or_false, true_and]
    refine andC_eq (by simp [norefs_Bs, norefs, noref]) (turn_ok x 18 hx) (by simp [noref, norefs, norefs_Bs, flat]) ?_
    simp only [RestC_eqs, K_eqs, K_ops, Nat.reduceEqDiff, if_false, if_true, K_int, aint, n_xor32, hm, Nat.reduceLT, cav, Int.reduceLE, Int.reduceToNat, IntKind.bits, Nat.min_def, Nat.reduceLeDiff, n_fdiv, f0, K_nil, Then, true_and]
    refine hK _ ?_
    refine awp_keep [4] ?_
    simp only [keep_eqs, K_ops, Nat.reduceEqDiff, if_true, if_false]
    refine awp_ret ?_
    simp only [InBlock, Then, K_fin, ares, aress, ares1, afin, K_ops, if_true, noref, and_true, true_and]
  have hb0 : (i == 0) = false := by simpa using h0
  refine awp_seq_k fun K hK => awp_region [] ?_
  simp only [K_eqs, K_ops, Nat.reduceEqDiff, if_true, if_false, cav, K_int, aint, hb0, Nat.reduceLT, K_nil, Then, true_and]
  (repeat' apply And.intro) <;> try (first | exact True.intro | omega)
  refine hK _ ?_
  clear hK K
  refine awp_condF rfl ?_
  refine awp_keep [1, 5] ?_
  simp only [keep_eqs, K_ops, Nat.reduceEqDiff, if_true, if_false]
  by_cases h1 : i = 1
  · subst h1
    refine awp_seq_k fun K hK => awp_region [] ?_
    simp only [K_eqs, K_ops, Nat.reduceEqDiff, if_true, if_false, cav, K_int, aint, beq_self_eq_true, Nat.reduceLT, K_nil, Then, true_and]
    (repeat' apply And.intro) <;> try (first | exact True.intro | omega)
    refine hK _ ?_
    clear hK K
    refine awp_condT rfl ?_
    refine awp_keep [1] ?_
    simp only [keep_eqs, K_ops, Nat.reduceEqDiff, if_true, if_false]
    refine awp_seq_k fun K hK => awp_region [] ?_
    simp only [K_eqs, Nat.reduceLT, K_ops, if_true, K_call, Nat.reduceAdd, List.contains_nil, Bool.false_eq_true, List.map_cons, Nat.reduceEqDiff, if_false, cav, List.map_nil, aviews, aview, noref, and_true, Bool.or_false, true_and]
    refine andC_eq (by simp [norefs_Bs, norefs, noref]) (turn_ok x 17 hx) (by simp [noref, norefs, norefs_Bs, flat]) ?_
    simp only [RestC_eqs, K_eqs, Nat.reduceLT, K_ops, Nat.reduceEqDiff, if_true, if_false, K_call, Nat.reduceAdd, List.contains_nil, Bool.false_eq_true, List.map_cons, cav, List.map_nil, aviews, aview, noref, and_true, Bool.or_false, true_and]
    refine andC_eq (by simp [norefs_Bs, norefs, noref]) (turn_ok x 19 hx) (by simp [noref, norefs, norefs_Bs, flat]) ?_
    simp only [RestC_eqs, K_eqs, K_ops, Nat.reduceEqDiff, if_false, if_true, K_int, aint, n_xor32, hm, Nat.reduceLT, cav, Int.reduceLE, Int.reduceToNat, IntKind.bits, Nat.min_def, Nat.reduceLeDiff, n_fdiv, f1, K_nil, Then, true_and]
    refine hK _ ?_
    refine awp_keep [4] ?_
    simp only [keep_eqs, K_ops, Nat.reduceEqDiff, if_true, if_false]
    refine awp_ret ?_
    simp only [InBlock, Then, K_fin, ares, aress, ares1, afin, K_ops, if_true, noref, and_true, true_and]
  have hb1 : (i == 1) = false := by simpa using h1
  refine awp_seq_k fun K hK => awp_region [] ?_
  simp only [K_eqs, K_ops, Nat.reduceEqDiff, if_true, if_false, cav, K_int, aint, hb1, Nat.reduceLT, K_nil, Then, true_and]
  (repeat' apply And.intro) <;> try (first | exact True.intro | omega)
  refine hK _ ?_
  clear hK K
  refine awp_condF rfl ?_
  refine awp_skip ?_
  simp only [InBlock, Then]
  refine hK1 _ ?_
  clear hK1 K1
  refine awp_seq_k fun K hK => awp_region [] ?_
  simp only [K_eqs, Nat.reduceLT, K_ops, cav, K_nil, Then, true_and]
  (repeat' apply And.intro) <;> try (first | exact True.intro | omega)
  refine hK _ ?_
  clear hK K
  refine awp_keep [4] ?_
  simp only [keep_eqs, K_ops, Nat.reduceEqDiff, if_true, if_false]
  refine awp_ret ?_
  simp only [K_fin, ares, aress, ares1, afin, K_ops, if_true, noref, and_true, true_and]
  rw [small2 x h0 h1]
  rfl

end Go.Proofs.YtjdlgbkpdfaloaaDoor
