/- The walks of layer 1 (word), second part. -/
import Derived.Test.YtjdlgbkpdfaloaaDoorWl
namespace Go.Proofs.YtjdlgbkpdfaloaaDoor
open Go Go.V
set_option linter.unusedSimpArgs false
set_option linter.unusedVariables false

theorem refsmall_ok (i : Int) (x : Nat) (hx : x < 4294967296) : ACalls Tryd.prog [] 23 [.val (.int .i64 i), .val (.int .u32 (x : Int))] [] (fun r os => os = [] ∧ r = .val (.int .u32 (small i x : Int))) := by
  refine acalls_of_awp Tryd.func23 rfl rfl Tryd.ntmps23 (rts := #[23]) rfl Tryd.results23 (by simp) ?_
  simp only [argSlots, Nat.reduceAdd]
  refine awp_seq_k fun K hK => awp_region [] ?_
  simp only [K_eqs, Nat.reduceLT, K_ops, cav, K_nil, Then, true_and]
  (repeat' apply And.intro) <;> try (first | exact True.intro | omega)
  refine hK _ ?_
  clear hK K
  refine awp_seq_k fun K1 hK1 => ?_
  by_cases h0 : i = 0
  · subst h0
    refine awp_seq_k fun K hK => awp_region [] ?_
    simp only [K_eqs, Nat.reduceLT, K_ops, reduceCtorEq, if_false, if_true, Nat.reduceEqDiff, cav, K_int, aint, beq_self_eq_true, K_nil, Then, true_and]
    (repeat' apply And.intro) <;> try (first | exact True.intro | omega)
    refine hK _ ?_
    clear hK K
    refine awp_condT rfl ?_
    refine awp_keep [1] ?_
    simp only [keep_eqs, K_ops, Nat.reduceEqDiff, if_true, if_false]
    refine awp_seq_k fun K hK => awp_region [] ?_
    simp only [K_eqs, Nat.reduceLT, K_ops, if_true, K_call, Nat.reduceAdd, List.contains_nil, Bool.false_eq_true, List.map_cons, Nat.reduceEqDiff, if_false, cav, List.map_nil, aviews, aview, noref, and_true, Bool.or_false, true_and]
    refine andC_eq (by simp [norefs_Bs, norefs, noref]) (refturn_ok x 7 hx) (by simp [noref, norefs, norefs_Bs, flat]) ?_
    simp only [RestC_eqs, K_eqs, Nat.reduceLT, K_ops, Nat.reduceEqDiff, if_true, if_false, K_call, Nat.reduceAdd, List.contains_nil, Bool.false_eq_true, List.map_cons, cav, List.map_nil, aviews, aview, noref, and_true, Bool.or_false, true_and]
    refine andC_eq (by simp [norefs_Bs, norefs, noref]) (refturn_ok x 18 hx) (by simp [noref, norefs, norefs_Bs, flat]) ?_
    simp only [RestC_eqs, K_eqs, Nat.reduceLT, K_ops, Nat.reduceEqDiff, if_true, if_false, cav, K_int, aint, ne_eq, Int.reduceEq, not_false_eq_true, and_true, n_tdiv, n_u32, show x / 8 % 4294967296 = x / 8 from by omega, K_call, Nat.reduceAdd, List.contains_nil, Bool.false_eq_true, List.map_cons, List.map_nil, aviews, aview, noref, Bool.or_false, true_and]
    refine andC_eq (by simp [norefs_Bs, norefs, noref]) (sum_ok (turn x 7) (turn x 18) (x / 8) (turn_lt hx _) (turn_lt hx _) (by omega)) (by simp [noref, norefs, norefs_Bs, flat]) ?_
    simp only [RestC_eqs, K_eqs, Nat.reduceLT, K_ops, Nat.reduceEqDiff, if_false, if_true, K_nil, Then, true_and]
    refine hK _ ?_
    refine awp_keep [4] ?_
    simp only [keep_eqs, K_ops, Nat.reduceEqDiff, if_true, if_false]
    refine awp_ret ?_
    simp only [Then, K_fin, ares, aress, ares1, afin, K_ops, if_true, noref, and_true, true_and]
    rw [small0]
  have hb0 : (i == 0) = false := by simpa using h0
  refine awp_seq_k fun K hK => awp_region [] ?_
  simp only [K_eqs, Nat.reduceLT, K_ops, reduceCtorEq, if_false, if_true, Nat.reduceEqDiff, cav, K_int, aint, hb0, K_nil, Then, true_and]
  (repeat' apply And.intro) <;> try (first | exact True.intro | omega)
  refine hK _ ?_
  clear hK K
  refine awp_condF rfl (awp_skip (hK1 _ ?_))
  clear hK1 K1
  refine awp_keep [0, 1] ?_
  simp only [keep_eqs, K_ops, Nat.reduceEqDiff, if_true, if_false]
  refine awp_seq_k fun K1 hK1 => ?_
  by_cases h1 : i = 1
  · subst h1
    refine awp_seq_k fun K hK => awp_region [] ?_
    simp only [K_eqs, Nat.reduceLT, K_ops, reduceCtorEq, if_false, if_true, Nat.reduceEqDiff, cav, K_int, aint, beq_self_eq_true, K_nil, Then, true_and]
    (repeat' apply And.intro) <;> try (first | exact True.intro | omega)
    refine hK _ ?_
    clear hK K
    refine awp_condT rfl ?_
    refine awp_keep [1] ?_
    simp only [keep_eqs, K_ops, Nat.reduceEqDiff, if_true, if_false]
    refine awp_seq_k fun K hK => awp_region [] ?_
    simp only [K_eqs, Nat.reduceLT, K_ops, if_true, K_call, Nat.reduceAdd, List.contains_nil, Bool.false_eq_true, List.map_cons, Nat.reduceEqDiff, if_false, cav, List.map_nil, aviews, aview, noref, and_true, Bool.or_false, true_and]
    refine andC_eq (by simp [norefs_Bs, norefs, noref]) (refturn_ok x 17 hx) (by simp [noref, norefs, norefs_Bs, flat]) ?_
    simp only [RestC_eqs, K_eqs, Nat.reduceLT, K_ops, Nat.reduceEqDiff, if_true, if_false, K_call, Nat.reduceAdd, List.contains_nil, Bool.false_eq_true, List.map_cons, cav, List.map_nil, aviews, aview, noref, and_true, Bool.or_false, true_and]
    refine andC_eq (by simp [norefs_Bs, norefs, noref]) (refturn_ok x 19 hx) (by simp [noref, norefs, norefs_Bs, flat]) ?_
    simp only [RestC_eqs, K_eqs, Nat.reduceLT, K_ops, Nat.reduceEqDiff, if_true, if_false, cav, K_int, aint, ne_eq, Int.reduceEq, not_false_eq_true, and_true, n_tdiv, n_u32, show x / 1024 % 4294967296 = x / 1024 from by omega, K_call, Nat.reduceAdd, List.contains_nil, Bool.false_eq_true, List.map_cons, List.map_nil, aviews, aview, noref, Bool.or_false, true_and]
    refine andC_eq (by simp [norefs_Bs, norefs, noref]) (sum_ok (turn x 17) (turn x 19) (x / 1024) (turn_lt hx _) (turn_lt hx _) (by omega)) (by simp [noref, norefs, norefs_Bs, flat]) ?_
    simp only [RestC_eqs, K_eqs, Nat.reduceLT, K_ops, Nat.reduceEqDiff, if_false, if_true, K_nil, Then, true_and]
    refine hK _ ?_
    refine awp_keep [4] ?_
    simp only [keep_eqs, K_ops, Nat.reduceEqDiff, if_true, if_false]
    refine awp_ret ?_
    simp only [Then, K_fin, ares, aress, ares1, afin, K_ops, if_true, noref, and_true, true_and]
    rw [small1]
  have hb1 : (i == 1) = false := by simpa using h1
  refine awp_seq_k fun K hK => awp_region [] ?_
  simp only [K_eqs, Nat.reduceLT, K_ops, reduceCtorEq, if_false, if_true, Nat.reduceEqDiff, cav, K_int, aint, hb1, K_nil, Then, true_and]
  (repeat' apply And.intro) <;> try (first | exact True.intro | omega)
  refine hK _ ?_
  clear hK K
  refine awp_condF rfl (awp_skip (hK1 _ ?_))
  clear hK1 K1
  refine awp_seq_k fun K hK => awp_region [] ?_
  simp only [K_eqs, Nat.reduceLT, K_ops, cav, K_nil, Then, true_and]
  (repeat' apply And.intro) <;> try (first | exact True.intro | omega)
  refine hK _ ?_
  clear hK K
  refine awp_keep [4] ?_
  simp only [keep_eqs, K_ops, Nat.reduceEqDiff, if_true, if_false]
  refine awp_ret ?_
  simp only [K_fin, ares, aress, ares1, afin, K_ops, if_true, noref, and_true, true_and]
  rw [small2 x h0 h1]
  rfl

end Go.Proofs.YtjdlgbkpdfaloaaDoor
