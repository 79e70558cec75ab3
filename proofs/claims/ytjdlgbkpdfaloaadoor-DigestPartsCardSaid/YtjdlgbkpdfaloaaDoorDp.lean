/- The table, and the words that it gives. -/
import Derived.Test.YtjdlgbkpdfaloaaDoorWa
import Derived.Test.YtjdlgbkpdfaloaaDoorVs
import Derived.Test.YtjdlgbkpdfaloaaDoorPk
namespace Go.Proofs.YtjdlgbkpdfaloaaDoor
open Go Go.V
set_option linter.unusedSimpArgs false
set_option linter.unusedVariables false

/-- The table that the row lists. -/
def GP : List (Nat × List AV) := [(0, Is .u32 tabW)]
theorem gp0 : gav GP 0 = .cptr (Is .u32 tabW) := rfl

theorem wprime_ok (i : Int) : ACalls Tryd.prog GP 11 [.val (.int .i64 i)] [] (fun r os => os = [] ∧ r = .val (.int .u32 (if 0 ≤ i ∧ i < 64 then tabW.getD i.toNat 0 else 0))) := by
  refine acalls_of_awp Tryd.func11 rfl rfl Tryd.ntmps11 (rts := #[23]) rfl Tryd.results11 (by simp) ?_
  simp only [argSlots, Nat.reduceAdd]
  refine awp_seq_k fun K hK => awp_region [] ?_
  simp only [K_eqs, Nat.reduceLT, K_ops, cav, K_nil, Then, true_and]
  (repeat' apply And.intro) <;> try (first | exact True.intro | omega)
  refine hK _ ?_
  clear hK K
  refine awp_seq_k fun K1 hK1 => ?_
  refine awp_seq_k fun K hK => ?_
  have next : ∀ (t : Bool) (s : St), t = decide (¬ (0 ≤ i ∧ i < 64)) → Weak GP s ⟨12, [(8, .val (.bool t)), (0, .val (.int .i64 i))], []⟩ → K s := by
    intro t s ht hw
    refine hK s (awp_weak hw ?_)
    clear hw hK K
    refine awp_cond rfl rfl (fun h => ?_) (fun h => ?_)
    · have hn : ¬ (0 ≤ i ∧ i < 64) := of_decide_eq_true (ht.symm.trans h)
      refine awp_keep [0] ?_
      simp only [keep_eqs, K_ops, Nat.reduceEqDiff, if_true, if_false]
      refine awp_seq_k fun K hK => awp_region [] ?_
      simp only [K_eqs, Nat.reduceLT, K_ops, cav, K_nil, Then, true_and]
      (repeat' apply And.intro) <;> try (first | exact True.intro | omega)
      refine hK _ ?_
      clear hK K
      refine awp_keep [2] ?_
      simp only [keep_eqs, K_ops, Nat.reduceEqDiff, if_true, if_false]
      refine awp_ret ?_
      simp only [Then, InBlock, K_fin, ares, aress, ares1, afin, ntok, noref, eq_self, K_ops, Nat.reduceEqDiff, if_true, if_false, List.headD_cons, List.tail_cons, and_true, true_and]
      rw [if_neg hn]
    · have hn : 0 ≤ i ∧ i < 64 := by
        have := of_decide_eq_false (ht.symm.trans h)
        omega
      refine awp_skip (hK1 _ ?_)
      clear hK1 K1
      obtain ⟨j, rfl⟩ : ∃ j : Nat, i = j := ⟨i.toNat, by omega⟩
      have hl : tabW.length = 64 := rfl
      have hj : j < 64 := by omega
      have hj2 : 0 < 64 - j := by omega
      have hj3 : j ≤ 64 := by omega
      refine awp_keep [0] ?_
      simp only [keep_eqs, K_ops, Nat.reduceEqDiff, if_true, if_false]
      refine awp_seq_k fun K hK => awp_region [] ?_
      simp only [Int.toNat_natCast, K_eqs, Nat.reduceLT, K_ops, if_true, aidxAddr, reduceCtorEq, if_false, Tryd.underlying40, gp0, tszs, Int.cast_ofNat_Int, Nat.mul_one, Is_length, hl, hj3, and_true, Is_drop, aload, Nat.reduceEqDiff, List.contains_nil, Bool.false_eq_true, apart, isAggD, Tryd.underlying23, K_nil, Then, true_and, List.length_drop, hj2, Is_getD, drop_getD, Nat.add_zero, I_un]
      refine ⟨⟨by omega, by omega⟩, hK _ ?_⟩
      refine awp_keep [2] ?_
      simp only [keep_eqs, K_ops, Nat.reduceEqDiff, if_true, if_false]
      refine awp_ret ?_
      simp only [Then, InBlock, K_fin, ares, aress, ares1, afin, ntok, noref, eq_self, K_ops, Nat.reduceEqDiff, if_true, if_false, List.headD_cons, List.tail_cons, and_true, true_and]
      rw [if_pos hn, Int.toNat_natCast]
  by_cases h0 : i < 0
  · have h0' : decide (i < 0) = true := by simpa using h0
    refine awp_region [] ?_
    simp only [K_eqs, Nat.reduceLT, K_ops, reduceCtorEq, if_true, if_false, Nat.reduceEqDiff, cav, K_int, aint, h0', gval, gslot, List.getElem?_toArray, List.getElem?_cons_succ, List.getElem?_cons_zero, Option.bind_some, gdec_eqs, K_gF, gok, apick, K_nil, Then, true_and]
    (repeat' apply And.intro) <;> try (first | exact True.intro | omega)
    refine next _ _ ?_ (.of_keep [8, 0] rfl)
    simp
    omega
  · have h0' : decide (i < 0) = false := by simpa using h0
    refine awp_region [] ?_
    simp only [K_eqs, Nat.reduceLT, K_ops, reduceCtorEq, if_true, if_false, Nat.reduceEqDiff, cav, K_int, aint, h0', gval, gslot, List.getElem?_toArray, List.getElem?_cons_succ, List.getElem?_cons_zero, Option.bind_some, gdec_eqs, Bool.not_false, K_gT, gok, apick, Bool.false_eq_true, K_nil, Then, true_and]
    (repeat' apply And.intro) <;> try (first | exact True.intro | omega)
    refine next _ _ ?_ (.of_keep [8, 0] rfl)
    rw [Bool.eq_iff_iff]
    simp
    omega

end Go.Proofs.YtjdlgbkpdfaloaaDoor
