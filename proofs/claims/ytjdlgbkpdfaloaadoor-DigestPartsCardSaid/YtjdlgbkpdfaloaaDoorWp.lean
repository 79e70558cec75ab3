/- The walk of block.Schedule. -/
import Derived.Test.YtjdlgbkpdfaloaaDoorWm
import Derived.Test.YtjdlgbkpdfaloaaDoorWo
import Derived.Test.YtjdlgbkpdfaloaaDoorPx
import Derived.Test.YtjdlgbkpdfaloaaDoorVs
namespace Go.Proofs.YtjdlgbkpdfaloaaDoor
open Go Go.V
set_option linter.unusedSimpArgs false
set_option linter.unusedVariables false

/-- What a block's words are, without what is inside 'Get' and 'Small'. -/
theorem sched_calls (b : List UInt8) (hb : b.length = 64) : ∃ W s1 s0 : Nat → Nat, W = word b ∧ (∀ i, W i < 4294967296) ∧
    (∀ i, i < 16 → ∀ p, ACalls Tryd.prog [] 16 [.sl (64 - 4 * i) (Bs (b.drop (4 * i))) p] [] (fun r os => os = [] ∧ r = .val (.int .u32 (W i : Int)))) ∧
    (∀ i, ACalls Tryd.prog [] 22 [.val (.int .i64 1), .val (.int .u32 (W i : Int))] [] (fun r os => os = [] ∧ r = .val (.int .u32 (s1 i : Int)))) ∧
    (∀ i, ACalls Tryd.prog [] 22 [.val (.int .i64 0), .val (.int .u32 (W i : Int))] [] (fun r os => os = [] ∧ r = .val (.int .u32 (s0 i : Int)))) ∧
    (∀ i, 16 ≤ i → (((s1 (i - 2) + W (i - 7)) % 4294967296 + s0 (i - 15)) % 4294967296 + W (i - 16)) % 4294967296 = W i) := by
  refine ⟨word b, fun i => small 1 (word b i), fun i => small 0 (word b i), rfl, word_lt b, fun i hi p => ?_, fun i => small_ok 1 _ (word_lt b i), fun i => small_ok 0 _ (word_lt b i), fun i hi => ?_⟩
  · have h := get_ok (b.drop (4 * i)) p
    rw [List.length_drop, hb, ← word_small b i hi] at h
    exact h
  · rw [word_big b i hi]
    show (((small 1 (word b (i - 2)) + word b (i - 7)) % 4294967296 + small 0 (word b (i - 15))) % 4294967296 + word b (i - 16)) % 4294967296 = _
    generalize small 1 (word b (i - 2)) = a
    generalize small 0 (word b (i - 15)) = c
    omega

theorem schedule_ok (b : List UInt8) (hb : b.length = 64) : ACalls Tryd.prog [] 32 [.agg (Bs b)] [] (fun r os => os = [] ∧ r = .agg (Is .u32 (arr 64 (word b) 64))) := by
  obtain ⟨W, s1, s0, hW, hlt, cG, c1, c0, hbig⟩ := sched_calls b hb
  rw [← hW]
  have hbt : b.take 64 = b := List.take_of_length_le (by omega)
  have hbd : b.drop 64 = [] := List.drop_eq_nil_of_le (by omega)
  have hz : (zvs .u32 64).map cav = Is .u32 (arr 64 W 0) := by rw [zvs_Is, arr_zero]
  have hl : ∀ i, (arr 64 W i).length = 64 := arr_length 64 W
  refine acalls_of_awp Tryd.func32 rfl rfl Tryd.ntmps32 (rts := #[40]) rfl Tryd.results32 (by simp) ?_
  simp only [argSlots, Nat.reduceAdd]
  refine awp_seq_k fun K hK => awp_region [] ?_
  simp only [K_eqs, abox, acells, K_ops, if_true, Bs_one, List.length_nil, List.nil_append, Nat.reduceLT, aalloc, tzeros, hz, K_nil, Then, true_and, List.length_cons, Nat.zero_add, List.cons_append]
  (repeat' apply And.intro) <;> try (first | exact True.intro | omega)
  refine hK _ ?_
  clear hK K
  refine awp_keep [1, 2] ?_
  simp only [keep_eqs, K_ops, Nat.reduceEqDiff, if_true, if_false]
  refine awp_seq_k fun K1 hK1 => ?_
  refine awp_seq_k fun K hK => awp_region [] ?_
  simp only [K_eqs, Nat.reduceLT, K_ops, cav, K_nil, Then, true_and]
  (repeat' apply And.intro) <;> try (first | exact True.intro | omega)
  refine hK _ ?_
  clear hK K
  refine awp_block ?_
  refine awp_loop_from (fun i : Nat => ⟨40, [(1, .ptr 0 0), (2, .ptr 1 0), (4, .val (.int .i64 (i : Int)))], [.cells (Bs b), .cells (Is .u32 (arr 64 W i))]⟩)
    (fun i => i ≤ 64) (fun i => 64 - i) 0 (by omega) (.of_keep [1, 2, 4] rfl) ?_
  intro i hi
  refine awp_seq_k fun K hK => awp_region [] ?_
  simp only [K_eqs, K_ops, Nat.reduceEqDiff, if_true, if_false, cav, K_int, aint, d_lt, Nat.reduceLT, K_nil, Then, true_and]
  (repeat' apply And.intro) <;> try (first | exact True.intro | omega)
  refine hK _ ?_
  clear hK K
  refine awp_seq ?_
  refine awp_cond rfl rfl (fun h => ?_) (fun h => ?_)
  · have hlt : i < 64 := of_decide_eq_true h
    refine awp_skip ?_
    simp only [Then]
    refine awp_keep [1, 2, 4] ?_
    simp only [keep_eqs, K_ops, Nat.reduceEqDiff, if_true, if_false]
    refine awp_seq ?_
    refine awp_block ?_
    refine awp_seq_k fun K hK => awp_region [] ?_
    simp only [K_eqs, Nat.reduceLT, K_ops, Nat.reduceEqDiff, if_true, if_false, K_nil, Then, true_and]
    (repeat' apply And.intro) <;> try (first | exact True.intro | omega)
    refine hK _ ?_
    clear hK K
    refine awp_seq_k fun K hK => awp_region [] ?_
    simp only [K_eqs, Nat.reduceLT, K_ops, Nat.reduceEqDiff, if_false, if_true, cav, K_int, aint, d_lt, K_nil, Then, true_and]
    refine hK _ ?_
    clear hK K
    refine awp_keep [1, 2, 3, 4, 8] ?_
    simp only [keep_eqs, K_ops, Nat.reduceEqDiff, if_true, if_false]
    by_cases h16 : i < 16
    · refine awp_condT (by simp only [K_ops, lk, h16, decide_true]; rfl) ?_
      refine awp_keep [1, 2, 3, 4] ?_
      simp only [keep_eqs, K_ops, Nat.reduceEqDiff, if_true, if_false]
      have hw : IntKind.i64.wrap (4 * (i : Int)) = ((4 * i : Nat) : Int) := by rw [i64_wrap (by omega) (by omega)]; omega
      have h64 : ((64 : Int) - ((4 * i : Nat) : Int)).toNat = 64 - 4 * i := by omega
      have hd : (b.drop (4 * i)).take (64 - 4 * i) = b.drop (4 * i) := List.take_of_length_le (by rw [List.length_drop]; omega)
      refine awp_region [] ?_
      simp only [K_eqs, Nat.reduceLT, K_ops, Nat.reduceEqDiff, if_false, if_true, cav, K_int, aint, hw, aslice, bopt, Option.map_some, Option.map_none, Tryd.underlying37, tszs, lowOf, highOf, Int.cast_ofNat_Int, Int.le_refl, ne_eq, not_true_eq_false, or_false, and_true, Int.toNat_natCast, Nat.mul_one, Nat.zero_add, h64, K_call, Nat.reduceAdd, List.contains_nil, Bool.false_eq_true, List.map_cons, List.map_nil, aviews, aview, ntok, List.headD_cons, Tryd.underlying27, true_and, List.getElem?_cons_zero, Bs_length, Bs_drop, Bs_take, hd, norefs_Bs, Bool.or_false]
      refine ⟨by omega, ?_⟩
      refine andC_eq (by omega) (cG i h16 _) (by simp [flat]) ?_
      simp only [RestC_eqs, K_eqs, aidxAddr, K_ops, Nat.reduceEqDiff, if_false, if_true, Tryd.underlying40, tszs, Int.cast_ofNat_Int, Int.toNat_natCast, Nat.mul_one, Nat.zero_add, Nat.reduceLT, K_store, astore, acells, List.all_cons, oneC, Value.oneCell', List.all_nil, Bool.and_true, List.length_cons, List.length_nil, and_true, spl, K_nil, true_and, List.getElem?_cons_succ, List.getElem?_cons_zero, Is_length, hl, Nat.reduceLeDiff, Is_take, Is_drop, List.set_cons_succ, List.set_cons_zero]
      refine ⟨⟨by omega, by omega⟩, by omega, ?_⟩
      rw [Is_set (by rw [hl]; omega), arr_set]
      simp only [InBlock, Then]
      refine awp_keep [1, 2, 4] ?_
      simp only [keep_eqs, K_ops, Nat.reduceEqDiff, if_true, if_false]
      have h6 : IntKind.i64.wrap ((i + 1 : Nat) : Int) = ((i + 1 : Nat) : Int) := n_i64 (by omega)
      refine awp_region [] ?_
      simp only [K_eqs, K_ops, Nat.reduceEqDiff, if_true, if_false, cav, K_int, aint, n_add, h6, Nat.reduceLT, K_nil, Then, true_and]
      exact ⟨i + 1, by omega, by omega, .of_keep [1, 2, 4] rfl⟩
    · refine awp_condF (by simp only [K_ops, lk, h16, decide_false]; rfl) ?_
      refine awp_keep [1, 2, 3, 4] ?_
      simp only [keep_eqs, K_ops, Nat.reduceEqDiff, if_true, if_false]
      have w2 : IntKind.i64.wrap ((i : Int) - 2) = ((i - 2 : Nat) : Int) := by rw [i64_wrap (by omega) (by omega)]; omega
      have w7 : IntKind.i64.wrap ((i : Int) - 7) = ((i - 7 : Nat) : Int) := by rw [i64_wrap (by omega) (by omega)]; omega
      have w15 : IntKind.i64.wrap ((i : Int) - 15) = ((i - 15 : Nat) : Int) := by rw [i64_wrap (by omega) (by omega)]; omega
      have w16 : IntKind.i64.wrap ((i : Int) - 16) = ((i - 16 : Nat) : Int) := by rw [i64_wrap (by omega) (by omega)]; omega
      have l2 : i - 2 < 64 := by omega
      have l7 : i - 7 < 64 := by omega
      have l15 : i - 15 < 64 := by omega
      have l16 : i - 16 < 64 := by omega
      have g2 := arr_getD (n := 64) W (show i - 2 < i by omega) l2
      have g7 := arr_getD (n := 64) W (show i - 7 < i by omega) l7
      have g15 := arr_getD (n := 64) W (show i - 15 < i by omega) l15
      have g16 := arr_getD (n := 64) W (show i - 16 < i by omega) l16
      refine awp_draw [20, 30] (by kernel_rfl) (by kernel_rfl) ?_
      simp only [K_eqs, Nat.reduceLT, K_ops, Nat.reduceEqDiff, if_false, if_true, cav, K_int, aint, w2, aidxAddr, Tryd.underlying40, tszs, Int.cast_ofNat_Int, Int.toNat_natCast, Nat.mul_one, Nat.zero_add, aload, List.contains_cons, Nat.reduceBEq, List.contains_nil, Bool.or_false, Bool.false_eq_true, apart, isAggD, Tryd.underlying23, K_call, Nat.reduceAdd, List.map_cons, List.map_nil, beq_self_eq_true, aviews, aview, noref, ntok, List.tail_cons, List.headD_cons, true_and, List.getElem?_cons_succ, List.getElem?_cons_zero, Is_length, hl, l2, Is_getD, I, g2, and_true]
      refine ⟨by omega, ?_⟩
      refine andC_eq (by simp [norefs_Bs, norefs, noref, norefs_Is, flats_Is]) (c1 (i - 2)) (by simp [noref, norefs, norefs_Bs, flat, norefs_Is, flats_Is]) ?_
      simp only [RestC_eqs, K_eqs, Nat.reduceLT, K_ops, Nat.reduceEqDiff, if_false, if_true, cav, K_int, aint, w7, aidxAddr, Tryd.underlying40, tszs, Int.cast_ofNat_Int, Int.toNat_natCast, Nat.mul_one, Nat.zero_add, aload, List.contains_cons, Nat.reduceBEq, List.contains_nil, Bool.or_false, Bool.false_eq_true, apart, isAggD, Tryd.underlying23, w15, K_call, Nat.reduceAdd, List.map_cons, List.map_nil, beq_self_eq_true, Bool.false_or, aviews, aview, noref, ntok, List.tail_cons, List.headD_cons, true_and, List.getElem?_cons_succ, List.getElem?_cons_zero, Is_length, hl, l15, Is_getD, I, g15, and_true, l7, g7, n_addn, n_u32]
      refine ⟨by omega, by omega, ?_⟩
      refine andC_eq (by simp [norefs_Bs, norefs, noref, norefs_Is, flats_Is]) (c0 (i - 15)) (by simp [noref, norefs, norefs_Bs, flat, norefs_Is, flats_Is]) ?_
      simp only [RestC_eqs, K_eqs, K_ops, Nat.reduceEqDiff, if_false, if_true, K_int, aint, n_addn, n_u32, Nat.reduceLT, cav, w16, aidxAddr, Tryd.underlying40, tszs, Int.cast_ofNat_Int, Int.toNat_natCast, Nat.mul_one, Nat.zero_add, aload, List.contains_cons, Nat.reduceBEq, List.contains_nil, Bool.or_false, Bool.false_eq_true, apart, isAggD, Tryd.underlying23, K_store, astore, acells, spl, K_nil, true_and, List.getElem?_cons_succ, List.getElem?_cons_zero, Is_length, hl, Is_take, Is_drop, List.set_cons_succ, List.set_cons_zero, l16, Is_getD, I, g16, hbig i (by omega), List.all_cons, oneC, Value.oneCell', List.all_nil, Bool.and_true, List.length_cons, List.length_nil, Nat.reduceLeDiff, and_true]
      refine ⟨⟨by omega, by omega⟩, ⟨by omega, by omega⟩, by omega, ?_⟩
      rw [Is_set (by rw [hl]; omega), arr_set]
      simp only [InBlock, Then]
      refine awp_keep [1, 2, 4] ?_
      simp only [keep_eqs, K_ops, Nat.reduceEqDiff, if_true, if_false]
      have h6 : IntKind.i64.wrap ((i + 1 : Nat) : Int) = ((i + 1 : Nat) : Int) := n_i64 (by omega)
      refine awp_region [] ?_
      simp only [K_eqs, K_ops, Nat.reduceEqDiff, if_true, if_false, cav, K_int, aint, n_add, h6, Nat.reduceLT, K_nil, Then, true_and]
      exact ⟨i + 1, by omega, by omega, .of_keep [1, 2, 4] rfl⟩
  · have he : i = 64 := by have := of_decide_eq_false h; omega
    subst he
    refine awp_exit ?_
    simp only [Then, InBlock, if_true]
    refine hK1 _ ?_
    clear hK1 K1
    refine awp_keep [2] ?_
    simp only [keep_eqs, K_ops, Nat.reduceEqDiff, if_true, if_false]
    refine awp_seq_k fun K hK => awp_region [] ?_
    have ht : (arr 64 W 64).take 64 = arr 64 W 64 := List.take_of_length_le (by rw [hl]; omega)
    have hdr : (arr 64 W 64).drop 64 = [] := List.drop_eq_nil_of_le (by rw [hl]; omega)
    simp only [K_eqs, aload, K_ops, if_true, List.contains_nil, Bool.false_eq_true, if_false, List.getElem?_cons_succ, List.getElem?_cons_zero, apart, isAggD, Tryd.underlying40, tszs, Nat.zero_add, Is_length, hl, Nat.le_refl, List.drop_zero, Is_take, ht, Nat.reduceLT, K_store, astore, Nat.reduceEqDiff, acells, spl, List.take_zero, List.nil_append, Is_drop, List.set_cons_succ, List.set_cons_zero, K_nil, Then, true_and, Is_one, and_true, hdr, Is_nil, List.append_nil]
    refine hK _ ?_
    clear hK K
    refine awp_ret ?_
    simp only [K_fin, ares, aress, ares1, aload, K_ops, Nat.reduceEqDiff, if_true, if_false, List.getElem?_cons_succ, List.getElem?_cons_zero, apart, isAggD, Tryd.underlying40, tszs, Nat.zero_add, Is_length, hl, Nat.le_refl, List.drop_zero, Is_take, ht, afin, noref, norefs_Is, and_true, true_and]
end Go.Proofs.YtjdlgbkpdfaloaaDoor
