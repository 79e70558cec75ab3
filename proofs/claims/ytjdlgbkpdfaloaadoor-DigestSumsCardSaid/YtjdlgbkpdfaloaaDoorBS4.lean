/-
  Texts of one proof, merged: Wg, Wh, Wi, Da, Eh.
-/
import Derived.Test.YtjdlgbkpdfaloaaDoorBS3
/- The walks of the roots. -/
namespace Go.Proofs.YtjdlgbkpdfaloaaDoor
open Go Go.V
set_option linter.unusedSimpArgs false
set_option linter.unusedVariables false

theorem digits_ok (x : Int) : ACalls Tryd.prog [] 55 [.val (.int .i64 x)] [] (fun r os => os = [] ∧ r = .sl 3 (Is .i64 (digitsI x)) .full) := by
  refine acalls_of_awp Tryd.func55 rfl rfl Tryd.ntmps55 (rts := #[67]) rfl Tryd.results55 (by simp) ?_
  simp only [argSlots, Nat.reduceAdd]
  refine awp_seq_k fun K hK => awp_region [] ?_
  simp only [K_eqs, Nat.reduceLT, K_ops, cav, K_nil, Then, true_and]
  (repeat' apply And.intro) <;> try (first | exact True.intro | omega)
  refine hK _ ?_
  clear hK K
  refine awp_seq_k fun K hK => awp_region [] ?_
  simp only [K_eqs, Nat.reduceLT, K_ops, reduceCtorEq, if_true, if_false, Nat.reduceEqDiff, cav, K_int, aint, ne_eq, Int.reduceEq, not_false_eq_true, and_true, List.contains_nil, Bool.false_eq_true, abuildOwn, Tryd.underlying67, tszs, tzeros, Nat.mul_one, aparts, List.map_cons, List.map_nil, afill, spl, List.take_zero, acells, List.nil_append, List.length_cons, List.length_nil, Nat.zero_add, List.cons_append, List.take_succ_cons, Nat.reduceAdd, List.drop_succ_cons, List.length_drop, Nat.reduceLeDiff, List.all_cons, oneC, Value.oneCell', List.all_nil, Bool.and_true, true_and, abuildSlice, K_nil, Then]
  refine ⟨⟨by decide, by decide, by decide⟩, hK _ ?_⟩
  refine awp_keep [2] ?_
  simp only [keep_eqs, K_ops, Nat.reduceEqDiff, if_true, if_false]
  rw [show (AV.val (Value.int IntKind.i64 (x.tmod 65536)) :: AV.val (Value.int IntKind.i64 ((IntKind.i64.wrap (x.tdiv 65536)).tmod 65536)) :: AV.val (Value.int IntKind.i64 (IntKind.i64.wrap ((IntKind.i64.wrap (x.tdiv 65536)).tdiv 65536))) :: List.drop 1 (List.drop 1 (List.drop 1 (zrep [Value.int IntKind.i64 0] 3)))) = Is .i64 (digitsI x) from rfl]
  refine awp_ret ?_
  simp only [Then, InBlock, K_fin, ares, aress, ares1, afin, ntok, noref, eq_self, K_ops, Nat.reduceEqDiff, if_true, if_false, List.headD_cons, List.tail_cons, and_true, true_and, norefs_Is]

theorem times_ok (a b : List Int) (pa pb : Perm) (ha : a.length ≤ 8) (hb : b.length ≤ 8) : ACalls Tryd.prog [] 56 [.sl a.length (Is .i64 a) pa, .sl b.length (Is .i64 b) pb] [] (fun r os => os = [] ∧ r = .sl (timesI a b).length (Is .i64 (timesI a b)) .no) := by
  refine acalls_of_awp Tryd.func56 rfl rfl Tryd.ntmps56 (rts := #[67]) rfl Tryd.results56 (by simp) ?_
  simp only [argSlots, Nat.reduceAdd]
  refine awp_seq_k fun K hK => awp_region [] ?_
  simp only [K_eqs, Nat.reduceLT, K_ops, cav, K_nil, Then, true_and]
  (repeat' apply And.intro) <;> try (first | exact True.intro | omega)
  refine hK _ ?_
  clear hK K
  refine awp_seq_k fun K hK => awp_region [16] ?_
  have hn : IntKind.i64.wrap ((a.length + b.length : Nat) : Int) = ((a.length + b.length : Nat) : Int) := n_i64 (by omega)
  simp only [K_eqs, Nat.reduceLT, K_ops, reduceCtorEq, if_false, if_true, abuiltin, List.map_cons, Nat.reduceEqDiff, List.map_nil, alen, Tryd.underlying67, amake, List.contains_cons, beq_self_eq_true, List.contains_nil, Bool.or_false, K_nil, Then, true_and, K_int, aint, n_addn, hn, tszs, tbys, tzeros, Int.le_refl, Int.cast_ofNat_Int, n_rmul, List.length_cons, List.length_nil, Nat.zero_add, and_true, Int.toNat_natCast, zrep_Is, List.nil_append]
  refine ⟨⟨by omega, by omega, by omega⟩, hK _ ?_⟩
  clear hK K
  obtain ⟨n, hnn⟩ : ∃ n, n = a.length + b.length := ⟨_, rfl⟩
  rw [← hnn]
  refine awp_keep [0, 1, 5] ?_
  simp only [keep_eqs, K_ops, Nat.reduceEqDiff, if_true, if_false]
  refine awp_seq_k fun K1 hK1 => ?_
  refine awp_seq_k fun K hK => awp_region [] ?_
  simp only [K_eqs, Nat.reduceLT, K_ops, reduceCtorEq, if_false, if_true, abuiltin, List.map_cons, Nat.reduceEqDiff, List.map_nil, alen, Tryd.underlying67, cav, K_nil, Then, true_and]
  (repeat' apply And.intro) <;> try (first | exact True.intro | omega)
  refine hK _ ?_
  clear hK K
  refine awp_keep [1, 5, 17, 18, 19] ?_
  simp only [keep_eqs, K_ops, Nat.reduceEqDiff, if_true, if_false]
  refine awp_block ?_
  refine awp_loop_from (fun i : Nat => ⟨90, [(1, .sl b.length (Is .i64 b) pb), (5, .osl 0 0 n (some n)), (17, .sl a.length (Is .i64 a) pa), (18, .val (.int .i64 (a.length : Int))), (19, .val (.int .i64 (i : Int)))], [.cells (Is .i64 (outI a b (List.replicate n 0) i))]⟩)
    (fun i => i ≤ a.length) (fun i => a.length - i) 0 (by omega) (.of_keep [1, 5, 17, 18, 19] rfl) ?_
  intro i hi
  refine awp_seq_k fun K hK => awp_region [] ?_
  simp only [K_eqs, K_ops, Nat.reduceEqDiff, if_true, if_false, K_int, aint, d_ltn, Nat.reduceLT, K_nil, Then, true_and]
  (repeat' apply And.intro) <;> try (first | exact True.intro | omega)
  refine hK _ ?_
  clear hK K
  refine awp_seq ?_
  refine awp_cond rfl rfl (fun h => ?_) (fun h => ?_)
  · have hlt : i < a.length := of_decide_eq_true h
    have hpa : 0 < a.length - i := by omega
    refine awp_skip ?_
    simp only [Then]
    refine awp_keep [1, 5, 17, 18, 19] ?_
    simp only [keep_eqs, K_ops, Nat.reduceEqDiff, if_true, if_false]
    refine awp_seq ?_
    refine awp_block ?_
    refine awp_seq_k fun K hK => awp_region [] ?_
    simp only [K_eqs, Nat.reduceLT, K_ops, Nat.reduceEqDiff, if_true, if_false, aidxAddr, Tryd.underlying67, tszs, Is_length, Nat.mul_one, and_true, true_and, Int.toNat_natCast, Is_drop, aload, List.contains_nil, Bool.false_eq_true, apart, isAggD, Tryd.underlying3, K_nil, Then, List.length_drop, hpa, Is_getD, drop_getD, Nat.add_zero, I_un]
    (repeat' apply And.intro) <;> try (first | exact True.intro | omega)
    refine hK _ ?_
    clear hK K
    refine awp_keep [1, 5, 6, 7, 17, 18, 19] ?_
    simp only [keep_eqs, K_ops, Nat.reduceEqDiff, if_true, if_false]
    generalize hO : outI a b (List.replicate n 0) i = O
    generalize hX : a.getD i 0 = X
    have hOl : O.length = n := by rw [← hO, outI_length, List.length_replicate]
    refine awp_seq_k fun K hK => awp_region [] ?_
    simp only [K_eqs, Nat.reduceLT, K_ops, Nat.reduceEqDiff, if_false, if_true, abuiltin, List.map_cons, List.map_nil, alen, Tryd.underlying67, cav, K_nil, Then, true_and]
    (repeat' apply And.intro) <;> try (first | exact True.intro | omega)
    refine hK _ ?_
    clear hK K
    refine awp_keep [1, 5, 6, 7, 17, 18, 19, 24, 25, 26] ?_
    simp only [keep_eqs, K_ops, Nat.reduceEqDiff, if_true, if_false]
    refine awp_block ?_
    refine awp_loop_from (fun k : Nat => ⟨90, [(1, .sl b.length (Is .i64 b) pb), (5, .osl 0 0 n (some n)), (6, .val (.int .i64 (i : Int))), (7, .val (.int .i64 X)), (17, .sl a.length (Is .i64 a) pa), (18, .val (.int .i64 (a.length : Int))), (19, .val (.int .i64 (i : Int))), (24, .sl b.length (Is .i64 b) pb), (25, .val (.int .i64 (b.length : Int))), (26, .val (.int .i64 (k : Int)))], [.cells (Is .i64 (innI b i X O k))]⟩)
      (fun k => k ≤ b.length) (fun k => b.length - k) 0 (by omega) (.of_keep [1, 5, 6, 7, 17, 18, 19, 24, 25, 26] rfl) ?_
    intro k hk
    refine awp_seq_k fun K hK => awp_region [] ?_
    simp only [K_eqs, K_ops, Nat.reduceEqDiff, if_true, if_false, K_int, aint, d_ltn, Nat.reduceLT, K_nil, Then, true_and]
    (repeat' apply And.intro) <;> try (first | exact True.intro | omega)
    refine hK _ ?_
    clear hK K
    refine awp_seq ?_
    refine awp_cond rfl rfl (fun h => ?_) (fun h => ?_)
    · have hlk : k < b.length := of_decide_eq_true h
      have hpb : 0 < b.length - k := by omega
      refine awp_skip ?_
      simp only [Then]
      refine awp_keep [1, 5, 6, 7, 17, 18, 19, 24, 25, 26] ?_
      simp only [keep_eqs, K_ops, Nat.reduceEqDiff, if_true, if_false]
      refine awp_seq ?_
      refine awp_block ?_
      refine awp_seq_k fun K hK => awp_region [] ?_
      simp only [K_eqs, Nat.reduceLT, K_ops, Nat.reduceEqDiff, if_true, if_false, aidxAddr, Tryd.underlying67, tszs, Is_length, Nat.mul_one, and_true, true_and, Int.toNat_natCast, Is_drop, aload, List.contains_nil, Bool.false_eq_true, apart, isAggD, Tryd.underlying3, K_nil, Then, List.length_drop, hpb, Is_getD, drop_getD, Nat.add_zero, I_un]
      (repeat' apply And.intro) <;> try (first | exact True.intro | omega)
      refine hK _ ?_
      clear hK K
      refine awp_keep [1, 5, 6, 7, 8, 9, 17, 18, 19, 24, 25, 26] ?_
      simp only [keep_eqs, K_ops, Nat.reduceEqDiff, if_true, if_false]
      generalize hQ : innI b i X O k = Q
      generalize hY : b.getD k 0 = Y
      have hQl : Q.length = n := by rw [← hQ, innI_length, hOl]
      have hik : IntKind.i64.wrap ((i + k : Nat) : Int) = ((i + k : Nat) : Int) := n_i64 (by omega)
      have hin : i + k < n := by omega
      have hin1 : i + k + 1 ≤ n := by omega
      refine awp_seq_k fun K hK => awp_region [] ?_
      simp only [K_eqs, Nat.reduceLT, K_ops, Nat.reduceEqDiff, if_false, if_true, K_int, aint, n_addn, hik, aidxAddr, Tryd.underlying67, tszs, Int.toNat_natCast, Nat.mul_one, Nat.zero_add, aload, List.contains_nil, Bool.false_eq_true, apart, isAggD, Tryd.underlying3, cav, ne_eq, Int.reduceEq, not_false_eq_true, and_true, K_store, astore, acells, spl, K_nil, Then, true_and, List.getElem?_cons_zero, Is_length, hQl, Is_take, Is_drop, List.set_cons_zero, hin, Is_getD, I_un, List.all_cons, oneC, Value.oneCell', List.all_nil, Bool.and_true, List.length_cons, List.length_nil, hin1]
      refine ⟨⟨by omega, by omega⟩, ⟨by omega, by omega⟩, hK _ ?_⟩
      clear hK K
      rw [Is_set (by omega : i + k < Q.length), show Q.set (i + k) (IntKind.i64.wrap (Q.getD (i + k) 0 + (IntKind.i64.wrap (X * Y)).tmod 65536)) = upd1 Q (i + k) X Y from rfl]
      refine awp_keep [1, 5, 6, 7, 8, 9, 17, 18, 19, 24, 25, 26] ?_
      simp only [keep_eqs, K_ops, Nat.reduceEqDiff, if_true, if_false]
      have hik1 : IntKind.i64.wrap ((i + k + 1 : Nat) : Int) = ((i + k + 1 : Nat) : Int) := n_i64 (by omega)
      have hQ2 : (upd1 Q (i + k) X Y).length = n := by rw [upd1, List.length_set, hQl]
      have hin2 : i + k + 1 < n := by omega
      have hin3 : i + k + 1 + 1 ≤ n := by omega
      refine awp_region [] ?_
      simp only [K_eqs, Nat.reduceLT, K_ops, Nat.reduceEqDiff, if_false, if_true, K_int, aint, n_addn, hik, cav, n_add, hik1, aidxAddr, Tryd.underlying67, tszs, Int.toNat_natCast, Nat.mul_one, Nat.zero_add, aload, List.contains_nil, Bool.false_eq_true, apart, isAggD, Tryd.underlying3, ne_eq, Int.reduceEq, not_false_eq_true, and_true, K_store, astore, acells, spl, K_nil, true_and, List.getElem?_cons_zero, Is_length, hQ2, Is_take, Is_drop, List.set_cons_zero, hin2, Is_getD, I_un, List.all_cons, oneC, Value.oneCell', List.all_nil, Bool.and_true, List.length_cons, List.length_nil, hin3]
      refine ⟨⟨by omega, by omega⟩, ⟨by omega, by omega⟩, ?_⟩
      rw [Is_set (by omega : i + k + 1 < (upd1 Q (i + k) X Y).length), show (upd1 Q (i + k) X Y).set (i + k + 1) (IntKind.i64.wrap ((upd1 Q (i + k) X Y).getD (i + k + 1) 0 + IntKind.i64.wrap ((IntKind.i64.wrap (X * Y)).tdiv 65536))) = upd2 (upd1 Q (i + k) X Y) (i + k) X Y from rfl]
      simp only [InBlock, Then]
      refine awp_keep [1, 5, 6, 7, 17, 18, 19, 24, 25, 26] ?_
      simp only [keep_eqs, K_ops, Nat.reduceEqDiff, if_true, if_false]
      have h6 : IntKind.i64.wrap ((k + 1 : Nat) : Int) = ((k + 1 : Nat) : Int) := n_i64 (by omega)
      refine awp_region [] ?_
      simp only [K_eqs, K_ops, Nat.reduceEqDiff, if_true, if_false, cav, K_int, aint, n_add, h6, Nat.reduceLT, K_nil, Then, true_and]
      refine ⟨k + 1, by omega, by omega, ?_⟩
      rw [show upd2 (upd1 Q (i + k) X Y) (i + k) X Y = innI b i X O (k + 1) by rw [innI, hQ, hY]]
      exact .of_keep [1, 5, 6, 7, 17, 18, 19, 24, 25, 26] rfl
    · have hge : k = b.length := by have := of_decide_eq_false h; omega
      subst hge
      refine awp_exit ?_
      simp only [Then, InBlock, if_true]
      refine awp_keep [1, 5, 17, 18, 19] ?_
      simp only [keep_eqs, K_ops, Nat.reduceEqDiff, if_true, if_false]
      have h6 : IntKind.i64.wrap ((i + 1 : Nat) : Int) = ((i + 1 : Nat) : Int) := n_i64 (by omega)
      refine awp_region [] ?_
      simp only [K_eqs, K_ops, Nat.reduceEqDiff, if_true, if_false, cav, K_int, aint, n_add, h6, Nat.reduceLT, K_nil, Then, true_and]
      (repeat' apply And.intro) <;> try (first | exact True.intro | omega)
      refine ⟨i + 1, by omega, by omega, ?_⟩
      rw [show innI b i X O b.length = outI a b (List.replicate n 0) (i + 1) by rw [outI, hO, hX]]
      exact .of_keep [1, 5, 17, 18, 19] rfl
  · have hge : i = a.length := by have := of_decide_eq_false h; omega
    subst hge
    refine awp_exit ?_
    simp only [Then, InBlock, if_true]
    refine hK1 _ ?_
    clear hK1 K1
    generalize hO : outI a b (List.replicate n 0) a.length = O
    have hOl : O.length = n := by rw [← hO, outI_length, List.length_replicate]
    refine awp_keep [5] ?_
    simp only [keep_eqs, K_ops, Nat.reduceEqDiff, if_true, if_false]
    refine awp_seq_k fun K1 hK1 => ?_
    refine awp_seq_k fun K hK => awp_region [] ?_
    simp only [K_eqs, Nat.reduceLT, K_ops, if_true, abuiltin, List.map_cons, Nat.reduceEqDiff, if_false, List.map_nil, alen, Tryd.underlying67, cav, K_nil, Then, true_and]
    (repeat' apply And.intro) <;> try (first | exact True.intro | omega)
    refine hK _ ?_
    clear hK K
    refine awp_keep [5, 58, 59, 60] ?_
    simp only [keep_eqs, K_ops, Nat.reduceEqDiff, if_true, if_false]
    refine awp_block ?_
    refine awp_loop_from (fun i : Nat => ⟨90, [(5, .osl 0 0 n (some n)), (58, .osl 0 0 n (some n)), (59, .val (.int .i64 (n : Int))), (60, .val (.int .i64 (i : Int)))], [.cells (Is .i64 (carI n O i))]⟩)
      (fun i => i ≤ n) (fun i => n - i) 0 (by omega) (.of_keep [5, 58, 59, 60] rfl) ?_
    intro i hi
    refine awp_seq_k fun K hK => awp_region [] ?_
    simp only [K_eqs, K_ops, Nat.reduceEqDiff, if_true, if_false, K_int, aint, d_ltn, Nat.reduceLT, K_nil, Then, true_and]
    (repeat' apply And.intro) <;> try (first | exact True.intro | omega)
    refine hK _ ?_
    clear hK K
    refine awp_seq ?_
    refine awp_cond rfl rfl (fun h => ?_) (fun h => ?_)
    · have hlt : i < n := of_decide_eq_true h
      refine awp_skip ?_
      simp only [Then]
      refine awp_keep [5, 58, 59, 60] ?_
      simp only [keep_eqs, K_ops, Nat.reduceEqDiff, if_true, if_false]
      refine awp_seq ?_
      refine awp_block ?_
      refine awp_seq_k fun K hK => awp_region [] ?_
      simp only [K_eqs, Nat.reduceLT, K_ops, Nat.reduceEqDiff, if_true, if_false, K_nil, Then, true_and]
      (repeat' apply And.intro) <;> try (first | exact True.intro | omega)
      refine hK _ ?_
      clear hK K
      have h6 : IntKind.i64.wrap ((i + 1 : Nat) : Int) = ((i + 1 : Nat) : Int) := n_i64 (by omega)
      refine awp_seq_k fun K hK => awp_region [] ?_
      simp only [K_eqs, Nat.reduceLT, K_ops, Nat.reduceEqDiff, if_false, if_true, cav, K_int, aint, n_add, h6, abuiltin, List.map_cons, List.map_nil, alen, Tryd.underlying67, K_nil, Then, true_and, d_ltn]
      (repeat' apply And.intro) <;> try (first | exact True.intro | omega)
      refine hK _ ?_
      clear hK K
      generalize hQ : carI n O i = Q
      have hQl : Q.length = n := by rw [← hQ, carI_length, hOl]
      refine awp_cond rfl rfl (fun h => ?_) (fun h => ?_)
      · have hl1 : i + 1 < n := of_decide_eq_true h
        have hl2 : i + 1 + 1 ≤ n := by omega
        refine awp_keep [5, 10, 58, 59, 60] ?_
        simp only [keep_eqs, K_ops, Nat.reduceEqDiff, if_true, if_false]
        refine awp_seq_k fun K hK => ?_
        refine awp_draw [] (by kernel_rfl) (by kernel_rfl) ?_
        simp only [K_eqs, Nat.reduceLT, K_ops, Nat.reduceEqDiff, if_false, if_true, cav, K_int, aint, n_add, h6, aidxAddr, Tryd.underlying67, tszs, Int.toNat_natCast, Nat.mul_one, Nat.zero_add, aload, List.contains_nil, Bool.false_eq_true, apart, isAggD, Tryd.underlying3, K_store, astore, acells, spl, K_nil, Then, true_and, List.getElem?_cons_zero, Is_length, hQl, Is_take, Is_drop, List.set_cons_zero, hlt, Is_getD, I_un, ne_eq, Int.reduceEq, not_false_eq_true, and_true, hl1, List.all_cons, oneC, Value.oneCell', List.all_nil, Bool.and_true, List.length_cons, List.length_nil, hl2]
        refine ⟨⟨by omega, by omega⟩, ⟨by omega, by omega⟩, ⟨by omega, by omega⟩, hK _ ?_⟩
        clear hK K
        rw [Is_set (by omega : i + 1 < Q.length), show Q.set (i + 1) (IntKind.i64.wrap (Q.getD (i + 1) 0 + IntKind.i64.wrap ((Q.getD i 0).tdiv 65536))) = car1 Q i from rfl]
        have hQ1 : (car1 Q i).length = n := by rw [car1, List.length_set, hQl]
        have hl0 : i + 1 ≤ n := by omega
        refine awp_keep [5, 10, 58, 59, 60] ?_
        simp only [keep_eqs, K_ops, Nat.reduceEqDiff, if_true, if_false]
        refine awp_region [] ?_
        simp only [K_eqs, Nat.reduceLT, K_ops, Nat.reduceEqDiff, if_false, if_true, aidxAddr, Tryd.underlying67, tszs, Int.toNat_natCast, Nat.mul_one, Nat.zero_add, aload, List.contains_nil, Bool.false_eq_true, apart, isAggD, Tryd.underlying3, cav, K_store, astore, acells, spl, K_nil, true_and, List.getElem?_cons_zero, Is_length, hQ1, Is_take, Is_drop, List.set_cons_zero, hlt, Is_getD, I_un, K_int, aint, ne_eq, Int.reduceEq, not_false_eq_true, and_true, List.all_cons, oneC, Value.oneCell', List.all_nil, Bool.and_true, List.length_cons, List.length_nil, hl0]
        refine ⟨⟨by omega, by omega⟩, ⟨by omega, by omega⟩, ?_⟩
        rw [Is_set (by omega : i < (car1 Q i).length), show (car1 Q i).set i (((car1 Q i).getD i 0).tmod 65536) = car2 (car1 Q i) i from rfl]
        simp only [InBlock, Then]
        refine awp_keep [5, 58, 59, 60] ?_
        simp only [keep_eqs, K_ops, Nat.reduceEqDiff, if_true, if_false]
        refine awp_region [] ?_
        simp only [K_eqs, K_ops, Nat.reduceEqDiff, if_true, if_false, cav, K_int, aint, n_add, h6, Nat.reduceLT, K_nil, Then, true_and]
        refine ⟨i + 1, by omega, by omega, ?_⟩
        rw [show car2 (car1 Q i) i = carI n O (i + 1) by rw [carI, hQ, if_pos hl1]]
        exact .of_keep [5, 58, 59, 60] rfl
      · have hl1 : ¬ i + 1 < n := of_decide_eq_false h
        refine awp_skip ?_
        simp only [InBlock, Then]
        refine awp_keep [5, 58, 59, 60] ?_
        simp only [keep_eqs, K_ops, Nat.reduceEqDiff, if_true, if_false]
        refine awp_region [] ?_
        simp only [K_eqs, K_ops, Nat.reduceEqDiff, if_true, if_false, cav, K_int, aint, n_add, h6, Nat.reduceLT, K_nil, Then, true_and]
        refine ⟨i + 1, by omega, by omega, ?_⟩
        rw [show Q = carI n O (i + 1) by rw [carI, hQ, if_neg hl1]]
        exact .of_keep [5, 58, 59, 60] rfl
    · have hge : i = n := by have := of_decide_eq_false h; omega
      subst hge
      refine awp_exit ?_
      simp only [Then, InBlock, if_true]
      refine hK1 _ ?_
      clear hK1 K1
      refine awp_keep [5] ?_
      simp only [keep_eqs, K_ops, Nat.reduceEqDiff, if_true, if_false]
      refine awp_seq_k fun K hK => awp_region [] ?_
      simp only [K_eqs, Nat.reduceLT, K_ops, if_true, Nat.reduceEqDiff, if_false, K_nil, Then, true_and]
      refine hK _ ?_
      refine awp_keep [4] ?_
      simp only [keep_eqs, K_ops, Nat.reduceEqDiff, if_true, if_false]
      have hcl : (carI i O i).length = i := by rw [carI_length, hOl]
      have htm : timesI a b = carI i O i := by rw [timesI, ← hnn, hO]
      have htk : (carI i O i).take i = carI i O i := List.take_of_length_le (by omega)
      rw [htm]
      refine awp_ret ?_
      simp only [hcl, K_fin, ares, aress, ares1, afin, K_ops, if_true, List.getElem?_cons_zero, List.headD_cons, Tryd.underlying67, tszs, Nat.mul_one, Nat.zero_add, Is_length, Nat.le_refl, List.drop_zero, Is_take, htk, norefs_Is, and_true, true_and]

theorem above_ok (a b : List Int) (pa pb : Perm) (ha : a.length ≤ 16) (hb : b.length ≤ 16) : ACalls Tryd.prog [] 57 [.sl a.length (Is .i64 a) pa, .sl b.length (Is .i64 b) pb] [] (fun r os => os = [] ∧ r = .val (.bool (isAbove a b))) := by
  have hn : IntKind.i64.wrap ((a.length + b.length : Nat) : Int) = ((a.length + b.length : Nat) : Int) := n_i64 (by omega)
  refine acalls_of_awp Tryd.func57 rfl rfl Tryd.ntmps57 (rts := #[4]) rfl Tryd.results57 (by simp) ?_
  simp only [argSlots, Nat.reduceAdd]
  refine awp_seq_k fun K hK => awp_region [] ?_
  simp only [K_eqs, Nat.reduceLT, K_ops, cav, K_nil, Then, true_and]
  (repeat' apply And.intro) <;> try (first | exact True.intro | omega)
  refine hK _ ?_
  clear hK K
  refine awp_seq_k fun K1 hK1 => ?_
  refine awp_seq_k fun K hK => awp_region [] ?_
  simp only [K_eqs, Nat.reduceLT, K_ops, reduceCtorEq, if_false, if_true, abuiltin, List.map_cons, Nat.reduceEqDiff, List.map_nil, alen, Tryd.underlying67, K_nil, Then, true_and, K_int, aint, n_addn, hn]
  (repeat' apply And.intro) <;> try (first | exact True.intro | omega)
  refine hK _ ?_
  clear hK K
  refine awp_keep [0, 1, 5] ?_
  simp only [keep_eqs, K_ops, Nat.reduceEqDiff, if_true, if_false]
  refine awp_block ?_
  refine awp_loop_from (fun i : Nat => ⟨39, [(0, .sl a.length (Is .i64 a) pa), (1, .sl b.length (Is .i64 b) pb), (5, .val (.int .i64 ((i : Int) - 1)))], []⟩)
    (fun i => i ≤ a.length + b.length + 1 ∧ aboveI a b i = isAbove a b) (fun i => i) (a.length + b.length + 1) ⟨by omega, rfl⟩ (.of_keep [0, 1, 5] (by simp [keep, lk])) ?_
  rintro i ⟨hi, he⟩
  refine awp_seq (awp_seq ?_)
  refine awp_region [] ?_
  simp only [K_eqs, Nat.reduceLT, K_ops, reduceCtorEq, Nat.reduceEqDiff, if_true, if_false, cav, K_int, aint, K_nil, Then, true_and]
  refine awp_cond rfl rfl (fun h => ?_) (fun h => ?_)
  · have hpos : 1 ≤ i := by have := of_decide_eq_true h; omega
    obtain ⟨j, rfl⟩ : ∃ j, i = j + 1 := ⟨i - 1, by omega⟩
    rw [show ((j + 1 : Nat) : Int) - 1 = (j : Int) by omega]
    refine awp_skip ?_
    simp only [Then]
    refine awp_keep [0, 1, 5] ?_
    simp only [keep_eqs, K_ops, Nat.reduceEqDiff, if_true, if_false]
    refine awp_seq ?_
    refine awp_block ?_
    refine awp_seq_k fun K hK => awp_region [] ?_
    simp only [K_eqs, Nat.reduceLT, K_ops, cav, K_nil, Then, true_and]
    (repeat' apply And.intro) <;> try (first | exact True.intro | omega)
    refine hK _ ?_
    clear hK K
    refine awp_seq_k fun K hK => awp_region [] ?_
    simp only [K_eqs, Nat.reduceLT, K_ops, cav, K_nil, Then, true_and]
    (repeat' apply And.intro) <;> try (first | exact True.intro | omega)
    refine hK _ ?_
    clear hK K
    refine awp_keep [0, 1, 5, 6, 7] ?_
    simp only [keep_eqs, K_ops, Nat.reduceEqDiff, if_true, if_false]
    refine awp_seq_k fun K2 hK2 => ?_
    have nextA : ∀ s : St, Weak [] s ⟨39, [(0, .sl a.length (Is .i64 a) pa), (1, .sl b.length (Is .i64 b) pb), (5, .val (.int .i64 (j : Int))), (6, .val (.int .i64 (a.getD j 0))), (7, .val (.int .i64 0))], []⟩ → K2 s := by
      intro s hw
      refine hK2 s (awp_weak hw ?_)
      clear hw hK2 K2
      refine awp_seq_k fun K2 hK2 => ?_
      have nextB : ∀ s : St, Weak [] s ⟨39, [(0, .sl a.length (Is .i64 a) pa), (1, .sl b.length (Is .i64 b) pb), (5, .val (.int .i64 (j : Int))), (6, .val (.int .i64 (a.getD j 0))), (7, .val (.int .i64 (b.getD j 0)))], []⟩ → K2 s := by
        intro s hw
        refine hK2 s (awp_weak hw ?_)
        clear hw hK2 K2
        refine awp_seq_k fun K hK => awp_region [] ?_
        simp only [K_eqs, Nat.reduceLT, K_ops, reduceCtorEq, Nat.reduceEqDiff, if_false, if_true, K_int, aint, K_nil, Then, true_and]
        (repeat' apply And.intro) <;> try (first | exact True.intro | omega)
        refine hK _ ?_
        clear hK K
        have hab : aboveI a b (j + 1) = if a.getD j 0 = b.getD j 0 then aboveI a b j else decide (b.getD j 0 < a.getD j 0) := rfl
        refine awp_cond rfl rfl (fun h => ?_) (fun h => ?_)
        · have hne : ¬ a.getD j 0 = b.getD j 0 := by simpa using h
          rw [if_neg hne] at hab
          refine awp_keep [6, 7] ?_
          simp only [keep_eqs, K_ops, Nat.reduceEqDiff, if_true, if_false]
          refine awp_seq_k fun K hK => awp_region [] ?_
          simp only [K_eqs, Nat.reduceLT, K_ops, Nat.reduceEqDiff, if_false, if_true, K_int, aint, K_nil, Then, true_and]
          (repeat' apply And.intro) <;> try (first | exact True.intro | omega)
          refine hK _ ?_
          clear hK K
          refine awp_keep [4] ?_
          simp only [keep_eqs, K_ops, Nat.reduceEqDiff, if_true, if_false]
          refine awp_ret ?_
          simp only [Then, InBlock, K_fin, ares, aress, ares1, afin, ntok, noref, eq_self, K_ops, Nat.reduceEqDiff, if_true, if_false, List.headD_cons, List.tail_cons, and_true, true_and]
          rw [← he, hab]
        · have heq : a.getD j 0 = b.getD j 0 := by simpa using h
          rw [if_pos heq] at hab
          refine awp_skip ?_
          simp only [Then, InBlock]
          refine awp_keep [0, 1, 5] ?_
          simp only [keep_eqs, K_ops, Nat.reduceEqDiff, if_true, if_false]
          have h6 : IntKind.i64.wrap ((j : Int) - 1) = (j : Int) - 1 := z_i64 (by omega) (by omega)
          refine awp_region [] ?_
          simp only [K_eqs, Nat.reduceLT, K_ops, reduceCtorEq, Nat.reduceEqDiff, if_true, if_false, cav, K_int, aint, h6, K_nil, Then, true_and]
          exact ⟨j, ⟨by omega, by rw [← he, hab]⟩, by omega, .of_keep [0, 1, 5] rfl⟩
      refine awp_seq_k fun K hK => awp_region [] ?_
      simp only [K_eqs, Nat.reduceLT, K_ops, reduceCtorEq, Nat.reduceEqDiff, if_false, if_true, abuiltin, List.map_cons, List.map_nil, alen, Tryd.underlying67, K_nil, Then, true_and, K_int, aint, d_ltn]
      (repeat' apply And.intro) <;> try (first | exact True.intro | omega)
      refine hK _ ?_
      clear hK K
      refine awp_cond rfl rfl (fun h => ?_) (fun h => ?_)
      · have hlt : j < b.length := of_decide_eq_true h
        have hpb : 0 < b.length - j := by omega
        refine awp_keep [0, 1, 5, 6, 7] ?_
        simp only [keep_eqs, K_ops, Nat.reduceEqDiff, if_true, if_false]
        refine awp_region [] ?_
        simp only [K_eqs, Nat.reduceLT, K_ops, reduceCtorEq, Nat.reduceEqDiff, if_false, if_true, aidxAddr, Tryd.underlying67, tszs, Is_length, Nat.mul_one, and_true, true_and, Int.toNat_natCast, Is_drop, aload, List.contains_nil, Bool.false_eq_true, apart, isAggD, Tryd.underlying3, K_nil, Then, List.length_drop, hpb, Is_getD, drop_getD, Nat.add_zero, I_un]
        (repeat' apply And.intro) <;> try (first | exact True.intro | omega)
        exact nextB _ (.of_keep [0, 1, 5, 6, 7] rfl)
      · have hge : ¬ j < b.length := of_decide_eq_false h
        refine awp_skip (nextB _ (.of_keep [0, 1, 5, 6, 7] ?_))
        rw [show b.getD j 0 = 0 by simp [List.getD_eq_getElem?_getD, List.getElem?_eq_none (by omega : b.length ≤ j)]]
        rfl
    refine awp_seq_k fun K hK => awp_region [] ?_
    simp only [K_eqs, Nat.reduceLT, K_ops, reduceCtorEq, Nat.reduceEqDiff, if_false, if_true, abuiltin, List.map_cons, List.map_nil, alen, Tryd.underlying67, K_nil, Then, true_and, K_int, aint, d_ltn]
    (repeat' apply And.intro) <;> try (first | exact True.intro | omega)
    refine hK _ ?_
    clear hK K
    refine awp_cond rfl rfl (fun h => ?_) (fun h => ?_)
    · have hlt : j < a.length := of_decide_eq_true h
      have hpa : 0 < a.length - j := by omega
      refine awp_keep [0, 1, 5, 6, 7] ?_
      simp only [keep_eqs, K_ops, Nat.reduceEqDiff, if_true, if_false]
      refine awp_region [] ?_
      simp only [K_eqs, Nat.reduceLT, K_ops, reduceCtorEq, if_false, if_true, Nat.reduceEqDiff, aidxAddr, Tryd.underlying67, tszs, Is_length, Nat.mul_one, and_true, true_and, Int.toNat_natCast, Is_drop, aload, List.contains_nil, Bool.false_eq_true, apart, isAggD, Tryd.underlying3, K_nil, Then, List.length_drop, hpa, Is_getD, drop_getD, Nat.add_zero, I_un]
      (repeat' apply And.intro) <;> try (first | exact True.intro | omega)
      exact nextA _ (.of_keep [0, 1, 5, 6, 7] rfl)
    · have hge : ¬ j < a.length := of_decide_eq_false h
      refine awp_skip (nextA _ (.of_keep [0, 1, 5, 6, 7] ?_))
      rw [show a.getD j 0 = 0 by simp [List.getD_eq_getElem?_getD, List.getElem?_eq_none (by omega : a.length ≤ j)]]
      rfl
  · have h0 : i = 0 := by have := of_decide_eq_false h; omega
    subst h0
    refine awp_exit ?_
    simp only [Then, InBlock, if_true]
    refine hK1 _ ?_
    clear hK1 K1
    refine awp_seq_k fun K hK => awp_region [] ?_
    simp only [Int.cast_ofNat_Int, K_eqs, Nat.reduceLT, K_ops, cav, K_nil, Then, true_and]
    (repeat' apply And.intro) <;> try (first | exact True.intro | omega)
    refine hK _ ?_
    clear hK K
    refine awp_ret ?_
    simp only [K_fin, ares, aress, ares1, afin, K_ops, Nat.reduceEqDiff, reduceCtorEq, if_false, if_true, noref, and_true, true_and]
    rw [← he]
    rfl

end Go.Proofs.YtjdlgbkpdfaloaaDoor
/- The walks of the roots, second part. -/
namespace Go.Proofs.YtjdlgbkpdfaloaaDoor
open Go Go.V
set_option linter.unusedSimpArgs false
set_option linter.unusedVariables false

theorem root_ok (p : Int) (pw : Nat) (hp : pw = 2 ∨ pw = 3) : ACalls Tryd.prog [] 44 [.val (.int .i64 p), .val (.int .i64 (pw : Int))] [] (fun r os => os = [] ∧ r = .val (.int .i64 (rootI p pw 38))) := by
  have h2 : IntKind.i64.wrap ((2 * pw : Nat) : Int) = ((2 * pw : Nat) : Int) := n_i64 (by omega)
  obtain ⟨m, hm⟩ : ∃ m, m = mostI p pw := ⟨_, rfl⟩
  have hml : m.length = 2 * pw + 1 := by rw [hm, mostI]; simp
  refine acalls_of_awp Tryd.func44 rfl rfl Tryd.ntmps44 (rts := #[3]) rfl Tryd.results44 (by simp) ?_
  simp only [argSlots, Nat.reduceAdd]
  refine awp_seq_k fun K hK => awp_region [] ?_
  simp only [K_eqs, K_store, K_nil0, K_blt0, K_ops, K_nil, K_conv, K_gT, K_gF, gdec_eqs, gslot, gval, gok, K_call, K_call0, K_int, Then, abuiltin, alen, aslice, bopt, lowOf, highOf, sliceP, aint, abool, Bool.not_true, Bool.not_false, astr, aun, aidxAddr, aidx, apart, isAggD, afield, afieldAddr, amin2, aext, apick, aarrayAt, anil, aload, astore, acells, oneC, Value.oneCell', spl, srcCells, acopy, appSrc, aappend, afill, aparts, abuildSlice, abuildOwn, abuild, amake, abytes, aconv, aalloc, abox, aviews, aview, B, noref, flat, ntok, RestC_eqs, RestH_eqs, Option.isSome_some, Int.reduceToNat, IntKind.bits, Nat.min_def, norefs_Bs, norefs, flats, norefs_append, flats_append, zrep_byte, Bs_nil, cav, tszs, tbys, tzeros, tgrds, tstds, zvs_u8, zvs_length, Z_length, aagg, aggCmp, aggEq_Bs, aconvO, Nat.reduceEqDiff, Nat.reduceLT, Nat.reduceMul, Nat.reduceAdd, Nat.reduceLeDiff, Int.reduceLT, Int.reduceLE, if_true, if_false, ite_true, ite_false, true_and, and_true, Option.map_some, Option.map_none, Option.getD_some, Option.getD_none, Option.bind_some, List.map_cons, List.map_nil, List.toList_toArray, List.headD_cons, List.headD_nil, List.tail_cons, List.tail_nil, List.getElem?_toArray, List.getElem?_cons_zero, List.getElem?_cons_succ, List.contains_nil, List.contains_cons, List.all_cons, List.all_nil, Bool.and_true, Bool.true_and, Bool.or_false, Bool.false_or, Int.sub_zero, Int.toNat_natCast, Nat.mul_one, Int.toNat_zero, Nat.zero_mul, Nat.add_zero, Nat.zero_add, List.drop_zero, List.length_cons, List.length_nil, List.nil_append, List.append_nil, Bs_length, Bs_getD, drop_getD, List.length_drop, Nat.reduceSub, Bs_one, Bs_isByte, Bs_bytes, Bs_take, Bs_drop, Int.cast_ofNat_Int, beq_self_eq_true, Int.reduceBEq, Int.reduceEq, Int.reduceBNe, Nat.reduceBEq, UInt8.reduceToNat, ByteArray.toList_mk, ba_size, ba_extract, reduceCtorEq, ne_eq, not_true_eq_false, not_false_eq_true, Nat.le_refl, Int.le_refl, Bool.false_eq_true, eq_self, List.replicate_succ, List.replicate_zero, List.flatten_cons, List.flatten_nil, List.cons_append, List.take_zero, List.take_succ_cons, List.drop_succ_cons, List.take_nil, List.drop_nil, List.set_cons_zero, List.set_cons_succ, false_or, or_false, or_true, true_or, Tryd.underlying27, Tryd.underlying3, Tryd.underlying23, Tryd.underlying5, Tryd.underlying56, Tryd.underlying60, Tryd.underlying4, Tryd.underlying9, Tryd.underlying67]
  (repeat' apply And.intro) <;> try (first | exact True.intro | omega)
  refine hK _ ?_
  clear hK K
  refine awp_seq_k fun K hK => awp_region [] ?_
  simp only [K_eqs, K_store, K_nil0, K_blt0, K_ops, K_nil, K_conv, K_gT, K_gF, gdec_eqs, gslot, gval, gok, K_call, K_call0, K_int, Then, abuiltin, alen, aslice, bopt, lowOf, highOf, sliceP, aint, abool, Bool.not_true, Bool.not_false, astr, aun, aidxAddr, aidx, apart, isAggD, afield, afieldAddr, amin2, aext, apick, aarrayAt, anil, aload, astore, acells, oneC, Value.oneCell', spl, srcCells, acopy, appSrc, aappend, afill, aparts, abuildSlice, abuildOwn, abuild, amake, abytes, aconv, aalloc, abox, aviews, aview, B, noref, flat, ntok, RestC_eqs, RestH_eqs, Option.isSome_some, Int.reduceToNat, IntKind.bits, Nat.min_def, norefs_Bs, norefs, flats, norefs_append, flats_append, zrep_byte, Bs_nil, cav, tszs, tbys, tzeros, tgrds, tstds, zvs_u8, zvs_length, Z_length, aagg, aggCmp, aggEq_Bs, aconvO, Nat.reduceEqDiff, Nat.reduceLT, Nat.reduceMul, Nat.reduceAdd, Nat.reduceLeDiff, Int.reduceLT, Int.reduceLE, if_true, if_false, ite_true, ite_false, true_and, and_true, Option.map_some, Option.map_none, Option.getD_some, Option.getD_none, Option.bind_some, List.map_cons, List.map_nil, List.toList_toArray, List.headD_cons, List.headD_nil, List.tail_cons, List.tail_nil, List.getElem?_toArray, List.getElem?_cons_zero, List.getElem?_cons_succ, List.contains_nil, List.contains_cons, List.all_cons, List.all_nil, Bool.and_true, Bool.true_and, Bool.or_false, Bool.false_or, Int.sub_zero, Int.toNat_natCast, Nat.mul_one, Int.toNat_zero, Nat.zero_mul, Nat.add_zero, Nat.zero_add, List.drop_zero, List.length_cons, List.length_nil, List.nil_append, List.append_nil, Bs_length, Bs_getD, drop_getD, List.length_drop, Nat.reduceSub, Bs_one, Bs_isByte, Bs_bytes, Bs_take, Bs_drop, Int.cast_ofNat_Int, beq_self_eq_true, Int.reduceBEq, Int.reduceEq, Int.reduceBNe, Nat.reduceBEq, UInt8.reduceToNat, ByteArray.toList_mk, ba_size, ba_extract, reduceCtorEq, ne_eq, not_true_eq_false, not_false_eq_true, Nat.le_refl, Int.le_refl, Bool.false_eq_true, eq_self, List.replicate_succ, List.replicate_zero, List.flatten_cons, List.flatten_nil, List.cons_append, List.take_zero, List.take_succ_cons, List.drop_succ_cons, List.take_nil, List.drop_nil, List.set_cons_zero, List.set_cons_succ, false_or, or_false, or_true, true_or, Tryd.underlying27, Tryd.underlying3, Tryd.underlying23, Tryd.underlying5, Tryd.underlying56, Tryd.underlying60, Tryd.underlying4, Tryd.underlying9, Tryd.underlying67, n_tmod, n_tdiv, n_add, n_radd, n_mul, n_rmul, n_addn, n_muln, n_tmodn, n_tdivn, n_fdiv, n_shl, n_rshl, n_u8, n_u16, n_u32, n_u64, n_and8, n_or8, n_xor8, n_and32, n_or32, n_xor32, n_and64, n_or64, n_xor64, n_or8l, n_and8l, n_and32l, n_xor32l, d_lt, d_ge, d_gt, d_le, d_ltn, d_len, d_gtn, d_gen, d_eq, d_eqn, d_ne, d_nen, Is_length, Is_getD, Is_take, Is_drop, Is_one, norefs_Is, flats_Is, I_un, zrep_Is, h2, List.length_replicate]
  refine ⟨⟨by omega, by omega, by omega⟩, ⟨by omega, by omega⟩, hK _ ?_⟩
  clear hK K
  rw [show Is IntKind.i64 (List.replicate (2 * pw) 0) ++ AV.val (Value.int IntKind.i64 p) :: Is IntKind.i64 [] = Is .i64 m from by rw [hm, mostI, Is_append]; rfl, ← hml]
  refine awp_keep [1, 5] ?_
  simp only [keep_eqs, K_ops, Nat.reduceEqDiff, if_true, if_false]
  refine awp_seq_k fun K hK => awp_region [] ?_
  simp only [K_eqs, K_store, K_nil0, K_blt0, K_ops, K_nil, K_conv, K_gT, K_gF, gdec_eqs, gslot, gval, gok, K_call, K_call0, K_int, Then, abuiltin, alen, aslice, bopt, lowOf, highOf, sliceP, aint, abool, Bool.not_true, Bool.not_false, astr, aun, aidxAddr, aidx, apart, isAggD, afield, afieldAddr, amin2, aext, apick, aarrayAt, anil, aload, astore, acells, oneC, Value.oneCell', spl, srcCells, acopy, appSrc, aappend, afill, aparts, abuildSlice, abuildOwn, abuild, amake, abytes, aconv, aalloc, abox, aviews, aview, B, noref, flat, ntok, RestC_eqs, RestH_eqs, Option.isSome_some, Int.reduceToNat, IntKind.bits, Nat.min_def, norefs_Bs, norefs, flats, norefs_append, flats_append, zrep_byte, Bs_nil, cav, tszs, tbys, tzeros, tgrds, tstds, zvs_u8, zvs_length, Z_length, aagg, aggCmp, aggEq_Bs, aconvO, Nat.reduceEqDiff, Nat.reduceLT, Nat.reduceMul, Nat.reduceAdd, Nat.reduceLeDiff, Int.reduceLT, Int.reduceLE, if_true, if_false, ite_true, ite_false, true_and, and_true, Option.map_some, Option.map_none, Option.getD_some, Option.getD_none, Option.bind_some, List.map_cons, List.map_nil, List.toList_toArray, List.headD_cons, List.headD_nil, List.tail_cons, List.tail_nil, List.getElem?_toArray, List.getElem?_cons_zero, List.getElem?_cons_succ, List.contains_nil, List.contains_cons, List.all_cons, List.all_nil, Bool.and_true, Bool.true_and, Bool.or_false, Bool.false_or, Int.sub_zero, Int.toNat_natCast, Nat.mul_one, Int.toNat_zero, Nat.zero_mul, Nat.add_zero, Nat.zero_add, List.drop_zero, List.length_cons, List.length_nil, List.nil_append, List.append_nil, Bs_length, Bs_getD, drop_getD, List.length_drop, Nat.reduceSub, Bs_one, Bs_isByte, Bs_bytes, Bs_take, Bs_drop, Int.cast_ofNat_Int, beq_self_eq_true, Int.reduceBEq, Int.reduceEq, Int.reduceBNe, Nat.reduceBEq, UInt8.reduceToNat, ByteArray.toList_mk, ba_size, ba_extract, reduceCtorEq, ne_eq, not_true_eq_false, not_false_eq_true, Nat.le_refl, Int.le_refl, Bool.false_eq_true, eq_self, List.replicate_succ, List.replicate_zero, List.flatten_cons, List.flatten_nil, List.cons_append, List.take_zero, List.take_succ_cons, List.drop_succ_cons, List.take_nil, List.drop_nil, List.set_cons_zero, List.set_cons_succ, false_or, or_false, or_true, true_or, Tryd.underlying27, Tryd.underlying3, Tryd.underlying23, Tryd.underlying5, Tryd.underlying56, Tryd.underlying60, Tryd.underlying4, Tryd.underlying9, Tryd.underlying67]
  (repeat' apply And.intro) <;> try (first | exact True.intro | omega)
  refine hK _ ?_
  clear hK K
  refine awp_seq_k fun K1 hK1 => ?_
  refine awp_seq_k fun K hK => awp_region [] ?_
  simp only [K_eqs, K_store, K_nil0, K_blt0, K_ops, K_nil, K_conv, K_gT, K_gF, gdec_eqs, gslot, gval, gok, K_call, K_call0, K_int, Then, abuiltin, alen, aslice, bopt, lowOf, highOf, sliceP, aint, abool, Bool.not_true, Bool.not_false, astr, aun, aidxAddr, aidx, apart, isAggD, afield, afieldAddr, amin2, aext, apick, aarrayAt, anil, aload, astore, acells, oneC, Value.oneCell', spl, srcCells, acopy, appSrc, aappend, afill, aparts, abuildSlice, abuildOwn, abuild, amake, abytes, aconv, aalloc, abox, aviews, aview, B, noref, flat, ntok, RestC_eqs, RestH_eqs, Option.isSome_some, Int.reduceToNat, IntKind.bits, Nat.min_def, norefs_Bs, norefs, flats, norefs_append, flats_append, zrep_byte, Bs_nil, cav, tszs, tbys, tzeros, tgrds, tstds, zvs_u8, zvs_length, Z_length, aagg, aggCmp, aggEq_Bs, aconvO, Nat.reduceEqDiff, Nat.reduceLT, Nat.reduceMul, Nat.reduceAdd, Nat.reduceLeDiff, Int.reduceLT, Int.reduceLE, if_true, if_false, ite_true, ite_false, true_and, and_true, Option.map_some, Option.map_none, Option.getD_some, Option.getD_none, Option.bind_some, List.map_cons, List.map_nil, List.toList_toArray, List.headD_cons, List.headD_nil, List.tail_cons, List.tail_nil, List.getElem?_toArray, List.getElem?_cons_zero, List.getElem?_cons_succ, List.contains_nil, List.contains_cons, List.all_cons, List.all_nil, Bool.and_true, Bool.true_and, Bool.or_false, Bool.false_or, Int.sub_zero, Int.toNat_natCast, Nat.mul_one, Int.toNat_zero, Nat.zero_mul, Nat.add_zero, Nat.zero_add, List.drop_zero, List.length_cons, List.length_nil, List.nil_append, List.append_nil, Bs_length, Bs_getD, drop_getD, List.length_drop, Nat.reduceSub, Bs_one, Bs_isByte, Bs_bytes, Bs_take, Bs_drop, Int.cast_ofNat_Int, beq_self_eq_true, Int.reduceBEq, Int.reduceEq, Int.reduceBNe, Nat.reduceBEq, UInt8.reduceToNat, ByteArray.toList_mk, ba_size, ba_extract, reduceCtorEq, ne_eq, not_true_eq_false, not_false_eq_true, Nat.le_refl, Int.le_refl, Bool.false_eq_true, eq_self, List.replicate_succ, List.replicate_zero, List.flatten_cons, List.flatten_nil, List.cons_append, List.take_zero, List.take_succ_cons, List.drop_succ_cons, List.take_nil, List.drop_nil, List.set_cons_zero, List.set_cons_succ, false_or, or_false, or_true, true_or, Tryd.underlying27, Tryd.underlying3, Tryd.underlying23, Tryd.underlying5, Tryd.underlying56, Tryd.underlying60, Tryd.underlying4, Tryd.underlying9, Tryd.underlying67]
  (repeat' apply And.intro) <;> try (first | exact True.intro | omega)
  refine hK _ ?_
  clear hK K
  refine awp_keep [1, 5, 6, 7] ?_
  simp only [keep_eqs, K_ops, Nat.reduceEqDiff, if_true, if_false]
  refine awp_block ?_
  refine awp_loop_from (fun j : Nat => ⟨44, [(1, .val (.int .i64 (pw : Int))), (5, .sl m.length (Is .i64 m) (.tok 0)), (6, .val (.int .i64 (rootI p pw j))), (7, .val (.int .i64 (37 - (j : Int))))], [.tok 1 m.length]⟩)
    (fun j => j ≤ 38) (fun j => 38 - j) 0 (by omega) (.of_keep [1, 5, 6, 7] (by simp [keep, lk, rootI])) ?_
  intro j hj
  refine awp_seq (awp_seq ?_)
  refine awp_region [] ?_
  simp only [K_eqs, K_store, K_nil0, K_blt0, K_ops, K_nil, K_conv, K_gT, K_gF, gdec_eqs, gslot, gval, gok, K_call, K_call0, K_int, Then, abuiltin, alen, aslice, bopt, lowOf, highOf, sliceP, aint, abool, Bool.not_true, Bool.not_false, astr, aun, aidxAddr, aidx, apart, isAggD, afield, afieldAddr, amin2, aext, apick, aarrayAt, anil, aload, astore, acells, oneC, Value.oneCell', spl, srcCells, acopy, appSrc, aappend, afill, aparts, abuildSlice, abuildOwn, abuild, amake, abytes, aconv, aalloc, abox, aviews, aview, B, noref, flat, ntok, RestC_eqs, RestH_eqs, Option.isSome_some, Int.reduceToNat, IntKind.bits, Nat.min_def, norefs_Bs, norefs, flats, norefs_append, flats_append, zrep_byte, Bs_nil, cav, tszs, tbys, tzeros, tgrds, tstds, zvs_u8, zvs_length, Z_length, aagg, aggCmp, aggEq_Bs, aconvO, Nat.reduceEqDiff, Nat.reduceLT, Nat.reduceMul, Nat.reduceAdd, Nat.reduceLeDiff, Int.reduceLT, Int.reduceLE, if_true, if_false, ite_true, ite_false, true_and, and_true, Option.map_some, Option.map_none, Option.getD_some, Option.getD_none, Option.bind_some, List.map_cons, List.map_nil, List.toList_toArray, List.headD_cons, List.headD_nil, List.tail_cons, List.tail_nil, List.getElem?_toArray, List.getElem?_cons_zero, List.getElem?_cons_succ, List.contains_nil, List.contains_cons, List.all_cons, List.all_nil, Bool.and_true, Bool.true_and, Bool.or_false, Bool.false_or, Int.sub_zero, Int.toNat_natCast, Nat.mul_one, Int.toNat_zero, Nat.zero_mul, Nat.add_zero, Nat.zero_add, List.drop_zero, List.length_cons, List.length_nil, List.nil_append, List.append_nil, Bs_length, Bs_getD, drop_getD, List.length_drop, Nat.reduceSub, Bs_one, Bs_isByte, Bs_bytes, Bs_take, Bs_drop, Int.cast_ofNat_Int, beq_self_eq_true, Int.reduceBEq, Int.reduceEq, Int.reduceBNe, Nat.reduceBEq, UInt8.reduceToNat, ByteArray.toList_mk, ba_size, ba_extract, reduceCtorEq, ne_eq, not_true_eq_false, not_false_eq_true, Nat.le_refl, Int.le_refl, Bool.false_eq_true, eq_self, List.replicate_succ, List.replicate_zero, List.flatten_cons, List.flatten_nil, List.cons_append, List.take_zero, List.take_succ_cons, List.drop_succ_cons, List.take_nil, List.drop_nil, List.set_cons_zero, List.set_cons_succ, false_or, or_false, or_true, true_or, Tryd.underlying27, Tryd.underlying3, Tryd.underlying23, Tryd.underlying5, Tryd.underlying56, Tryd.underlying60, Tryd.underlying4, Tryd.underlying9, Tryd.underlying67]
  refine awp_cond rfl rfl (fun h => ?_) (fun h => ?_)
  · have hlt : j ≤ 37 := by have := of_decide_eq_true h; omega
    rw [show (37 - (j : Int)) = ((37 - j : Nat) : Int) by omega]
    generalize hR : rootI p pw j = R
    refine awp_skip ?_
    simp only [Then]
    refine awp_keep [1, 5, 6, 7] ?_
    simp only [keep_eqs, K_ops, Nat.reduceEqDiff, if_true, if_false]
    refine awp_seq_k fun K5 hK5 => ?_
    have next : ∀ s : St, Weak [] s ⟨44, [(1, .val (.int .i64 (pw : Int))), (5, .sl m.length (Is .i64 m) (.tok 0)), (6, .val (.int .i64 (stepI p pw R (37 - j)))), (7, .val (.int .i64 ((37 - j : Nat) : Int)))], [.tok 1 m.length]⟩ → K5 s := by
      intro s hw
      refine hK5 s (awp_weak hw ?_)
      have h6 : IntKind.i64.wrap (((37 - j : Nat) : Int) - 1) = 37 - ((j + 1 : Nat) : Int) := by rw [z_i64 (by omega) (by omega)]; omega
      refine awp_region [] ?_
      simp only [K_eqs, K_store, K_nil0, K_blt0, K_ops, K_nil, K_conv, K_gT, K_gF, gdec_eqs, gslot, gval, gok, K_call, K_call0, K_int, Then, abuiltin, alen, aslice, bopt, lowOf, highOf, sliceP, aint, abool, Bool.not_true, Bool.not_false, astr, aun, aidxAddr, aidx, apart, isAggD, afield, afieldAddr, amin2, aext, apick, aarrayAt, anil, aload, astore, acells, oneC, Value.oneCell', spl, srcCells, acopy, appSrc, aappend, afill, aparts, abuildSlice, abuildOwn, abuild, amake, abytes, aconv, aalloc, abox, aviews, aview, B, noref, flat, ntok, RestC_eqs, RestH_eqs, Option.isSome_some, Int.reduceToNat, IntKind.bits, Nat.min_def, norefs_Bs, norefs, flats, norefs_append, flats_append, zrep_byte, Bs_nil, cav, tszs, tbys, tzeros, tgrds, tstds, zvs_u8, zvs_length, Z_length, aagg, aggCmp, aggEq_Bs, aconvO, Nat.reduceEqDiff, Nat.reduceLT, Nat.reduceMul, Nat.reduceAdd, Nat.reduceLeDiff, Int.reduceLT, Int.reduceLE, if_true, if_false, ite_true, ite_false, true_and, and_true, Option.map_some, Option.map_none, Option.getD_some, Option.getD_none, Option.bind_some, List.map_cons, List.map_nil, List.toList_toArray, List.headD_cons, List.headD_nil, List.tail_cons, List.tail_nil, List.getElem?_toArray, List.getElem?_cons_zero, List.getElem?_cons_succ, List.contains_nil, List.contains_cons, List.all_cons, List.all_nil, Bool.and_true, Bool.true_and, Bool.or_false, Bool.false_or, Int.sub_zero, Int.toNat_natCast, Nat.mul_one, Int.toNat_zero, Nat.zero_mul, Nat.add_zero, Nat.zero_add, List.drop_zero, List.length_cons, List.length_nil, List.nil_append, List.append_nil, Bs_length, Bs_getD, drop_getD, List.length_drop, Nat.reduceSub, Bs_one, Bs_isByte, Bs_bytes, Bs_take, Bs_drop, Int.cast_ofNat_Int, beq_self_eq_true, Int.reduceBEq, Int.reduceEq, Int.reduceBNe, Nat.reduceBEq, UInt8.reduceToNat, ByteArray.toList_mk, ba_size, ba_extract, reduceCtorEq, ne_eq, not_true_eq_false, not_false_eq_true, Nat.le_refl, Int.le_refl, Bool.false_eq_true, eq_self, List.replicate_succ, List.replicate_zero, List.flatten_cons, List.flatten_nil, List.cons_append, List.take_zero, List.take_succ_cons, List.drop_succ_cons, List.take_nil, List.drop_nil, List.set_cons_zero, List.set_cons_succ, false_or, or_false, or_true, true_or, Tryd.underlying27, Tryd.underlying3, Tryd.underlying23, Tryd.underlying5, Tryd.underlying56, Tryd.underlying60, Tryd.underlying4, Tryd.underlying9, Tryd.underlying67, h6]
      refine ⟨j + 1, by omega, by omega, ?_⟩
      rw [show stepI p pw R (37 - j) = rootI p pw (j + 1) by rw [rootI, hR]]
      exact .of_keep [1, 5, 6, 7] rfl
    clear hK5
    refine awp_block ?_
    have hb64 : (37 - j) % 18446744073709551616 = 37 - j := by omega
    have hb65 : (if 37 - j ≤ 64 then 37 - j else 64) = 37 - j := if_pos (by omega)
    refine awp_seq_k fun K hK => awp_region [] ?_
    simp only [K_eqs, K_store, K_nil0, K_blt0, K_ops, K_nil, K_conv, K_gT, K_gF, gdec_eqs, gslot, gval, gok, K_call, K_call0, K_int, Then, abuiltin, alen, aslice, bopt, lowOf, highOf, sliceP, aint, abool, Bool.not_true, Bool.not_false, astr, aun, aidxAddr, aidx, apart, isAggD, afield, afieldAddr, amin2, aext, apick, aarrayAt, anil, aload, astore, acells, oneC, Value.oneCell', spl, srcCells, acopy, appSrc, aappend, afill, aparts, abuildSlice, abuildOwn, abuild, amake, abytes, aconv, aalloc, abox, aviews, aview, B, noref, flat, ntok, RestC_eqs, RestH_eqs, Option.isSome_some, Int.reduceToNat, IntKind.bits, Nat.min_def, norefs_Bs, norefs, flats, norefs_append, flats_append, zrep_byte, Bs_nil, cav, tszs, tbys, tzeros, tgrds, tstds, zvs_u8, zvs_length, Z_length, aagg, aggCmp, aggEq_Bs, aconvO, Nat.reduceEqDiff, Nat.reduceLT, Nat.reduceMul, Nat.reduceAdd, Nat.reduceLeDiff, Int.reduceLT, Int.reduceLE, if_true, if_false, ite_true, ite_false, true_and, and_true, Option.map_some, Option.map_none, Option.getD_some, Option.getD_none, Option.bind_some, List.map_cons, List.map_nil, List.toList_toArray, List.headD_cons, List.headD_nil, List.tail_cons, List.tail_nil, List.getElem?_toArray, List.getElem?_cons_zero, List.getElem?_cons_succ, List.contains_nil, List.contains_cons, List.all_cons, List.all_nil, Bool.and_true, Bool.true_and, Bool.or_false, Bool.false_or, Int.sub_zero, Int.toNat_natCast, Nat.mul_one, Int.toNat_zero, Nat.zero_mul, Nat.add_zero, Nat.zero_add, List.drop_zero, List.length_cons, List.length_nil, List.nil_append, List.append_nil, Bs_length, Bs_getD, drop_getD, List.length_drop, Nat.reduceSub, Bs_one, Bs_isByte, Bs_bytes, Bs_take, Bs_drop, Int.cast_ofNat_Int, beq_self_eq_true, Int.reduceBEq, Int.reduceEq, Int.reduceBNe, Nat.reduceBEq, UInt8.reduceToNat, ByteArray.toList_mk, ba_size, ba_extract, reduceCtorEq, ne_eq, not_true_eq_false, not_false_eq_true, Nat.le_refl, Int.le_refl, Bool.false_eq_true, eq_self, List.replicate_succ, List.replicate_zero, List.flatten_cons, List.flatten_nil, List.cons_append, List.take_zero, List.take_succ_cons, List.drop_succ_cons, List.take_nil, List.drop_nil, List.set_cons_zero, List.set_cons_succ, false_or, or_false, or_true, true_or, Tryd.underlying27, Tryd.underlying3, Tryd.underlying23, Tryd.underlying5, Tryd.underlying56, Tryd.underlying60, Tryd.underlying4, Tryd.underlying9, Tryd.underlying67, n_tmod, n_tdiv, n_add, n_radd, n_mul, n_rmul, n_addn, n_muln, n_tmodn, n_tdivn, n_fdiv, n_shl, n_rshl, n_u8, n_u16, n_u32, n_u64, n_and8, n_or8, n_xor8, n_and32, n_or32, n_xor32, n_and64, n_or64, n_xor64, n_or8l, n_and8l, n_and32l, n_xor32l, d_lt, d_ge, d_gt, d_le, d_ltn, d_len, d_gtn, d_gen, d_eq, d_eqn, d_ne, d_nen, hb64, hb65]
    (repeat' apply And.intro) <;> try (first | exact True.intro | omega)
    refine hK _ ?_
    clear hK K
    have hpow : ((1 * 2 ^ (37 - j) : Nat) : Int) = 1 * 2 ^ (37 - j) := by simp
    rw [hpow]
    obtain ⟨T, hT⟩ : ∃ T, T = IntKind.i64.wrap (R + IntKind.i64.wrap (1 * 2 ^ (37 - j))) := ⟨_, rfl⟩
    rw [← hT]
    have hstep : stepI p pw R (37 - j) = if T ≥ 137438953472 then R else if isAbove (if pw = 3 then timesI (timesI (digitsI T) (digitsI T)) (digitsI T) else timesI (digitsI T) (digitsI T)) m then R else T := by
      rw [hT, hm]
      rfl
    rw [hstep] at next
    clear hT hstep hpow
    refine awp_keep [1, 5, 6, 7, 8] ?_
    simp only [keep_eqs, K_ops, Nat.reduceEqDiff, if_true, if_false]
    refine awp_seq ?_
    refine awp_seq ?_
    refine awp_region [] ?_
    simp only [K_eqs, K_store, K_nil0, K_blt0, K_ops, K_nil, K_conv, K_gT, K_gF, gdec_eqs, gslot, gval, gok, K_call, K_call0, K_int, Then, abuiltin, alen, aslice, bopt, lowOf, highOf, sliceP, aint, abool, Bool.not_true, Bool.not_false, astr, aun, aidxAddr, aidx, apart, isAggD, afield, afieldAddr, amin2, aext, apick, aarrayAt, anil, aload, astore, acells, oneC, Value.oneCell', spl, srcCells, acopy, appSrc, aappend, afill, aparts, abuildSlice, abuildOwn, abuild, amake, abytes, aconv, aalloc, abox, aviews, aview, B, noref, flat, ntok, RestC_eqs, RestH_eqs, Option.isSome_some, Int.reduceToNat, IntKind.bits, Nat.min_def, norefs_Bs, norefs, flats, norefs_append, flats_append, zrep_byte, Bs_nil, cav, tszs, tbys, tzeros, tgrds, tstds, zvs_u8, zvs_length, Z_length, aagg, aggCmp, aggEq_Bs, aconvO, Nat.reduceEqDiff, Nat.reduceLT, Nat.reduceMul, Nat.reduceAdd, Nat.reduceLeDiff, Int.reduceLT, Int.reduceLE, if_true, if_false, ite_true, ite_false, true_and, and_true, Option.map_some, Option.map_none, Option.getD_some, Option.getD_none, Option.bind_some, List.map_cons, List.map_nil, List.toList_toArray, List.headD_cons, List.headD_nil, List.tail_cons, List.tail_nil, List.getElem?_toArray, List.getElem?_cons_zero, List.getElem?_cons_succ, List.contains_nil, List.contains_cons, List.all_cons, List.all_nil, Bool.and_true, Bool.true_and, Bool.or_false, Bool.false_or, Int.sub_zero, Int.toNat_natCast, Nat.mul_one, Int.toNat_zero, Nat.zero_mul, Nat.add_zero, Nat.zero_add, List.drop_zero, List.length_cons, List.length_nil, List.nil_append, List.append_nil, Bs_length, Bs_getD, drop_getD, List.length_drop, Nat.reduceSub, Bs_one, Bs_isByte, Bs_bytes, Bs_take, Bs_drop, Int.cast_ofNat_Int, beq_self_eq_true, Int.reduceBEq, Int.reduceEq, Int.reduceBNe, Nat.reduceBEq, UInt8.reduceToNat, ByteArray.toList_mk, ba_size, ba_extract, reduceCtorEq, ne_eq, not_true_eq_false, not_false_eq_true, Nat.le_refl, Int.le_refl, Bool.false_eq_true, eq_self, List.replicate_succ, List.replicate_zero, List.flatten_cons, List.flatten_nil, List.cons_append, List.take_zero, List.take_succ_cons, List.drop_succ_cons, List.take_nil, List.drop_nil, List.set_cons_zero, List.set_cons_succ, false_or, or_false, or_true, true_or, Tryd.underlying27, Tryd.underlying3, Tryd.underlying23, Tryd.underlying5, Tryd.underlying56, Tryd.underlying60, Tryd.underlying4, Tryd.underlying9, Tryd.underlying67]
    refine awp_cond rfl rfl (fun h => ?_) (fun h => ?_)
    · have hge : T ≥ 137438953472 := of_decide_eq_true h
      rw [if_pos hge] at next
      refine awp_exit ?_
      simp only [Then, InBlock, if_true]
      exact next _ (.of_keep [1, 5, 6, 7] rfl)
    have hge : ¬ T ≥ 137438953472 := of_decide_eq_false h
    rw [if_neg hge] at next
    refine awp_skip ?_
    simp only [Then]
    refine awp_keep [1, 5, 6, 7, 8] ?_
    simp only [keep_eqs, K_ops, Nat.reduceEqDiff, if_true, if_false]
    refine awp_seq_k fun K hK => awp_region [] ?_
    simp only [K_eqs, K_store, K_nil0, K_blt0, K_ops, K_nil, K_conv, K_gT, K_gF, gdec_eqs, gslot, gval, gok, K_call, K_call0, K_int, Then, abuiltin, alen, aslice, bopt, lowOf, highOf, sliceP, aint, abool, Bool.not_true, Bool.not_false, astr, aun, aidxAddr, aidx, apart, isAggD, afield, afieldAddr, amin2, aext, apick, aarrayAt, anil, aload, astore, acells, oneC, Value.oneCell', spl, srcCells, acopy, appSrc, aappend, afill, aparts, abuildSlice, abuildOwn, abuild, amake, abytes, aconv, aalloc, abox, aviews, aview, B, noref, flat, ntok, RestC_eqs, RestH_eqs, Option.isSome_some, Int.reduceToNat, IntKind.bits, Nat.min_def, norefs_Bs, norefs, flats, norefs_append, flats_append, zrep_byte, Bs_nil, cav, tszs, tbys, tzeros, tgrds, tstds, zvs_u8, zvs_length, Z_length, aagg, aggCmp, aggEq_Bs, aconvO, Nat.reduceEqDiff, Nat.reduceLT, Nat.reduceMul, Nat.reduceAdd, Nat.reduceLeDiff, Int.reduceLT, Int.reduceLE, if_true, if_false, ite_true, ite_false, true_and, and_true, Option.map_some, Option.map_none, Option.getD_some, Option.getD_none, Option.bind_some, List.map_cons, List.map_nil, List.toList_toArray, List.headD_cons, List.headD_nil, List.tail_cons, List.tail_nil, List.getElem?_toArray, List.getElem?_cons_zero, List.getElem?_cons_succ, List.contains_nil, List.contains_cons, List.all_cons, List.all_nil, Bool.and_true, Bool.true_and, Bool.or_false, Bool.false_or, Int.sub_zero, Int.toNat_natCast, Nat.mul_one, Int.toNat_zero, Nat.zero_mul, Nat.add_zero, Nat.zero_add, List.drop_zero, List.length_cons, List.length_nil, List.nil_append, List.append_nil, Bs_length, Bs_getD, drop_getD, List.length_drop, Nat.reduceSub, Bs_one, Bs_isByte, Bs_bytes, Bs_take, Bs_drop, Int.cast_ofNat_Int, beq_self_eq_true, Int.reduceBEq, Int.reduceEq, Int.reduceBNe, Nat.reduceBEq, UInt8.reduceToNat, ByteArray.toList_mk, ba_size, ba_extract, reduceCtorEq, ne_eq, not_true_eq_false, not_false_eq_true, Nat.le_refl, Int.le_refl, Bool.false_eq_true, eq_self, List.replicate_succ, List.replicate_zero, List.flatten_cons, List.flatten_nil, List.cons_append, List.take_zero, List.take_succ_cons, List.drop_succ_cons, List.take_nil, List.drop_nil, List.set_cons_zero, List.set_cons_succ, false_or, or_false, or_true, true_or, Tryd.underlying27, Tryd.underlying3, Tryd.underlying23, Tryd.underlying5, Tryd.underlying56, Tryd.underlying60, Tryd.underlying4, Tryd.underlying9, Tryd.underlying67]
    refine andC_eq (by simp [norefs_Bs, norefs, noref, norefs_Is, flats_Is]) (digits_ok T) (by simp [noref, norefs, norefs_Bs, flat, norefs_Is, flats_Is]) ?_
    simp only [K_eqs, K_store, K_nil0, K_blt0, K_ops, K_nil, K_conv, K_gT, K_gF, gdec_eqs, gslot, gval, gok, K_call, K_call0, K_int, Then, abuiltin, alen, aslice, bopt, lowOf, highOf, sliceP, aint, abool, Bool.not_true, Bool.not_false, astr, aun, aidxAddr, aidx, apart, isAggD, afield, afieldAddr, amin2, aext, apick, aarrayAt, anil, aload, astore, acells, oneC, Value.oneCell', spl, srcCells, acopy, appSrc, aappend, afill, aparts, abuildSlice, abuildOwn, abuild, amake, abytes, aconv, aalloc, abox, aviews, aview, B, noref, flat, ntok, RestC_eqs, RestH_eqs, Option.isSome_some, Int.reduceToNat, IntKind.bits, Nat.min_def, norefs_Bs, norefs, flats, norefs_append, flats_append, zrep_byte, Bs_nil, cav, tszs, tbys, tzeros, tgrds, tstds, zvs_u8, zvs_length, Z_length, aagg, aggCmp, aggEq_Bs, aconvO, Nat.reduceEqDiff, Nat.reduceLT, Nat.reduceMul, Nat.reduceAdd, Nat.reduceLeDiff, Int.reduceLT, Int.reduceLE, if_true, if_false, ite_true, ite_false, true_and, and_true, Option.map_some, Option.map_none, Option.getD_some, Option.getD_none, Option.bind_some, List.map_cons, List.map_nil, List.toList_toArray, List.headD_cons, List.headD_nil, List.tail_cons, List.tail_nil, List.getElem?_toArray, List.getElem?_cons_zero, List.getElem?_cons_succ, List.contains_nil, List.contains_cons, List.all_cons, List.all_nil, Bool.and_true, Bool.true_and, Bool.or_false, Bool.false_or, Int.sub_zero, Int.toNat_natCast, Nat.mul_one, Int.toNat_zero, Nat.zero_mul, Nat.add_zero, Nat.zero_add, List.drop_zero, List.length_cons, List.length_nil, List.nil_append, List.append_nil, Bs_length, Bs_getD, drop_getD, List.length_drop, Nat.reduceSub, Bs_one, Bs_isByte, Bs_bytes, Bs_take, Bs_drop, Int.cast_ofNat_Int, beq_self_eq_true, Int.reduceBEq, Int.reduceEq, Int.reduceBNe, Nat.reduceBEq, UInt8.reduceToNat, ByteArray.toList_mk, ba_size, ba_extract, reduceCtorEq, ne_eq, not_true_eq_false, not_false_eq_true, Nat.le_refl, Int.le_refl, Bool.false_eq_true, eq_self, List.replicate_succ, List.replicate_zero, List.flatten_cons, List.flatten_nil, List.cons_append, List.take_zero, List.take_succ_cons, List.drop_succ_cons, List.take_nil, List.drop_nil, List.set_cons_zero, List.set_cons_succ, false_or, or_false, or_true, true_or, Tryd.underlying27, Tryd.underlying3, Tryd.underlying23, Tryd.underlying5, Tryd.underlying56, Tryd.underlying60, Tryd.underlying4, Tryd.underlying9, Tryd.underlying67]
    (repeat' apply And.intro) <;> try (first | exact True.intro | omega)
    refine hK _ ?_
    clear hK K
    refine awp_keep [1, 5, 6, 7, 8, 9] ?_
    simp only [keep_eqs, K_ops, Nat.reduceEqDiff, if_true, if_false]
    generalize hX : digitsI T = X at next
    have hXl : X.length = 3 := by rw [← hX]; rfl
    rw [← hXl]
    refine awp_seq_k fun K hK => awp_region [] ?_
    simp only [K_eqs, K_store, K_nil0, K_blt0, K_ops, K_nil, K_conv, K_gT, K_gF, gdec_eqs, gslot, gval, gok, K_call, K_call0, K_int, Then, abuiltin, alen, aslice, bopt, lowOf, highOf, sliceP, aint, abool, Bool.not_true, Bool.not_false, astr, aun, aidxAddr, aidx, apart, isAggD, afield, afieldAddr, amin2, aext, apick, aarrayAt, anil, aload, astore, acells, oneC, Value.oneCell', spl, srcCells, acopy, appSrc, aappend, afill, aparts, abuildSlice, abuildOwn, abuild, amake, abytes, aconv, aalloc, abox, aviews, aview, B, noref, flat, ntok, RestC_eqs, RestH_eqs, Option.isSome_some, Int.reduceToNat, IntKind.bits, Nat.min_def, norefs_Bs, norefs, flats, norefs_append, flats_append, zrep_byte, Bs_nil, cav, tszs, tbys, tzeros, tgrds, tstds, zvs_u8, zvs_length, Z_length, aagg, aggCmp, aggEq_Bs, aconvO, Nat.reduceEqDiff, Nat.reduceLT, Nat.reduceMul, Nat.reduceAdd, Nat.reduceLeDiff, Int.reduceLT, Int.reduceLE, if_true, if_false, ite_true, ite_false, true_and, and_true, Option.map_some, Option.map_none, Option.getD_some, Option.getD_none, Option.bind_some, List.map_cons, List.map_nil, List.toList_toArray, List.headD_cons, List.headD_nil, List.tail_cons, List.tail_nil, List.getElem?_toArray, List.getElem?_cons_zero, List.getElem?_cons_succ, List.contains_nil, List.contains_cons, List.all_cons, List.all_nil, Bool.and_true, Bool.true_and, Bool.or_false, Bool.false_or, Int.sub_zero, Int.toNat_natCast, Nat.mul_one, Int.toNat_zero, Nat.zero_mul, Nat.add_zero, Nat.zero_add, List.drop_zero, List.length_cons, List.length_nil, List.nil_append, List.append_nil, Bs_length, Bs_getD, drop_getD, List.length_drop, Nat.reduceSub, Bs_one, Bs_isByte, Bs_bytes, Bs_take, Bs_drop, Int.cast_ofNat_Int, beq_self_eq_true, Int.reduceBEq, Int.reduceEq, Int.reduceBNe, Nat.reduceBEq, UInt8.reduceToNat, ByteArray.toList_mk, ba_size, ba_extract, reduceCtorEq, ne_eq, not_true_eq_false, not_false_eq_true, Nat.le_refl, Int.le_refl, Bool.false_eq_true, eq_self, List.replicate_succ, List.replicate_zero, List.flatten_cons, List.flatten_nil, List.cons_append, List.take_zero, List.take_succ_cons, List.drop_succ_cons, List.take_nil, List.drop_nil, List.set_cons_zero, List.set_cons_succ, false_or, or_false, or_true, true_or, Tryd.underlying27, Tryd.underlying3, Tryd.underlying23, Tryd.underlying5, Tryd.underlying56, Tryd.underlying60, Tryd.underlying4, Tryd.underlying9, Tryd.underlying67, Is_length, Is_getD, Is_take, Is_drop, Is_one, norefs_Is, flats_Is, I_un, zrep_Is]
    refine andC_eq (by simp [norefs_Bs, norefs, noref, norefs_Is, flats_Is]) (times_ok X X .full .full (by omega) (by omega)) (by simp [noref, norefs, norefs_Bs, flat, norefs_Is, flats_Is]) ?_
    simp only [K_eqs, K_store, K_nil0, K_blt0, K_ops, K_nil, K_conv, K_gT, K_gF, gdec_eqs, gslot, gval, gok, K_call, K_call0, K_int, Then, abuiltin, alen, aslice, bopt, lowOf, highOf, sliceP, aint, abool, Bool.not_true, Bool.not_false, astr, aun, aidxAddr, aidx, apart, isAggD, afield, afieldAddr, amin2, aext, apick, aarrayAt, anil, aload, astore, acells, oneC, Value.oneCell', spl, srcCells, acopy, appSrc, aappend, afill, aparts, abuildSlice, abuildOwn, abuild, amake, abytes, aconv, aalloc, abox, aviews, aview, B, noref, flat, ntok, RestC_eqs, RestH_eqs, Option.isSome_some, Int.reduceToNat, IntKind.bits, Nat.min_def, norefs_Bs, norefs, flats, norefs_append, flats_append, zrep_byte, Bs_nil, cav, tszs, tbys, tzeros, tgrds, tstds, zvs_u8, zvs_length, Z_length, aagg, aggCmp, aggEq_Bs, aconvO, Nat.reduceEqDiff, Nat.reduceLT, Nat.reduceMul, Nat.reduceAdd, Nat.reduceLeDiff, Int.reduceLT, Int.reduceLE, if_true, if_false, ite_true, ite_false, true_and, and_true, Option.map_some, Option.map_none, Option.getD_some, Option.getD_none, Option.bind_some, List.map_cons, List.map_nil, List.toList_toArray, List.headD_cons, List.headD_nil, List.tail_cons, List.tail_nil, List.getElem?_toArray, List.getElem?_cons_zero, List.getElem?_cons_succ, List.contains_nil, List.contains_cons, List.all_cons, List.all_nil, Bool.and_true, Bool.true_and, Bool.or_false, Bool.false_or, Int.sub_zero, Int.toNat_natCast, Nat.mul_one, Int.toNat_zero, Nat.zero_mul, Nat.add_zero, Nat.zero_add, List.drop_zero, List.length_cons, List.length_nil, List.nil_append, List.append_nil, Bs_length, Bs_getD, drop_getD, List.length_drop, Nat.reduceSub, Bs_one, Bs_isByte, Bs_bytes, Bs_take, Bs_drop, Int.cast_ofNat_Int, beq_self_eq_true, Int.reduceBEq, Int.reduceEq, Int.reduceBNe, Nat.reduceBEq, UInt8.reduceToNat, ByteArray.toList_mk, ba_size, ba_extract, reduceCtorEq, ne_eq, not_true_eq_false, not_false_eq_true, Nat.le_refl, Int.le_refl, Bool.false_eq_true, eq_self, List.replicate_succ, List.replicate_zero, List.flatten_cons, List.flatten_nil, List.cons_append, List.take_zero, List.take_succ_cons, List.drop_succ_cons, List.take_nil, List.drop_nil, List.set_cons_zero, List.set_cons_succ, false_or, or_false, or_true, true_or, Tryd.underlying27, Tryd.underlying3, Tryd.underlying23, Tryd.underlying5, Tryd.underlying56, Tryd.underlying60, Tryd.underlying4, Tryd.underlying9, Tryd.underlying67]
    (repeat' apply And.intro) <;> try (first | exact True.intro | omega)
    refine hK _ ?_
    clear hK K
    refine awp_keep [1, 5, 6, 7, 8, 9, 10] ?_
    simp only [keep_eqs, K_ops, Nat.reduceEqDiff, if_true, if_false]
    generalize hY : timesI X X = Y at next
    have hYl : Y.length = 6 := by rw [← hY, timesI_length, hXl]
    refine awp_seq_k fun K2 hK2 => ?_
    obtain ⟨W, hW⟩ : ∃ W, W = if pw = 3 then timesI Y X else Y := ⟨_, rfl⟩
    rw [← hW] at next
    have hWl : W.length ≤ 9 := by rw [hW]; split <;> (try simp only [timesI_length]) <;> omega
    have nextW : ∀ s : St, Weak [] s ⟨44, [(1, .val (.int .i64 (pw : Int))), (5, .sl m.length (Is .i64 m) (.tok 0)), (6, .val (.int .i64 R)), (7, .val (.int .i64 ((37 - j : Nat) : Int))), (8, .val (.int .i64 T)), (10, .sl W.length (Is .i64 W) .no)], [.tok 1 m.length]⟩ → K2 s := by
      intro s hw
      refine hK2 s (awp_weak hw ?_)
      clear hw hK2 K2
      refine awp_seq_k fun K hK => awp_region [] ?_
      simp only [K_eqs, K_store, K_nil0, K_blt0, K_ops, K_nil, K_conv, K_gT, K_gF, gdec_eqs, gslot, gval, gok, K_call, K_call0, K_int, Then, abuiltin, alen, aslice, bopt, lowOf, highOf, sliceP, aint, abool, Bool.not_true, Bool.not_false, astr, aun, aidxAddr, aidx, apart, isAggD, afield, afieldAddr, amin2, aext, apick, aarrayAt, anil, aload, astore, acells, oneC, Value.oneCell', spl, srcCells, acopy, appSrc, aappend, afill, aparts, abuildSlice, abuildOwn, abuild, amake, abytes, aconv, aalloc, abox, aviews, aview, B, noref, flat, ntok, RestC_eqs, RestH_eqs, Option.isSome_some, Int.reduceToNat, IntKind.bits, Nat.min_def, norefs_Bs, norefs, flats, norefs_append, flats_append, zrep_byte, Bs_nil, cav, tszs, tbys, tzeros, tgrds, tstds, zvs_u8, zvs_length, Z_length, aagg, aggCmp, aggEq_Bs, aconvO, Nat.reduceEqDiff, Nat.reduceLT, Nat.reduceMul, Nat.reduceAdd, Nat.reduceLeDiff, Int.reduceLT, Int.reduceLE, if_true, if_false, ite_true, ite_false, true_and, and_true, Option.map_some, Option.map_none, Option.getD_some, Option.getD_none, Option.bind_some, List.map_cons, List.map_nil, List.toList_toArray, List.headD_cons, List.headD_nil, List.tail_cons, List.tail_nil, List.getElem?_toArray, List.getElem?_cons_zero, List.getElem?_cons_succ, List.contains_nil, List.contains_cons, List.all_cons, List.all_nil, Bool.and_true, Bool.true_and, Bool.or_false, Bool.false_or, Int.sub_zero, Int.toNat_natCast, Nat.mul_one, Int.toNat_zero, Nat.zero_mul, Nat.add_zero, Nat.zero_add, List.drop_zero, List.length_cons, List.length_nil, List.nil_append, List.append_nil, Bs_length, Bs_getD, drop_getD, List.length_drop, Nat.reduceSub, Bs_one, Bs_isByte, Bs_bytes, Bs_take, Bs_drop, Int.cast_ofNat_Int, beq_self_eq_true, Int.reduceBEq, Int.reduceEq, Int.reduceBNe, Nat.reduceBEq, UInt8.reduceToNat, ByteArray.toList_mk, ba_size, ba_extract, reduceCtorEq, ne_eq, not_true_eq_false, not_false_eq_true, Nat.le_refl, Int.le_refl, Bool.false_eq_true, eq_self, List.replicate_succ, List.replicate_zero, List.flatten_cons, List.flatten_nil, List.cons_append, List.take_zero, List.take_succ_cons, List.drop_succ_cons, List.take_nil, List.drop_nil, List.set_cons_zero, List.set_cons_succ, false_or, or_false, or_true, true_or, Tryd.underlying27, Tryd.underlying3, Tryd.underlying23, Tryd.underlying5, Tryd.underlying56, Tryd.underlying60, Tryd.underlying4, Tryd.underlying9, Tryd.underlying67, Is_length, Is_getD, Is_take, Is_drop, Is_one, norefs_Is, flats_Is, I_un, zrep_Is]
      refine andC_eq (by simp [norefs_Bs, norefs, noref, norefs_Is, flats_Is]) (above_ok W m .no .no (by omega) (by omega)) (by simp [noref, norefs, norefs_Bs, flat, norefs_Is, flats_Is]) ?_
      simp only [K_eqs, K_store, K_nil0, K_blt0, K_ops, K_nil, K_conv, K_gT, K_gF, gdec_eqs, gslot, gval, gok, K_call, K_call0, K_int, Then, abuiltin, alen, aslice, bopt, lowOf, highOf, sliceP, aint, abool, Bool.not_true, Bool.not_false, astr, aun, aidxAddr, aidx, apart, isAggD, afield, afieldAddr, amin2, aext, apick, aarrayAt, anil, aload, astore, acells, oneC, Value.oneCell', spl, srcCells, acopy, appSrc, aappend, afill, aparts, abuildSlice, abuildOwn, abuild, amake, abytes, aconv, aalloc, abox, aviews, aview, B, noref, flat, ntok, RestC_eqs, RestH_eqs, Option.isSome_some, Int.reduceToNat, IntKind.bits, Nat.min_def, norefs_Bs, norefs, flats, norefs_append, flats_append, zrep_byte, Bs_nil, cav, tszs, tbys, tzeros, tgrds, tstds, zvs_u8, zvs_length, Z_length, aagg, aggCmp, aggEq_Bs, aconvO, Nat.reduceEqDiff, Nat.reduceLT, Nat.reduceMul, Nat.reduceAdd, Nat.reduceLeDiff, Int.reduceLT, Int.reduceLE, if_true, if_false, ite_true, ite_false, true_and, and_true, Option.map_some, Option.map_none, Option.getD_some, Option.getD_none, Option.bind_some, List.map_cons, List.map_nil, List.toList_toArray, List.headD_cons, List.headD_nil, List.tail_cons, List.tail_nil, List.getElem?_toArray, List.getElem?_cons_zero, List.getElem?_cons_succ, List.contains_nil, List.contains_cons, List.all_cons, List.all_nil, Bool.and_true, Bool.true_and, Bool.or_false, Bool.false_or, Int.sub_zero, Int.toNat_natCast, Nat.mul_one, Int.toNat_zero, Nat.zero_mul, Nat.add_zero, Nat.zero_add, List.drop_zero, List.length_cons, List.length_nil, List.nil_append, List.append_nil, Bs_length, Bs_getD, drop_getD, List.length_drop, Nat.reduceSub, Bs_one, Bs_isByte, Bs_bytes, Bs_take, Bs_drop, Int.cast_ofNat_Int, beq_self_eq_true, Int.reduceBEq, Int.reduceEq, Int.reduceBNe, Nat.reduceBEq, UInt8.reduceToNat, ByteArray.toList_mk, ba_size, ba_extract, reduceCtorEq, ne_eq, not_true_eq_false, not_false_eq_true, Nat.le_refl, Int.le_refl, Bool.false_eq_true, eq_self, List.replicate_succ, List.replicate_zero, List.flatten_cons, List.flatten_nil, List.cons_append, List.take_zero, List.take_succ_cons, List.drop_succ_cons, List.take_nil, List.drop_nil, List.set_cons_zero, List.set_cons_succ, false_or, or_false, or_true, true_or, Tryd.underlying27, Tryd.underlying3, Tryd.underlying23, Tryd.underlying5, Tryd.underlying56, Tryd.underlying60, Tryd.underlying4, Tryd.underlying9, Tryd.underlying67]
      (repeat' apply And.intro) <;> try (first | exact True.intro | omega)
      refine hK _ ?_
      clear hK K
      refine awp_keep [1, 5, 6, 7, 8, 41] ?_
      simp only [keep_eqs, K_ops, Nat.reduceEqDiff, if_true, if_false]
      refine awp_cond rfl rfl (fun h => ?_) (fun h => ?_)
      · have hab : isAbove W m = false := by simpa using h
        rw [if_neg (by simp [hab])] at next
        refine awp_region [] ?_
        simp only [K_eqs, K_store, K_nil0, K_blt0, K_ops, K_nil, K_conv, K_gT, K_gF, gdec_eqs, gslot, gval, gok, K_call, K_call0, K_int, Then, abuiltin, alen, aslice, bopt, lowOf, highOf, sliceP, aint, abool, Bool.not_true, Bool.not_false, astr, aun, aidxAddr, aidx, apart, isAggD, afield, afieldAddr, amin2, aext, apick, aarrayAt, anil, aload, astore, acells, oneC, Value.oneCell', spl, srcCells, acopy, appSrc, aappend, afill, aparts, abuildSlice, abuildOwn, abuild, amake, abytes, aconv, aalloc, abox, aviews, aview, B, noref, flat, ntok, RestC_eqs, RestH_eqs, Option.isSome_some, Int.reduceToNat, IntKind.bits, Nat.min_def, norefs_Bs, norefs, flats, norefs_append, flats_append, zrep_byte, Bs_nil, cav, tszs, tbys, tzeros, tgrds, tstds, zvs_u8, zvs_length, Z_length, aagg, aggCmp, aggEq_Bs, aconvO, Nat.reduceEqDiff, Nat.reduceLT, Nat.reduceMul, Nat.reduceAdd, Nat.reduceLeDiff, Int.reduceLT, Int.reduceLE, if_true, if_false, ite_true, ite_false, true_and, and_true, Option.map_some, Option.map_none, Option.getD_some, Option.getD_none, Option.bind_some, List.map_cons, List.map_nil, List.toList_toArray, List.headD_cons, List.headD_nil, List.tail_cons, List.tail_nil, List.getElem?_toArray, List.getElem?_cons_zero, List.getElem?_cons_succ, List.contains_nil, List.contains_cons, List.all_cons, List.all_nil, Bool.and_true, Bool.true_and, Bool.or_false, Bool.false_or, Int.sub_zero, Int.toNat_natCast, Nat.mul_one, Int.toNat_zero, Nat.zero_mul, Nat.add_zero, Nat.zero_add, List.drop_zero, List.length_cons, List.length_nil, List.nil_append, List.append_nil, Bs_length, Bs_getD, drop_getD, List.length_drop, Nat.reduceSub, Bs_one, Bs_isByte, Bs_bytes, Bs_take, Bs_drop, Int.cast_ofNat_Int, beq_self_eq_true, Int.reduceBEq, Int.reduceEq, Int.reduceBNe, Nat.reduceBEq, UInt8.reduceToNat, ByteArray.toList_mk, ba_size, ba_extract, reduceCtorEq, ne_eq, not_true_eq_false, not_false_eq_true, Nat.le_refl, Int.le_refl, Bool.false_eq_true, eq_self, List.replicate_succ, List.replicate_zero, List.flatten_cons, List.flatten_nil, List.cons_append, List.take_zero, List.take_succ_cons, List.drop_succ_cons, List.take_nil, List.drop_nil, List.set_cons_zero, List.set_cons_succ, false_or, or_false, or_true, true_or, Tryd.underlying27, Tryd.underlying3, Tryd.underlying23, Tryd.underlying5, Tryd.underlying56, Tryd.underlying60, Tryd.underlying4, Tryd.underlying9, Tryd.underlying67]
        (repeat' apply And.intro) <;> try (first | exact True.intro | omega)
        simp only [InBlock, Then]
        exact next _ (.of_keep [1, 5, 6, 7] rfl)
      · have hab : isAbove W m = true := by simpa using h
        rw [if_pos (by simp [hab])] at next
        refine awp_skip ?_
        simp only [InBlock, Then]
        exact next _ (.of_keep [1, 5, 6, 7] rfl)
    refine awp_seq_k fun K hK => awp_region [] ?_
    simp only [K_eqs, K_store, K_nil0, K_blt0, K_ops, K_nil, K_conv, K_gT, K_gF, gdec_eqs, gslot, gval, gok, K_call, K_call0, K_int, Then, abuiltin, alen, aslice, bopt, lowOf, highOf, sliceP, aint, abool, Bool.not_true, Bool.not_false, astr, aun, aidxAddr, aidx, apart, isAggD, afield, afieldAddr, amin2, aext, apick, aarrayAt, anil, aload, astore, acells, oneC, Value.oneCell', spl, srcCells, acopy, appSrc, aappend, afill, aparts, abuildSlice, abuildOwn, abuild, amake, abytes, aconv, aalloc, abox, aviews, aview, B, noref, flat, ntok, RestC_eqs, RestH_eqs, Option.isSome_some, Int.reduceToNat, IntKind.bits, Nat.min_def, norefs_Bs, norefs, flats, norefs_append, flats_append, zrep_byte, Bs_nil, cav, tszs, tbys, tzeros, tgrds, tstds, zvs_u8, zvs_length, Z_length, aagg, aggCmp, aggEq_Bs, aconvO, Nat.reduceEqDiff, Nat.reduceLT, Nat.reduceMul, Nat.reduceAdd, Nat.reduceLeDiff, Int.reduceLT, Int.reduceLE, if_true, if_false, ite_true, ite_false, true_and, and_true, Option.map_some, Option.map_none, Option.getD_some, Option.getD_none, Option.bind_some, List.map_cons, List.map_nil, List.toList_toArray, List.headD_cons, List.headD_nil, List.tail_cons, List.tail_nil, List.getElem?_toArray, List.getElem?_cons_zero, List.getElem?_cons_succ, List.contains_nil, List.contains_cons, List.all_cons, List.all_nil, Bool.and_true, Bool.true_and, Bool.or_false, Bool.false_or, Int.sub_zero, Int.toNat_natCast, Nat.mul_one, Int.toNat_zero, Nat.zero_mul, Nat.add_zero, Nat.zero_add, List.drop_zero, List.length_cons, List.length_nil, List.nil_append, List.append_nil, Bs_length, Bs_getD, drop_getD, List.length_drop, Nat.reduceSub, Bs_one, Bs_isByte, Bs_bytes, Bs_take, Bs_drop, Int.cast_ofNat_Int, beq_self_eq_true, Int.reduceBEq, Int.reduceEq, Int.reduceBNe, Nat.reduceBEq, UInt8.reduceToNat, ByteArray.toList_mk, ba_size, ba_extract, reduceCtorEq, ne_eq, not_true_eq_false, not_false_eq_true, Nat.le_refl, Int.le_refl, Bool.false_eq_true, eq_self, List.replicate_succ, List.replicate_zero, List.flatten_cons, List.flatten_nil, List.cons_append, List.take_zero, List.take_succ_cons, List.drop_succ_cons, List.take_nil, List.drop_nil, List.set_cons_zero, List.set_cons_succ, false_or, or_false, or_true, true_or, Tryd.underlying27, Tryd.underlying3, Tryd.underlying23, Tryd.underlying5, Tryd.underlying56, Tryd.underlying60, Tryd.underlying4, Tryd.underlying9, Tryd.underlying67, n_tmod, n_tdiv, n_add, n_radd, n_mul, n_rmul, n_addn, n_muln, n_tmodn, n_tdivn, n_fdiv, n_shl, n_rshl, n_u8, n_u16, n_u32, n_u64, n_and8, n_or8, n_xor8, n_and32, n_or32, n_xor32, n_and64, n_or64, n_xor64, n_or8l, n_and8l, n_and32l, n_xor32l, d_lt, d_ge, d_gt, d_le, d_ltn, d_len, d_gtn, d_gen, d_eq, d_eqn, d_ne, d_nen]
    (repeat' apply And.intro) <;> try (first | exact True.intro | omega)
    refine hK _ ?_
    clear hK K
    refine awp_cond rfl rfl (fun h => ?_) (fun h => ?_)
    · have h3 : pw = 3 := by simpa using h
      rw [if_pos h3] at hW
      refine awp_keep [1, 5, 6, 7, 8, 9, 10] ?_
      simp only [keep_eqs, K_ops, Nat.reduceEqDiff, if_true, if_false]
      refine awp_region [] ?_
      simp only [K_eqs, K_store, K_nil0, K_blt0, K_ops, K_nil, K_conv, K_gT, K_gF, gdec_eqs, gslot, gval, gok, K_call, K_call0, K_int, Then, abuiltin, alen, aslice, bopt, lowOf, highOf, sliceP, aint, abool, Bool.not_true, Bool.not_false, astr, aun, aidxAddr, aidx, apart, isAggD, afield, afieldAddr, amin2, aext, apick, aarrayAt, anil, aload, astore, acells, oneC, Value.oneCell', spl, srcCells, acopy, appSrc, aappend, afill, aparts, abuildSlice, abuildOwn, abuild, amake, abytes, aconv, aalloc, abox, aviews, aview, B, noref, flat, ntok, RestC_eqs, RestH_eqs, Option.isSome_some, Int.reduceToNat, IntKind.bits, Nat.min_def, norefs_Bs, norefs, flats, norefs_append, flats_append, zrep_byte, Bs_nil, cav, tszs, tbys, tzeros, tgrds, tstds, zvs_u8, zvs_length, Z_length, aagg, aggCmp, aggEq_Bs, aconvO, Nat.reduceEqDiff, Nat.reduceLT, Nat.reduceMul, Nat.reduceAdd, Nat.reduceLeDiff, Int.reduceLT, Int.reduceLE, if_true, if_false, ite_true, ite_false, true_and, and_true, Option.map_some, Option.map_none, Option.getD_some, Option.getD_none, Option.bind_some, List.map_cons, List.map_nil, List.toList_toArray, List.headD_cons, List.headD_nil, List.tail_cons, List.tail_nil, List.getElem?_toArray, List.getElem?_cons_zero, List.getElem?_cons_succ, List.contains_nil, List.contains_cons, List.all_cons, List.all_nil, Bool.and_true, Bool.true_and, Bool.or_false, Bool.false_or, Int.sub_zero, Int.toNat_natCast, Nat.mul_one, Int.toNat_zero, Nat.zero_mul, Nat.add_zero, Nat.zero_add, List.drop_zero, List.length_cons, List.length_nil, List.nil_append, List.append_nil, Bs_length, Bs_getD, drop_getD, List.length_drop, Nat.reduceSub, Bs_one, Bs_isByte, Bs_bytes, Bs_take, Bs_drop, Int.cast_ofNat_Int, beq_self_eq_true, Int.reduceBEq, Int.reduceEq, Int.reduceBNe, Nat.reduceBEq, UInt8.reduceToNat, ByteArray.toList_mk, ba_size, ba_extract, reduceCtorEq, ne_eq, not_true_eq_false, not_false_eq_true, Nat.le_refl, Int.le_refl, Bool.false_eq_true, eq_self, List.replicate_succ, List.replicate_zero, List.flatten_cons, List.flatten_nil, List.cons_append, List.take_zero, List.take_succ_cons, List.drop_succ_cons, List.take_nil, List.drop_nil, List.set_cons_zero, List.set_cons_succ, false_or, or_false, or_true, true_or, Tryd.underlying27, Tryd.underlying3, Tryd.underlying23, Tryd.underlying5, Tryd.underlying56, Tryd.underlying60, Tryd.underlying4, Tryd.underlying9, Tryd.underlying67, Is_length, Is_getD, Is_take, Is_drop, Is_one, norefs_Is, flats_Is, I_un, zrep_Is]
      refine andC_eq (by simp [norefs_Bs, norefs, noref, norefs_Is, flats_Is]) (times_ok Y X .no .full (by omega) (by omega)) (by simp [noref, norefs, norefs_Bs, flat, norefs_Is, flats_Is]) ?_
      simp only [K_eqs, K_store, K_nil0, K_blt0, K_ops, K_nil, K_conv, K_gT, K_gF, gdec_eqs, gslot, gval, gok, K_call, K_call0, K_int, Then, abuiltin, alen, aslice, bopt, lowOf, highOf, sliceP, aint, abool, Bool.not_true, Bool.not_false, astr, aun, aidxAddr, aidx, apart, isAggD, afield, afieldAddr, amin2, aext, apick, aarrayAt, anil, aload, astore, acells, oneC, Value.oneCell', spl, srcCells, acopy, appSrc, aappend, afill, aparts, abuildSlice, abuildOwn, abuild, amake, abytes, aconv, aalloc, abox, aviews, aview, B, noref, flat, ntok, RestC_eqs, RestH_eqs, Option.isSome_some, Int.reduceToNat, IntKind.bits, Nat.min_def, norefs_Bs, norefs, flats, norefs_append, flats_append, zrep_byte, Bs_nil, cav, tszs, tbys, tzeros, tgrds, tstds, zvs_u8, zvs_length, Z_length, aagg, aggCmp, aggEq_Bs, aconvO, Nat.reduceEqDiff, Nat.reduceLT, Nat.reduceMul, Nat.reduceAdd, Nat.reduceLeDiff, Int.reduceLT, Int.reduceLE, if_true, if_false, ite_true, ite_false, true_and, and_true, Option.map_some, Option.map_none, Option.getD_some, Option.getD_none, Option.bind_some, List.map_cons, List.map_nil, List.toList_toArray, List.headD_cons, List.headD_nil, List.tail_cons, List.tail_nil, List.getElem?_toArray, List.getElem?_cons_zero, List.getElem?_cons_succ, List.contains_nil, List.contains_cons, List.all_cons, List.all_nil, Bool.and_true, Bool.true_and, Bool.or_false, Bool.false_or, Int.sub_zero, Int.toNat_natCast, Nat.mul_one, Int.toNat_zero, Nat.zero_mul, Nat.add_zero, Nat.zero_add, List.drop_zero, List.length_cons, List.length_nil, List.nil_append, List.append_nil, Bs_length, Bs_getD, drop_getD, List.length_drop, Nat.reduceSub, Bs_one, Bs_isByte, Bs_bytes, Bs_take, Bs_drop, Int.cast_ofNat_Int, beq_self_eq_true, Int.reduceBEq, Int.reduceEq, Int.reduceBNe, Nat.reduceBEq, UInt8.reduceToNat, ByteArray.toList_mk, ba_size, ba_extract, reduceCtorEq, ne_eq, not_true_eq_false, not_false_eq_true, Nat.le_refl, Int.le_refl, Bool.false_eq_true, eq_self, List.replicate_succ, List.replicate_zero, List.flatten_cons, List.flatten_nil, List.cons_append, List.take_zero, List.take_succ_cons, List.drop_succ_cons, List.take_nil, List.drop_nil, List.set_cons_zero, List.set_cons_succ, false_or, or_false, or_true, true_or, Tryd.underlying27, Tryd.underlying3, Tryd.underlying23, Tryd.underlying5, Tryd.underlying56, Tryd.underlying60, Tryd.underlying4, Tryd.underlying9, Tryd.underlying67]
      (repeat' apply And.intro) <;> try (first | exact True.intro | omega)
      rw [← hW]
      exact nextW _ (.of_keep [1, 5, 6, 7, 8, 10] rfl)
    · have h3 : ¬ pw = 3 := by simpa using h
      rw [if_neg h3] at hW
      rw [← hW]
      exact awp_skip (nextW _ (.of_keep [1, 5, 6, 7, 8, 10] rfl))
  · have hge : j = 38 := by have := of_decide_eq_false h; omega
    subst hge
    refine awp_exit ?_
    simp only [Then, InBlock, if_true]
    refine hK1 _ ?_
    clear hK1 K1
    refine awp_keep [6] ?_
    simp only [keep_eqs, K_ops, Nat.reduceEqDiff, if_true, if_false]
    refine awp_seq_k fun K hK => awp_region [] ?_
    simp only [K_eqs, K_store, K_nil0, K_blt0, K_ops, K_nil, K_conv, K_gT, K_gF, gdec_eqs, gslot, gval, gok, K_call, K_call0, K_int, Then, abuiltin, alen, aslice, bopt, lowOf, highOf, sliceP, aint, abool, Bool.not_true, Bool.not_false, astr, aun, aidxAddr, aidx, apart, isAggD, afield, afieldAddr, amin2, aext, apick, aarrayAt, anil, aload, astore, acells, oneC, Value.oneCell', spl, srcCells, acopy, appSrc, aappend, afill, aparts, abuildSlice, abuildOwn, abuild, amake, abytes, aconv, aalloc, abox, aviews, aview, B, noref, flat, ntok, RestC_eqs, RestH_eqs, Option.isSome_some, Int.reduceToNat, IntKind.bits, Nat.min_def, norefs_Bs, norefs, flats, norefs_append, flats_append, zrep_byte, Bs_nil, cav, tszs, tbys, tzeros, tgrds, tstds, zvs_u8, zvs_length, Z_length, aagg, aggCmp, aggEq_Bs, aconvO, Nat.reduceEqDiff, Nat.reduceLT, Nat.reduceMul, Nat.reduceAdd, Nat.reduceLeDiff, Int.reduceLT, Int.reduceLE, if_true, if_false, ite_true, ite_false, true_and, and_true, Option.map_some, Option.map_none, Option.getD_some, Option.getD_none, Option.bind_some, List.map_cons, List.map_nil, List.toList_toArray, List.headD_cons, List.headD_nil, List.tail_cons, List.tail_nil, List.getElem?_toArray, List.getElem?_cons_zero, List.getElem?_cons_succ, List.contains_nil, List.contains_cons, List.all_cons, List.all_nil, Bool.and_true, Bool.true_and, Bool.or_false, Bool.false_or, Int.sub_zero, Int.toNat_natCast, Nat.mul_one, Int.toNat_zero, Nat.zero_mul, Nat.add_zero, Nat.zero_add, List.drop_zero, List.length_cons, List.length_nil, List.nil_append, List.append_nil, Bs_length, Bs_getD, drop_getD, List.length_drop, Nat.reduceSub, Bs_one, Bs_isByte, Bs_bytes, Bs_take, Bs_drop, Int.cast_ofNat_Int, beq_self_eq_true, Int.reduceBEq, Int.reduceEq, Int.reduceBNe, Nat.reduceBEq, UInt8.reduceToNat, ByteArray.toList_mk, ba_size, ba_extract, reduceCtorEq, ne_eq, not_true_eq_false, not_false_eq_true, Nat.le_refl, Int.le_refl, Bool.false_eq_true, eq_self, List.replicate_succ, List.replicate_zero, List.flatten_cons, List.flatten_nil, List.cons_append, List.take_zero, List.take_succ_cons, List.drop_succ_cons, List.take_nil, List.drop_nil, List.set_cons_zero, List.set_cons_succ, false_or, or_false, or_true, true_or, Tryd.underlying27, Tryd.underlying3, Tryd.underlying23, Tryd.underlying5, Tryd.underlying56, Tryd.underlying60, Tryd.underlying4, Tryd.underlying9, Tryd.underlying67]
    (repeat' apply And.intro) <;> try (first | exact True.intro | omega)
    refine hK _ ?_
    clear hK K
    refine awp_ret ?_
    simp only [InBlock, K_fin, ares, aress, ares1, afin, K_eqs, K_store, K_nil0, K_blt0, K_ops, K_nil, K_conv, K_gT, K_gF, gdec_eqs, gslot, gval, gok, K_call, K_call0, K_int, Then, abuiltin, alen, aslice, bopt, lowOf, highOf, sliceP, aint, abool, Bool.not_true, Bool.not_false, astr, aun, aidxAddr, aidx, apart, isAggD, afield, afieldAddr, amin2, aext, apick, aarrayAt, anil, aload, astore, acells, oneC, Value.oneCell', spl, srcCells, acopy, appSrc, aappend, afill, aparts, abuildSlice, abuildOwn, abuild, amake, abytes, aconv, aalloc, abox, aviews, aview, B, noref, flat, ntok, RestC_eqs, RestH_eqs, Option.isSome_some, Int.reduceToNat, IntKind.bits, Nat.min_def, norefs_Bs, norefs, flats, norefs_append, flats_append, zrep_byte, Bs_nil, cav, tszs, tbys, tzeros, tgrds, tstds, zvs_u8, zvs_length, Z_length, aagg, aggCmp, aggEq_Bs, aconvO, Nat.reduceEqDiff, Nat.reduceLT, Nat.reduceMul, Nat.reduceAdd, Nat.reduceLeDiff, Int.reduceLT, Int.reduceLE, if_true, if_false, ite_true, ite_false, true_and, and_true, Option.map_some, Option.map_none, Option.getD_some, Option.getD_none, Option.bind_some, List.map_cons, List.map_nil, List.toList_toArray, List.headD_cons, List.headD_nil, List.tail_cons, List.tail_nil, List.getElem?_toArray, List.getElem?_cons_zero, List.getElem?_cons_succ, List.contains_nil, List.contains_cons, List.all_cons, List.all_nil, Bool.and_true, Bool.true_and, Bool.or_false, Bool.false_or, Int.sub_zero, Int.toNat_natCast, Nat.mul_one, Int.toNat_zero, Nat.zero_mul, Nat.add_zero, Nat.zero_add, List.drop_zero, List.length_cons, List.length_nil, List.nil_append, List.append_nil, Bs_length, Bs_getD, drop_getD, List.length_drop, Nat.reduceSub, Bs_one, Bs_isByte, Bs_bytes, Bs_take, Bs_drop, Int.cast_ofNat_Int, beq_self_eq_true, Int.reduceBEq, Int.reduceEq, Int.reduceBNe, Nat.reduceBEq, UInt8.reduceToNat, ByteArray.toList_mk, ba_size, ba_extract, reduceCtorEq, ne_eq, not_true_eq_false, not_false_eq_true, Nat.le_refl, Int.le_refl, Bool.false_eq_true, eq_self, List.replicate_succ, List.replicate_zero, List.flatten_cons, List.flatten_nil, List.cons_append, List.take_zero, List.take_succ_cons, List.drop_succ_cons, List.take_nil, List.drop_nil, List.set_cons_zero, List.set_cons_succ, false_or, or_false, or_true, true_or, Tryd.underlying27, Tryd.underlying3, Tryd.underlying23, Tryd.underlying5, Tryd.underlying56, Tryd.underlying60, Tryd.underlying4, Tryd.underlying9, Tryd.underlying67]
end Go.Proofs.YtjdlgbkpdfaloaaDoor
/- The walks of the primes. -/
namespace Go.Proofs.YtjdlgbkpdfaloaaDoor
open Go Go.V
set_option linter.unusedSimpArgs false
set_option linter.unusedVariables false

theorem nth_ok (n : Nat) (hn : n < 312) (h2 : 2 ≤ n) (hp : isP n = true) : ACalls Tryd.prog [] 45 [.val (.int .i64 (cntP n : Int))] [] (fun r os => os = [] ∧ r = .val (.int .i64 (n : Int))) := by
  refine acalls_of_awp Tryd.func45 rfl rfl Tryd.ntmps45 (rts := #[3]) rfl Tryd.results45 (by simp) ?_
  simp only [argSlots, Nat.reduceAdd]
  refine awp_seq_k fun K hK => awp_region [] ?_
  simp only [K_eqs, K_store, K_nil0, K_blt0, K_ops, K_nil, K_conv, K_gT, K_gF, gdec_eqs, gslot, gval, gok, K_call, K_call0, K_int, Then, abuiltin, alen, aslice, bopt, lowOf, highOf, sliceP, aint, abool, Bool.not_true, Bool.not_false, astr, aun, aidxAddr, aidx, apart, isAggD, afield, afieldAddr, amin2, aext, apick, aarrayAt, anil, aload, astore, acells, oneC, Value.oneCell', spl, srcCells, acopy, appSrc, aappend, afill, aparts, abuildSlice, abuildOwn, abuild, amake, abytes, aconv, aalloc, abox, aviews, aview, B, noref, flat, ntok, RestC_eqs, RestH_eqs, Option.isSome_some, Int.reduceToNat, IntKind.bits, Nat.min_def, norefs_Bs, norefs, flats, norefs_append, flats_append, zrep_byte, Bs_nil, cav, tszs, tbys, tzeros, tgrds, tstds, zvs_u8, zvs_length, Z_length, aagg, aggCmp, aggEq_Bs, aconvO, Nat.reduceEqDiff, Nat.reduceLT, Nat.reduceMul, Nat.reduceAdd, Nat.reduceLeDiff, Int.reduceLT, Int.reduceLE, if_true, if_false, ite_true, ite_false, true_and, and_true, Option.map_some, Option.map_none, Option.getD_some, Option.getD_none, Option.bind_some, List.map_cons, List.map_nil, List.toList_toArray, List.headD_cons, List.headD_nil, List.tail_cons, List.tail_nil, List.getElem?_toArray, List.getElem?_cons_zero, List.getElem?_cons_succ, List.contains_nil, List.contains_cons, List.all_cons, List.all_nil, Bool.and_true, Bool.true_and, Bool.or_false, Bool.false_or, Int.sub_zero, Int.toNat_natCast, Nat.mul_one, Int.toNat_zero, Nat.zero_mul, Nat.add_zero, Nat.zero_add, List.drop_zero, List.length_cons, List.length_nil, List.nil_append, List.append_nil, Bs_length, Bs_getD, drop_getD, List.length_drop, Nat.reduceSub, Bs_one, Bs_isByte, Bs_bytes, Bs_take, Bs_drop, Int.cast_ofNat_Int, beq_self_eq_true, Int.reduceBEq, Int.reduceEq, Int.reduceBNe, Nat.reduceBEq, UInt8.reduceToNat, ByteArray.toList_mk, ba_size, ba_extract, reduceCtorEq, ne_eq, not_true_eq_false, not_false_eq_true, Nat.le_refl, Int.le_refl, Bool.false_eq_true, eq_self, List.replicate_succ, List.replicate_zero, List.flatten_cons, List.flatten_nil, List.cons_append, List.take_zero, List.take_succ_cons, List.drop_succ_cons, List.take_nil, List.drop_nil, List.set_cons_zero, List.set_cons_succ, false_or, or_false, or_true, true_or, Tryd.underlying27, Tryd.underlying3, Tryd.underlying23, Tryd.underlying5, Tryd.underlying56, Tryd.underlying60, Tryd.underlying4, Tryd.underlying9, Tryd.underlying67, Tryd.underlying38]
  (repeat' apply And.intro) <;> try (first | exact True.intro | omega)
  refine hK _ ?_
  clear hK K
  refine awp_seq_k fun K hK => awp_region [] ?_
  simp only [K_eqs, K_store, K_nil0, K_blt0, K_ops, K_nil, K_conv, K_gT, K_gF, gdec_eqs, gslot, gval, gok, K_call, K_call0, K_int, Then, abuiltin, alen, aslice, bopt, lowOf, highOf, sliceP, aint, abool, Bool.not_true, Bool.not_false, astr, aun, aidxAddr, aidx, apart, isAggD, afield, afieldAddr, amin2, aext, apick, aarrayAt, anil, aload, astore, acells, oneC, Value.oneCell', spl, srcCells, acopy, appSrc, aappend, afill, aparts, abuildSlice, abuildOwn, abuild, amake, abytes, aconv, aalloc, abox, aviews, aview, B, noref, flat, ntok, RestC_eqs, RestH_eqs, Option.isSome_some, Int.reduceToNat, IntKind.bits, Nat.min_def, norefs_Bs, norefs, flats, norefs_append, flats_append, zrep_byte, Bs_nil, cav, tszs, tbys, tzeros, tgrds, tstds, zvs_u8, zvs_length, Z_length, aagg, aggCmp, aggEq_Bs, aconvO, Nat.reduceEqDiff, Nat.reduceLT, Nat.reduceMul, Nat.reduceAdd, Nat.reduceLeDiff, Int.reduceLT, Int.reduceLE, if_true, if_false, ite_true, ite_false, true_and, and_true, Option.map_some, Option.map_none, Option.getD_some, Option.getD_none, Option.bind_some, List.map_cons, List.map_nil, List.toList_toArray, List.headD_cons, List.headD_nil, List.tail_cons, List.tail_nil, List.getElem?_toArray, List.getElem?_cons_zero, List.getElem?_cons_succ, List.contains_nil, List.contains_cons, List.all_cons, List.all_nil, Bool.and_true, Bool.true_and, Bool.or_false, Bool.false_or, Int.sub_zero, Int.toNat_natCast, Nat.mul_one, Int.toNat_zero, Nat.zero_mul, Nat.add_zero, Nat.zero_add, List.drop_zero, List.length_cons, List.length_nil, List.nil_append, List.append_nil, Bs_length, Bs_getD, drop_getD, List.length_drop, Nat.reduceSub, Bs_one, Bs_isByte, Bs_bytes, Bs_take, Bs_drop, Int.cast_ofNat_Int, beq_self_eq_true, Int.reduceBEq, Int.reduceEq, Int.reduceBNe, Nat.reduceBEq, UInt8.reduceToNat, ByteArray.toList_mk, ba_size, ba_extract, reduceCtorEq, ne_eq, not_true_eq_false, not_false_eq_true, Nat.le_refl, Int.le_refl, Bool.false_eq_true, eq_self, List.replicate_succ, List.replicate_zero, List.flatten_cons, List.flatten_nil, List.cons_append, List.take_zero, List.take_succ_cons, List.drop_succ_cons, List.take_nil, List.drop_nil, List.set_cons_zero, List.set_cons_succ, false_or, or_false, or_true, true_or, Tryd.underlying27, Tryd.underlying3, Tryd.underlying23, Tryd.underlying5, Tryd.underlying56, Tryd.underlying60, Tryd.underlying4, Tryd.underlying9, Tryd.underlying67, Tryd.underlying38]
  (repeat' apply And.intro) <;> try (first | exact True.intro | omega)
  refine hK _ ?_
  clear hK K
  refine awp_keep [0, 3] ?_
  simp only [keep_eqs, K_ops, Nat.reduceEqDiff, if_true, if_false]
  refine awp_block ?_
  refine awp_loop_from (fun x : Nat × Nat => ⟨26, [(0, .val (.int .i64 ((cntP n - x.2 : Nat) : Int))), (3, .val (.int .i64 (x.1 : Int)))], []⟩)
    (fun x => 2 ≤ x.1 ∧ x.1 ≤ n ∧ x.2 = cntP x.1) (fun x => n - x.1) (2, 0) ⟨by omega, by omega, cnt2.symm⟩ (.of_keep [0, 3] rfl) ?_
  rintro ⟨x, c⟩ ⟨hx2, hxn, hc⟩
  simp only at hx2 hxn hc
  have hm := cnt_mono hxn
  have hcl : cntP n < 312 := by
    have : ∀ y, cntP y ≤ y := fun y => by unfold cntP; exact Nat.le_trans (List.length_filter_le _ _) (by simp)
    have := this n
    omega
  have hsucc := cnt_succ x
  have hlast : x < n → cntP (x + 1) ≤ cntP n := fun h => cnt_mono (by omega)
  refine awp_block ?_
  refine awp_seq_k fun K hK => awp_region [] ?_
  simp only [K_eqs, K_store, K_nil0, K_blt0, K_ops, K_nil, K_conv, K_gT, K_gF, gdec_eqs, gslot, gval, gok, K_call, K_call0, K_int, Then, abuiltin, alen, aslice, bopt, lowOf, highOf, sliceP, aint, abool, Bool.not_true, Bool.not_false, astr, aun, aidxAddr, aidx, apart, isAggD, afield, afieldAddr, amin2, aext, apick, aarrayAt, anil, aload, astore, acells, oneC, Value.oneCell', spl, srcCells, acopy, appSrc, aappend, afill, aparts, abuildSlice, abuildOwn, abuild, amake, abytes, aconv, aalloc, abox, aviews, aview, B, noref, flat, ntok, RestC_eqs, RestH_eqs, Option.isSome_some, Int.reduceToNat, IntKind.bits, Nat.min_def, norefs_Bs, norefs, flats, norefs_append, flats_append, zrep_byte, Bs_nil, cav, tszs, tbys, tzeros, tgrds, tstds, zvs_u8, zvs_length, Z_length, aagg, aggCmp, aggEq_Bs, aconvO, Nat.reduceEqDiff, Nat.reduceLT, Nat.reduceMul, Nat.reduceAdd, Nat.reduceLeDiff, Int.reduceLT, Int.reduceLE, if_true, if_false, ite_true, ite_false, true_and, and_true, Option.map_some, Option.map_none, Option.getD_some, Option.getD_none, Option.bind_some, List.map_cons, List.map_nil, List.toList_toArray, List.headD_cons, List.headD_nil, List.tail_cons, List.tail_nil, List.getElem?_toArray, List.getElem?_cons_zero, List.getElem?_cons_succ, List.contains_nil, List.contains_cons, List.all_cons, List.all_nil, Bool.and_true, Bool.true_and, Bool.or_false, Bool.false_or, Int.sub_zero, Int.toNat_natCast, Nat.mul_one, Int.toNat_zero, Nat.zero_mul, Nat.add_zero, Nat.zero_add, List.drop_zero, List.length_cons, List.length_nil, List.nil_append, List.append_nil, Bs_length, Bs_getD, drop_getD, List.length_drop, Nat.reduceSub, Bs_one, Bs_isByte, Bs_bytes, Bs_take, Bs_drop, Int.cast_ofNat_Int, beq_self_eq_true, Int.reduceBEq, Int.reduceEq, Int.reduceBNe, Nat.reduceBEq, UInt8.reduceToNat, ByteArray.toList_mk, ba_size, ba_extract, reduceCtorEq, ne_eq, not_true_eq_false, not_false_eq_true, Nat.le_refl, Int.le_refl, Bool.false_eq_true, eq_self, List.replicate_succ, List.replicate_zero, List.flatten_cons, List.flatten_nil, List.cons_append, List.take_zero, List.take_succ_cons, List.drop_succ_cons, List.take_nil, List.drop_nil, List.set_cons_zero, List.set_cons_succ, false_or, or_false, or_true, true_or, Tryd.underlying27, Tryd.underlying3, Tryd.underlying23, Tryd.underlying5, Tryd.underlying56, Tryd.underlying60, Tryd.underlying4, Tryd.underlying9, Tryd.underlying67, Tryd.underlying38]
  (repeat' apply And.intro) <;> try (first | exact True.intro | omega)
  refine hK _ ?_
  clear hK K
  refine awp_seq_k fun K8 hK8 => ?_
  refine awp_seq_k fun K hK => awp_region [] ?_
  simp only [K_eqs, K_store, K_nil0, K_blt0, K_ops, K_nil, K_conv, K_gT, K_gF, gdec_eqs, gslot, gval, gok, K_call, K_call0, K_int, Then, abuiltin, alen, aslice, bopt, lowOf, highOf, sliceP, aint, abool, Bool.not_true, Bool.not_false, astr, aun, aidxAddr, aidx, apart, isAggD, afield, afieldAddr, amin2, aext, apick, aarrayAt, anil, aload, astore, acells, oneC, Value.oneCell', spl, srcCells, acopy, appSrc, aappend, afill, aparts, abuildSlice, abuildOwn, abuild, amake, abytes, aconv, aalloc, abox, aviews, aview, B, noref, flat, ntok, RestC_eqs, RestH_eqs, Option.isSome_some, Int.reduceToNat, IntKind.bits, Nat.min_def, norefs_Bs, norefs, flats, norefs_append, flats_append, zrep_byte, Bs_nil, cav, tszs, tbys, tzeros, tgrds, tstds, zvs_u8, zvs_length, Z_length, aagg, aggCmp, aggEq_Bs, aconvO, Nat.reduceEqDiff, Nat.reduceLT, Nat.reduceMul, Nat.reduceAdd, Nat.reduceLeDiff, Int.reduceLT, Int.reduceLE, if_true, if_false, ite_true, ite_false, true_and, and_true, Option.map_some, Option.map_none, Option.getD_some, Option.getD_none, Option.bind_some, List.map_cons, List.map_nil, List.toList_toArray, List.headD_cons, List.headD_nil, List.tail_cons, List.tail_nil, List.getElem?_toArray, List.getElem?_cons_zero, List.getElem?_cons_succ, List.contains_nil, List.contains_cons, List.all_cons, List.all_nil, Bool.and_true, Bool.true_and, Bool.or_false, Bool.false_or, Int.sub_zero, Int.toNat_natCast, Nat.mul_one, Int.toNat_zero, Nat.zero_mul, Nat.add_zero, Nat.zero_add, List.drop_zero, List.length_cons, List.length_nil, List.nil_append, List.append_nil, Bs_length, Bs_getD, drop_getD, List.length_drop, Nat.reduceSub, Bs_one, Bs_isByte, Bs_bytes, Bs_take, Bs_drop, Int.cast_ofNat_Int, beq_self_eq_true, Int.reduceBEq, Int.reduceEq, Int.reduceBNe, Nat.reduceBEq, UInt8.reduceToNat, ByteArray.toList_mk, ba_size, ba_extract, reduceCtorEq, ne_eq, not_true_eq_false, not_false_eq_true, Nat.le_refl, Int.le_refl, Bool.false_eq_true, eq_self, List.replicate_succ, List.replicate_zero, List.flatten_cons, List.flatten_nil, List.cons_append, List.take_zero, List.take_succ_cons, List.drop_succ_cons, List.take_nil, List.drop_nil, List.set_cons_zero, List.set_cons_succ, false_or, or_false, or_true, true_or, Tryd.underlying27, Tryd.underlying3, Tryd.underlying23, Tryd.underlying5, Tryd.underlying56, Tryd.underlying60, Tryd.underlying4, Tryd.underlying9, Tryd.underlying67, Tryd.underlying38]
  (repeat' apply And.intro) <;> try (first | exact True.intro | omega)
  refine hK _ ?_
  clear hK K
  refine awp_keep [0, 3, 4, 5] ?_
  simp only [keep_eqs, K_ops, Nat.reduceEqDiff, if_true, if_false]
  refine awp_block ?_
  refine awp_loop_from (fun d : Nat => ⟨26, [(0, .val (.int .i64 ((cntP n - c : Nat) : Int))), (3, .val (.int .i64 (x : Int))), (4, .val (.bool (noD x d))), (5, .val (.int .i64 (d : Int)))], []⟩)
    (fun d => 2 ≤ d ∧ d ≤ x) (fun d => x - d) 2 ⟨by omega, by omega⟩ (.of_keep [0, 3, 4, 5] rfl) ?_
  rintro d ⟨hd2, hdx⟩
  refine awp_seq (awp_seq ?_)
  refine awp_region [] ?_
  simp only [K_eqs, K_store, K_nil0, K_blt0, K_ops, K_nil, K_conv, K_gT, K_gF, gdec_eqs, gslot, gval, gok, K_call, K_call0, K_int, Then, abuiltin, alen, aslice, bopt, lowOf, highOf, sliceP, aint, abool, Bool.not_true, Bool.not_false, astr, aun, aidxAddr, aidx, apart, isAggD, afield, afieldAddr, amin2, aext, apick, aarrayAt, anil, aload, astore, acells, oneC, Value.oneCell', spl, srcCells, acopy, appSrc, aappend, afill, aparts, abuildSlice, abuildOwn, abuild, amake, abytes, aconv, aalloc, abox, aviews, aview, B, noref, flat, ntok, RestC_eqs, RestH_eqs, Option.isSome_some, Int.reduceToNat, IntKind.bits, Nat.min_def, norefs_Bs, norefs, flats, norefs_append, flats_append, zrep_byte, Bs_nil, cav, tszs, tbys, tzeros, tgrds, tstds, zvs_u8, zvs_length, Z_length, aagg, aggCmp, aggEq_Bs, aconvO, Nat.reduceEqDiff, Nat.reduceLT, Nat.reduceMul, Nat.reduceAdd, Nat.reduceLeDiff, Int.reduceLT, Int.reduceLE, if_true, if_false, ite_true, ite_false, true_and, and_true, Option.map_some, Option.map_none, Option.getD_some, Option.getD_none, Option.bind_some, List.map_cons, List.map_nil, List.toList_toArray, List.headD_cons, List.headD_nil, List.tail_cons, List.tail_nil, List.getElem?_toArray, List.getElem?_cons_zero, List.getElem?_cons_succ, List.contains_nil, List.contains_cons, List.all_cons, List.all_nil, Bool.and_true, Bool.true_and, Bool.or_false, Bool.false_or, Int.sub_zero, Int.toNat_natCast, Nat.mul_one, Int.toNat_zero, Nat.zero_mul, Nat.add_zero, Nat.zero_add, List.drop_zero, List.length_cons, List.length_nil, List.nil_append, List.append_nil, Bs_length, Bs_getD, drop_getD, List.length_drop, Nat.reduceSub, Bs_one, Bs_isByte, Bs_bytes, Bs_take, Bs_drop, Int.cast_ofNat_Int, beq_self_eq_true, Int.reduceBEq, Int.reduceEq, Int.reduceBNe, Nat.reduceBEq, UInt8.reduceToNat, ByteArray.toList_mk, ba_size, ba_extract, reduceCtorEq, ne_eq, not_true_eq_false, not_false_eq_true, Nat.le_refl, Int.le_refl, Bool.false_eq_true, eq_self, List.replicate_succ, List.replicate_zero, List.flatten_cons, List.flatten_nil, List.cons_append, List.take_zero, List.take_succ_cons, List.drop_succ_cons, List.take_nil, List.drop_nil, List.set_cons_zero, List.set_cons_succ, false_or, or_false, or_true, true_or, Tryd.underlying27, Tryd.underlying3, Tryd.underlying23, Tryd.underlying5, Tryd.underlying56, Tryd.underlying60, Tryd.underlying4, Tryd.underlying9, Tryd.underlying67, Tryd.underlying38, n_tmod, n_tdiv, n_add, n_radd, n_mul, n_rmul, n_addn, n_muln, n_tmodn, n_tdivn, n_fdiv, n_shl, n_rshl, n_u8, n_u16, n_u32, n_u64, n_and8, n_or8, n_xor8, n_and32, n_or32, n_xor32, n_and64, n_or64, n_xor64, n_or8l, n_and8l, n_and32l, n_xor32l, d_lt, d_ge, d_gt, d_le, d_ltn, d_len, d_gtn, d_gen, d_eq, d_eqn, d_ne, d_nen]
  refine awp_cond rfl rfl (fun h => ?_) (fun h => ?_)
  · have hlt : d < x := of_decide_eq_true h
    refine awp_skip ?_
    simp only [Then]
    refine awp_keep [0, 3, 4, 5] ?_
    simp only [keep_eqs, K_ops, Nat.reduceEqDiff, if_true, if_false]
    refine awp_seq_k fun K5 hK5 => ?_
    have hns := noD_succ x d
    have next : ∀ s : St, Weak [] s ⟨26, [(0, .val (.int .i64 ((cntP n - c : Nat) : Int))), (3, .val (.int .i64 (x : Int))), (4, .val (.bool (noD x (d + 1)))), (5, .val (.int .i64 (d : Int)))], []⟩ → K5 s := by
      intro s hw
      refine hK5 s (awp_weak hw ?_)
      have h6 : IntKind.i64.wrap ((d + 1 : Nat) : Int) = ((d + 1 : Nat) : Int) := n_i64 (by omega)
      refine awp_region [] ?_
      simp only [K_eqs, K_store, K_nil0, K_blt0, K_ops, K_nil, K_conv, K_gT, K_gF, gdec_eqs, gslot, gval, gok, K_call, K_call0, K_int, Then, abuiltin, alen, aslice, bopt, lowOf, highOf, sliceP, aint, abool, Bool.not_true, Bool.not_false, astr, aun, aidxAddr, aidx, apart, isAggD, afield, afieldAddr, amin2, aext, apick, aarrayAt, anil, aload, astore, acells, oneC, Value.oneCell', spl, srcCells, acopy, appSrc, aappend, afill, aparts, abuildSlice, abuildOwn, abuild, amake, abytes, aconv, aalloc, abox, aviews, aview, B, noref, flat, ntok, RestC_eqs, RestH_eqs, Option.isSome_some, Int.reduceToNat, IntKind.bits, Nat.min_def, norefs_Bs, norefs, flats, norefs_append, flats_append, zrep_byte, Bs_nil, cav, tszs, tbys, tzeros, tgrds, tstds, zvs_u8, zvs_length, Z_length, aagg, aggCmp, aggEq_Bs, aconvO, Nat.reduceEqDiff, Nat.reduceLT, Nat.reduceMul, Nat.reduceAdd, Nat.reduceLeDiff, Int.reduceLT, Int.reduceLE, if_true, if_false, ite_true, ite_false, true_and, and_true, Option.map_some, Option.map_none, Option.getD_some, Option.getD_none, Option.bind_some, List.map_cons, List.map_nil, List.toList_toArray, List.headD_cons, List.headD_nil, List.tail_cons, List.tail_nil, List.getElem?_toArray, List.getElem?_cons_zero, List.getElem?_cons_succ, List.contains_nil, List.contains_cons, List.all_cons, List.all_nil, Bool.and_true, Bool.true_and, Bool.or_false, Bool.false_or, Int.sub_zero, Int.toNat_natCast, Nat.mul_one, Int.toNat_zero, Nat.zero_mul, Nat.add_zero, Nat.zero_add, List.drop_zero, List.length_cons, List.length_nil, List.nil_append, List.append_nil, Bs_length, Bs_getD, drop_getD, List.length_drop, Nat.reduceSub, Bs_one, Bs_isByte, Bs_bytes, Bs_take, Bs_drop, Int.cast_ofNat_Int, beq_self_eq_true, Int.reduceBEq, Int.reduceEq, Int.reduceBNe, Nat.reduceBEq, UInt8.reduceToNat, ByteArray.toList_mk, ba_size, ba_extract, reduceCtorEq, ne_eq, not_true_eq_false, not_false_eq_true, Nat.le_refl, Int.le_refl, Bool.false_eq_true, eq_self, List.replicate_succ, List.replicate_zero, List.flatten_cons, List.flatten_nil, List.cons_append, List.take_zero, List.take_succ_cons, List.drop_succ_cons, List.take_nil, List.drop_nil, List.set_cons_zero, List.set_cons_succ, false_or, or_false, or_true, true_or, Tryd.underlying27, Tryd.underlying3, Tryd.underlying23, Tryd.underlying5, Tryd.underlying56, Tryd.underlying60, Tryd.underlying4, Tryd.underlying9, Tryd.underlying67, Tryd.underlying38, n_tmod, n_tdiv, n_add, n_radd, n_mul, n_rmul, n_addn, n_muln, n_tmodn, n_tdivn, n_fdiv, n_shl, n_rshl, n_u8, n_u16, n_u32, n_u64, n_and8, n_or8, n_xor8, n_and32, n_or32, n_xor32, n_and64, n_or64, n_xor64, n_or8l, n_and8l, n_and32l, n_xor32l, d_lt, d_ge, d_gt, d_le, d_ltn, d_len, d_gtn, d_gen, d_eq, d_eqn, d_ne, d_nen, h6]
      exact ⟨d + 1, ⟨by omega, by omega⟩, by omega, .of_keep [0, 3, 4, 5] rfl⟩
    clear hK5
    refine awp_block ?_
    refine awp_seq_k fun K hK => awp_region [] ?_
    simp only [K_eqs, K_store, K_nil0, K_blt0, K_ops, K_nil, K_conv, K_gT, K_gF, gdec_eqs, gslot, gval, gok, K_call, K_call0, K_int, Then, abuiltin, alen, aslice, bopt, lowOf, highOf, sliceP, aint, abool, Bool.not_true, Bool.not_false, astr, aun, aidxAddr, aidx, apart, isAggD, afield, afieldAddr, amin2, aext, apick, aarrayAt, anil, aload, astore, acells, oneC, Value.oneCell', spl, srcCells, acopy, appSrc, aappend, afill, aparts, abuildSlice, abuildOwn, abuild, amake, abytes, aconv, aalloc, abox, aviews, aview, B, noref, flat, ntok, RestC_eqs, RestH_eqs, Option.isSome_some, Int.reduceToNat, IntKind.bits, Nat.min_def, norefs_Bs, norefs, flats, norefs_append, flats_append, zrep_byte, Bs_nil, cav, tszs, tbys, tzeros, tgrds, tstds, zvs_u8, zvs_length, Z_length, aagg, aggCmp, aggEq_Bs, aconvO, Nat.reduceEqDiff, Nat.reduceLT, Nat.reduceMul, Nat.reduceAdd, Nat.reduceLeDiff, Int.reduceLT, Int.reduceLE, if_true, if_false, ite_true, ite_false, true_and, and_true, Option.map_some, Option.map_none, Option.getD_some, Option.getD_none, Option.bind_some, List.map_cons, List.map_nil, List.toList_toArray, List.headD_cons, List.headD_nil, List.tail_cons, List.tail_nil, List.getElem?_toArray, List.getElem?_cons_zero, List.getElem?_cons_succ, List.contains_nil, List.contains_cons, List.all_cons, List.all_nil, Bool.and_true, Bool.true_and, Bool.or_false, Bool.false_or, Int.sub_zero, Int.toNat_natCast, Nat.mul_one, Int.toNat_zero, Nat.zero_mul, Nat.add_zero, Nat.zero_add, List.drop_zero, List.length_cons, List.length_nil, List.nil_append, List.append_nil, Bs_length, Bs_getD, drop_getD, List.length_drop, Nat.reduceSub, Bs_one, Bs_isByte, Bs_bytes, Bs_take, Bs_drop, Int.cast_ofNat_Int, beq_self_eq_true, Int.reduceBEq, Int.reduceEq, Int.reduceBNe, Nat.reduceBEq, UInt8.reduceToNat, ByteArray.toList_mk, ba_size, ba_extract, reduceCtorEq, ne_eq, not_true_eq_false, not_false_eq_true, Nat.le_refl, Int.le_refl, Bool.false_eq_true, eq_self, List.replicate_succ, List.replicate_zero, List.flatten_cons, List.flatten_nil, List.cons_append, List.take_zero, List.take_succ_cons, List.drop_succ_cons, List.take_nil, List.drop_nil, List.set_cons_zero, List.set_cons_succ, false_or, or_false, or_true, true_or, Tryd.underlying27, Tryd.underlying3, Tryd.underlying23, Tryd.underlying5, Tryd.underlying56, Tryd.underlying60, Tryd.underlying4, Tryd.underlying9, Tryd.underlying67, Tryd.underlying38, n_tmod, n_tdiv, n_add, n_radd, n_mul, n_rmul, n_addn, n_muln, n_tmodn, n_tdivn, n_fdiv, n_shl, n_rshl, n_u8, n_u16, n_u32, n_u64, n_and8, n_or8, n_xor8, n_and32, n_or32, n_xor32, n_and64, n_or64, n_xor64, n_or8l, n_and8l, n_and32l, n_xor32l, d_lt, d_ge, d_gt, d_le, d_ltn, d_len, d_gtn, d_gen, d_eq, d_eqn, d_ne, d_nen]
    refine ⟨by omega, hK _ ?_⟩
    clear hK K
    refine awp_cond rfl rfl (fun h => ?_) (fun h => ?_)
    · have hz : x % d = 0 := by simpa using h
      have hf : noD x (d + 1) = false := by rw [hns, hz]; simp; omega
      rw [hf] at next
      refine awp_keep [0, 3, 4, 5] ?_
      simp only [keep_eqs, K_ops, Nat.reduceEqDiff, if_true, if_false]
      refine awp_region [] ?_
      simp only [K_eqs, K_store, K_nil0, K_blt0, K_ops, K_nil, K_conv, K_gT, K_gF, gdec_eqs, gslot, gval, gok, K_call, K_call0, K_int, Then, abuiltin, alen, aslice, bopt, lowOf, highOf, sliceP, aint, abool, Bool.not_true, Bool.not_false, astr, aun, aidxAddr, aidx, apart, isAggD, afield, afieldAddr, amin2, aext, apick, aarrayAt, anil, aload, astore, acells, oneC, Value.oneCell', spl, srcCells, acopy, appSrc, aappend, afill, aparts, abuildSlice, abuildOwn, abuild, amake, abytes, aconv, aalloc, abox, aviews, aview, B, noref, flat, ntok, RestC_eqs, RestH_eqs, Option.isSome_some, Int.reduceToNat, IntKind.bits, Nat.min_def, norefs_Bs, norefs, flats, norefs_append, flats_append, zrep_byte, Bs_nil, cav, tszs, tbys, tzeros, tgrds, tstds, zvs_u8, zvs_length, Z_length, aagg, aggCmp, aggEq_Bs, aconvO, Nat.reduceEqDiff, Nat.reduceLT, Nat.reduceMul, Nat.reduceAdd, Nat.reduceLeDiff, Int.reduceLT, Int.reduceLE, if_true, if_false, ite_true, ite_false, true_and, and_true, Option.map_some, Option.map_none, Option.getD_some, Option.getD_none, Option.bind_some, List.map_cons, List.map_nil, List.toList_toArray, List.headD_cons, List.headD_nil, List.tail_cons, List.tail_nil, List.getElem?_toArray, List.getElem?_cons_zero, List.getElem?_cons_succ, List.contains_nil, List.contains_cons, List.all_cons, List.all_nil, Bool.and_true, Bool.true_and, Bool.or_false, Bool.false_or, Int.sub_zero, Int.toNat_natCast, Nat.mul_one, Int.toNat_zero, Nat.zero_mul, Nat.add_zero, Nat.zero_add, List.drop_zero, List.length_cons, List.length_nil, List.nil_append, List.append_nil, Bs_length, Bs_getD, drop_getD, List.length_drop, Nat.reduceSub, Bs_one, Bs_isByte, Bs_bytes, Bs_take, Bs_drop, Int.cast_ofNat_Int, beq_self_eq_true, Int.reduceBEq, Int.reduceEq, Int.reduceBNe, Nat.reduceBEq, UInt8.reduceToNat, ByteArray.toList_mk, ba_size, ba_extract, reduceCtorEq, ne_eq, not_true_eq_false, not_false_eq_true, Nat.le_refl, Int.le_refl, Bool.false_eq_true, eq_self, List.replicate_succ, List.replicate_zero, List.flatten_cons, List.flatten_nil, List.cons_append, List.take_zero, List.take_succ_cons, List.drop_succ_cons, List.take_nil, List.drop_nil, List.set_cons_zero, List.set_cons_succ, false_or, or_false, or_true, true_or, Tryd.underlying27, Tryd.underlying3, Tryd.underlying23, Tryd.underlying5, Tryd.underlying56, Tryd.underlying60, Tryd.underlying4, Tryd.underlying9, Tryd.underlying67, Tryd.underlying38]
      (repeat' apply And.intro) <;> try (first | exact True.intro | omega)
      simp only [InBlock]
      exact next _ (.of_keep [0, 3, 4, 5] rfl)
    · have hz : ¬ x % d = 0 := by simpa using h
      have hf : noD x (d + 1) = noD x d := by rw [hns]; simp [hz]
      rw [hf] at next
      refine awp_skip ?_
      simp only [InBlock]
      exact next _ (.of_keep [0, 3, 4, 5] rfl)
  · have hge : d = x := by have := of_decide_eq_false h; omega
    subst hge
    refine awp_exit ?_
    simp only [Then, InBlock, if_true]
    refine hK8 _ ?_
    clear hK8 K8
    rw [← isP_noD]
    refine awp_keep [0, 3, 4] ?_
    simp only [keep_eqs, K_ops, Nat.reduceEqDiff, if_true, if_false]
    refine awp_seq_k fun K10 hK10 => ?_
    refine awp_seq_k fun K hK => ?_
    have h6 : IntKind.i64.wrap ((d + 1 : Nat) : Int) = ((d + 1 : Nat) : Int) := n_i64 (by omega)
    cases hP : isP d with
    | true =>
      rw [if_pos ⟨hx2, hP⟩] at hsucc
      by_cases h0 : cntP n - c = 0
      · have hdn : d = n := by
          rcases Nat.lt_or_ge d n with h | h
          · have := hlast h; omega
          · omega
        have h0' : (cntP n - c == 0) = true := by simpa using h0
        refine awp_region [] ?_
        simp only [K_eqs, K_store, K_nil0, K_blt0, K_ops, K_nil, K_conv, K_gT, K_gF, gdec_eqs, gslot, gval, gok, K_call, K_call0, K_int, Then, abuiltin, alen, aslice, bopt, lowOf, highOf, sliceP, aint, abool, Bool.not_true, Bool.not_false, astr, aun, aidxAddr, aidx, apart, isAggD, afield, afieldAddr, amin2, aext, apick, aarrayAt, anil, aload, astore, acells, oneC, Value.oneCell', spl, srcCells, acopy, appSrc, aappend, afill, aparts, abuildSlice, abuildOwn, abuild, amake, abytes, aconv, aalloc, abox, aviews, aview, B, noref, flat, ntok, RestC_eqs, RestH_eqs, Option.isSome_some, Int.reduceToNat, IntKind.bits, Nat.min_def, norefs_Bs, norefs, flats, norefs_append, flats_append, zrep_byte, Bs_nil, cav, tszs, tbys, tzeros, tgrds, tstds, zvs_u8, zvs_length, Z_length, aagg, aggCmp, aggEq_Bs, aconvO, Nat.reduceEqDiff, Nat.reduceLT, Nat.reduceMul, Nat.reduceAdd, Nat.reduceLeDiff, Int.reduceLT, Int.reduceLE, if_true, if_false, ite_true, ite_false, true_and, and_true, Option.map_some, Option.map_none, Option.getD_some, Option.getD_none, Option.bind_some, List.map_cons, List.map_nil, List.toList_toArray, List.headD_cons, List.headD_nil, List.tail_cons, List.tail_nil, List.getElem?_toArray, List.getElem?_cons_zero, List.getElem?_cons_succ, List.contains_nil, List.contains_cons, List.all_cons, List.all_nil, Bool.and_true, Bool.true_and, Bool.or_false, Bool.false_or, Int.sub_zero, Int.toNat_natCast, Nat.mul_one, Int.toNat_zero, Nat.zero_mul, Nat.add_zero, Nat.zero_add, List.drop_zero, List.length_cons, List.length_nil, List.nil_append, List.append_nil, Bs_length, Bs_getD, drop_getD, List.length_drop, Nat.reduceSub, Bs_one, Bs_isByte, Bs_bytes, Bs_take, Bs_drop, Int.cast_ofNat_Int, beq_self_eq_true, Int.reduceBEq, Int.reduceEq, Int.reduceBNe, Nat.reduceBEq, UInt8.reduceToNat, ByteArray.toList_mk, ba_size, ba_extract, reduceCtorEq, ne_eq, not_true_eq_false, not_false_eq_true, Nat.le_refl, Int.le_refl, Bool.false_eq_true, eq_self, List.replicate_succ, List.replicate_zero, List.flatten_cons, List.flatten_nil, List.cons_append, List.take_zero, List.take_succ_cons, List.drop_succ_cons, List.take_nil, List.drop_nil, List.set_cons_zero, List.set_cons_succ, false_or, or_false, or_true, true_or, Tryd.underlying27, Tryd.underlying3, Tryd.underlying23, Tryd.underlying5, Tryd.underlying56, Tryd.underlying60, Tryd.underlying4, Tryd.underlying9, Tryd.underlying67, Tryd.underlying38, n_tmod, n_tdiv, n_add, n_radd, n_mul, n_rmul, n_addn, n_muln, n_tmodn, n_tdivn, n_fdiv, n_shl, n_rshl, n_u8, n_u16, n_u32, n_u64, n_and8, n_or8, n_xor8, n_and32, n_or32, n_xor32, n_and64, n_or64, n_xor64, n_or8l, n_and8l, n_and32l, n_xor32l, d_lt, d_ge, d_gt, d_le, d_ltn, d_len, d_gtn, d_gen, d_eq, d_eqn, d_ne, d_nen, h0']
        (repeat' apply And.intro) <;> try (first | exact True.intro | omega)
        refine hK _ (awp_condT rfl ?_)
        refine awp_keep [3] ?_
        simp only [keep_eqs, K_ops, Nat.reduceEqDiff, if_true, if_false]
        refine awp_seq_k fun K hK => awp_region [] ?_
        simp only [K_eqs, K_store, K_nil0, K_blt0, K_ops, K_nil, K_conv, K_gT, K_gF, gdec_eqs, gslot, gval, gok, K_call, K_call0, K_int, Then, abuiltin, alen, aslice, bopt, lowOf, highOf, sliceP, aint, abool, Bool.not_true, Bool.not_false, astr, aun, aidxAddr, aidx, apart, isAggD, afield, afieldAddr, amin2, aext, apick, aarrayAt, anil, aload, astore, acells, oneC, Value.oneCell', spl, srcCells, acopy, appSrc, aappend, afill, aparts, abuildSlice, abuildOwn, abuild, amake, abytes, aconv, aalloc, abox, aviews, aview, B, noref, flat, ntok, RestC_eqs, RestH_eqs, Option.isSome_some, Int.reduceToNat, IntKind.bits, Nat.min_def, norefs_Bs, norefs, flats, norefs_append, flats_append, zrep_byte, Bs_nil, cav, tszs, tbys, tzeros, tgrds, tstds, zvs_u8, zvs_length, Z_length, aagg, aggCmp, aggEq_Bs, aconvO, Nat.reduceEqDiff, Nat.reduceLT, Nat.reduceMul, Nat.reduceAdd, Nat.reduceLeDiff, Int.reduceLT, Int.reduceLE, if_true, if_false, ite_true, ite_false, true_and, and_true, Option.map_some, Option.map_none, Option.getD_some, Option.getD_none, Option.bind_some, List.map_cons, List.map_nil, List.toList_toArray, List.headD_cons, List.headD_nil, List.tail_cons, List.tail_nil, List.getElem?_toArray, List.getElem?_cons_zero, List.getElem?_cons_succ, List.contains_nil, List.contains_cons, List.all_cons, List.all_nil, Bool.and_true, Bool.true_and, Bool.or_false, Bool.false_or, Int.sub_zero, Int.toNat_natCast, Nat.mul_one, Int.toNat_zero, Nat.zero_mul, Nat.add_zero, Nat.zero_add, List.drop_zero, List.length_cons, List.length_nil, List.nil_append, List.append_nil, Bs_length, Bs_getD, drop_getD, List.length_drop, Nat.reduceSub, Bs_one, Bs_isByte, Bs_bytes, Bs_take, Bs_drop, Int.cast_ofNat_Int, beq_self_eq_true, Int.reduceBEq, Int.reduceEq, Int.reduceBNe, Nat.reduceBEq, UInt8.reduceToNat, ByteArray.toList_mk, ba_size, ba_extract, reduceCtorEq, ne_eq, not_true_eq_false, not_false_eq_true, Nat.le_refl, Int.le_refl, Bool.false_eq_true, eq_self, List.replicate_succ, List.replicate_zero, List.flatten_cons, List.flatten_nil, List.cons_append, List.take_zero, List.take_succ_cons, List.drop_succ_cons, List.take_nil, List.drop_nil, List.set_cons_zero, List.set_cons_succ, false_or, or_false, or_true, true_or, Tryd.underlying27, Tryd.underlying3, Tryd.underlying23, Tryd.underlying5, Tryd.underlying56, Tryd.underlying60, Tryd.underlying4, Tryd.underlying9, Tryd.underlying67, Tryd.underlying38]
        (repeat' apply And.intro) <;> try (first | exact True.intro | omega)
        refine hK _ ?_
        clear hK K
        refine awp_keep [2] ?_
        simp only [keep_eqs, K_ops, Nat.reduceEqDiff, if_true, if_false]
        refine awp_ret ?_
        simp only [Then, InBlock, K_fin, ares, aress, ares1, afin, ntok, noref, eq_self, K_ops, Nat.reduceEqDiff, if_true, if_false, List.headD_cons, List.tail_cons, and_true, true_and]
        rw [hdn]
      · have h0' : (cntP n - c == 0) = false := by simpa using h0
        have hne : d ≠ n := by rintro rfl; omega
        refine awp_region [] ?_
        simp only [K_eqs, K_store, K_nil0, K_blt0, K_ops, K_nil, K_conv, K_gT, K_gF, gdec_eqs, gslot, gval, gok, K_call, K_call0, K_int, Then, abuiltin, alen, aslice, bopt, lowOf, highOf, sliceP, aint, abool, Bool.not_true, Bool.not_false, astr, aun, aidxAddr, aidx, apart, isAggD, afield, afieldAddr, amin2, aext, apick, aarrayAt, anil, aload, astore, acells, oneC, Value.oneCell', spl, srcCells, acopy, appSrc, aappend, afill, aparts, abuildSlice, abuildOwn, abuild, amake, abytes, aconv, aalloc, abox, aviews, aview, B, noref, flat, ntok, RestC_eqs, RestH_eqs, Option.isSome_some, Int.reduceToNat, IntKind.bits, Nat.min_def, norefs_Bs, norefs, flats, norefs_append, flats_append, zrep_byte, Bs_nil, cav, tszs, tbys, tzeros, tgrds, tstds, zvs_u8, zvs_length, Z_length, aagg, aggCmp, aggEq_Bs, aconvO, Nat.reduceEqDiff, Nat.reduceLT, Nat.reduceMul, Nat.reduceAdd, Nat.reduceLeDiff, Int.reduceLT, Int.reduceLE, if_true, if_false, ite_true, ite_false, true_and, and_true, Option.map_some, Option.map_none, Option.getD_some, Option.getD_none, Option.bind_some, List.map_cons, List.map_nil, List.toList_toArray, List.headD_cons, List.headD_nil, List.tail_cons, List.tail_nil, List.getElem?_toArray, List.getElem?_cons_zero, List.getElem?_cons_succ, List.contains_nil, List.contains_cons, List.all_cons, List.all_nil, Bool.and_true, Bool.true_and, Bool.or_false, Bool.false_or, Int.sub_zero, Int.toNat_natCast, Nat.mul_one, Int.toNat_zero, Nat.zero_mul, Nat.add_zero, Nat.zero_add, List.drop_zero, List.length_cons, List.length_nil, List.nil_append, List.append_nil, Bs_length, Bs_getD, drop_getD, List.length_drop, Nat.reduceSub, Bs_one, Bs_isByte, Bs_bytes, Bs_take, Bs_drop, Int.cast_ofNat_Int, beq_self_eq_true, Int.reduceBEq, Int.reduceEq, Int.reduceBNe, Nat.reduceBEq, UInt8.reduceToNat, ByteArray.toList_mk, ba_size, ba_extract, reduceCtorEq, ne_eq, not_true_eq_false, not_false_eq_true, Nat.le_refl, Int.le_refl, Bool.false_eq_true, eq_self, List.replicate_succ, List.replicate_zero, List.flatten_cons, List.flatten_nil, List.cons_append, List.take_zero, List.take_succ_cons, List.drop_succ_cons, List.take_nil, List.drop_nil, List.set_cons_zero, List.set_cons_succ, false_or, or_false, or_true, true_or, Tryd.underlying27, Tryd.underlying3, Tryd.underlying23, Tryd.underlying5, Tryd.underlying56, Tryd.underlying60, Tryd.underlying4, Tryd.underlying9, Tryd.underlying67, Tryd.underlying38, n_tmod, n_tdiv, n_add, n_radd, n_mul, n_rmul, n_addn, n_muln, n_tmodn, n_tdivn, n_fdiv, n_shl, n_rshl, n_u8, n_u16, n_u32, n_u64, n_and8, n_or8, n_xor8, n_and32, n_or32, n_xor32, n_and64, n_or64, n_xor64, n_or8l, n_and8l, n_and32l, n_xor32l, d_lt, d_ge, d_gt, d_le, d_ltn, d_len, d_gtn, d_gen, d_eq, d_eqn, d_ne, d_nen, h0']
        (repeat' apply And.intro) <;> try (first | exact True.intro | omega)
        refine hK _ (awp_condF rfl (awp_skip (hK10 _ ?_)))
        clear hK hK10 K K10
        refine awp_keep [0, 3, 4] ?_
        simp only [keep_eqs, K_ops, Nat.reduceEqDiff, if_true, if_false]
        refine awp_seq_k fun K12 hK12 => ?_
        refine awp_seq_k fun K hK => awp_region [] ?_
        simp only [K_eqs, K_store, K_nil0, K_blt0, K_ops, K_nil, K_conv, K_gT, K_gF, gdec_eqs, gslot, gval, gok, K_call, K_call0, K_int, Then, abuiltin, alen, aslice, bopt, lowOf, highOf, sliceP, aint, abool, Bool.not_true, Bool.not_false, astr, aun, aidxAddr, aidx, apart, isAggD, afield, afieldAddr, amin2, aext, apick, aarrayAt, anil, aload, astore, acells, oneC, Value.oneCell', spl, srcCells, acopy, appSrc, aappend, afill, aparts, abuildSlice, abuildOwn, abuild, amake, abytes, aconv, aalloc, abox, aviews, aview, B, noref, flat, ntok, RestC_eqs, RestH_eqs, Option.isSome_some, Int.reduceToNat, IntKind.bits, Nat.min_def, norefs_Bs, norefs, flats, norefs_append, flats_append, zrep_byte, Bs_nil, cav, tszs, tbys, tzeros, tgrds, tstds, zvs_u8, zvs_length, Z_length, aagg, aggCmp, aggEq_Bs, aconvO, Nat.reduceEqDiff, Nat.reduceLT, Nat.reduceMul, Nat.reduceAdd, Nat.reduceLeDiff, Int.reduceLT, Int.reduceLE, if_true, if_false, ite_true, ite_false, true_and, and_true, Option.map_some, Option.map_none, Option.getD_some, Option.getD_none, Option.bind_some, List.map_cons, List.map_nil, List.toList_toArray, List.headD_cons, List.headD_nil, List.tail_cons, List.tail_nil, List.getElem?_toArray, List.getElem?_cons_zero, List.getElem?_cons_succ, List.contains_nil, List.contains_cons, List.all_cons, List.all_nil, Bool.and_true, Bool.true_and, Bool.or_false, Bool.false_or, Int.sub_zero, Int.toNat_natCast, Nat.mul_one, Int.toNat_zero, Nat.zero_mul, Nat.add_zero, Nat.zero_add, List.drop_zero, List.length_cons, List.length_nil, List.nil_append, List.append_nil, Bs_length, Bs_getD, drop_getD, List.length_drop, Nat.reduceSub, Bs_one, Bs_isByte, Bs_bytes, Bs_take, Bs_drop, Int.cast_ofNat_Int, beq_self_eq_true, Int.reduceBEq, Int.reduceEq, Int.reduceBNe, Nat.reduceBEq, UInt8.reduceToNat, ByteArray.toList_mk, ba_size, ba_extract, reduceCtorEq, ne_eq, not_true_eq_false, not_false_eq_true, Nat.le_refl, Int.le_refl, Bool.false_eq_true, eq_self, List.replicate_succ, List.replicate_zero, List.flatten_cons, List.flatten_nil, List.cons_append, List.take_zero, List.take_succ_cons, List.drop_succ_cons, List.take_nil, List.drop_nil, List.set_cons_zero, List.set_cons_succ, false_or, or_false, or_true, true_or, Tryd.underlying27, Tryd.underlying3, Tryd.underlying23, Tryd.underlying5, Tryd.underlying56, Tryd.underlying60, Tryd.underlying4, Tryd.underlying9, Tryd.underlying67, Tryd.underlying38]
        (repeat' apply And.intro) <;> try (first | exact True.intro | omega)
        refine hK _ ?_
        clear hK K
        refine awp_condT rfl ?_
        have h7 : IntKind.i64.wrap (((cntP n - c : Nat) : Int) - 1) = ((cntP n - (c + 1) : Nat) : Int) := by rw [z_i64 (by omega) (by omega)]; omega
        refine awp_keep [0, 3] ?_
        simp only [keep_eqs, K_ops, Nat.reduceEqDiff, if_true, if_false]
        refine awp_region [] ?_
        simp only [K_eqs, K_store, K_nil0, K_blt0, K_ops, K_nil, K_conv, K_gT, K_gF, gdec_eqs, gslot, gval, gok, K_call, K_call0, K_int, Then, abuiltin, alen, aslice, bopt, lowOf, highOf, sliceP, aint, abool, Bool.not_true, Bool.not_false, astr, aun, aidxAddr, aidx, apart, isAggD, afield, afieldAddr, amin2, aext, apick, aarrayAt, anil, aload, astore, acells, oneC, Value.oneCell', spl, srcCells, acopy, appSrc, aappend, afill, aparts, abuildSlice, abuildOwn, abuild, amake, abytes, aconv, aalloc, abox, aviews, aview, B, noref, flat, ntok, RestC_eqs, RestH_eqs, Option.isSome_some, Int.reduceToNat, IntKind.bits, Nat.min_def, norefs_Bs, norefs, flats, norefs_append, flats_append, zrep_byte, Bs_nil, cav, tszs, tbys, tzeros, tgrds, tstds, zvs_u8, zvs_length, Z_length, aagg, aggCmp, aggEq_Bs, aconvO, Nat.reduceEqDiff, Nat.reduceLT, Nat.reduceMul, Nat.reduceAdd, Nat.reduceLeDiff, Int.reduceLT, Int.reduceLE, if_true, if_false, ite_true, ite_false, true_and, and_true, Option.map_some, Option.map_none, Option.getD_some, Option.getD_none, Option.bind_some, List.map_cons, List.map_nil, List.toList_toArray, List.headD_cons, List.headD_nil, List.tail_cons, List.tail_nil, List.getElem?_toArray, List.getElem?_cons_zero, List.getElem?_cons_succ, List.contains_nil, List.contains_cons, List.all_cons, List.all_nil, Bool.and_true, Bool.true_and, Bool.or_false, Bool.false_or, Int.sub_zero, Int.toNat_natCast, Nat.mul_one, Int.toNat_zero, Nat.zero_mul, Nat.add_zero, Nat.zero_add, List.drop_zero, List.length_cons, List.length_nil, List.nil_append, List.append_nil, Bs_length, Bs_getD, drop_getD, List.length_drop, Nat.reduceSub, Bs_one, Bs_isByte, Bs_bytes, Bs_take, Bs_drop, Int.cast_ofNat_Int, beq_self_eq_true, Int.reduceBEq, Int.reduceEq, Int.reduceBNe, Nat.reduceBEq, UInt8.reduceToNat, ByteArray.toList_mk, ba_size, ba_extract, reduceCtorEq, ne_eq, not_true_eq_false, not_false_eq_true, Nat.le_refl, Int.le_refl, Bool.false_eq_true, eq_self, List.replicate_succ, List.replicate_zero, List.flatten_cons, List.flatten_nil, List.cons_append, List.take_zero, List.take_succ_cons, List.drop_succ_cons, List.take_nil, List.drop_nil, List.set_cons_zero, List.set_cons_succ, false_or, or_false, or_true, true_or, Tryd.underlying27, Tryd.underlying3, Tryd.underlying23, Tryd.underlying5, Tryd.underlying56, Tryd.underlying60, Tryd.underlying4, Tryd.underlying9, Tryd.underlying67, Tryd.underlying38, h7]
        refine hK12 _ ?_
        refine awp_keep [0, 3] ?_
        simp only [keep_eqs, K_ops, Nat.reduceEqDiff, if_true, if_false]
        refine awp_region [] ?_
        simp only [K_eqs, K_store, K_nil0, K_blt0, K_ops, K_nil, K_conv, K_gT, K_gF, gdec_eqs, gslot, gval, gok, K_call, K_call0, K_int, Then, abuiltin, alen, aslice, bopt, lowOf, highOf, sliceP, aint, abool, Bool.not_true, Bool.not_false, astr, aun, aidxAddr, aidx, apart, isAggD, afield, afieldAddr, amin2, aext, apick, aarrayAt, anil, aload, astore, acells, oneC, Value.oneCell', spl, srcCells, acopy, appSrc, aappend, afill, aparts, abuildSlice, abuildOwn, abuild, amake, abytes, aconv, aalloc, abox, aviews, aview, B, noref, flat, ntok, RestC_eqs, RestH_eqs, Option.isSome_some, Int.reduceToNat, IntKind.bits, Nat.min_def, norefs_Bs, norefs, flats, norefs_append, flats_append, zrep_byte, Bs_nil, cav, tszs, tbys, tzeros, tgrds, tstds, zvs_u8, zvs_length, Z_length, aagg, aggCmp, aggEq_Bs, aconvO, Nat.reduceEqDiff, Nat.reduceLT, Nat.reduceMul, Nat.reduceAdd, Nat.reduceLeDiff, Int.reduceLT, Int.reduceLE, if_true, if_false, ite_true, ite_false, true_and, and_true, Option.map_some, Option.map_none, Option.getD_some, Option.getD_none, Option.bind_some, List.map_cons, List.map_nil, List.toList_toArray, List.headD_cons, List.headD_nil, List.tail_cons, List.tail_nil, List.getElem?_toArray, List.getElem?_cons_zero, List.getElem?_cons_succ, List.contains_nil, List.contains_cons, List.all_cons, List.all_nil, Bool.and_true, Bool.true_and, Bool.or_false, Bool.false_or, Int.sub_zero, Int.toNat_natCast, Nat.mul_one, Int.toNat_zero, Nat.zero_mul, Nat.add_zero, Nat.zero_add, List.drop_zero, List.length_cons, List.length_nil, List.nil_append, List.append_nil, Bs_length, Bs_getD, drop_getD, List.length_drop, Nat.reduceSub, Bs_one, Bs_isByte, Bs_bytes, Bs_take, Bs_drop, Int.cast_ofNat_Int, beq_self_eq_true, Int.reduceBEq, Int.reduceEq, Int.reduceBNe, Nat.reduceBEq, UInt8.reduceToNat, ByteArray.toList_mk, ba_size, ba_extract, reduceCtorEq, ne_eq, not_true_eq_false, not_false_eq_true, Nat.le_refl, Int.le_refl, Bool.false_eq_true, eq_self, List.replicate_succ, List.replicate_zero, List.flatten_cons, List.flatten_nil, List.cons_append, List.take_zero, List.take_succ_cons, List.drop_succ_cons, List.take_nil, List.drop_nil, List.set_cons_zero, List.set_cons_succ, false_or, or_false, or_true, true_or, Tryd.underlying27, Tryd.underlying3, Tryd.underlying23, Tryd.underlying5, Tryd.underlying56, Tryd.underlying60, Tryd.underlying4, Tryd.underlying9, Tryd.underlying67, Tryd.underlying38, n_tmod, n_tdiv, n_add, n_radd, n_mul, n_rmul, n_addn, n_muln, n_tmodn, n_tdivn, n_fdiv, n_shl, n_rshl, n_u8, n_u16, n_u32, n_u64, n_and8, n_or8, n_xor8, n_and32, n_or32, n_xor32, n_and64, n_or64, n_xor64, n_or8l, n_and8l, n_and32l, n_xor32l, d_lt, d_ge, d_gt, d_le, d_ltn, d_len, d_gtn, d_gen, d_eq, d_eqn, d_ne, d_nen, h6]
        simp only [InBlock, Then]
        exact ⟨(d + 1, c + 1), ⟨by omega, by omega, by show c + 1 = cntP (d + 1); omega⟩, by omega, .of_keep [0, 3] rfl⟩
    | false =>
      rw [if_neg (by simp [hP])] at hsucc
      have hne : d ≠ n := by rintro rfl; rw [hp] at hP; cases hP
      refine awp_region [] ?_
      simp only [K_eqs, K_store, K_nil0, K_blt0, K_ops, K_nil, K_conv, K_gT, K_gF, gdec_eqs, gslot, gval, gok, K_call, K_call0, K_int, Then, abuiltin, alen, aslice, bopt, lowOf, highOf, sliceP, aint, abool, Bool.not_true, Bool.not_false, astr, aun, aidxAddr, aidx, apart, isAggD, afield, afieldAddr, amin2, aext, apick, aarrayAt, anil, aload, astore, acells, oneC, Value.oneCell', spl, srcCells, acopy, appSrc, aappend, afill, aparts, abuildSlice, abuildOwn, abuild, amake, abytes, aconv, aalloc, abox, aviews, aview, B, noref, flat, ntok, RestC_eqs, RestH_eqs, Option.isSome_some, Int.reduceToNat, IntKind.bits, Nat.min_def, norefs_Bs, norefs, flats, norefs_append, flats_append, zrep_byte, Bs_nil, cav, tszs, tbys, tzeros, tgrds, tstds, zvs_u8, zvs_length, Z_length, aagg, aggCmp, aggEq_Bs, aconvO, Nat.reduceEqDiff, Nat.reduceLT, Nat.reduceMul, Nat.reduceAdd, Nat.reduceLeDiff, Int.reduceLT, Int.reduceLE, if_true, if_false, ite_true, ite_false, true_and, and_true, Option.map_some, Option.map_none, Option.getD_some, Option.getD_none, Option.bind_some, List.map_cons, List.map_nil, List.toList_toArray, List.headD_cons, List.headD_nil, List.tail_cons, List.tail_nil, List.getElem?_toArray, List.getElem?_cons_zero, List.getElem?_cons_succ, List.contains_nil, List.contains_cons, List.all_cons, List.all_nil, Bool.and_true, Bool.true_and, Bool.or_false, Bool.false_or, Int.sub_zero, Int.toNat_natCast, Nat.mul_one, Int.toNat_zero, Nat.zero_mul, Nat.add_zero, Nat.zero_add, List.drop_zero, List.length_cons, List.length_nil, List.nil_append, List.append_nil, Bs_length, Bs_getD, drop_getD, List.length_drop, Nat.reduceSub, Bs_one, Bs_isByte, Bs_bytes, Bs_take, Bs_drop, Int.cast_ofNat_Int, beq_self_eq_true, Int.reduceBEq, Int.reduceEq, Int.reduceBNe, Nat.reduceBEq, UInt8.reduceToNat, ByteArray.toList_mk, ba_size, ba_extract, reduceCtorEq, ne_eq, not_true_eq_false, not_false_eq_true, Nat.le_refl, Int.le_refl, Bool.false_eq_true, eq_self, List.replicate_succ, List.replicate_zero, List.flatten_cons, List.flatten_nil, List.cons_append, List.take_zero, List.take_succ_cons, List.drop_succ_cons, List.take_nil, List.drop_nil, List.set_cons_zero, List.set_cons_succ, false_or, or_false, or_true, true_or, Tryd.underlying27, Tryd.underlying3, Tryd.underlying23, Tryd.underlying5, Tryd.underlying56, Tryd.underlying60, Tryd.underlying4, Tryd.underlying9, Tryd.underlying67, Tryd.underlying38, n_tmod, n_tdiv, n_add, n_radd, n_mul, n_rmul, n_addn, n_muln, n_tmodn, n_tdivn, n_fdiv, n_shl, n_rshl, n_u8, n_u16, n_u32, n_u64, n_and8, n_or8, n_xor8, n_and32, n_or32, n_xor32, n_and64, n_or64, n_xor64, n_or8l, n_and8l, n_and32l, n_xor32l, d_lt, d_ge, d_gt, d_le, d_ltn, d_len, d_gtn, d_gen, d_eq, d_eqn, d_ne, d_nen]
      (repeat' apply And.intro) <;> try (first | exact True.intro | omega)
      refine hK _ (awp_condF rfl (awp_skip (hK10 _ ?_)))
      clear hK hK10 K K10
      refine awp_keep [0, 3, 4] ?_
      simp only [keep_eqs, K_ops, Nat.reduceEqDiff, if_true, if_false]
      refine awp_seq_k fun K12 hK12 => ?_
      refine awp_seq_k fun K hK => awp_region [] ?_
      simp only [K_eqs, K_store, K_nil0, K_blt0, K_ops, K_nil, K_conv, K_gT, K_gF, gdec_eqs, gslot, gval, gok, K_call, K_call0, K_int, Then, abuiltin, alen, aslice, bopt, lowOf, highOf, sliceP, aint, abool, Bool.not_true, Bool.not_false, astr, aun, aidxAddr, aidx, apart, isAggD, afield, afieldAddr, amin2, aext, apick, aarrayAt, anil, aload, astore, acells, oneC, Value.oneCell', spl, srcCells, acopy, appSrc, aappend, afill, aparts, abuildSlice, abuildOwn, abuild, amake, abytes, aconv, aalloc, abox, aviews, aview, B, noref, flat, ntok, RestC_eqs, RestH_eqs, Option.isSome_some, Int.reduceToNat, IntKind.bits, Nat.min_def, norefs_Bs, norefs, flats, norefs_append, flats_append, zrep_byte, Bs_nil, cav, tszs, tbys, tzeros, tgrds, tstds, zvs_u8, zvs_length, Z_length, aagg, aggCmp, aggEq_Bs, aconvO, Nat.reduceEqDiff, Nat.reduceLT, Nat.reduceMul, Nat.reduceAdd, Nat.reduceLeDiff, Int.reduceLT, Int.reduceLE, if_true, if_false, ite_true, ite_false, true_and, and_true, Option.map_some, Option.map_none, Option.getD_some, Option.getD_none, Option.bind_some, List.map_cons, List.map_nil, List.toList_toArray, List.headD_cons, List.headD_nil, List.tail_cons, List.tail_nil, List.getElem?_toArray, List.getElem?_cons_zero, List.getElem?_cons_succ, List.contains_nil, List.contains_cons, List.all_cons, List.all_nil, Bool.and_true, Bool.true_and, Bool.or_false, Bool.false_or, Int.sub_zero, Int.toNat_natCast, Nat.mul_one, Int.toNat_zero, Nat.zero_mul, Nat.add_zero, Nat.zero_add, List.drop_zero, List.length_cons, List.length_nil, List.nil_append, List.append_nil, Bs_length, Bs_getD, drop_getD, List.length_drop, Nat.reduceSub, Bs_one, Bs_isByte, Bs_bytes, Bs_take, Bs_drop, Int.cast_ofNat_Int, beq_self_eq_true, Int.reduceBEq, Int.reduceEq, Int.reduceBNe, Nat.reduceBEq, UInt8.reduceToNat, ByteArray.toList_mk, ba_size, ba_extract, reduceCtorEq, ne_eq, not_true_eq_false, not_false_eq_true, Nat.le_refl, Int.le_refl, Bool.false_eq_true, eq_self, List.replicate_succ, List.replicate_zero, List.flatten_cons, List.flatten_nil, List.cons_append, List.take_zero, List.take_succ_cons, List.drop_succ_cons, List.take_nil, List.drop_nil, List.set_cons_zero, List.set_cons_succ, false_or, or_false, or_true, true_or, Tryd.underlying27, Tryd.underlying3, Tryd.underlying23, Tryd.underlying5, Tryd.underlying56, Tryd.underlying60, Tryd.underlying4, Tryd.underlying9, Tryd.underlying67, Tryd.underlying38]
      (repeat' apply And.intro) <;> try (first | exact True.intro | omega)
      refine hK _ ?_
      clear hK K
      refine awp_condF rfl (awp_skip (hK12 _ ?_))
      refine awp_keep [0, 3] ?_
      simp only [keep_eqs, K_ops, Nat.reduceEqDiff, if_true, if_false]
      refine awp_region [] ?_
      simp only [K_eqs, K_store, K_nil0, K_blt0, K_ops, K_nil, K_conv, K_gT, K_gF, gdec_eqs, gslot, gval, gok, K_call, K_call0, K_int, Then, abuiltin, alen, aslice, bopt, lowOf, highOf, sliceP, aint, abool, Bool.not_true, Bool.not_false, astr, aun, aidxAddr, aidx, apart, isAggD, afield, afieldAddr, amin2, aext, apick, aarrayAt, anil, aload, astore, acells, oneC, Value.oneCell', spl, srcCells, acopy, appSrc, aappend, afill, aparts, abuildSlice, abuildOwn, abuild, amake, abytes, aconv, aalloc, abox, aviews, aview, B, noref, flat, ntok, RestC_eqs, RestH_eqs, Option.isSome_some, Int.reduceToNat, IntKind.bits, Nat.min_def, norefs_Bs, norefs, flats, norefs_append, flats_append, zrep_byte, Bs_nil, cav, tszs, tbys, tzeros, tgrds, tstds, zvs_u8, zvs_length, Z_length, aagg, aggCmp, aggEq_Bs, aconvO, Nat.reduceEqDiff, Nat.reduceLT, Nat.reduceMul, Nat.reduceAdd, Nat.reduceLeDiff, Int.reduceLT, Int.reduceLE, if_true, if_false, ite_true, ite_false, true_and, and_true, Option.map_some, Option.map_none, Option.getD_some, Option.getD_none, Option.bind_some, List.map_cons, List.map_nil, List.toList_toArray, List.headD_cons, List.headD_nil, List.tail_cons, List.tail_nil, List.getElem?_toArray, List.getElem?_cons_zero, List.getElem?_cons_succ, List.contains_nil, List.contains_cons, List.all_cons, List.all_nil, Bool.and_true, Bool.true_and, Bool.or_false, Bool.false_or, Int.sub_zero, Int.toNat_natCast, Nat.mul_one, Int.toNat_zero, Nat.zero_mul, Nat.add_zero, Nat.zero_add, List.drop_zero, List.length_cons, List.length_nil, List.nil_append, List.append_nil, Bs_length, Bs_getD, drop_getD, List.length_drop, Nat.reduceSub, Bs_one, Bs_isByte, Bs_bytes, Bs_take, Bs_drop, Int.cast_ofNat_Int, beq_self_eq_true, Int.reduceBEq, Int.reduceEq, Int.reduceBNe, Nat.reduceBEq, UInt8.reduceToNat, ByteArray.toList_mk, ba_size, ba_extract, reduceCtorEq, ne_eq, not_true_eq_false, not_false_eq_true, Nat.le_refl, Int.le_refl, Bool.false_eq_true, eq_self, List.replicate_succ, List.replicate_zero, List.flatten_cons, List.flatten_nil, List.cons_append, List.take_zero, List.take_succ_cons, List.drop_succ_cons, List.take_nil, List.drop_nil, List.set_cons_zero, List.set_cons_succ, false_or, or_false, or_true, true_or, Tryd.underlying27, Tryd.underlying3, Tryd.underlying23, Tryd.underlying5, Tryd.underlying56, Tryd.underlying60, Tryd.underlying4, Tryd.underlying9, Tryd.underlying67, Tryd.underlying38, n_tmod, n_tdiv, n_add, n_radd, n_mul, n_rmul, n_addn, n_muln, n_tmodn, n_tdivn, n_fdiv, n_shl, n_rshl, n_u8, n_u16, n_u32, n_u64, n_and8, n_or8, n_xor8, n_and32, n_or32, n_xor32, n_and64, n_or64, n_xor64, n_or8l, n_and8l, n_and32l, n_xor32l, d_lt, d_ge, d_gt, d_le, d_ltn, d_len, d_gtn, d_gen, d_eq, d_eqn, d_ne, d_nen, h6]
      simp only [InBlock, Then]
      exact ⟨(d + 1, c), ⟨by omega, by omega, by show c = cntP (d + 1); omega⟩, by omega, .of_keep [0, 3] rfl⟩

end Go.Proofs.YtjdlgbkpdfaloaaDoor
/- The walks of WordRoots. -/
namespace Go.Proofs.YtjdlgbkpdfaloaaDoor
open Go Go.V
set_option linter.unusedSimpArgs false
set_option linter.unusedVariables false

theorem rprime_ok (i : Nat) (hi : i < 64) : ACalls Tryd.prog [] 12 [.val (.int .i64 (i : Int))] [] (fun r os => os = [] ∧ r = .val (.int .u32 (roots3.getD i 0 : Int))) := by
  obtain ⟨h1, h2, h3, h4⟩ := primes_ok i hi
  have hn := nth_ok (primesL.getD i 0) h4 h3 h1
  have hr := roots3_all i hi
  have hlt := roots3_lt i hi
  rw [h2] at hn
  generalize primesL.getD i 0 = p at h1 h2 h3 h4 hn hr ⊢
  generalize roots3.getD i 0 = q at hr hlt ⊢
  have hw : IntKind.u32.wrap ((q : Nat) : Int) = ((q : Nat) : Int) := by rw [n_u32, Nat.mod_eq_of_lt hlt]
  refine acalls_of_awp Tryd.func12 rfl rfl Tryd.ntmps12 (rts := #[23]) rfl Tryd.results12 (by simp) ?_
  simp only [argSlots, Nat.reduceAdd]
  refine awp_seq_k fun K hK => awp_region [] ?_
  simp only [K_eqs, Nat.reduceLT, K_ops, cav, K_nil, Then, true_and]
  (repeat' apply And.intro) <;> try (first | exact True.intro | omega)
  refine hK _ ?_
  clear hK K
  refine awp_seq_k fun K hK => awp_region [] ?_
  simp only [K_eqs, Nat.reduceLT, K_ops, reduceCtorEq, if_true, if_false, K_call, Nat.reduceAdd, List.contains_nil, Bool.false_eq_true, List.map_cons, Nat.reduceEqDiff, List.map_nil, aviews, aview, noref, and_true, Bool.or_false, true_and]
  refine andC_eq (by simp [norefs_Bs, norefs, noref, norefs_Is, flats_Is]) (hn) (by simp [noref, norefs, norefs_Bs, flat, norefs_Is, flats_Is]) ?_
  simp only [RestC_eqs, K_call, Nat.reduceLT, Nat.reduceAdd, List.contains_nil, Bool.false_eq_true, K_ops, List.map_cons, Nat.reduceEqDiff, reduceCtorEq, if_false, if_true, cav, List.map_nil, aviews, aview, noref, and_true, Bool.or_false, true_and]
  refine andC_eq (by simp [norefs_Bs, norefs, noref, norefs_Is, flats_Is]) (root_ok p 3 (.inr rfl)) (by simp [noref, norefs, norefs_Bs, flat, norefs_Is, flats_Is]) ?_
  simp only [RestC_eqs, K_eqs, K_ops, Nat.reduceEqDiff, reduceCtorEq, if_false, if_true, cav, K_int, aint, ne_eq, Int.reduceEq, not_false_eq_true, and_true, hr, Nat.reduceLT, K_conv, Tryd.underlying23, List.contains_nil, Bool.false_eq_true, aconvO, aview, noref, aconv, Tryd.underlying3, Option.isSome_some, hw, K_nil, Then, true_and]
  refine hK _ ?_
  refine awp_ret ?_
  simp only [K_fin, ares, aress, ares1, afin, K_ops, Nat.reduceEqDiff, reduceCtorEq, if_false, if_true, noref, and_true, true_and]

theorem rstart_ok (i : Nat) (hi : i < 8) : ACalls Tryd.prog [] 14 [.val (.int .i64 (i : Int))] [] (fun r os => os = [] ∧ r = .val (.int .u32 (starts.getD i 0 : Int))) := by
  obtain ⟨h1, h2, h3, h4⟩ := primes_ok i (by omega)
  have hn := nth_ok (primesL.getD i 0) h4 h3 h1
  have hr := roots2_all i hi
  have hlt := starts_lt i hi
  rw [h2] at hn
  generalize primesL.getD i 0 = p at h1 h2 h3 h4 hn hr ⊢
  generalize starts.getD i 0 = q at hr hlt ⊢
  have hw : IntKind.u32.wrap ((q : Nat) : Int) = ((q : Nat) : Int) := by rw [n_u32, Nat.mod_eq_of_lt hlt]
  refine acalls_of_awp Tryd.func14 rfl rfl Tryd.ntmps14 (rts := #[23]) rfl Tryd.results14 (by simp) ?_
  simp only [argSlots, Nat.reduceAdd]
  refine awp_seq_k fun K hK => awp_region [] ?_
  simp only [K_eqs, Nat.reduceLT, K_ops, cav, K_nil, Then, true_and]
  (repeat' apply And.intro) <;> try (first | exact True.intro | omega)
  refine hK _ ?_
  clear hK K
  refine awp_seq_k fun K hK => awp_region [] ?_
  simp only [K_eqs, Nat.reduceLT, K_ops, reduceCtorEq, if_true, if_false, K_call, Nat.reduceAdd, List.contains_nil, Bool.false_eq_true, List.map_cons, Nat.reduceEqDiff, List.map_nil, aviews, aview, noref, and_true, Bool.or_false, true_and]
  refine andC_eq (by simp [norefs_Bs, norefs, noref, norefs_Is, flats_Is]) (hn) (by simp [noref, norefs, norefs_Bs, flat, norefs_Is, flats_Is]) ?_
  simp only [RestC_eqs, K_call, Nat.reduceLT, Nat.reduceAdd, List.contains_nil, Bool.false_eq_true, K_ops, List.map_cons, Nat.reduceEqDiff, reduceCtorEq, if_false, if_true, cav, List.map_nil, aviews, aview, noref, and_true, Bool.or_false, true_and]
  refine andC_eq (by simp [norefs_Bs, norefs, noref, norefs_Is, flats_Is]) (root_ok p 2 (.inl rfl)) (by simp [noref, norefs, norefs_Bs, flat, norefs_Is, flats_Is]) ?_
  simp only [RestC_eqs, K_eqs, K_ops, Nat.reduceEqDiff, reduceCtorEq, if_false, if_true, cav, K_int, aint, ne_eq, Int.reduceEq, not_false_eq_true, and_true, hr, Nat.reduceLT, K_conv, Tryd.underlying23, List.contains_nil, Bool.false_eq_true, aconvO, aview, noref, aconv, Tryd.underlying3, Option.isSome_some, hw, K_nil, Then, true_and]
  refine hK _ ?_
  refine awp_ret ?_
  simp only [K_fin, ares, aress, ares1, afin, K_ops, Nat.reduceEqDiff, reduceCtorEq, if_false, if_true, noref, and_true, true_and]

theorem wstart_ok : ACalls Tryd.prog [] 13 [] [] (fun r os => os = [] ∧ r = .agg (Is .u32 startsI)) := by
  refine acalls_of_awp Tryd.func13 rfl rfl Tryd.ntmps13 (rts := #[25]) rfl Tryd.results13 (by simp) ?_
  simp only [argSlots, Nat.reduceAdd]
  refine awp_seq_k fun K hK => awp_region [] ?_
  simp only [K_eqs, aalloc, tzeros, List.length_nil, zvs_Is, List.replicate_succ, List.replicate_zero, List.nil_append, Nat.reduceLT, K_nil, Then, true_and, K_ops]
  (repeat' apply And.intro) <;> try (first | exact True.intro | omega)
  refine hK _ ?_
  clear hK K
  refine awp_seq_k fun K hK => awp_region [] ?_
  simp only [K_eqs]
  refine build_B (Is .u32 startsI) Tryd.underlying25 (sz := 1) (z := zvs .u32 8) (by simp only [tszs]) (by simp only [tzeros]) (by kernel_rfl) ?_
  have hl : startsI.length = 8 := rfl
  simp only [Nat.reduceLT, K_store, astore, K_ops, reduceCtorEq, if_true, if_false, List.getElem?_cons_zero, tszs, acells, Is_one, Is_length, hl, Nat.zero_add, List.length_cons, List.length_nil, Nat.reduceAdd, Nat.le_refl, and_true, spl, List.take_zero, List.nil_append, Is_drop, List.drop_succ_cons, List.drop_nil, List.set_cons_zero, K_nil, Then, true_and]
  refine hK _ ?_
  rw [Is_nil, List.append_nil]
  have ht : startsI.take 8 = startsI := rfl
  refine awp_ret ?_
  simp only [K_fin, ares, aress, ares1, aload, K_ops, reduceCtorEq, if_true, if_false, List.getElem?_cons_zero, apart, isAggD, Tryd.underlying25, tszs, Nat.zero_add, Is_length, hl, Nat.le_refl, List.drop_zero, Is_take, ht, afin, noref, norefs_Is, and_true, true_and]

theorem walive_ok : ACalls Tryd.prog GP 10 [] [] (fun r os => os = [] ∧ r = .val (.bool true)) := by
  have hl : startsI.length = 8 := rfl
  have h1 : tabW.getD 0 0 = 1116352408 := rfl
  have h2 : startsI.getD 0 0 = 1779033703 := rfl
  refine acalls_of_awp Tryd.func10 rfl rfl Tryd.ntmps10 (rts := #[4]) rfl Tryd.results10 (by simp) ?_
  simp only [argSlots, Nat.reduceAdd]
  refine awp_seq_k fun K hK => awp_region [] ?_
  simp only [K_eqs, Nat.reduceLT, K_ops, cav, K_nil, Then, true_and]
  (repeat' apply And.intro) <;> try (first | exact True.intro | omega)
  refine hK _ ?_
  clear hK K
  refine awp_seq_k fun K hK => awp_region [] ?_
  simp only [K_call, Nat.reduceLT, Nat.reduceAdd, List.contains_nil, Bool.false_eq_true, K_ops, List.map_cons, cav, List.map_nil, if_false, aviews, aview, noref, and_true, Bool.or_false, true_and]
  refine andC_eq (by simp [norefs_Bs, norefs, noref, norefs_Is, flats_Is]) (wprime_ok 0) (by simp [noref, norefs, norefs_Bs, flat, norefs_Is, flats_Is]) ?_
  simp only [Int.le_refl, Int.reduceLT, and_true, Int.toNat_zero, h1, if_true, RestC_eqs, K_eqs, K_ops, reduceCtorEq, if_false, cav, K_int, aint, beq_self_eq_true, Nat.reduceLT, Nat.reduceEqDiff, gval, gslot, List.getElem?_toArray, List.getElem?_cons_succ, List.getElem?_cons_zero, Option.bind_some, gdec_eqs, K_gT, gok, K_call, Nat.reduceAdd, List.contains_nil, Bool.false_eq_true, List.map_nil, aviews, true_and]
  refine andC_eq (by simp [norefs_Bs, norefs, noref, norefs_Is, flats_Is]) (wstart_ok.g) (by simp [noref, norefs, norefs_Bs, flat, norefs_Is, flats_Is]) ?_
  simp only [RestC_eqs, gval, gslot, List.getElem?_toArray, List.getElem?_cons_succ, List.getElem?_cons_zero, Option.bind_some, K_ops, Nat.reduceEqDiff, reduceCtorEq, if_false, if_true, gdec_eqs, K_gT, gok, Nat.reduceLT, K_eqs, aidx, cav, Tryd.underlying25, tszs, apart, isAggD, Tryd.underlying23, Int.toNat_zero, Nat.mul_one, Is_length, hl, Is_getD, h2, I_un, Int.le_refl, Int.cast_ofNat_Int, Int.reduceLT, and_true, apick, K_nil, Then, true_and, K_int, aint, beq_self_eq_true]
  refine hK _ ?_
  refine awp_ret ?_
  simp only [K_fin, ares, aress, ares1, afin, K_ops, reduceCtorEq, if_true, if_false, noref, and_true, true_and]

theorem law_roots : ACalls Tryd.prog GP 3 [] [] (fun r os => os = [] ∧ r = .val (.bool true)) := by
  refine acalls_of_awp Tryd.func3 rfl rfl Tryd.ntmps3 (rts := #[4]) rfl Tryd.results3 (by simp) ?_
  simp only [argSlots, Nat.reduceAdd]
  refine awp_seq_k fun K hK => awp_region [] ?_
  simp only [K_eqs, Nat.reduceLT, K_ops, cav, K_nil, Then, true_and]
  (repeat' apply And.intro) <;> try (first | exact True.intro | omega)
  refine hK _ ?_
  clear hK K
  refine awp_seq_k fun K1 hK1 => ?_
  refine awp_seq_k fun K hK => awp_region [] ?_
  simp only [K_call, Nat.reduceLT, Nat.reduceAdd, List.contains_nil, Bool.false_eq_true, K_ops, List.map_nil, if_false, aviews, true_and]
  refine andC_eq (by simp [norefs_Bs, norefs, noref, norefs_Is, flats_Is]) (walive_ok) (by simp [noref, norefs, norefs_Bs, flat, norefs_Is, flats_Is]) ?_
  simp only [RestC_eqs, K_eqs, aun, K_ops, reduceCtorEq, if_false, if_true, Bool.not_true, Nat.reduceLT, K_nil, Then, true_and]
  (repeat' apply And.intro) <;> try (first | exact True.intro | omega)
  refine hK _ ?_
  clear hK K
  refine awp_condF rfl (awp_skip (hK1 _ ?_))
  clear hK1 K1
  refine awp_keep [0] ?_
  simp only [keep_eqs, K_ops, Nat.reduceEqDiff, if_true, if_false]
  refine awp_seq_k fun K1 hK1 => ?_
  refine awp_seq_k fun K hK => awp_region [] ?_
  simp only [K_eqs, Nat.reduceLT, K_ops, cav, K_nil, Then, true_and]
  (repeat' apply And.intro) <;> try (first | exact True.intro | omega)
  refine hK _ ?_
  clear hK K
  refine awp_keep [1] ?_
  simp only [keep_eqs, K_ops, Nat.reduceEqDiff, if_true, if_false]
  refine awp_block ?_
  refine awp_loop_from (fun i : Nat => ⟨31, [(1, .val (.int .i64 (i : Int)))], []⟩) (fun i => i ≤ 64) (fun i => 64 - i) 0 (by omega) (.of_keep [1] rfl) ?_
  intro i hi
  refine awp_seq (awp_seq ?_)
  refine awp_region [] ?_
  simp only [K_eqs, Nat.reduceLT, K_ops, if_true, Nat.reduceEqDiff, if_false, cav, K_int, aint, d_lt, K_nil, Then, true_and]
  refine awp_cond rfl rfl (fun h => ?_) (fun h => ?_)
  · have hlt : i < 64 := of_decide_eq_true h
    have hw : (if (0 : Int) ≤ (i : Int) ∧ (i : Int) < 64 then tabW.getD ((i : Int)).toNat 0 else 0) = (roots3.getD i 0 : Int) := by
      rw [if_pos ⟨by omega, by omega⟩, Int.toNat_natCast, tabW_get i hlt]
    have hp := wprime_ok (i : Int)
    rw [hw] at hp
    have hq : ∀ x : Nat, ((x : Int) != (x : Int)) = false := fun x => by simp
    refine awp_skip ?_
    simp only [Then]
    refine awp_keep [1] ?_
    simp only [keep_eqs, K_ops, Nat.reduceEqDiff, if_true, if_false]
    refine awp_seq ?_
    refine awp_block ?_
    refine awp_seq_k fun K hK => awp_region [] ?_
    simp only [K_eqs, Nat.reduceLT, K_ops, if_true, K_call, Nat.reduceAdd, List.contains_nil, Bool.false_eq_true, List.map_cons, Nat.reduceEqDiff, if_false, List.map_nil, aviews, aview, noref, and_true, Bool.or_false, true_and]
    refine andC_eq (by simp [norefs_Bs, norefs, noref, norefs_Is, flats_Is]) (hp) (by simp [noref, norefs, norefs_Bs, flat, norefs_Is, flats_Is]) ?_
    simp only [RestC_eqs, K_eqs, Nat.reduceLT, K_ops, Nat.reduceEqDiff, if_true, if_false, K_call, Nat.reduceAdd, List.contains_nil, Bool.false_eq_true, List.map_cons, List.map_nil, aviews, aview, noref, and_true, Bool.or_false, true_and]
    refine andC_eq (by simp [norefs_Bs, norefs, noref, norefs_Is, flats_Is]) ((rprime_ok i hlt).g) (by simp [noref, norefs, norefs_Bs, flat, norefs_Is, flats_Is]) ?_
    simp only [RestC_eqs, K_eqs, K_ops, Nat.reduceEqDiff, if_false, if_true, K_int, aint, hq, Nat.reduceLT, K_nil, Then, true_and]
    (repeat' apply And.intro) <;> try (first | exact True.intro | omega)
    refine hK _ ?_
    clear hK K
    refine awp_condF rfl (awp_skip ?_)
    simp only [InBlock, Then]
    refine awp_keep [1] ?_
    simp only [keep_eqs, K_ops, Nat.reduceEqDiff, if_true, if_false]
    have h6 : IntKind.i64.wrap ((i + 1 : Nat) : Int) = ((i + 1 : Nat) : Int) := n_i64 (by omega)
    refine awp_region [] ?_
    simp only [K_eqs, Nat.reduceLT, K_ops, if_true, Nat.reduceEqDiff, if_false, cav, K_int, aint, n_add, h6, K_nil, Then, true_and]
    exact ⟨i + 1, by omega, by omega, .of_keep [1] rfl⟩
  refine awp_exit ?_
  simp only [Then, InBlock, if_true]
  refine hK1 _ ?_
  clear hK1 K1
  refine awp_keep [1] ?_
  simp only [keep_eqs, K_ops, Nat.reduceEqDiff, if_true, if_false]
  refine awp_seq_k fun K1 hK1 => ?_
  refine awp_seq_k fun K hK => awp_region [] ?_
  simp only [K_call, Nat.reduceLT, Nat.reduceAdd, List.contains_nil, Bool.false_eq_true, K_ops, List.map_nil, if_false, aviews, true_and]
  refine andC_eq (by simp [norefs_Bs, norefs, noref, norefs_Is, flats_Is]) (wstart_ok.g) (by simp [noref, norefs, norefs_Bs, flat, norefs_Is, flats_Is]) ?_
  simp only [RestC_eqs, K_eqs, Nat.reduceLT, K_ops, cav, K_nil, Then, true_and]
  (repeat' apply And.intro) <;> try (first | exact True.intro | omega)
  refine hK _ ?_
  clear hK K
  refine awp_keep [15, 16] ?_
  simp only [keep_eqs, K_ops, Nat.reduceEqDiff, if_true, if_false]
  refine awp_block ?_
  refine awp_loop_from (fun i : Nat => ⟨31, [(15, .agg (Is .u32 startsI)), (16, .val (.int .i64 (i : Int)))], []⟩) (fun i => i ≤ 8) (fun i => 8 - i) 0 (by omega) (.of_keep [15, 16] rfl) ?_
  intro i hi
  refine awp_seq_k fun K hK => awp_region [] ?_
  simp only [K_eqs, K_ops, Nat.reduceEqDiff, if_true, if_false, cav, K_int, aint, d_lt, Nat.reduceLT, K_nil, Then, true_and]
  (repeat' apply And.intro) <;> try (first | exact True.intro | omega)
  refine hK _ ?_
  clear hK K
  refine awp_seq ?_
  refine awp_cond rfl rfl (fun h => ?_) (fun h => ?_)
  · have hlt : i < 8 := of_decide_eq_true h
    have hg := startsI_get i hlt
    have hl : startsI.length = 8 := rfl
    have hq : ∀ x : Nat, ((x : Int) != (x : Int)) = false := fun x => by simp
    refine awp_skip ?_
    simp only [Then]
    refine awp_keep [15, 16] ?_
    simp only [keep_eqs, K_ops, Nat.reduceEqDiff, if_true, if_false]
    refine awp_seq ?_
    refine awp_block ?_
    refine awp_seq_k fun K hK => awp_region [] ?_
    simp only [K_eqs, Nat.reduceLT, K_ops, Nat.reduceEqDiff, if_true, if_false, aidx, Tryd.underlying25, tszs, apart, isAggD, Tryd.underlying23, Int.toNat_natCast, Nat.mul_one, Is_length, hl, hlt, Is_getD, hg, I_un, Int.cast_ofNat_Int, and_true, K_nil, Then, true_and]
    (repeat' apply And.intro) <;> try (first | exact True.intro | omega)
    refine hK _ ?_
    clear hK K
    refine awp_keep [2, 3, 15, 16] ?_
    simp only [keep_eqs, K_ops, Nat.reduceEqDiff, if_true, if_false]
    refine awp_seq_k fun K hK => awp_region [] ?_
    simp only [K_eqs, Nat.reduceLT, K_ops, Nat.reduceEqDiff, if_false, if_true, K_call, Nat.reduceAdd, List.contains_nil, Bool.false_eq_true, List.map_cons, List.map_nil, aviews, aview, noref, and_true, Bool.or_false, true_and]
    refine andC_eq (by simp [norefs_Bs, norefs, noref, norefs_Is, flats_Is]) ((rstart_ok i hlt).g) (by simp [noref, norefs, norefs_Bs, flat, norefs_Is, flats_Is]) ?_
    simp only [RestC_eqs, K_eqs, K_ops, Nat.reduceEqDiff, if_false, if_true, K_int, aint, hq, Nat.reduceLT, K_nil, Then, true_and]
    (repeat' apply And.intro) <;> try (first | exact True.intro | omega)
    refine hK _ ?_
    clear hK K
    refine awp_condF rfl (awp_skip ?_)
    simp only [InBlock, Then]
    refine awp_keep [15, 16] ?_
    simp only [keep_eqs, K_ops, Nat.reduceEqDiff, if_true, if_false]
    have h6 : IntKind.i64.wrap ((i + 1 : Nat) : Int) = ((i + 1 : Nat) : Int) := n_i64 (by omega)
    refine awp_region [] ?_
    simp only [K_eqs, K_ops, Nat.reduceEqDiff, if_true, if_false, cav, K_int, aint, n_add, h6, Nat.reduceLT, K_nil, Then, true_and]
    exact ⟨i + 1, by omega, by omega, .of_keep [15, 16] rfl⟩
  refine awp_exit ?_
  simp only [Then, InBlock, if_true]
  refine hK1 _ ?_
  clear hK1 K1
  refine awp_keep [16] ?_
  simp only [keep_eqs, K_ops, Nat.reduceEqDiff, if_true, if_false]
  have hp1 := wprime_ok (-1)
  have hp2 := wprime_ok 64
  rw [if_neg (by omega)] at hp1 hp2
  refine awp_seq_k fun K hK => awp_region [] ?_
  simp only [K_call, Nat.reduceLT, Nat.reduceAdd, List.contains_nil, Bool.false_eq_true, K_ops, List.map_cons, cav, List.map_nil, if_false, aviews, aview, noref, and_true, Bool.or_false, true_and]
  refine andC_eq (by simp [norefs_Bs, norefs, noref, norefs_Is, flats_Is]) (hp1) (by simp [noref, norefs, norefs_Bs, flat, norefs_Is, flats_Is]) ?_
  simp only [RestC_eqs, K_eqs, K_ops, Nat.reduceEqDiff, if_false, if_true, cav, K_int, aint, beq_self_eq_true, Nat.reduceLT, gval, gslot, List.getElem?_toArray, List.getElem?_cons_succ, List.getElem?_cons_zero, Option.bind_some, gdec_eqs, K_gT, gok, K_call, Nat.reduceAdd, List.contains_nil, Bool.false_eq_true, List.map_cons, List.map_nil, aviews, aview, noref, and_true, Bool.or_false, true_and]
  refine andC_eq (by simp [norefs_Bs, norefs, noref, norefs_Is, flats_Is]) (hp2) (by simp [noref, norefs, norefs_Bs, flat, norefs_Is, flats_Is]) ?_
  simp only [RestC_eqs, gval, gslot, List.getElem?_toArray, List.getElem?_cons_succ, List.getElem?_cons_zero, Option.bind_some, K_ops, Nat.reduceEqDiff, if_false, if_true, gdec_eqs, K_gT, gok, Nat.reduceLT, K_eqs, cav, K_int, aint, beq_self_eq_true, apick, K_nil, Then, true_and]
  refine hK _ ?_
  refine awp_ret ?_
  simp only [K_fin, ares, aress, ares1, afin, K_ops, reduceCtorEq, if_false, if_true, noref, and_true, true_and]
end Go.Proofs.YtjdlgbkpdfaloaaDoor
/- The walk of the document's check of the first words. -/
namespace Go.Proofs.YtjdlgbkpdfaloaaDoor
open Go Go.V
set_option linter.unusedSimpArgs false
set_option linter.unusedVariables false

theorem refStart_ok : ACalls Tryd.prog GP 38 [] [] (fun r os => os = [] ∧ r = .val (.bool true)) := by
  have cS := refstart8_ok.g (G := GP)
  have hnl : (nats start8).length = 8 := rfl
  refine acalls_of_awp Tryd.func38 rfl rfl Tryd.ntmps38 (rts := #[4]) rfl Tryd.results38 (by simp) ?_
  simp only [argSlots, Nat.reduceAdd]
  refine awp_seq_k fun K hK => awp_region [] ?_
  simp only [K_eqs, Nat.reduceLT, K_ops, cav, K_nil, Then, true_and]
  (repeat' apply And.intro) <;> try (first | exact True.intro | omega)
  refine hK _ ?_
  clear hK K
  refine awp_seq_k fun K1 hK1 => ?_
  refine awp_seq_k fun K hK => awp_region [] ?_
  simp only [K_call, Nat.reduceLT, Nat.reduceAdd, List.contains_nil, Bool.false_eq_true, K_ops, List.map_nil, if_false, aviews, true_and]
  refine andC_eq trivial cS (by simp [noref, norefs_Is]) ?_
  simp only [RestC_eqs, K_eqs, abuiltin, List.map_cons, K_ops, reduceCtorEq, if_false, if_true, List.map_nil, alen, Tryd.underlying38, Int.cast_ofNat_Int, Nat.reduceLT, cav, K_nil, Then, true_and]
  refine hK _ ?_
  clear hK K
  refine awp_keep [3, 4, 5] ?_
  simp only [keep_eqs, K_ops, Nat.reduceEqDiff, if_true, if_false]
  refine awp_block ?_
  refine awp_loop_from (fun i : Nat => ⟨15, [(3, .sl 8 (Is .u32 (nats start8)) .full), (4, .val (.int .i64 8)), (5, .val (.int .i64 (i : Int)))], []⟩)
    (fun i => i ≤ 8) (fun i => 8 - i) 0 (by omega) (.of_keep [3, 4, 5] rfl) ?_
  intro i hi
  refine awp_seq_k fun K hK => awp_region [] ?_
  simp only [K_eqs, K_ops, Nat.reduceEqDiff, if_true, if_false, K_int, aint, d_lt, Nat.reduceLT, K_nil, Then, true_and]
  (repeat' apply And.intro) <;> try (first | exact True.intro | omega)
  refine hK _ ?_
  clear hK K
  refine awp_seq ?_
  refine awp_cond rfl rfl (fun hq => ?_) (fun hq => ?_)
  · have hlt : i < 8 := by have := of_decide_eq_true hq; omega
    refine awp_skip ?_
    simp only [Then]
    refine awp_keep [3, 4, 5] ?_
    simp only [keep_eqs, K_ops, Nat.reduceEqDiff, if_true, if_false]
    have cR := (rstart_ok i hlt).g (G := GP)
    have hget := nats_getD start8 i hlt
    rw [show start8 = starts from rfl] at hget
    generalize starts.getD i 0 = x at *
    refine awp_seq ?_
    refine awp_block ?_
    refine awp_seq_k fun K hK => awp_region [] ?_
    have hgI : (Is .u32 (nats start8)).getD i .top = .val (.int .u32 (x : Int)) := by rw [Is_getD (by omega)]; rw [show start8 = starts from rfl, hget]; rfl
    simp only [K_eqs, Nat.reduceLT, K_ops, Nat.reduceEqDiff, if_true, if_false, aidxAddr, Tryd.underlying38, tszs, Is_length, hnl, Nat.mul_one, Int.cast_ofNat_Int, and_true, true_and, Int.toNat_natCast, aload, List.contains_nil, Bool.false_eq_true, apart, isAggD, Tryd.underlying23, K_nil, Then, List.length_drop, drop_getD, Nat.add_zero, hgI]
    (repeat' apply And.intro) <;> try (first | exact True.intro | omega)
    refine hK _ ?_
    clear hK K
    refine awp_keep [1, 2, 3, 4, 5] ?_
    simp only [keep_eqs, K_ops, Nat.reduceEqDiff, if_true, if_false]
    refine awp_seq_k fun K hK => awp_region [] ?_
    simp only [K_eqs, Nat.reduceLT, K_ops, Nat.reduceEqDiff, if_false, if_true, K_call, Nat.reduceAdd, List.contains_nil, Bool.false_eq_true, List.map_cons, List.map_nil, aviews, aview, noref, and_true, Bool.or_false, true_and]
    refine andC_eq (by simp [norefs_Bs, norefs, noref]) (cR) (by simp [noref, norefs, norefs_Bs, flat]) ?_
    simp only [RestC_eqs, K_eqs, K_ops, Nat.reduceEqDiff, if_false, if_true, K_int, aint, Nat.reduceLT, K_nil, Then, true_and]
    refine hK _ ?_
    clear hK K
    refine awp_keep [3, 4, 5, 13] ?_
    simp only [keep_eqs, K_ops, Nat.reduceEqDiff, if_true, if_false]
    refine awp_condF (by simp only [K_ops, lk]; simp) (awp_skip ?_)
    simp only [InBlock, Then]
    refine awp_keep [3, 4, 5] ?_
    simp only [keep_eqs, K_ops, Nat.reduceEqDiff, if_true, if_false]
    have h6 : IntKind.i64.wrap ((i + 1 : Nat) : Int) = ((i + 1 : Nat) : Int) := n_i64 (by omega)
    refine awp_region [] ?_
    simp only [K_eqs, K_ops, Nat.reduceEqDiff, if_true, if_false, cav, K_int, aint, n_add, h6, Nat.reduceLT, K_nil, Then, true_and]
    refine ⟨i + 1, by omega, by omega, .of_keep [3, 4, 5] rfl⟩
  · have he : i = 8 := by have := of_decide_eq_false hq; omega
    subst he
    refine awp_exit ?_
    simp only [Then, InBlock, if_true]
    refine hK1 _ ?_
    clear hK1 K1
    refine awp_keep [3] ?_
    simp only [keep_eqs, K_ops, Nat.reduceEqDiff, if_true, if_false]
    refine awp_seq_k fun K hK => awp_region [] ?_
    simp only [K_eqs, Nat.reduceLT, K_ops, cav, K_nil, Then, true_and]
    (repeat' apply And.intro) <;> try (first | exact True.intro | omega)
    refine hK _ ?_
    clear hK K
    refine awp_keep [0] ?_
    simp only [keep_eqs, K_ops, Nat.reduceEqDiff, if_true, if_false]
    refine awp_ret ?_
    simp only [K_fin, ares, aress, ares1, afin, K_ops, if_true, noref, and_true, true_and]
end Go.Proofs.YtjdlgbkpdfaloaaDoor
