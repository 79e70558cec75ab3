/-
  Texts of one proof, merged: Ej.
-/
import Derived.Test.YtjdlgbkpdfaloaaDoorBW3
/- The walk of DigestWrites. -/
namespace Go.Proofs.YtjdlgbkpdfaloaaDoor
open Go Go.V
set_option linter.unusedSimpArgs false
set_option linter.unusedVariables false

theorem DC_flats (h : List Nat) (r : List UInt8) (m : Nat) : flats (DC h r m) = true := by
  simp only [DC, flats_append, flats_Is, Go.Proofs.YtjdlgbkpdfaloaaDoor.flats_Bs, flats, flat, Bool.and_self]

theorem gt (a : AObj) (n k : Nat) (l : List AObj) : (a :: (dd n ++ l))[n + 1 + k]? = l[k]? := by
  rw [show n + 1 + k = (n + k) + 1 by omega, List.getElem?_cons_succ, List.getElem?_append_right (by rw [dd_length]; omega), dd_length]
  congr 1
  omega
theorem st (a y : AObj) (n k : Nat) (l : List AObj) : (a :: (dd n ++ l)).set (n + 1 + k) y = a :: (dd n ++ l.set k y) := by
  rw [show n + 1 + k = (n + k) + 1 by omega, List.set_cons_succ, List.set_append_right _ _ (by rw [dd_length]; omega), dd_length]
  congr 3
  omega
theorem g0 (a : AObj) (n : Nat) (l : List AObj) : (a :: (dd n ++ l))[n + 1]? = l[0]? := gt a n 0 l
theorem g1 (a : AObj) (n : Nat) (l : List AObj) : (a :: (dd n ++ l))[n + 2]? = l[1]? := gt a n 1 l
theorem s0 (a y : AObj) (n : Nat) (l : List AObj) : (a :: (dd n ++ l)).set (n + 1) y = a :: (dd n ++ l.set 0 y) := st a y n 0 l
theorem s1 (a y : AObj) (n : Nat) (l : List AObj) : (a :: (dd n ++ l)).set (n + 2) y = a :: (dd n ++ l.set 1 y) := st a y n 1 l

theorem g1' (n : Nat) (l : List AObj) : (dd n ++ l)[n + 1]? = l[1]? := by
  rw [List.getElem?_append_right (by rw [dd_length]; omega), dd_length]
  congr 1
  omega
theorem s1' (y : AObj) (n : Nat) (l : List AObj) : (dd n ++ l).set (n + 1) y = dd n ++ l.set 1 y := by
  rw [List.set_append_right _ _ (by rw [dd_length]; omega), dd_length]
  congr 2
  omega
theorem gl (l : List AObj) (a : AObj) : (l ++ [a])[l.length]? = some a := by simp
theorem sl' (l : List AObj) (a b : AObj) : (l ++ [a]).set l.length b = l ++ [b] := by simp
theorem gl2 (l : List AObj) (a b : AObj) : (l ++ [a] ++ [b])[l.length]? = some a := by simp
theorem sl2 (l : List AObj) (a b c : AObj) : (l ++ [a] ++ [b]).set l.length c = l ++ [c] ++ [b] := by simp
theorem gl3 (l : List AObj) (a b c : AObj) : (l ++ [a] ++ [b])[(l ++ [c]).length]? = some b := by simp
theorem sl3 (l : List AObj) (a b c d : AObj) : (l ++ [a] ++ [b]).set (l ++ [c]).length d = l ++ [a] ++ [d] := by simp
theorem Bs_put (cs : List UInt8) (j x : Nat) (hj : j < cs.length) (hx : x < 256) : (Bs cs).take j ++ [.val (.int .u8 (x : Int))] ++ (Bs cs).drop (j + 1) = Bs (cs.set j (UInt8.ofNat x)) := by
  rw [List.set_eq_take_append_cons_drop, if_pos hj, Bs_append, Bs_take]
  have : Bs (UInt8.ofNat x :: cs.drop (j + 1)) = AV.val (.int .u8 (x : Int)) :: (Bs cs).drop (j + 1) := by
    rw [Bs_drop]
    show B (UInt8.ofNat x) :: _ = _
    congr 1
    simp only [B]
    congr 2
    simp
    omega
  rw [this]
  simp

theorem law_writes {C : List Nat → List UInt8 → List Nat} (hC : CAll C) (hR : RefC C) (l : List (List UInt8)) (hl : l.length ≤ 9223372036854775807) :
    ACalls Tryd.prog GP 9 [.sl l.length (PS l) .no] [] (fun r os => os = [] ∧ r = .val (.bool true)) := by
  have cN := new_ok.g (G := GP)
  rw [show DC start8 (List.replicate 64 0) 0 = DC start0.h start0.rest start0.many from rfl] at cN
  have hn0 := DC_norefs start0.h start0.rest start0.many
  have hpl := PS_length l
  refine acalls_of_awp Tryd.func9 rfl rfl Tryd.ntmps9 (rts := #[4]) rfl Tryd.results9 (by simp) ?_
  simp only [argSlots, Nat.reduceAdd]
  refine awp_seq_k fun K hK => awp_region [] ?_
  simp only [K_eqs, Nat.reduceLT, K_ops, cav, K_nil, Then, true_and]
  (repeat' apply And.intro) <;> try (first | exact True.intro | omega)
  refine hK _ ?_
  clear hK K
  refine awp_seq_k fun K1 hK1 => ?_
  refine awp_seq_k fun K hK => awp_region [] ?_
  simp only [K_call, Nat.reduceLT, Nat.reduceAdd, List.contains_nil, Bool.false_eq_true, K_ops, List.map_nil, if_false, aviews, true_and]
  refine andC_eq (by simp [norefs_Bs, norefs, noref]) (dalive_ok hC) (by simp [noref, norefs, norefs_Bs, flat]) ?_
  simp only [RestC_eqs, K_eqs, aun, K_ops, Nat.reduceEqDiff, reduceCtorEq, if_false, if_true, Bool.not_true, Nat.reduceLT, K_nil, Then, true_and]
  (repeat' apply And.intro) <;> try (first | exact True.intro | omega)
  refine hK _ ?_
  clear hK K
  refine awp_condF rfl (awp_skip (hK1 _ ?_))
  clear hK1 K1
  refine awp_keep [0] ?_
  simp only [keep_eqs, K_ops, Nat.reduceEqDiff, if_true, if_false]
  refine awp_seq_k fun K1 hK1 => ?_
  refine awp_seq_k fun K hK => awp_region [] ?_
  simp only [K_eqs, Nat.reduceLT, K_ops, if_true, abuiltin, List.map_cons, reduceCtorEq, if_false, List.map_nil, alen, Tryd.underlying45, Nat.reduceEqDiff, cav, K_nil, Then, true_and, K_int, aint, d_gt]
  (repeat' apply And.intro) <;> try (first | exact True.intro | omega)
  refine hK _ ?_
  clear hK K
  refine awp_cond rfl rfl (fun hq => ?_) (fun hq => ?_)
  · skip
    refine awp_keep [0] ?_
    simp only [keep_eqs, K_ops, Nat.reduceEqDiff, if_true, if_false]
    refine awp_seq_k fun K hK => awp_region [] ?_
    simp only [K_eqs, Nat.reduceLT, K_ops, cav, K_nil, Then, true_and]
    (repeat' apply And.intro) <;> try (first | exact True.intro | omega)
    refine hK _ ?_
    clear hK K
    refine awp_keep [2] ?_
    simp only [keep_eqs, K_ops, Nat.reduceEqDiff, if_true, if_false]
    refine awp_ret ?_
    simp only [Then, K_fin, ares, aress, ares1, afin, K_ops, if_true, noref, and_true, true_and]
  have h12 : ¬ 12 < l.length := of_decide_eq_false hq
  refine awp_skip (hK1 _ ?_)
  clear hK1 K1 hq
  refine awp_keep [0] ?_
  simp only [keep_eqs, K_ops, Nat.reduceEqDiff, if_true, if_false]
  refine awp_seq_k fun K hK => awp_region [1000018] ?_
  simp only [K_call, Nat.reduceLT, Nat.reduceAdd, List.contains_cons, beq_self_eq_true, List.contains_nil, Bool.or_false, K_ops, List.map_nil, Nat.reduceBEq, Bool.false_eq_true, if_false, aviews, if_true, true_and]
  refine andH_ptr (by simp [hviews]) cN (by simpa [objOk] using hn0) ?_
  simp only [List.length_nil, List.nil_append, RestH_eqs, K_eqs, Nat.reduceLT, K_ops, reduceCtorEq, if_false, if_true, K_nil, Then, true_and]
  refine hK _ ?_
  clear hK K
  refine awp_keep [0, 3] ?_
  simp only [keep_eqs, K_ops, Nat.reduceEqDiff, if_true, if_false]
  refine awp_seq_k fun K1 hK1 => ?_
  refine awp_seq_k fun K hK => awp_region [] ?_
  simp only [K_eqs, Nat.reduceLT, K_ops, reduceCtorEq, if_true, if_false, Nat.reduceEqDiff, cav, K_int, aptr, Tryd.underlying51, K_nil, Then, true_and]
  refine hK _ ?_
  clear hK K
  refine awp_condF rfl (awp_skip (hK1 _ ?_))
  clear hK1 K1
  refine awp_keep [0, 3] ?_
  simp only [keep_eqs, K_ops, Nat.reduceEqDiff, if_true, if_false]
  refine awp_seq_k fun K hK => awp_region [] ?_
  simp only [K_eqs, List.contains_nil, Bool.false_eq_true, abuildOwn, Tryd.underlying27, tszs, tzeros, Nat.mul_one, zrep_byte, List.replicate_zero, Bs_nil, aparts, List.map_nil, afill, List.length_cons, List.length_nil, Nat.zero_add, Nat.reduceLeDiff, and_true, List.cons_append, List.nil_append, abuildSlice, if_false, K_ops, Nat.reduceLT, reduceCtorEq, Nat.reduceEqDiff, if_true, K_nil, Then, true_and]
  (repeat' apply And.intro) <;> try (first | exact True.intro | omega)
  refine hK _ ?_
  clear hK K
  refine awp_noperm 4 rfl ?_
  refine awp_keep [0, 3, 4] ?_
  simp only [keep_eqs, K_ops, Nat.reduceEqDiff, if_true, if_false]
  refine awp_seq_k fun K1 hK1 => ?_
  refine awp_seq_k fun K hK => awp_region [] ?_
  simp only [K_eqs, Nat.reduceLT, K_ops, reduceCtorEq, if_false, if_true, abuiltin, List.map_cons, Nat.reduceEqDiff, List.map_nil, alen, Tryd.underlying45, cav, K_nil, Then, true_and]
  (repeat' apply And.intro) <;> try (first | exact True.intro | omega)
  refine hK _ ?_
  clear hK K
  refine awp_keep [3, 4, 22, 23, 24] ?_
  simp only [keep_eqs, K_ops, Nat.reduceEqDiff, if_true, if_false]
  refine awp_block ?_
  refine awp_loop_from (fun x : Nat × Nat => ⟨109, [(3, .ptr 0 0), (4, .sl ((l.take x.1).flatten).length (Bs (l.take x.1).flatten) .no), (22, .sl l.length (PS l) .no), (23, .val (.int .i64 (l.length : Int))), (24, .val (.int .i64 (x.1 : Int)))], .cells (DC (runs C start0 (l.take x.1).flatten).h (runs C start0 (l.take x.1).flatten).rest (runs C start0 (l.take x.1).flatten).many) :: dd x.2⟩)
    (fun x => x.1 ≤ l.length ∧ ((l.take x.1).flatten).length ≤ 150 * x.1) (fun x => l.length - x.1) (0, 0) (by simp) (.of_keep [3, 4, 22, 23, 24] rfl) ?_
  rintro ⟨i, n⟩ ⟨hi, hbound⟩
  simp only at hi hbound
  refine awp_seq_k fun K hK => awp_region [] ?_
  simp only [K_eqs, K_ops, Nat.reduceEqDiff, if_true, if_false, K_int, aint, d_ltn, Nat.reduceLT, K_nil, Then, true_and]
  (repeat' apply And.intro) <;> try (first | exact True.intro | omega)
  refine hK _ ?_
  clear hK K
  refine awp_seq ?_
  refine awp_cond rfl rfl (fun hq => ?_) (fun hq => ?_)
  · have hlt : i < l.length := of_decide_eq_true hq
    refine awp_skip ?_
    simp only [Then]
    refine awp_keep [3, 4, 22, 23, 24] ?_
    simp only [keep_eqs, K_ops, Nat.reduceEqDiff, if_true, if_false]
    have hget := PS_getD l i hlt
    have hfl := take_flat l i hlt
    have hflen : ((l.take (i + 1)).flatten).length = ((l.take i).flatten).length + (l.getD i []).length := by rw [hfl, List.length_append]
    refine awp_seq ?_
    refine awp_block ?_
    generalize l.getD i [] = b at *
    refine awp_seq_k fun K hK => awp_region [] ?_
    simp only [K_eqs, aidxAddr, K_ops, Nat.reduceEqDiff, if_true, if_false, Tryd.underlying45, tszs, hpl, Nat.mul_one, Nat.reduceLT, and_true, true_and, Int.toNat_natCast, aload, List.contains_nil, Bool.false_eq_true, apart, isAggD, Tryd.underlying27, K_nil, Then, List.length_drop, drop_getD, Nat.add_zero, hget]
    (repeat' apply And.intro) <;> try (first | exact True.intro | omega)
    refine hK _ ?_
    clear hK K
    refine awp_keep [3, 4, 6, 22, 23, 24] ?_
    simp only [keep_eqs, K_ops, Nat.reduceEqDiff, if_true, if_false]
    refine awp_seq_k fun K2 hK2 => ?_
    refine awp_seq_k fun K hK => awp_region [] ?_
    simp only [K_eqs, Nat.reduceLT, K_ops, Nat.reduceEqDiff, if_false, if_true, abuiltin, List.map_cons, List.map_nil, alen, Tryd.underlying27, cav, K_nil, Then, true_and, K_int, aint, d_gt]
    (repeat' apply And.intro) <;> try (first | exact True.intro | omega)
    refine hK _ ?_
    clear hK K
    refine awp_cond rfl rfl (fun hq => ?_) (fun hq => ?_)
    · skip
      refine awp_keep [3] ?_
      simp only [keep_eqs, K_ops, Nat.reduceEqDiff, if_true, if_false]
      refine awp_seq_k fun K hK => awp_region [] ?_
      simp only [K_eqs, Nat.reduceLT, K_ops, cav, K_nil, Then, true_and]
      (repeat' apply And.intro) <;> try (first | exact True.intro | omega)
      refine hK _ ?_
      clear hK K
      refine awp_keep [2] ?_
      simp only [keep_eqs, K_ops, Nat.reduceEqDiff, if_true, if_false]
      refine awp_ret ?_
      simp only [Then, InBlock, K_fin, ares, aress, ares1, afin, K_ops, if_true, noref, and_true, true_and]
    have h150 : b.length ≤ 150 := by have := of_decide_eq_false hq; omega
    refine awp_skip (hK2 _ ?_)
    clear hK2 K2 hq
    refine awp_keep [3, 4, 6, 22, 23, 24] ?_
    simp only [keep_eqs, K_ops, Nat.reduceEqDiff, if_true, if_false]
    have hok0 := runs_ok hC.ok.1 start0_ok (l.take i).flatten
    have hm0 := runs_many C start0 (l.take i).flatten
    rw [show start0.many = 0 from rfl, Nat.zero_add] at hm0
    have cCl := (clone_ok (runs C start0 (l.take i).flatten).h (runs C start0 (l.take i).flatten).rest (runs C start0 (l.take i).flatten).many (words8_length hok0.1) hok0.2).g (G := GP)
    have h123 : Bs [1, 2, 3] = [.val (.int .u8 1), .val (.int .u8 2), .val (.int .u8 3)] := rfl
    have cWc := write_ok hC.ok (runs C start0 (l.take i).flatten) hok0 [1, 2, 3] .full (by rw [hm0]; simp only [List.length_cons, List.length_nil]; omega)
    have cWd := write_ok hC.ok (runs C start0 (l.take i).flatten) hok0 b .no (by rw [hm0]; omega)
    rw [← runs_append, h123] at cWc
    rw [← runs_append, ← hfl] at cWd
    have hn1 := DC_norefs (runs C start0 (l.take i).flatten).h (runs C start0 (l.take i).flatten).rest (runs C start0 (l.take i).flatten).many
    have hokc := runs_ok hC.ok.1 start0_ok ((l.take i).flatten ++ [1, 2, 3])
    have hok1 := runs_ok hC.ok.1 start0_ok (l.take (i + 1)).flatten
    have hmc := runs_many C start0 ((l.take i).flatten ++ [1, 2, 3])
    have hm1 := runs_many C start0 (l.take (i + 1)).flatten
    rw [show start0.many = 0 from rfl, Nat.zero_add] at hmc hm1
    have hlc : ((l.take i).flatten ++ [1, 2, 3]).length = (l.take i).flatten.length + 3 := by simp
    have cSc := sum_dok hC.ok (runs C start0 ((l.take i).flatten ++ [1, 2, 3])) hokc (by rw [hmc]; omega)
    have cSd := sum_dok hC.ok (runs C start0 (l.take (i + 1)).flatten) hok1 (by rw [hm1]; omega)
    have cLc := (len_ok (runs C start0 ((l.take i).flatten ++ [1, 2, 3])).h (runs C start0 ((l.take i).flatten ++ [1, 2, 3])).rest (runs C start0 ((l.take i).flatten ++ [1, 2, 3])).many (words8_length hokc.1) hokc.2).g (G := GP)
    have cLd := (len_ok (runs C start0 (l.take (i + 1)).flatten).h (runs C start0 (l.take (i + 1)).flatten).rest (runs C start0 (l.take (i + 1)).flatten).many (words8_length hok1.1) hok1.2).g (G := GP)
    have cRc := fun p => refof_ok hC.ok hR ((l.take i).flatten ++ [1, 2, 3]) p (by omega)
    have cRd := refof_ok hC.ok hR (l.take (i + 1)).flatten .no (by omega)
    rw [← shaB_ref] at cRd
    simp only [← shaB_ref] at cRc
    rw [show sumB C (runs C start0 ((l.take i).flatten ++ [1, 2, 3])) = shaB C ((l.take i).flatten ++ [1, 2, 3]) from rfl] at cSc
    rw [show sumB C (runs C start0 (l.take (i + 1)).flatten) = shaB C (l.take (i + 1)).flatten from rfl] at cSd
    have hsc : (shaB C ((l.take i).flatten ++ [1, 2, 3])).length = 32 := sumB_length hC.ok _ hokc
    have hsd : (shaB C (l.take (i + 1)).flatten).length = 32 := sumB_length hC.ok _ hok1
    have hnc := DC_norefs (runs C start0 ((l.take i).flatten ++ [1, 2, 3])).h (runs C start0 ((l.take i).flatten ++ [1, 2, 3])).rest (runs C start0 ((l.take i).flatten ++ [1, 2, 3])).many
    have hnd := DC_norefs (runs C start0 (l.take (i + 1)).flatten).h (runs C start0 (l.take (i + 1)).flatten).rest (runs C start0 (l.take (i + 1)).flatten).many
    have hflc := DC_flats (runs C start0 (l.take (i + 1)).flatten).h (runs C start0 (l.take (i + 1)).flatten).rest (runs C start0 (l.take (i + 1)).flatten).many
    generalize DC (runs C start0 (l.take i).flatten).h (runs C start0 (l.take i).flatten).rest (runs C start0 (l.take i).flatten).many = D0 at *
    generalize hDc : DC (runs C start0 ((l.take i).flatten ++ [1, 2, 3])).h (runs C start0 ((l.take i).flatten ++ [1, 2, 3])).rest (runs C start0 ((l.take i).flatten ++ [1, 2, 3])).many = Dc at *
    generalize hD1 : DC (runs C start0 (l.take (i + 1)).flatten).h (runs C start0 (l.take (i + 1)).flatten).rest (runs C start0 (l.take (i + 1)).flatten).many = D1 at *
    rw [hmc] at cLc
    rw [hm1] at cLd
    clear hok0 hokc hok1 hm0 hmc hm1 hDc
    generalize shaB C ((l.take i).flatten ++ [1, 2, 3]) = Sc at *
    generalize shaB C (l.take (i + 1)).flatten = Sd at *
    have hdl := dd_length n
    refine awp_seq_k fun K hK => awp_region [1000032] ?_
    simp only [K_eqs, Nat.reduceLT, K_ops, Nat.reduceEqDiff, if_false, if_true, K_call, Nat.reduceAdd, List.contains_cons, beq_self_eq_true, List.contains_nil, Bool.or_false, List.map_cons, List.map_nil, Nat.reduceBEq, Bool.false_eq_true, aviews, aview, true_and]
    refine andH_one (v' := .ptr (n + 1) 0) 0 (.cells D0) rfl (by simpa [objOk] using hn1) (by simp [hviews, hview]) cCl (by simp [objOk, hn1]) (by simp [hres, hdl]) ?_
    simp only [List.set_cons_zero, List.cons_append, RestH_eqs, K_eqs, Nat.reduceLT, K_ops, Nat.reduceEqDiff, if_false, if_true, K_nil, Then, true_and]
    refine hK _ ?_
    clear hK K
    refine awp_keep [3, 4, 6, 7, 22, 23, 24] ?_
    simp only [keep_eqs, K_ops, Nat.reduceEqDiff, if_true, if_false]
    refine awp_seq_k fun K2 hK2 => ?_
    refine awp_seq_k fun K hK => awp_region [] ?_
    simp only [K_eqs, Nat.reduceLT, K_ops, Nat.reduceEqDiff, if_false, if_true, cav, K_int, aptr, Tryd.underlying51, K_nil, Then, true_and]
    refine hK _ ?_
    clear hK K
    refine awp_condF rfl (awp_skip (hK2 _ ?_))
    clear hK2 K2
    refine awp_keep [3, 4, 6, 7, 22, 23, 24] ?_
    simp only [keep_eqs, K_ops, Nat.reduceEqDiff, if_true, if_false]
    have hz3 : zrep [Value.int IntKind.u8 0] 3 = [AV.val (.int .u8 0), AV.val (.int .u8 0), AV.val (.int .u8 0)] := rfl
    refine awp_seq_k fun K hK => awp_region [1000037] ?_
    simp only [K_eqs, Nat.reduceLT, K_ops, Nat.reduceEqDiff, if_false, if_true, List.contains_cons, Nat.reduceBEq, List.contains_nil, Bool.or_false, Bool.false_eq_true, abuildOwn, Tryd.underlying27, tszs, tzeros, Nat.mul_one, hz3, aparts, List.map_cons, cav, List.map_nil, afill, spl, List.take_zero, acells, List.nil_append, List.length_cons, List.length_nil, Nat.zero_add, List.drop_succ_cons, List.drop_zero, List.cons_append, List.take_succ_cons, Nat.reduceAdd, List.drop_nil, List.append_nil, Nat.le_refl, List.all_cons, oneC, Value.oneCell', List.all_nil, Bool.and_true, and_true, Nat.reduceLeDiff, abuildSlice, K_call, beq_self_eq_true, aviews, aview, norefs, noref, ntok, true_and]
    refine andH_one (v' := .tup []) (n + 1) (.cells D0) (by rw [g0]; rfl) (by simpa [objOk] using hn1) (by simp [hviews, hview, ntok, noref, norefs]) cWc (by simp [objOk, hnc]) (by simp [hres, noref, norefs]) ?_
    rw [s0]
    simp only [List.set_cons_zero, List.append_nil, RestH_eqs, K_nil, Then]
    refine hK _ ?_
    clear hK K
    refine awp_keep [3, 4, 6, 7, 22, 23, 24] ?_
    simp only [keep_eqs, K_ops, Nat.reduceEqDiff, if_true, if_false]
    refine awp_seq_k fun K hK => awp_region [40] ?_
    simp only [K_eqs, List.contains_cons, Nat.reduceBEq, List.contains_nil, Bool.or_false, Bool.false_eq_true, abuildOwn, Tryd.underlying27, tszs, tzeros, Nat.mul_one, zrep_byte, List.replicate_zero, Bs_nil, aparts, List.map_nil, afill, List.length_cons, List.length_nil, Nat.zero_add, Nat.reduceLeDiff, and_true, List.cons_append, abuildSlice, if_false, K_ops, Nat.reduceLT, Nat.reduceEqDiff, if_true, abuiltin, List.map_cons, aappend, tbys, appSrc, srcCells, Bs_length, beq_self_eq_true, Bs_one, true_and, List.nil_append, K_nil, Then]
    refine ⟨⟨by omega, by omega⟩, hK _ ?_⟩
    clear hK K
    have hl2 : (dd n ++ [AObj.cells Dc]).length + 1 = n + 2 := by rw [List.length_append, hdl]; rfl
    rw [hl2, List.append_assoc, List.singleton_append]
    refine awp_keep [3, 4, 6, 7, 8, 22, 23, 24] ?_
    simp only [keep_eqs, K_ops, Nat.reduceEqDiff, if_true, if_false]
    refine awp_seq_k fun K hK => awp_region [1000043] ?_
    simp only [K_eqs, Nat.reduceLT, K_ops, Nat.reduceEqDiff, if_false, if_true, K_call, Nat.reduceAdd, List.contains_cons, beq_self_eq_true, List.contains_nil, Bool.or_false, List.map_cons, List.map_nil, Nat.reduceBEq, Bool.false_eq_true, aviews, aview, List.getElem?_cons_succ, List.tail_cons, List.headD_cons, Tryd.underlying27, Nat.zero_add, List.drop_zero, true_and]
    have hbt : (Bs b).take (b.length * 1) = Bs b := List.take_of_length_le (by rw [Bs_length]; omega)
    have hv2 : gviews Tryd.prog (.cells D0 :: (dd n ++ [.cells Dc, .cells (Bs b)])) [0] [51, 27] [.ptr 0 0, .osl (n + 2) 0 b.length none] = some (True ∧ (0 + b.length * 1 ≤ (Bs b).length ∧ norefs (((Bs b).drop 0).take (b.length * 1)) = true) ∧ True, false || (true || false), [.ptr 0 0, .sl b.length (((Bs b).drop 0).take (b.length * 1)) .no]) := by
      have e : (AObj.cells D0 :: (dd n ++ [AObj.cells Dc, AObj.cells (Bs b)]))[n + 2]? = some (.cells (Bs b)) := by rw [g1]; rfl
      have t5 : tsz Tryd.prog 5 = some 1 := by simp only [tszs]
      have c2 : ([0] : List Nat).contains (n + 2) = false := by simp
      have c0 : ([0] : List Nat).contains 0 = true := rfl
      have i0 : ([0] : List Nat).idxOf 0 = 0 := rfl
      simp only [gviews, gview, e, Tryd.underlying27, t5, c2, c0, i0, if_true, if_false, Bool.false_eq_true, List.headD_cons, List.tail_cons]
    refine andH_gen [0] (false || (true || false)) [51, 27] ⟨by decide, by simp, by simp [refO, refs_noref _ _ hn1]⟩ hv2 ⟨trivial, ⟨by rw [Bs_length]; omega, by rw [List.drop_zero, hbt]; exact norefs_Bs _⟩, trivial⟩
      (v := .tup []) (os := [.cells D1]) (by rw [List.drop_zero, hbt]; simpa [GHd, renO, rens_noref _ _ hn1] using cWd) ⟨by simp, by simp [refO, refs_noref _ _ hnd], rfl, fun _ => ⟨by simpa [flatO] using hflc, rfl⟩⟩ ?_
    rw [show GBack (.cells D0 :: (dd n ++ [.cells Dc, .cells (Bs b)])) [0] [.cells D1] = .cells D1 :: (dd n ++ [.cells Dc, .cells (Bs b)]) by simp [GBack, setAll, renO, rens_noref _ _ hnd]]
    simp only [ren, rens, RestH_eqs, K_nil, Then]
    refine hK _ ?_
    clear hK K hv2 hbt cWd cWc cCl
    refine awp_keep [3, 4, 6, 7, 8, 22, 23, 24] ?_
    simp only [keep_eqs, K_ops, Nat.reduceEqDiff, if_true, if_false]
    refine awp_seq_k fun K2 hK2 => ?_
    refine awp_seq_k fun K hK => awp_region [] ?_
    simp only [K_eqs, Nat.reduceLT, K_ops, Nat.reduceEqDiff, if_false, if_true, abuiltin, List.map_cons, List.map_nil, alen, Tryd.underlying27, cav, K_nil, Then, true_and]
    (repeat' apply And.intro) <;> try (first | exact True.intro | omega)
    refine hK _ ?_
    clear hK K
    refine awp_keep [3, 4, 6, 7, 8, 22, 23, 24, 44, 45, 46] ?_
    simp only [keep_eqs, K_ops, Nat.reduceEqDiff, if_true, if_false]
    refine awp_block ?_
    refine awp_loop_from (fun y : Nat × List UInt8 => ⟨109, [(3, .ptr 0 0), (4, .sl ((l.take i).flatten).length (Bs (l.take i).flatten) .no), (6, .sl b.length (Bs b) .no), (7, .ptr (n + 1) 0), (8, .osl (n + 2) 0 b.length none), (22, .sl l.length (PS l) .no), (23, .val (.int .i64 (l.length : Int))), (24, .val (.int .i64 (i : Int))), (44, .osl (n + 2) 0 b.length none), (45, .val (.int .i64 (b.length : Int))), (46, .val (.int .i64 (y.1 : Int)))], .cells D1 :: (dd n ++ [.cells Dc, .cells (Bs y.2)])⟩)
      (fun y => y.1 ≤ b.length ∧ y.2.length = b.length) (fun y => b.length - y.1) (0, b) ⟨by simp, rfl⟩ (.of_keep [3, 4, 6, 7, 8, 22, 23, 24, 44, 45, 46] rfl) ?_
    rintro ⟨j, cs⟩ ⟨hj, hcs⟩
    simp only at hj hcs
    refine awp_seq_k fun K hK => awp_region [] ?_
    simp only [K_eqs, K_ops, Nat.reduceEqDiff, if_true, if_false, K_int, aint, d_ltn, Nat.reduceLT, K_nil, Then, true_and]
    (repeat' apply And.intro) <;> try (first | exact True.intro | omega)
    refine hK _ ?_
    clear hK K
    refine awp_seq ?_
    refine awp_cond rfl rfl (fun hq => ?_) (fun hq => ?_)
    · have hjlt : j < b.length := of_decide_eq_true hq
      refine awp_skip ?_
      simp only [Then]
      refine awp_keep [3, 4, 6, 7, 8, 22, 23, 24, 44, 45, 46] ?_
      simp only [keep_eqs, K_ops, Nat.reduceEqDiff, if_true, if_false]
      refine awp_seq ?_
      refine awp_block ?_
      refine awp_seq_k fun K hK => awp_region [] ?_
      simp only [K_eqs, Nat.reduceLT, K_ops, Nat.reduceEqDiff, if_true, if_false, K_nil, Then, true_and]
      (repeat' apply And.intro) <;> try (first | exact True.intro | omega)
      refine hK _ ?_
      clear hK K
      refine awp_keep [3, 4, 6, 7, 8, 9, 22, 23, 24, 44, 45, 46] ?_
      simp only [keep_eqs, K_ops, Nat.reduceEqDiff, if_true, if_false]
      obtain ⟨x, hx, hget⟩ : ∃ x : Nat, x < 256 ∧ (Bs cs).getD j .top = .val (.int .u8 (x : Int)) := ⟨(cs.getD j 0).toNat, UInt8.toNat_lt _, by rw [V.Bs_getD (by omega)]; rfl⟩
      refine awp_region [] ?_
      simp only [K_eqs, Nat.reduceLT, K_ops, Nat.reduceEqDiff, if_false, if_true, aidxAddr, Tryd.underlying27, tszs, Int.toNat_natCast, Nat.mul_one, Nat.zero_add, aload, List.contains_nil, Bool.false_eq_true, apart, isAggD, Tryd.underlying5, cav, K_store, astore, acells, spl, K_nil, true_and, List.getElem?_cons_succ, g1', List.getElem?_cons_zero, Bs_length, Bs_take, Bs_drop, List.set_cons_succ, s1', List.set_cons_zero, hget, K_int, aint, n_add, n_u8, List.all_cons, oneC, Value.oneCell', List.all_nil, Bool.and_true, List.length_cons, List.length_nil, and_true]
      refine ⟨⟨by omega, by omega⟩, by omega, ⟨by omega, by omega⟩, by omega, ?_⟩
      have hput := Bs_put cs j ((x + 1) % 256) (by omega) (Nat.mod_lt _ (by omega))
      simp only [Bs_take, Bs_drop] at hput
      rw [hput]
      simp only [InBlock, Then]
      refine awp_keep [3, 4, 6, 7, 8, 22, 23, 24, 44, 45, 46] ?_
      simp only [keep_eqs, K_ops, Nat.reduceEqDiff, if_true, if_false]
      have h6 : IntKind.i64.wrap ((j + 1 : Nat) : Int) = ((j + 1 : Nat) : Int) := n_i64 (by omega)
      refine awp_region [] ?_
      simp only [K_eqs, K_ops, Nat.reduceEqDiff, if_true, if_false, cav, K_int, aint, n_add, h6, Nat.reduceLT, K_nil, Then, true_and]
      exact ⟨(j + 1, cs.set j (UInt8.ofNat ((x + 1) % 256))), ⟨by simp only; omega, by simp [hcs]⟩, by simp only; omega, .of_keep [3, 4, 6, 7, 8, 22, 23, 24, 44, 45, 46] rfl⟩
    · refine awp_exit ?_
      simp only [Then, InBlock, if_true]
      refine hK2 _ ?_
      clear hK2 K2
      refine awp_dead (n + 2) ?_
      rw [show (AObj.cells D1 :: (dd n ++ [AObj.cells Dc, AObj.cells (Bs cs)])).set (n + 2) .dead = .cells D1 :: (dd n ++ [.cells Dc, .dead]) by rw [s1]; rfl]
      refine awp_keep [3, 4, 6, 7, 22, 23, 24] ?_
      simp only [keep_eqs, K_ops, Nat.reduceEqDiff, if_true, if_false]
      have h123' : ∀ q : List UInt8, Bs q ++ [AV.val (.int .u8 1), AV.val (.int .u8 2), AV.val (.int .u8 3)] = Bs (q ++ [1, 2, 3]) := fun q => by rw [Bs_append, h123]
      refine awp_seq_k fun K hK => awp_region [] ?_
      simp only [K_eqs, List.contains_nil, Bool.false_eq_true, abuildOwn, Tryd.underlying27, tszs, tzeros, Nat.mul_one, zrep_byte, List.replicate_zero, Bs_nil, aparts, List.map_nil, afill, List.length_cons, List.length_nil, Nat.zero_add, Nat.reduceLeDiff, and_true, List.cons_append, abuildSlice, if_false, K_ops, Nat.reduceLT, Nat.reduceEqDiff, if_true, abuiltin, List.map_cons, aappend, tbys, appSrc, srcCells, Bs_length, Bs_one, true_and, List.nil_append, hz3, cav, spl, List.take_zero, acells, List.drop_succ_cons, List.drop_zero, List.take_succ_cons, Nat.reduceAdd, List.drop_nil, List.append_nil, Nat.le_refl, List.all_cons, oneC, Value.oneCell', List.all_nil, Bool.and_true, K_conv, Tryd.underlying9, aconvO, aview, ntok, aconv, Tryd.underlying5, K_nil, Then, List.getElem?_cons_succ, gl, h123', List.set_cons_succ, sl', Bs_isByte, Bs_bytes]
      refine ⟨⟨by omega, by omega⟩, ⟨by omega, by omega⟩, hlc, hK _ ?_⟩
      clear hK K
      refine awp_keep [3, 4, 6, 7, 10, 22, 23, 24] ?_
      simp only [keep_eqs, K_ops, Nat.reduceEqDiff, if_true, if_false]
      refine awp_seq_k fun K hK => awp_region [] ?_
      simp only [K_eqs, List.contains_nil, Bool.false_eq_true, abuildOwn, Tryd.underlying27, tszs, tzeros, Nat.mul_one, zrep_byte, List.replicate_zero, Bs_nil, aparts, List.map_nil, afill, List.length_cons, List.length_nil, Nat.zero_add, Nat.reduceLeDiff, and_true, List.cons_append, abuildSlice, if_false, K_ops, Nat.reduceLT, Nat.reduceEqDiff, if_true, abuiltin, List.map_cons, aappend, tbys, appSrc, srcCells, Bs_length, Bs_one, true_and, List.nil_append, K_nil, Then, List.getElem?_cons_succ, gl, ← Bs_append, ← hfl, List.set_cons_succ, sl']
      refine ⟨⟨by omega, by omega⟩, ⟨by omega, by omega⟩, hK _ ?_⟩
      clear hK K
      rw [← hflen]
      refine awp_noperm 4 rfl ?_
      rw [List.append_assoc, List.append_assoc]
      simp only [List.cons_append, List.nil_append]
      refine awp_dead (n + 1 + 2) ?_
      rw [st]
      refine awp_dead (n + 1 + 3) ?_
      rw [st]
      simp only [List.set_cons_succ, List.set_cons_zero]
      refine awp_keep [3, 4, 6, 7, 10, 22, 23, 24] ?_
      simp only [keep_eqs, K_ops, Nat.reduceEqDiff, if_true, if_false]
      obtain ⟨z, hz, hzl⟩ : ∃ z : List UInt8, (zvs .u8 32).map cav = Bs z ∧ z.length = 32 := ⟨List.replicate 32 0, by simp [zvs, Bs, B, cav], by simp⟩
      have zd : z.drop 32 = [] := List.drop_eq_nil_of_le (by omega)
      refine awp_seq_k fun K hK => awp_region [1000068, 1000070] ?_
      simp only [K_eqs, Nat.reduceLT, K_ops, Nat.reduceEqDiff, if_false, if_true, K_call, Nat.reduceAdd, List.contains_cons, beq_self_eq_true, Nat.reduceBEq, List.contains_nil, Bool.or_false, List.map_cons, List.map_nil, Bool.false_eq_true, aviews, aview, true_and]
      refine andH_one (v' := .agg (Bs Sd)) 0 (.cells D1) rfl (by simpa [objOk] using hnd) (by simp [hviews, hview]) cSd (by simp [objOk, hnd]) (by simp [hres, noref, norefs_Bs]) ?_
      simp only [List.set_cons_zero, List.append_nil, RestH_eqs, K_eqs, Nat.reduceLT, K_ops, Nat.reduceEqDiff, if_false, if_true, K_call, Nat.reduceAdd, List.contains_cons, Nat.reduceBEq, beq_self_eq_true, List.contains_nil, Bool.or_false, Bool.false_or, List.map_cons, List.map_nil, Bool.false_eq_true, aviews, aview, true_and]
      refine andH_one (v' := .agg (Bs Sc)) (n + 1) (.cells Dc) (by rw [g0]; rfl) (by simpa [objOk] using hnc) (by simp [hviews, hview]) cSc (by simp [objOk, hnc]) (by simp [hres, noref, norefs_Bs]) ?_
      rw [s0]
      simp only [List.set_cons_zero, List.append_nil, RestH_eqs, K_eqs, aalloc, tzeros, List.length_cons, hz, List.cons_append, Nat.reduceLT, K_store, astore, K_ops, Nat.reduceEqDiff, if_false, if_true, tszs, acells, Bs_one, Bs_length, hsd, and_true, spl, hsc, K_nil, Then, true_and, Nat.zero_add, List.take_zero, List.nil_append, List.getElem?_cons_succ, gl2, hzl, Nat.le_refl, Bs_drop, zd, Bs_nil, List.set_cons_succ, sl2, gl3, sl3]
      refine hK _ ?_
      clear hK K
      have q1 : (dd n ++ [AObj.cells Dc, AObj.dead, AObj.dead, AObj.dead]).length + 1 = n + 1 + 4 := by simp [hdl]
      have q2 : (dd n ++ [AObj.cells Dc, AObj.dead, AObj.dead, AObj.dead] ++ [AObj.cells (Bs z)]).length + 1 = n + 1 + 5 := by simp [hdl]
      rw [q1, q2, List.append_assoc, List.append_assoc]
      simp only [List.cons_append, List.nil_append]
      refine awp_freeze 11 (n + 1 + 4) (Bs Sd) rfl (by rw [gt]; rfl) (by rw [Bs_length]; omega) (norefs_Bs _) ?_
      rw [st]
      refine awp_freeze 12 (n + 1 + 5) (Bs Sc) rfl (by rw [gt]; rfl) (by rw [Bs_length]; omega) (norefs_Bs _) ?_
      rw [st]
      simp only [List.set_cons_succ, List.set_cons_zero]
      clear q1 q2
      refine awp_keep [3, 4, 7, 10, 11, 12, 22, 23, 24] ?_
      simp only [keep_eqs, K_ops, Nat.reduceEqDiff, if_true, if_false]
      have hc32 : Sc.take 32 = Sc := List.take_of_length_le (by omega)
      have hd32 : Sd.take 32 = Sd := List.take_of_length_le (by omega)
      refine awp_seq_k fun K hK => ?_
      refine awp_draw [1000079, 1000085, 1000102, 80] (by kernel_rfl) (by kernel_rfl) ?_
      simp only [K_eqs, aslice, bopt, Option.map_none, Tryd.underlying47, K_ops, Nat.reduceEqDiff, if_false, if_true, tszs, Bs_length, hsd, Nat.mul_one, Nat.reduceLT, and_true, K_conv, Tryd.underlying9, List.contains_cons, Nat.reduceBEq, List.contains_nil, Bool.or_false, Bool.false_eq_true, aconvO, aview, ntok, Tryd.underlying27, aconv, Tryd.underlying5, true_and, K_call, Nat.reduceAdd, List.map_cons, List.map_nil, aviews, norefs_Bs, Bs_isByte, Bs_bytes]
      refine andC_eq (by simp [norefs_Bs]) cRd (by simp [noref, norefs_Bs]) ?_
      simp only [RestC_eqs, K_conv, Tryd.underlying9, List.contains_cons, Nat.reduceBEq, List.contains_nil, Bool.or_false, Bool.false_eq_true, aconvO, aview, K_ops, Nat.reduceEqDiff, if_false, if_true, norefs_Bs, ntok, aconv, Tryd.underlying27, Tryd.underlying5, Bs_length, hsd, Bs_isByte, and_true, Bs_bytes, Nat.reduceLT, K_eqs, K_int, astr, ByteArray.toList_mk, beq_self_eq_true, Bool.not_true, gval, gslot, List.getElem?_toArray, List.getElem?_cons_succ, List.getElem?_cons_zero, Option.bind_some, gdec_eqs, Bool.not_false, K_gT, gok, K_call, Nat.reduceAdd, List.map_cons, List.map_nil, aviews, true_and]
      refine andH_one (v' := .agg (Bs Sd)) 0 (.cells D1) rfl (by simpa [objOk] using hnd) (by simp [hviews, hview]) cSd (by simp [objOk, hnd]) (by simp [hres, noref, norefs_Bs]) ?_
      simp only [List.set_cons_zero, List.append_nil, RestH_eqs, gval, gslot, List.getElem?_toArray, List.getElem?_cons_succ, List.getElem?_cons_zero, Option.bind_some, K_ops, Nat.reduceEqDiff, if_false, if_true, gdec_eqs, Bool.not_false, K_gT, gok, Nat.reduceLT, K_eqs, aload, apart, isAggD, Tryd.underlying47, tszs, Nat.zero_add, Bs_length, hsd, Nat.le_refl, List.drop_zero, Bs_take, hd32, apick, cav, true_and, K_int, aagg, aggCmp, tgrds, aggEq_Bs, beq_self_eq_true, Bool.not_true, Bool.false_eq_true, K_call, Nat.reduceAdd, List.contains_cons, Nat.reduceBEq, List.contains_nil, Bool.or_false, Bool.false_or, List.map_cons, List.map_nil, aviews, aview]
      refine ⟨all2_Bs Tryd.underlying5 Sd Sd rfl, ?_⟩
      refine andH_one (v' := .val (.int .u64 ((l.take (i + 1)).flatten.length : Int))) 0 (.cells D1) rfl (by simpa [objOk] using hnd) (by simp [hviews, hview]) cLd (by simp [objOk, hnd]) (by simp [hres, noref]) ?_
      have w1 : IntKind.u64.wrap ((l.take (i + 1)).flatten.length : Int) = ((l.take (i + 1)).flatten.length : Int) := by rw [n_u64, Nat.mod_eq_of_lt (by omega)]
      have w2 : IntKind.u64.wrap (((l.take i).flatten ++ [1, 2, 3]).length : Int) = (((l.take i).flatten ++ [1, 2, 3]).length : Int) := by rw [n_u64, Nat.mod_eq_of_lt (by omega)]
      generalize (l.take i).flatten ++ [1, 2, 3] = Fc at *
      have e1 : ∀ z : Int, (z != z) = false := fun z => bne_self_eq_false z
      simp only [List.set_cons_zero, List.append_nil, RestH_eqs, gval, gslot, List.getElem?_toArray, List.getElem?_cons_succ, List.getElem?_cons_zero, Option.bind_some, K_ops, Nat.reduceEqDiff, if_false, if_true, gdec_eqs, Bool.not_false, K_gT, gok, Nat.reduceLT, K_eqs, abuiltin, List.map_cons, List.map_nil, alen, Tryd.underlying27, K_conv, Tryd.underlying56, List.contains_cons, Nat.reduceBEq, List.contains_nil, Bool.or_false, Bool.false_eq_true, aconvO, aview, ntok, Tryd.underlying3, aconv, Option.isSome_some, apick, cav, true_and, w1, K_int, aint, e1, aslice, bopt, Option.map_none, Tryd.underlying47, tszs, Bs_length, hsc, Nat.mul_one, and_true, Tryd.underlying9, Tryd.underlying5, abytes, ba_size, K_call, Nat.reduceAdd, aviews, norefs_Bs, Bs_isByte, Bs_bytes]
      refine andC_eq (by simp [norefs_Bs]) (cRc _) (by simp [noref, norefs_Bs]) ?_
      simp only [RestC_eqs, gval, gslot, List.getElem?_toArray, List.getElem?_cons_succ, List.getElem?_cons_zero, Option.bind_some, K_ops, Nat.reduceEqDiff, if_false, if_true, gdec_eqs, Bool.not_false, K_gT, gok, Nat.reduceLT, K_conv, Tryd.underlying9, List.contains_cons, Nat.reduceBEq, List.contains_nil, Bool.or_false, Bool.false_eq_true, aconvO, aview, norefs_Bs, ntok, aconv, Tryd.underlying27, Tryd.underlying5, Bs_length, hsc, Bs_isByte, and_true, Bs_bytes, K_eqs, K_int, astr, ByteArray.toList_mk, beq_self_eq_true, Bool.not_true, apick, cav, true_and, K_call, Nat.reduceAdd, Bool.false_or, List.map_cons, List.map_nil, aviews]
      refine andH_one (v' := .val (.int .u64 (Fc.length : Int))) (n + 1) (.cells Dc) (by rw [g0]; rfl) (by simpa [objOk] using hnc) (by simp [hviews, hview]) cLc (by simp [objOk, hnc]) (by simp [hres, noref]) ?_
      rw [s0]
      simp only [List.set_cons_zero, List.append_nil, RestH_eqs, gval, gslot, List.getElem?_toArray, List.getElem?_cons_succ, List.getElem?_cons_zero, Option.bind_some, K_ops, Nat.reduceEqDiff, if_false, if_true, gdec_eqs, Bool.not_false, K_gT, gok, Nat.reduceLT, K_eqs, abuiltin, List.map_cons, List.map_nil, alen, Tryd.underlying9, ba_size, K_conv, Tryd.underlying56, List.contains_cons, Nat.reduceBEq, List.contains_nil, Bool.or_false, Bool.false_eq_true, aconvO, aview, ntok, Tryd.underlying3, aconv, Option.isSome_some, apick, cav, K_nil, Then, true_and, w2, K_int, aint, e1]
      refine hK _ ?_
      clear hK K
      refine awp_dead (n + 1) ?_
      rw [s0]
      simp only [List.set_cons_zero]
      refine awp_keep [3, 4, 22, 23, 24, 107] ?_
      simp only [keep_eqs, K_ops, Nat.reduceEqDiff, if_true, if_false]
      refine awp_condF rfl (awp_skip ?_)
      simp only [InBlock, Then]
      refine awp_keep [3, 4, 22, 23, 24] ?_
      simp only [keep_eqs, K_ops, Nat.reduceEqDiff, if_true, if_false]
      have h6 : IntKind.i64.wrap ((i + 1 : Nat) : Int) = ((i + 1 : Nat) : Int) := n_i64 (by omega)
      refine awp_region [] ?_
      simp only [K_eqs, K_ops, Nat.reduceEqDiff, if_true, if_false, cav, K_int, aint, n_add, h6, Nat.reduceLT, K_nil, Then, true_and]
      have hdd : dd n ++ [AObj.dead, AObj.dead, AObj.dead, AObj.dead, AObj.dead, AObj.dead] = dd (n + 6) := by
        unfold dd
        rw [← List.replicate_append_replicate]
        rfl
      rw [hdd]
      subst hD1
      exact ⟨(i + 1, n + 6), ⟨by simp only; omega, by simp only; omega⟩, by simp only; omega, .of_keep [3, 4, 22, 23, 24] rfl⟩
  · have he : i = l.length := by have := of_decide_eq_false hq; omega
    subst he
    refine awp_exit ?_
    simp only [Then, InBlock, if_true]
    refine hK1 _ ?_
    clear hK1 K1
    refine awp_keep [3] ?_
    simp only [keep_eqs, K_ops, Nat.reduceEqDiff, if_true, if_false]
    refine awp_seq_k fun K hK => awp_region [] ?_
    simp only [K_eqs, Nat.reduceLT, K_ops, cav, K_nil, Then, true_and]
    (repeat' apply And.intro) <;> try (first | exact True.intro | omega)
    refine hK _ ?_
    clear hK K
    refine awp_keep [2] ?_
    simp only [keep_eqs, K_ops, Nat.reduceEqDiff, if_true, if_false]
    refine awp_ret ?_
    simp only [K_fin, ares, aress, ares1, afin, K_ops, if_true, noref, and_true, true_and]
end Go.Proofs.YtjdlgbkpdfaloaaDoor
