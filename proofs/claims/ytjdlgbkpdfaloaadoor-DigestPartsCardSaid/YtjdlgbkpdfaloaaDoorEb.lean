/- The walk of a digest's Write. -/
import Derived.Test.YtjdlgbkpdfaloaaDoorEa
namespace Go.Proofs.YtjdlgbkpdfaloaaDoor
open Go Go.V
set_option linter.unusedSimpArgs false
set_option linter.unusedVariables false

/-- What is asked of a block's words. -/
def COk (C : List Nat → List UInt8 → List Nat) : Prop := (∀ h b, words8 h → b.length = 64 → words8 (C h b)) ∧
  ∀ h b, words8 h → b.length = 64 → ACalls Tryd.prog GP 34 [.agg (Is .u32 (nats h)), .agg (Bs b)] [] (fun r os => os = [] ∧ r = .agg (Is .u32 (nats (C h b))))

theorem DC_copy (h : List Nat) (r b : List UInt8) (m a : Nat) (hh : h.length = 8) (hr : r.length = 64) (hab : a + b.length ≤ 64) : (DC h r m).take (8 + a) ++ Bs b ++ (DC h r m).drop (8 + a + b.length) = DC h (r.take a ++ b ++ r.drop (a + b.length)) m := by
  have e1 : (Is .u32 (nats h)).length = 8 := by rw [Is_length, nats_length, hh]
  have e2 : (DC h r m).take (8 + a) = Is .u32 (nats h) ++ Bs (r.take a) := by
    unfold DC
    rw [List.take_append, e1, Nat.add_sub_cancel_left, List.take_of_length_le (by omega), List.take_append_of_le_length (by rw [Bs_length]; omega), Bs_take]
  have e3 : (DC h r m).drop (8 + a + b.length) = Bs (r.drop (a + b.length)) ++ [.val (.int .u64 (m : Int))] := by
    rw [show 8 + a + b.length = 8 + (a + b.length) by omega, ← List.drop_drop, DC_drop8 h r m hh, List.drop_append_of_le_length (by rw [Bs_length]; omega), Bs_drop]
  rw [e2, e3]
  simp only [DC, Bs_append, List.append_assoc]

theorem write_ok {C : List Nat → List UInt8 → List Nat} (hC : COk C) (s : DS) (hs : DOk s) (b : List UInt8) (p : Perm) (hm : s.many + b.length ≤ 1000000000) :
    ACalls Tryd.prog GP 40 [.ptr 0 0, .sl b.length (Bs b) p] [.cells (DC s.h s.rest s.many)] (fun v os => os = [.cells (DC (runs C s b).h (runs C s b).rest (runs C s b).many)] ∧ v = .tup []) := by
  refine acallsH_of_awp Tryd.func40 rfl rfl Tryd.ntmps40 (rts := #[]) rfl Tryd.results40 (by simp) ?_
  simp only [argSlots, Nat.reduceAdd]
  refine awp_noperm 1 rfl ?_
  refine awp_keep [0, 1] ?_
  simp only [keep_eqs, K_ops, Nat.reduceEqDiff, if_true, if_false]
  refine awp_block ?_
  refine awp_loop_from (fun x : List UInt8 × DS => ⟨50, [(0, .ptr 0 0), (1, .sl x.1.length (Bs x.1) .no)], [.cells (DC x.2.h x.2.rest x.2.many)]⟩)
    (fun x => DOk x.2 ∧ x.2.many + x.1.length = s.many + b.length ∧ runs C x.2 x.1 = runs C s b) (fun x => x.1.length) (b, s) ⟨hs, rfl, rfl⟩ (.of_keep [0, 1] rfl) ?_
  rintro ⟨l, d⟩ ⟨hd, hmany, hrun⟩
  simp only at hd hmany hrun
  have hh := words8_length hd.1
  have hr := hd.2
  have hDl := DC_length d.h d.rest d.many hh hr
  have h72 := DC_get72 d.h d.rest d.many hh hr
  refine awp_seq_k fun K2 hK2 => ?_
  refine awp_seq_k fun K hK => awp_region [] ?_
  simp only [List.length_cons, List.length_nil, Nat.zero_add, K_eqs, Nat.reduceLT, K_ops, reduceCtorEq, if_true, if_false, abuiltin, List.map_cons, Nat.reduceEqDiff, List.map_nil, alen, Tryd.underlying27, cav, K_nil, Then, true_and, K_int, aint, d_gt]
  refine hK _ ?_
  clear hK K
  by_cases hl0 : l.length = 0
  · refine awp_condF (by simp only [K_ops, lk, hl0]; rfl) ?_
    refine awp_exit ?_
    simp only [Then, InBlock, if_true]
    have hl : l = [] := List.length_eq_zero_iff.1 hl0
    subst hl
    rw [runs_nil] at hrun
    subst hrun
    exact FinH_one (.inl rfl) rfl (by simpa [objOk] using DC_norefs _ _ _) rfl (by simp) rfl ⟨rfl, rfl⟩
  refine awp_condT (by simp only [K_ops, lk]; simp; omega) (awp_skip (hK2 _ ?_))
  clear hK2 K2
  refine awp_keep [0, 1] ?_
  simp only [keep_eqs, K_ops, Nat.reduceEqDiff, if_true, if_false]
  refine awp_block ?_
  refine awp_seq_k fun K hK => awp_region [] ?_
  have hat : d.many % 64 < 64 := Nat.mod_lt _ (by omega)
  have h64 : IntKind.i64.wrap ((d.many % 64 : Nat) : Int) = ((d.many % 64 : Nat) : Int) := n_i64 (by omega)
  simp only [List.length_cons, List.length_nil, Nat.zero_add, K_eqs, Nat.reduceLT, K_ops, reduceCtorEq, if_false, if_true, anil, Nat.reduceEqDiff, afieldAddr, Tryd.underlying66, List.getElem?_toArray, List.getElem?_cons_succ, List.getElem?_cons_zero, tszs, ne_eq, not_false_eq_true, true_and, aload, List.contains_nil, Bool.false_eq_true, apart, isAggD, Tryd.underlying56, cav, K_conv, Tryd.underlying3, aconvO, aview, ntok, aconv, Option.isSome_some, K_nil, Then, hDl, h72, K_int, aint, Int.reduceEq, and_true, n_tmod, h64]
  refine hK _ ?_
  clear hK K
  refine awp_keep [0, 1, 4] ?_
  simp only [keep_eqs, K_ops, Nat.reduceEqDiff, if_true, if_false]
  have e64 : ((64 : Int) - ((d.many % 64 : Nat) : Int)).toNat = 64 - d.many % 64 := by omega
  obtain ⟨n, hn⟩ : ∃ n, (if l.length ≤ 64 - d.many % 64 then l.length else 64 - d.many % 64) = n := ⟨_, rfl⟩
  have hn0 : 0 < n := by rw [← hn]; split <;> omega
  have hnl : n ≤ l.length := by rw [← hn]; split <;> omega
  have hn64 : d.many % 64 + n ≤ 64 := by rw [← hn]; split <;> omega
  have htl : (l.take n).length = n := by rw [List.length_take]; omega
  have hcopy := DC_copy d.h d.rest (l.take n) d.many (d.many % 64) hh hr (by omega)
  have hchunk := runs_chunk (C := C) (l.take n) d hr (by omega) (by omega)
  have hok1 := runs_ok hC.1 hd (l.take n)
  have hall : runs C (runs C d (l.take n)) (l.drop n) = runs C s b := by rw [← runs_append, List.take_append_drop, hrun]
  have hr1 : (d.rest.take (d.many % 64) ++ l.take n ++ d.rest.drop (d.many % 64 + (l.take n).length)).length = 64 := by
    simp only [List.length_append, List.length_take, List.length_drop]
    omega
  rw [htl] at hcopy hchunk hr1
  refine awp_seq_k fun K hK => awp_region [] ?_
  simp only [List.length_cons, List.length_nil, Nat.zero_add, K_eqs, Nat.reduceLT, K_ops, reduceCtorEq, if_false, if_true, anil, Nat.reduceEqDiff, afieldAddr, Tryd.underlying66, List.getElem?_toArray, List.getElem?_cons_succ, List.getElem?_cons_zero, tszs, ne_eq, not_false_eq_true, true_and, aslice, bopt, Option.map_some, Option.map_none, Tryd.underlying37, lowOf, highOf, Int.le_refl, not_true_eq_false, and_true, or_false, Int.toNat_natCast, sliceP, abuiltin, List.map_cons, List.map_nil, acopy, Tryd.underlying27, srcCells, Bs_length, Nat.min_def, spl, K_nil, Then, Int.cast_ofNat_Int, Nat.mul_one, e64, hn, hDl, Bs_take, Bs_one, hn0, htl, List.set_cons_zero]
  refine ⟨⟨by omega, by omega⟩, by omega, hK _ ?_⟩
  clear hK K
  rw [hcopy]
  generalize d.rest.take (d.many % 64) ++ l.take n ++ d.rest.drop (d.many % 64 + n) = r1 at hcopy hchunk hr1 ⊢
  clear hcopy
  have hDl1 := DC_length d.h r1 d.many hh hr1
  have h721 := DC_get72 d.h r1 d.many hh hr1
  have hset := DC_set72 d.h r1 d.many (d.many + n) hh hr1
  have hw1 : IntKind.u64.wrap (n : Int) = (n : Int) := by rw [n_u64, Nat.mod_eq_of_lt (by omega)]
  have hw2 : IntKind.u64.wrap ((d.many : Int) + (n : Int)) = ((d.many + n : Nat) : Int) := by rw [← Int.natCast_add, n_u64, Nat.mod_eq_of_lt (by omega)]
  have hput : (DC d.h r1 d.many).take 72 ++ [.val (.int .u64 ((d.many + n : Nat) : Int))] ++ (DC d.h r1 d.many).drop 73 = DC d.h r1 (d.many + n) := by
    rw [← hset, List.set_eq_take_append_cons_drop, if_pos (by omega)]
    simp
  refine awp_keep [0, 1, 4, 5] ?_
  simp only [keep_eqs, K_ops, Nat.reduceEqDiff, if_true, if_false]
  refine awp_seq_k fun K hK => awp_region [] ?_
  simp only [List.length_cons, List.length_nil, Nat.zero_add, K_eqs, Nat.reduceLT, K_ops, reduceCtorEq, if_false, if_true, anil, Nat.reduceEqDiff, afieldAddr, Tryd.underlying66, List.getElem?_toArray, List.getElem?_cons_succ, List.getElem?_cons_zero, tszs, ne_eq, not_false_eq_true, true_and, aload, List.contains_nil, Bool.false_eq_true, apart, isAggD, Tryd.underlying56, K_conv, aconvO, aview, noref, aconv, Tryd.underlying3, Option.isSome_some, hw1, and_true, K_store, astore, acells, spl, K_nil, Then, hDl1, List.set_cons_zero, h721, K_int, aint, hw2, List.all_cons, oneC, Value.oneCell', List.all_nil, Bool.and_true, Nat.reduceAdd, Nat.le_refl]
  rw [hput]
  refine hK _ ?_
  clear hK K hput hset hDl1 h721
  refine awp_keep [0, 1, 4, 5] ?_
  simp only [keep_eqs, K_ops, Nat.reduceEqDiff, if_true, if_false]
  refine awp_seq_k fun K hK => awp_region [] ?_
  simp only [List.length_cons, List.length_nil, Nat.zero_add, K_eqs, Nat.reduceLT, K_ops, reduceCtorEq, Nat.reduceEqDiff, if_false, if_true, aslice, bopt, Option.map_some, Option.map_none, Tryd.underlying27, tszs, Bs_length, Nat.mul_one, lowOf, highOf, Int.le_refl, ne_eq, not_true_eq_false, and_true, or_false, true_and, Int.toNat_natCast, Bs_drop, Bs_take, sliceP, K_nil, Then]
  refine ⟨by omega, hK _ ?_⟩
  clear hK K
  refine awp_keep [0, 1, 4, 5] ?_
  simp only [keep_eqs, K_ops, Nat.reduceEqDiff, if_true, if_false]
  refine awp_seq_k fun K hK => awp_region [] ?_
  have hw3 : IntKind.i64.wrap (((d.many % 64 : Nat) : Int) + (n : Int)) = ((d.many % 64 + n : Nat) : Int) := by rw [← Int.natCast_add]; exact n_i64 (by omega)
  have e5 : ((l.length : Int) - (n : Int)).toNat = l.length - n := by omega
  have e6 : (l.drop n).take (l.length - n) = l.drop n := List.take_of_length_le (by rw [List.length_drop]; exact Nat.le_refl _)
  have e7 : l.length - n = (l.drop n).length := by rw [List.length_drop]
  simp only [e5, e6, List.length_cons, List.length_nil, Nat.zero_add, K_eqs, Nat.reduceLT, K_ops, reduceCtorEq, Nat.reduceEqDiff, if_false, if_true, K_int, aint, hw3, cav, K_nil, Then, true_and]
  refine hK _ ?_
  clear hK K
  rw [e7]
  refine awp_keep [0, 1, 37] ?_
  simp only [keep_eqs, K_ops, Nat.reduceEqDiff, if_true, if_false]
  by_cases hfull : d.many % 64 + n = 64
  · rw [if_pos hfull] at hchunk
    refine awp_condT (by simp only [K_ops, lk, hfull]; rfl) ?_
    have hDl2 := DC_length d.h r1 (d.many + n) hh hr1
    have h8 := DC_take8 d.h r1 (d.many + n) hh
    have hrest := DC_rest d.h r1 (d.many + n) hh hr1
    have hcc := hC.2 d.h r1 hd.1 hr1
    have hh' := words8_length (hC.1 d.h r1 hd.1 hr1)
    have hput8 := DC_put8 d.h (C d.h r1) r1 (d.many + n) hh
    generalize C d.h r1 = h' at hcc hchunk hh' hput8
    have hnl8 : (nats h').length = 8 := by rw [nats_length, hh']
    refine awp_draw [] (by kernel_rfl) (by kernel_rfl) ?_
    simp only [List.length_drop, List.length_cons, List.length_nil, Nat.zero_add, K_eqs, Nat.reduceLT, K_ops, reduceCtorEq, if_false, if_true, anil, Nat.reduceEqDiff, afieldAddr, Tryd.underlying66, List.getElem?_toArray, List.getElem?_cons_zero, tszs, ne_eq, not_false_eq_true, Nat.add_zero, true_and, List.drop_zero, aload, List.contains_nil, Bool.false_eq_true, apart, isAggD, Tryd.underlying25, List.getElem?_cons_succ, Tryd.underlying37, K_call, Nat.reduceAdd, List.map_cons, List.map_nil, aviews, aview, ntok, List.headD_cons, List.tail_cons, hDl2, Nat.reduceLeDiff, hrest, noref, norefs_Bs, and_true, Bool.or_false, h8, norefs_Is]
    refine andC_eq trivial hcc (by simp [flat, flats_Is, noref, norefs_Is]) ?_
    simp only [RestC_eqs, K_eqs, anil, K_ops, Nat.reduceEqDiff, reduceCtorEq, if_false, if_true, Nat.reduceLT, afieldAddr, Tryd.underlying66, List.getElem?_toArray, List.getElem?_cons_zero, tszs, ne_eq, not_false_eq_true, Nat.add_zero, true_and, List.drop_zero, K_store, astore, acells, Is_one, Is_length, hnl8, and_true, spl, K_nil, Nat.zero_add, hDl2, Nat.reduceLeDiff, List.take_zero, List.nil_append, hput8, List.set_cons_zero]
    rw [e7]
    simp only [InBlock, Then]
    exact ⟨(l.drop n, runs C d (l.take n)), ⟨hok1, by simp only [runs_many, htl, List.length_drop]; omega, hall⟩, by simp only [List.length_drop]; omega, by rw [hchunk]; exact .of_keep [0, 1] rfl⟩
  · rw [if_neg hfull] at hchunk
    refine awp_condF (by simp only [K_ops, lk]; simp; omega) ?_
    refine awp_skip ?_
    simp only [InBlock, Then]
    exact ⟨(l.drop n, runs C d (l.take n)), ⟨hok1, by simp only [runs_many, htl, List.length_drop]; omega, hall⟩, by simp only [List.length_drop]; omega, by rw [hchunk]; exact .of_keep [0, 1] rfl⟩
end Go.Proofs.YtjdlgbkpdfaloaaDoor
