/- The walk of DigestParts. -/
import Derived.Test.YtjdlgbkpdfaloaaDoorEe
namespace Go.Proofs.YtjdlgbkpdfaloaaDoor
open Go Go.V
set_option linter.unusedSimpArgs false
set_option linter.unusedVariables false

theorem drop_consB (b : List UInt8) (i : Nat) (h : i < b.length) : b.drop i = b.getD i 0 :: b.drop (i + 1) := by
  rw [List.drop_eq_getElem_cons h]
  simp [List.getD_eq_getElem?_getD, List.getElem?_eq_getElem h]
theorem take_take_drop (b : List UInt8) {i j : Nat} (h : i ≤ j) : b.take i ++ (b.drop i).take (j - i) = b.take j := by
  rw [← List.take_add, show i + (j - i) = j by omega]

theorem law_parts {C : List Nat → List UInt8 → List Nat} (hC : CAll C) (b ss : List UInt8) (hb : b.length ≤ 9223372036854775807) (hs : ss.length ≤ 9223372036854775807) :
    ACalls Tryd.prog GP 8 [.sl b.length (Bs b) .no, .sl ss.length (Bs ss) .no] [] (fun r os => os = [] ∧ r = .val (.bool true)) := by
  have cN := new_ok.g (G := GP)
  rw [show DC start8 (List.replicate 64 0) 0 = DC start0.h start0.rest start0.many from rfl] at cN
  have hn0 := DC_norefs start0.h start0.rest start0.many
  refine acalls_of_awp Tryd.func8 rfl rfl Tryd.ntmps8 (rts := #[4]) rfl Tryd.results8 (by simp) ?_
  simp only [argSlots, Nat.reduceAdd]
  refine awp_seq_k fun K hK => awp_region [] ?_
  simp only [K_eqs, Nat.reduceLT, K_ops, cav, K_nil, Then, true_and]
  (repeat' apply And.intro) <;> try (first | exact True.intro | omega)
  refine hK _ ?_
  clear hK K
  refine awp_seq_k fun K1 hK1 => ?_
  refine awp_seq_k fun K hK => awp_region [] ?_
  simp only [K_call, Nat.reduceLT, Nat.reduceAdd, List.contains_nil, Bool.false_eq_true, K_ops, List.map_nil, if_false, aviews, true_and]
  refine andC_eq (by simp [norefs_Bs, norefs, noref]) (dalive_ok hC) (by simp [noref, norefs, norefs_Bs, flat]) ?_
  simp only [RestC_eqs, K_eqs, aun, K_ops, Nat.reduceEqDiff, reduceCtorEq, if_false, if_true, Bool.not_true, Nat.reduceLT, K_nil, Then, true_and]
  (repeat' apply And.intro) <;> try (first | exact True.intro | omega)
  refine hK _ ?_
  clear hK K
  refine awp_condF rfl (awp_skip (hK1 _ ?_))
  clear hK1 K1
  refine awp_keep [0, 1] ?_
  simp only [keep_eqs, K_ops, Nat.reduceEqDiff, if_true, if_false]
  refine awp_seq_k fun K1 hK1 => ?_
  refine awp_seq_k fun K hK => ?_
  have next : ∀ (t : Bool) (s : St), t = decide (2000 < b.length ∨ 200 < ss.length) → Weak GP s ⟨78, [(20, .val (.bool t)), (0, .sl b.length (Bs b) .no), (1, .sl ss.length (Bs ss) .no)], []⟩ → K s := by
    intro t s ht hw
    refine hK s (awp_weak hw ?_)
    clear hw hK K
    refine awp_cond rfl rfl (fun h => ?_) (fun h => ?_)
    · skip
      refine awp_keep [0] ?_
      simp only [keep_eqs, K_ops, Nat.reduceEqDiff, if_true, if_false]
      refine awp_seq_k fun K hK => awp_region [] ?_
      simp only [K_eqs, Nat.reduceLT, K_ops, cav, K_nil, Then, true_and]
      (repeat' apply And.intro) <;> try (first | exact True.intro | omega)
      refine hK _ ?_
      clear hK K
      refine awp_keep [4] ?_
      simp only [keep_eqs, K_ops, Nat.reduceEqDiff, if_true, if_false]
      refine awp_ret ?_
      simp only [Then, K_fin, ares, aress, ares1, afin, K_ops, if_true, noref, and_true, true_and]
    have hok : ¬ (2000 < b.length ∨ 200 < ss.length) := of_decide_eq_false (ht.symm.trans h)
    refine awp_skip (hK1 _ ?_)
    clear hK1 K1
    refine awp_keep [0, 1] ?_
    simp only [keep_eqs, K_ops, Nat.reduceEqDiff, if_true, if_false]
    refine awp_seq_k fun K hK => awp_region [1000021] ?_
    simp only [K_call, Nat.reduceLT, Nat.reduceAdd, List.contains_cons, beq_self_eq_true, List.contains_nil, Bool.or_false, K_ops, List.map_nil, Nat.reduceBEq, Bool.false_eq_true, if_false, aviews, if_true, true_and]
    refine andH_ptr (by simp [hviews]) cN (by simpa [objOk] using hn0) ?_
    simp only [List.length_nil, List.nil_append, RestH_eqs, K_eqs, List.contains_cons, Nat.reduceBEq, List.contains_nil, Bool.or_false, Bool.false_eq_true, abuildOwn, Tryd.underlying45, tszs, tzeros, Nat.mul_one, aparts, List.map_nil, afill, List.length_cons, Nat.zero_add, Nat.reduceLeDiff, true_and, List.cons_append, abuildSlice, and_true, if_false, K_ops, Nat.reduceLT, Nat.reduceEqDiff, reduceCtorEq, if_true, cav, K_nil, Then]
    refine hK _ ?_
    clear hK K
    refine awp_keep [0, 1, 5, 6, 7] ?_
    simp only [keep_eqs, K_ops, Nat.reduceEqDiff, if_true, if_false]
    refine awp_seq_k fun K1 hK1 => ?_
    refine awp_seq_k fun K hK => awp_region [] ?_
    simp only [K_eqs, Nat.reduceLT, K_ops, reduceCtorEq, Nat.reduceEqDiff, if_false, if_true, cav, K_int, aptr, Tryd.underlying51, K_nil, Then, true_and]
    refine hK _ ?_
    clear hK K
    refine awp_condF rfl (awp_skip (hK1 _ ?_))
    clear hK1 K1
    refine awp_keep [0, 1, 5, 6, 7] ?_
    simp only [keep_eqs, K_ops, Nat.reduceEqDiff, if_true, if_false]
    have hz0 : zrep [Value.slice none 0 0] 0 = [] := rfl
    rw [hz0]
    refine awp_tok 1 7 rfl ?_
    refine awp_seq_k fun K1 hK1 => ?_
    refine awp_seq_k fun K hK => awp_region [] ?_
    simp only [List.length_cons, List.length_nil, Nat.zero_add, List.cons_append, List.nil_append, K_eqs, Nat.reduceLT, K_ops, Nat.reduceEqDiff, reduceCtorEq, if_false, if_true, abuiltin, List.map_cons, List.map_nil, alen, Tryd.underlying27, cav, K_nil, Then, true_and]
    (repeat' apply And.intro) <;> try (first | exact True.intro | omega)
    refine hK _ ?_
    clear hK K
    refine awp_keep [0, 5, 6, 7, 25, 26, 27] ?_
    simp only [keep_eqs, K_ops, Nat.reduceEqDiff, if_true, if_false]
    refine awp_block ?_
    refine awp_loop_from (fun x : Nat × Nat × List (List UInt8) => ⟨78, [(0, .sl b.length (Bs b) .no), (5, .ptr 0 0), (6, .val (.int .i64 (x.2.1 : Int))), (7, .sl x.2.2.length (PS x.2.2) (.tok 1)), (25, .sl ss.length (Bs ss) .no), (26, .val (.int .i64 (ss.length : Int))), (27, .val (.int .i64 (x.1 : Int)))], [.cells (DC (runs C start0 (b.take x.2.1)).h (runs C start0 (b.take x.2.1)).rest (runs C start0 (b.take x.2.1)).many), .tok 1 x.2.2.length]⟩)
      (fun x => x.1 ≤ ss.length ∧ x.2.1 ≤ b.length ∧ x.2.2.flatten = b.take x.2.1 ∧ x.2.2.length = x.1) (fun x => ss.length - x.1) (0, 0, []) ⟨by simp, by simp, by simp, rfl⟩ (.of_keep [0, 5, 6, 7, 25, 26, 27] rfl) ?_
    rintro ⟨i, at', ps⟩ ⟨hi, hat, hflat, hpl⟩
    simp only at hi hat hflat hpl
    have hrm := runs_many C start0 (b.take at')
    rw [List.length_take, Nat.min_eq_left hat, show start0.many = 0 from rfl, Nat.zero_add] at hrm
    have hdok := runs_ok hC.ok.1 start0_ok (b.take at')
    have hn1 := DC_norefs (runs C start0 (b.take at')).h (runs C start0 (b.take at')).rest (runs C start0 (b.take at')).many
    have hPl := PS_length ps
    refine awp_seq_k fun K hK => awp_region [] ?_
    simp only [K_eqs, K_ops, reduceCtorEq, Nat.reduceEqDiff, if_true, if_false, K_int, aint, d_ltn, Nat.reduceLT, K_nil, Then, true_and]
    refine hK _ ?_
    clear hK K
    refine awp_seq ?_
    refine awp_cond rfl rfl (fun h => ?_) (fun h => ?_)
    · have hlt : i < ss.length := of_decide_eq_true h
      refine awp_skip ?_
      simp only [Then]
      refine awp_keep [0, 5, 6, 7, 25, 26, 27] ?_
      simp only [keep_eqs, K_ops, Nat.reduceEqDiff, if_true, if_false]
      refine awp_seq ?_
      refine awp_block ?_
      obtain ⟨c, hc, hget⟩ : ∃ c : Nat, c < 256 ∧ (Bs (ss.drop i)).getD 0 .top = .val (.int .u8 (c : Int)) := by
        refine ⟨(ss.getD i 0).toNat, UInt8.toNat_lt _, ?_⟩
        rw [drop_consB ss i hlt]
        rfl
      have q1 : 0 < ss.length - i := by omega
      refine awp_seq_k fun K hK => awp_region [] ?_
      simp only [K_eqs, aidxAddr, K_ops, reduceCtorEq, Nat.reduceEqDiff, if_true, if_false, Tryd.underlying27, tszs, Bs_length, Nat.mul_one, Nat.reduceLT, and_true, true_and, Int.toNat_natCast, Bs_drop, aload, List.contains_nil, Bool.false_eq_true, apart, isAggD, Tryd.underlying5, K_nil, Then, List.length_drop, hget]
      refine ⟨⟨by omega, by omega⟩, q1, hK _ ?_⟩
      clear hK K
      refine awp_keep [0, 5, 6, 7, 9, 25, 26, 27] ?_
      simp only [keep_eqs, K_ops, Nat.reduceEqDiff, if_true, if_false]
      have hw1 : IntKind.i64.wrap (c : Int) = (c : Int) := n_i64 (by omega)
      have hw2 : IntKind.i64.wrap ((at' : Int) + (c : Int)) = ((at' + c : Nat) : Int) := by rw [← Int.natCast_add]; exact n_i64 (by omega)
      refine awp_seq_k fun K hK => awp_region [] ?_
      obtain ⟨to', ht1, ht2, hto⟩ : ∃ to' : Nat, at' ≤ to' ∧ to' ≤ b.length ∧ (if (b.length : Int) < ((at' + c : Nat) : Int) then (b.length : Int) else ((at' + c : Nat) : Int)) = (to' : Int) := by
        by_cases hlt' : (b.length : Int) < ((at' + c : Nat) : Int)
        · exact ⟨b.length, hat, Nat.le_refl _, if_pos hlt'⟩
        · exact ⟨at' + c, by omega, by omega, if_neg hlt'⟩
      simp only [K_eqs, Nat.reduceLT, K_ops, reduceCtorEq, Nat.reduceEqDiff, if_false, if_true, K_conv, Tryd.underlying3, List.contains_nil, Bool.false_eq_true, aconvO, aview, noref, aconv, Tryd.underlying5, Option.isSome_some, hw1, and_true, K_int, aint, hw2, abuiltin, List.map_cons, List.map_nil, alen, Tryd.underlying27, amin2, K_nil, Then, true_and, hto]
      refine hK _ ?_
      clear hK K
      refine awp_keep [0, 5, 6, 7, 10, 25, 26, 27] ?_
      simp only [keep_eqs, K_ops, Nat.reduceEqDiff, if_true, if_false]
      have hcl : ((b.drop at').take (to' - at')).length = to' - at' := by rw [List.length_take, List.length_drop]; omega
      have hcat := take_take_drop b ht1
      have cW := write_ok hC.ok (runs C start0 (b.take at')) hdok ((b.drop at').take (to' - at')) .no (by rw [hrm, hcl]; omega)
      rw [← runs_append, hcat, hcl] at cW
      have hn2 := DC_norefs (runs C start0 (b.take to')).h (runs C start0 (b.take to')).rest (runs C start0 (b.take to')).many
      generalize DC (runs C start0 (b.take at')).h (runs C start0 (b.take at')).rest (runs C start0 (b.take at')).many = D1 at *
      generalize hD2 : DC (runs C start0 (b.take to')).h (runs C start0 (b.take to')).rest (runs C start0 (b.take to')).many = D2 at *
      have e1 : ((to' : Int) - (at' : Int)).toNat = to' - at' := by omega
      refine awp_seq_k fun K hK => awp_region [1000043] ?_
      simp only [K_eqs, Nat.reduceLT, K_ops, reduceCtorEq, Nat.reduceEqDiff, if_false, if_true, aslice, bopt, Option.map_some, Option.map_none, Tryd.underlying27, tszs, Bs_length, Nat.mul_one, lowOf, highOf, Int.le_refl, ne_eq, not_false_eq_true, true_and, true_or, and_true, e1, Int.toNat_natCast, Bs_drop, Bs_take, sliceP, K_call, Nat.reduceAdd, List.contains_cons, beq_self_eq_true, List.contains_nil, Bool.or_false, List.map_cons, List.map_nil, Nat.reduceBEq, Bool.false_eq_true, aviews, aview, ntok, List.tail_cons, List.headD_cons]
      refine ⟨⟨by omega, by omega, by omega⟩, ?_⟩
      refine andH_one (v' := .tup []) 0 (.cells D1) rfl (by simpa [objOk] using hn1) (by simp [hviews, hview, norefs_Bs, ntok]) cW (by simp [objOk, hn2]) (by simp [hres, noref, norefs]) ?_
      simp only [List.set_cons_zero, List.append_nil, RestH_eqs, K_nil, Then]
      refine hK _ ?_
      clear hK K
      refine awp_keep [0, 5, 6, 7, 10, 25, 26, 27] ?_
      simp only [keep_eqs, K_ops, Nat.reduceEqDiff, if_true, if_false]
      have hz1 : zrep [Value.slice none 0 0] 1 = [cav (.slice none 0 0)] := rfl
      have hP1 : ∀ (n : Nat) (q : List UInt8), n = q.length → PS ps ++ [AV.sl n (Bs q) .no] = PS (ps ++ [q]) := fun n q hn => by rw [PS_append, PS_one, hn]
      refine awp_seq_k fun K hK => awp_region [] ?_
      simp only [K_eqs, Nat.reduceLT, K_ops, reduceCtorEq, Nat.reduceEqDiff, if_false, if_true, aslice, bopt, Option.map_some, Option.map_none, Tryd.underlying27, tszs, Bs_length, Nat.mul_one, lowOf, highOf, Int.le_refl, ne_eq, not_false_eq_true, true_and, true_or, and_true, e1, Int.toNat_natCast, Bs_drop, Bs_take, sliceP, List.contains_nil, Bool.false_eq_true, abuildOwn, Tryd.underlying45, tzeros, hz1, cav, aparts, List.map_cons, List.map_nil, afill, spl, List.take_zero, acells, List.nil_append, Nat.zero_add, List.length_cons, List.length_nil, Nat.le_refl, Nat.reduceLeDiff, Nat.reduceAdd, List.cons_append, abuildSlice, abuiltin, aappend, tbys, appSrc, srcCells, List.getElem?_cons_succ, List.getElem?_cons_zero, hPl, List.set_cons_succ, List.set_cons_zero, K_nil, Then, List.all_cons, oneC, List.all_nil, Bool.and_true, List.drop_succ_cons, List.drop_nil, List.append_nil, hP1 _ _ hcl.symm]
      refine ⟨⟨by omega, by omega, by omega⟩, ⟨by omega, by omega⟩, hK _ ?_⟩
      clear hK K
      refine awp_keep [0, 5, 7, 10, 25, 26, 27] ?_
      simp only [keep_eqs, K_ops, Nat.reduceEqDiff, if_true, if_false]
      refine awp_region [] ?_
      simp only [K_eqs, Nat.reduceLT, K_ops, reduceCtorEq, Nat.reduceEqDiff, if_false, if_true, K_nil, true_and]
      simp only [InBlock, Then]
      refine awp_keep [0, 5, 6, 7, 25, 26, 27] ?_
      simp only [keep_eqs, K_ops, Nat.reduceEqDiff, if_true, if_false]
      have h6 : IntKind.i64.wrap ((i + 1 : Nat) : Int) = ((i + 1 : Nat) : Int) := n_i64 (by omega)
      refine awp_region [] ?_
      simp only [K_eqs, K_ops, reduceCtorEq, Nat.reduceEqDiff, if_true, if_false, cav, K_int, aint, n_add, h6, Nat.reduceLT, K_nil, Then, true_and]
      subst hD2
      exact ⟨(i + 1, to', ps ++ [(b.drop at').take (to' - at')]), ⟨by simp only; omega, ht2, by simp only [List.flatten_append, hflat, List.flatten_cons, List.flatten_nil, List.append_nil]; exact hcat, by simp [hpl]⟩, by simp only; omega, by simp only [List.length_append, List.length_cons, List.length_nil, Nat.zero_add]; exact .of_keep [0, 5, 6, 7, 25, 26, 27] rfl⟩
    · have he : i = ss.length := by have := of_decide_eq_false h; omega
      refine awp_exit ?_
      simp only [Then, InBlock, if_true]
      refine hK1 _ ?_
      clear hK1 K1
      refine awp_keep [0, 5, 6, 7] ?_
      simp only [keep_eqs, K_ops, Nat.reduceEqDiff, if_true, if_false]
      have hps : ps.length ≤ 200 := by omega
      have hcl : (b.drop at').length = b.length - at' := List.length_drop
      have hcat : b.take at' ++ b.drop at' = b := List.take_append_drop _ _
      have cW := write_ok hC.ok (runs C start0 (b.take at')) hdok (b.drop at') .no (by rw [hrm, hcl]; omega)
      rw [← runs_append, hcat, hcl] at cW
      have hn2 := DC_norefs (runs C start0 b).h (runs C start0 b).rest (runs C start0 b).many
      have hrb := runs_many C start0 b
      rw [show start0.many = 0 from rfl, Nat.zero_add] at hrb
      have cS := sum_dok hC.ok (runs C start0 b) (runs_ok hC.ok.1 start0_ok b) (by rw [hrb]; omega)
      have cO1 := of_dok hC.ok [b] .full (by simp; omega) (by simp)
      have hfl2 : (ps ++ [b.drop at']).flatten = b := by simp [List.flatten_append, hflat]
      have cO2 := of_dok hC.ok (ps ++ [b.drop at']) .no (by rw [hfl2]; omega) (by simp; omega)
      rw [hfl2] at cO2
      rw [show ([b] : List (List UInt8)).flatten = b by simp] at cO1
      rw [show sumB C (runs C start0 b) = shaB C b from rfl] at cS
      have hsl : (shaB C b).length = 32 := sumB_length hC.ok _ (runs_ok hC.ok.1 start0_ok b)
      generalize shaB C b = S at *
      generalize DC (runs C start0 (b.take at')).h (runs C start0 (b.take at')).rest (runs C start0 (b.take at')).many = D1 at *
      generalize DC (runs C start0 b).h (runs C start0 b).rest (runs C start0 b).many = D2 at *
      have e1 : ((b.length : Int) - (at' : Int)).toNat = b.length - at' := by omega
      have e2 : (b.drop at').take (b.length - at') = b.drop at' := List.take_of_length_le (by omega)
      refine awp_seq_k fun K hK => awp_region [1000057] ?_
      simp only [K_eqs, Nat.reduceLT, K_ops, reduceCtorEq, Nat.reduceEqDiff, if_false, if_true, aslice, bopt, Option.map_some, Option.map_none, Tryd.underlying27, tszs, Bs_length, Nat.mul_one, lowOf, highOf, Int.le_refl, ne_eq, not_true_eq_false, and_true, or_false, true_and, e1, Int.toNat_natCast, Bs_drop, Bs_take, e2, sliceP, K_call, Nat.reduceAdd, List.contains_cons, beq_self_eq_true, List.contains_nil, Bool.or_false, List.map_cons, List.map_nil, Nat.reduceBEq, Bool.false_eq_true, aviews, aview, ntok, List.tail_cons, List.headD_cons]
      refine ⟨by omega, ?_⟩
      refine andH_one (v' := .tup []) 0 (.cells D1) rfl (by simpa [objOk] using hn1) (by simp [hviews, hview, norefs_Bs, ntok]) cW (by simp [objOk, hn2]) (by simp [hres, noref, norefs]) ?_
      simp only [List.set_cons_zero, List.append_nil, RestH_eqs, K_nil, Then]
      refine hK _ ?_
      clear hK K
      refine awp_keep [0, 5, 6, 7] ?_
      simp only [keep_eqs, K_ops, Nat.reduceEqDiff, if_true, if_false]
      have hz1 : zrep [Value.slice none 0 0] 1 = [cav (.slice none 0 0)] := rfl
      have hP1 : ∀ (n : Nat) (q : List UInt8), n = q.length → PS ps ++ [AV.sl n (Bs q) .no] = PS (ps ++ [q]) := fun n q hn => by rw [PS_append, PS_one, hn]
      refine awp_seq_k fun K hK => awp_region [] ?_
      simp only [K_eqs, Nat.reduceLT, K_ops, reduceCtorEq, Nat.reduceEqDiff, if_true, if_false, aslice, bopt, Option.map_some, Option.map_none, Tryd.underlying27, tszs, Bs_length, Nat.mul_one, lowOf, highOf, Int.le_refl, ne_eq, not_true_eq_false, and_true, or_false, true_and, e1, Int.toNat_natCast, Bs_drop, Bs_take, e2, sliceP, List.contains_nil, Bool.false_eq_true, abuildOwn, Tryd.underlying45, tzeros, hz1, cav, aparts, List.map_cons, List.map_nil, afill, spl, List.take_zero, acells, List.nil_append, Nat.zero_add, List.length_cons, List.length_nil, Nat.le_refl, Nat.reduceLeDiff, Nat.reduceAdd, List.cons_append, abuildSlice, abuiltin, aappend, tbys, appSrc, srcCells, List.getElem?_cons_succ, List.getElem?_cons_zero, hPl, List.set_cons_succ, List.set_cons_zero, K_nil, Then, List.all_cons, oneC, List.all_nil, Bool.and_true, List.drop_succ_cons, List.drop_nil, List.append_nil, hP1 _ _ hcl.symm]
      refine ⟨by omega, ⟨by omega, by omega⟩, hK _ ?_⟩
      clear hK K
      refine awp_keep [0, 5, 7] ?_
      simp only [keep_eqs, K_ops, Nat.reduceEqDiff, if_true, if_false]
      refine awp_seq_k fun K hK => awp_region [1000065] ?_
      simp only [K_eqs, Nat.reduceLT, K_ops, reduceCtorEq, Nat.reduceEqDiff, if_false, if_true, K_call, Nat.reduceAdd, List.contains_cons, beq_self_eq_true, List.contains_nil, Bool.or_false, List.map_cons, List.map_nil, Nat.reduceBEq, Bool.false_eq_true, aviews, aview, true_and]
      refine andH_one (v' := .agg (Bs S)) 0 (.cells D2) rfl (by simpa [objOk] using hn2) (by simp [hviews, hview]) cS (by simp [objOk, hn2]) (by simp [hres, noref, norefs_Bs]) ?_
      simp only [List.set_cons_zero, List.append_nil, RestH_eqs, K_eqs, Nat.reduceLT, K_ops, reduceCtorEq, if_false, if_true, List.contains_cons, Nat.reduceBEq, List.contains_nil, Bool.or_false, Bool.false_eq_true, abuildOwn, Tryd.underlying45, tszs, tzeros, Nat.mul_one, hz1, cav, aparts, List.map_cons, Nat.reduceEqDiff, List.map_nil, afill, spl, List.take_zero, acells, List.nil_append, List.length_cons, List.length_nil, Nat.zero_add, List.drop_succ_cons, List.drop_nil, Nat.le_refl, List.all_cons, oneC, List.all_nil, Bool.and_true, and_true, Nat.reduceLeDiff, Nat.reduceAdd, List.cons_append, abuildSlice, K_call, aviews, aview, norefs, noref, norefs_Bs, ntok, true_and]
      refine andC_eq (by simp [norefs, noref, norefs_Bs]) cO1 (by simp [noref, norefs_Bs, flat, flats_Bs]) ?_
      simp only [RestC_eqs, K_eqs, K_ops, Nat.reduceEqDiff, reduceCtorEq, if_false, if_true, K_int, aagg, aggCmp, Tryd.underlying47, tgrds, tszs, Bs_length, hsl, true_and, aggEq_Bs, beq_self_eq_true, Nat.reduceLT, gval, gslot, List.getElem?_toArray, List.getElem?_cons_succ, List.getElem?_cons_zero, Option.bind_some, gdec_eqs, K_gT, gok, K_call, Nat.reduceAdd, List.contains_cons, Nat.reduceBEq, List.contains_nil, Bool.or_false, Bool.false_eq_true, List.map_cons, List.map_nil, aviews, aview, ntok, and_true]
      refine ⟨all2_Bs Tryd.underlying5 S S rfl, ?_⟩
      rw [show (ps ++ [b.drop at']).length = ps.length + 1 by simp] at cO2
      refine andC_eq (by simp [norefs_PS]) cO2 (by simp [noref, norefs_Bs, flat, flats_Bs]) ?_
      simp only [RestC_eqs, gval, gslot, List.getElem?_toArray, List.getElem?_cons_succ, List.getElem?_cons_zero, Option.bind_some, K_ops, Nat.reduceEqDiff, reduceCtorEq, if_false, if_true, gdec_eqs, K_gT, gok, Nat.reduceLT, K_eqs, List.contains_cons, Nat.reduceBEq, List.contains_nil, Bool.or_false, Bool.false_eq_true, abuildOwn, Tryd.underlying45, tszs, tzeros, Nat.mul_one, hz1, cav, aparts, List.map_cons, List.map_nil, afill, spl, List.take_zero, acells, List.nil_append, List.length_cons, List.length_nil, Nat.zero_add, List.drop_succ_cons, List.drop_nil, List.append_nil, Nat.le_refl, List.all_cons, oneC, List.all_nil, Bool.and_true, and_true, Nat.reduceLeDiff, Nat.reduceAdd, List.cons_append, abuildSlice, K_call, aviews, aview, norefs, noref, norefs_Bs, ntok, true_and]
      refine andC_eq (by simp [norefs, noref, norefs_Bs]) cO1 (by simp [noref, norefs_Bs, flat, flats_Bs]) ?_
      simp only [RestC_eqs, gval, gslot, List.getElem?_toArray, List.getElem?_cons_succ, List.getElem?_cons_zero, Option.bind_some, K_ops, Nat.reduceEqDiff, reduceCtorEq, if_false, if_true, gdec_eqs, K_gT, gok, Nat.reduceLT, K_eqs, K_int, aagg, aggCmp, Tryd.underlying47, tgrds, tszs, Bs_length, hsl, true_and, aggEq_Bs, beq_self_eq_true, apick, cav, K_nil, Then]
      refine ⟨all2_Bs Tryd.underlying5 S S rfl, hK _ ?_⟩
      clear hK K
      refine awp_keep [4] ?_
      simp only [keep_eqs, K_ops, Nat.reduceEqDiff, if_true, if_false]
      refine awp_ret ?_
      simp only [K_fin, ares, aress, ares1, afin, K_ops, if_true, noref, and_true, true_and]
  by_cases h1 : 2000 < b.length
  · have hd : decide (2000 < b.length) = true := decide_eq_true h1
    refine awp_region [] ?_
    simp only [K_eqs, Nat.reduceLT, K_ops, reduceCtorEq, if_false, if_true, abuiltin, List.map_cons, Nat.reduceEqDiff, List.map_nil, alen, Tryd.underlying27, cav, true_and, K_int, aint, d_gt, hd, gval, gslot, List.getElem?_toArray, List.getElem?_cons_succ, List.getElem?_cons_zero, Option.bind_some, gdec_eqs, K_gF, gok, apick, K_nil, Then]
    refine next _ _ ?_ (.of_keep [20, 0, 1] rfl)
    simp [h1]
  · have hd : decide (2000 < b.length) = false := decide_eq_false h1
    refine awp_region [] ?_
    simp only [K_eqs, Nat.reduceLT, K_ops, reduceCtorEq, if_false, if_true, abuiltin, List.map_cons, Nat.reduceEqDiff, List.map_nil, alen, Tryd.underlying27, cav, true_and, K_int, aint, d_gt, hd, gval, gslot, List.getElem?_toArray, List.getElem?_cons_succ, List.getElem?_cons_zero, Option.bind_some, gdec_eqs, Bool.not_false, K_gT, gok, apick, K_nil, Then, Bool.false_eq_true]
    refine next _ _ ?_ (.of_keep [20, 0, 1] rfl)
    simp [h1]
end Go.Proofs.YtjdlgbkpdfaloaaDoor
