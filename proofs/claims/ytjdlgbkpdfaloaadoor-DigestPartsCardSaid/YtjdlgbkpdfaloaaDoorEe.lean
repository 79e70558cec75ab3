/- The sum of 'abc'. -/
import Derived.Test.YtjdlgbkpdfaloaaDoorEd
import Derived.Test.YtjdlgbkpdfaloaaDoorPe
namespace Go.Proofs.YtjdlgbkpdfaloaaDoor
open Go Go.V
set_option linter.unusedSimpArgs false
set_option linter.unusedVariables false

/-- The eight words behind a block. -/
def Cq (h : List Nat) (b : List UInt8) : List Nat := adds (rounds h Kn (word b) 64) h
theorem Cq_words (h : List Nat) (b : List UInt8) (hw : words8 h) : words8 (Cq h b) := by
  obtain ⟨a0, a1, a2, a3, a4, a5, a6, a7, rfl, _⟩ := hw
  obtain ⟨c0, c1, c2, c3, c4, c5, c6, c7, hr, _⟩ := rounds_words (s := [a0, a1, a2, a3, a4, a5, a6, a7]) ⟨_, _, _, _, _, _, _, _, rfl, ‹_›⟩ Kn (word b) 64
  unfold Cq
  rw [hr]
  generalize word b = W
  exact ⟨_, _, _, _, _, _, _, _, rfl, Nat.mod_lt _ (by omega), Nat.mod_lt _ (by omega), Nat.mod_lt _ (by omega), Nat.mod_lt _ (by omega), Nat.mod_lt _ (by omega), Nat.mod_lt _ (by omega), Nat.mod_lt _ (by omega), Nat.mod_lt _ (by omega)⟩
theorem Cq_ok : COk Cq := ⟨fun h b hw _ => Cq_words h b hw, fun h b hw hb => comp_ok h b hw hb⟩
def abcF : List Nat := [3128432319, 2399260650, 1094795486, 1571693091, 2953011619, 2518121116, 3021012833, 4060091821]
theorem Cq_abc : Cq start8 abcB = abcF := abc_sum

/-- What is to be shown of a block's words. -/
structure CAll (C : List Nat → List UInt8 → List Nat) : Prop where
  ok : COk C
  abc : C start8 abcB = abcF
theorem Cq_all : CAll Cq := ⟨Cq_ok, Cq_abc⟩

/-- The sum as the document has it: all bytes at once. -/
def refB (C : List Nat → List UInt8 → List Nat) (l : List UInt8) : List UInt8 := (blocks C start8 (l ++ padL l.length) ((l ++ padL l.length).length / 64)).flatMap be4
theorem shaB_ref (C : List Nat → List UInt8 → List Nat) (l : List UInt8) : shaB C l = refB C l := by
  have hm : (runs C start0 l).many = l.length := by rw [runs_many]; simp [start0]
  unfold shaB sumB refB
  rw [hm, ← runs_append, ← (runs_blocks (C := C) start8 (List.replicate 64 0) rfl (l ++ padL l.length)).1]
  rfl
def abcD : List UInt8 := [0xba, 0x78, 0x16, 0xbf, 0x8f, 0x01, 0xcf, 0xea, 0x41, 0x41, 0x40, 0xde, 0x5d, 0xae, 0x22, 0x23, 0xb0, 0x03, 0x61, 0xa3, 0x96, 0x17, 0x7a, 0x9c, 0xb4, 0x10, 0xff, 0x61, 0xf2, 0x00, 0x15, 0xad]
theorem sha_abc {C : List Nat → List UInt8 → List Nat} (hC : CAll C) : shaB C [97, 98, 99] = abcD := by
  have e : ([97, 98, 99] : List UInt8) ++ padL ([97, 98, 99] : List UInt8).length = abcB := by decide +kernel
  have e2 : abcB.length / 64 = 1 := by decide +kernel
  rw [shaB_ref, refB, e, e2]
  show (C start8 ((abcB.drop (64 * 0)).take 64)).flatMap be4 = _
  rw [show (abcB.drop (64 * 0)).take 64 = abcB by decide +kernel, hC.abc]
  decide +kernel

theorem dalive_ok {C : List Nat → List UInt8 → List Nat} (hC : CAll C) : ACalls Tryd.prog GP 35 [] [] (fun r os => os = [] ∧ r = .val (.bool true)) := by
  have cO := of_dok hC.ok [[97, 98, 99]] .full (by decide) (by decide)
  rw [show ([[97, 98, 99]] : List (List UInt8)).flatten = [97, 98, 99] from rfl, sha_abc hC, PS_one] at cO
  obtain ⟨z, hz, hzl⟩ : ∃ z : List UInt8, (zvs .u8 32).map cav = Bs z ∧ z.length = 32 := ⟨List.replicate 32 0, by simp [zvs, Bs, B, cav], by simp⟩
  have zd : z.drop 32 = [] := List.drop_eq_nil_of_le (by omega)
  have hdl : abcD.length = 32 := rfl
  have hd32 : abcD.take 32 = abcD := rfl
  refine acalls_of_awp Tryd.func35 rfl rfl Tryd.ntmps35 (rts := #[4]) rfl Tryd.results35 (by simp) ?_
  simp only [argSlots, Nat.reduceAdd]
  refine awp_seq_k fun K hK => awp_region [] ?_
  simp only [K_eqs, Nat.reduceLT, K_ops, cav, K_nil, Then, true_and]
  (repeat' apply And.intro) <;> try (first | exact True.intro | omega)
  refine hK _ ?_
  clear hK K
  refine awp_seq_k fun K hK => ?_
  have hb : match abuildOwn Tryd.prog 27 3 (aparts (ev GP [(0, AV.val (Value.bool false))]) #[(0, Operand.const (Value.int IntKind.u8 97)), (1, Operand.const (Value.int IntKind.u8 98)), (2, Operand.const (Value.int IntKind.u8 99))]) [] with
    | .ok C v os => C ∧ v = .osl 0 0 3 (some 3) ∧ os = [.cells [B 97, B 98, B 99]]
    | .bad => False := by
    have hz3 : zrep [Value.int IntKind.u8 0] 3 = [AV.val (.int .u8 0), AV.val (.int .u8 0), AV.val (.int .u8 0)] := rfl
    simp only [abuildOwn, Tryd.underlying27, tszs, tzeros, Nat.mul_one, hz3, aparts, List.map_cons, K_ops, cav, List.map_nil, afill, spl, List.take_zero, acells, List.nil_append, List.length_cons, List.length_nil, Nat.zero_add, List.drop_succ_cons, List.drop_zero, List.cons_append, List.take_succ_cons, Nat.reduceAdd, List.drop_nil, List.append_nil, Nat.le_refl, List.all_cons, oneC, Value.oneCell', List.all_nil, Bool.and_true, and_true, Nat.reduceLeDiff, B, UInt8.reduceToNat, Int.cast_ofNat_Int]
  obtain ⟨C', hb, hC'⟩ : ∃ C, abuildOwn Tryd.prog 27 3 (aparts (ev GP [(0, AV.val (Value.bool false))]) #[(0, Operand.const (Value.int IntKind.u8 97)), (1, Operand.const (Value.int IntKind.u8 98)), (2, Operand.const (Value.int IntKind.u8 99))]) [] = .ok C (.osl 0 0 3 (some 3)) [.cells [B 97, B 98, B 99]] ∧ C := by
    revert hb
    generalize abuildOwn Tryd.prog 27 3 (aparts (ev GP [(0, AV.val (Value.bool false))]) #[(0, Operand.const (Value.int IntKind.u8 97)), (1, Operand.const (Value.int IntKind.u8 98)), (2, Operand.const (Value.int IntKind.u8 99))]) [] = r
    cases r with
    | ok C v os =>
      rintro ⟨h1, rfl, rfl⟩
      exact ⟨C, rfl, h1⟩
    | bad => exact False.elim
  refine awp_region_conv [] (c := B 97) (cs := [B 98, B 99]) Tryd.underlying27 Tryd.underlying5 (by omega) (by omega) (by omega) hb hC' rfl ?_
  have hz1 : zrep [Value.slice none 0 0] 1 = [cav (.slice none 0 0)] := rfl
  have hbs : Bs [97, 98, 99] = [.val (.int .u8 97), .val (.int .u8 98), .val (.int .u8 99)] := rfl
  rw [hbs] at cO
  simp only [B, UInt8.reduceToNat, Int.cast_ofNat_Int, List.length_nil, List.nil_append, K_eqs, List.contains_nil, Bool.false_eq_true, abuildOwn, Tryd.underlying45, tszs, tzeros, Nat.mul_one, hz1, cav, aparts, List.map_cons, K_ops, Nat.reduceEqDiff, reduceCtorEq, if_false, if_true, List.map_nil, afill, spl, List.take_zero, acells, List.length_cons, Nat.zero_add, List.drop_succ_cons, List.drop_nil, List.append_nil, Nat.le_refl, List.all_cons, oneC, List.all_nil, Bool.and_true, and_true, Nat.reduceLeDiff, List.cons_append, abuildSlice, Nat.reduceLT, K_call, Nat.reduceAdd, aviews, aview, norefs, noref, ntok, Bool.or_false, true_and]
  refine andC_eq (by simp [norefs, noref]) cO (by simp [noref, norefs_Bs, flat, flats_Bs]) ?_
  have hZ : (Z 32).drop 32 = [] := List.drop_eq_nil_of_le (by rw [Z_length]; exact Nat.le_refl _)
  simp only [RestC_eqs, K_eqs, aalloc, tzeros, List.length_cons, List.length_nil, Nat.zero_add, zvs_u8, List.cons_append, List.nil_append, Nat.reduceLT, K_store, astore, K_ops, Nat.reduceEqDiff, reduceCtorEq, if_false, if_true, tszs, acells, Bs_one, Bs_length, hdl, and_true, spl, K_nil, Then, true_and, List.getElem?_cons_succ, List.getElem?_cons_zero, Z_length, Nat.le_refl, List.take_zero, Bs_drop, hZ, Bs_nil, List.append_nil, List.set_cons_succ, List.set_cons_zero]
  refine hK _ ?_
  clear hK K
  refine awp_keep [0, 1] ?_
  simp only [keep_eqs, K_ops, Nat.reduceEqDiff, if_true, if_false]
  have hlit : [AV.val (.int .u8 186), AV.val (.int .u8 120), AV.val (.int .u8 22), AV.val (.int .u8 191), AV.val (.int .u8 143), AV.val (.int .u8 1), AV.val (.int .u8 207), AV.val (.int .u8 234), AV.val (.int .u8 65), AV.val (.int .u8 65), AV.val (.int .u8 64), AV.val (.int .u8 222), AV.val (.int .u8 93), AV.val (.int .u8 174), AV.val (.int .u8 34), AV.val (.int .u8 35), AV.val (.int .u8 176), AV.val (.int .u8 3), AV.val (.int .u8 97), AV.val (.int .u8 163), AV.val (.int .u8 150), AV.val (.int .u8 23), AV.val (.int .u8 122), AV.val (.int .u8 156), AV.val (.int .u8 180), AV.val (.int .u8 16), AV.val (.int .u8 255), AV.val (.int .u8 97), AV.val (.int .u8 242), AV.val (.int .u8 0), AV.val (.int .u8 21), AV.val (.int .u8 173)] = Bs abcD := rfl
  refine awp_seq_k fun K hK => awp_region [] ?_
  simp only [K_eqs, aload, K_ops, reduceCtorEq, if_true, if_false, List.contains_nil, Bool.false_eq_true, List.getElem?_cons_succ, List.getElem?_cons_zero, apart, isAggD, Tryd.underlying47, tszs, Nat.zero_add, Bs_length, hdl, Nat.le_refl, List.drop_zero, Bs_take, hd32, Nat.reduceLT, abuild, tzeros, Nat.mul_one, zvs_u8, aparts, List.map_cons, cav, List.map_nil, afill, spl, List.take_zero, acells, List.nil_append, List.length_cons, List.length_nil, Bs_drop, List.cons_append, List.take_succ_cons, Nat.reduceAdd, List.drop_succ_cons, List.drop_drop, hlit, hZ, Bs_nil, List.append_nil, List.length_drop, Z_length, Nat.reduceSub, List.all_cons, oneC, Value.oneCell', List.all_nil, Bool.and_true, and_true, Nat.reduceLeDiff, Nat.reduceEqDiff, K_nil, Then, true_and, K_int, aagg, aggCmp, tgrds, aggEq_Bs, beq_self_eq_true]
  refine ⟨by kernel_rfl, hK _ ?_⟩
  clear hK K
  refine awp_keep [0] ?_
  simp only [keep_eqs, K_ops, Nat.reduceEqDiff, if_true, if_false]
  refine awp_ret ?_
  simp only [K_fin, ares, aress, ares1, afin, K_ops, if_true, noref, and_true, true_and]
end Go.Proofs.YtjdlgbkpdfaloaaDoor
