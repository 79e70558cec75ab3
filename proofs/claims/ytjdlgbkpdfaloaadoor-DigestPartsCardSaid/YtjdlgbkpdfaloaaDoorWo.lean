/- The walks of layer 1 (word), second part. -/
import Derived.Test.YtjdlgbkpdfaloaaDoorWl
namespace Go.Proofs.YtjdlgbkpdfaloaaDoor
open Go Go.V
set_option linter.unusedSimpArgs false
set_option linter.unusedVariables false

theorem get_ok (b : List UInt8) (p : Perm) : ACalls Tryd.prog [] 16 [.sl b.length (Bs b) p] [] (fun r os => os = [] ∧ r = .val (.int .u32 (gw b : Int))) := by
  refine acalls_of_awp Tryd.func16 rfl rfl Tryd.ntmps16 (rts := #[23]) rfl Tryd.results16 (by simp) ?_
  simp only [argSlots, Nat.reduceAdd]
  refine awp_seq_k fun K hK => awp_region [] ?_
  simp only [K_eqs, Nat.reduceLT, K_ops, cav, K_nil, Then, true_and]
  (repeat' apply And.intro) <;> try (first | exact True.intro | omega)
  refine hK _ ?_
  clear hK K
  refine awp_seq_k fun K hK => awp_region [] ?_
  simp only [K_eqs, aalloc, tzeros, List.length_nil, List.map_cons, cav, List.map_nil, List.nil_append, Nat.reduceLT, K_nil, Then, true_and, K_ops]
  (repeat' apply And.intro) <;> try (first | exact True.intro | omega)
  refine hK _ ?_
  clear hK K
  refine awp_keep [0, 3] ?_
  simp only [keep_eqs, K_ops, Nat.reduceEqDiff, if_true, if_false]
  refine awp_seq_k fun K hK => awp_region [] ?_
  simp only [K_eqs, aslice, bopt, Option.map_none, Tryd.underlying61, K_ops, reduceCtorEq, if_true, if_false, tszs, lowOf, Int.le_refl, highOf, Int.cast_ofNat_Int, Int.reduceLE, ne_eq, not_true_eq_false, or_false, and_true, Int.toNat_zero, Nat.mul_one, Nat.add_zero, Int.sub_zero, Int.reduceToNat, Nat.reduceLT, abuiltin, List.map_cons, Nat.reduceEqDiff, List.map_nil, acopy, Tryd.underlying27, srcCells, Bs_length, Nat.min_def, spl, K_nil, Then, true_and, List.getElem?_cons_zero, Nat.zero_add, List.length_cons, List.length_nil, Nat.reduceAdd, Bs_take, Bs_one, List.take_zero, List.nil_append, List.set_cons_zero]
  have key : (if 0 < if b.length ≤ 4 then b.length else 4 then
            [AObj.cells
                (Bs (List.take (if b.length ≤ 4 then b.length else 4) b) ++
                  List.drop (List.take (if b.length ≤ 4 then b.length else 4) b).length
                    [AV.val (Value.int IntKind.u8 0), AV.val (Value.int IntKind.u8 0), AV.val (Value.int IntKind.u8 0),
                      AV.val (Value.int IntKind.u8 0)])]
          else
            [AObj.cells
                [AV.val (Value.int IntKind.u8 0), AV.val (Value.int IntKind.u8 0), AV.val (Value.int IntKind.u8 0),
                  AV.val (Value.int IntKind.u8 0)]]) = [AObj.cells [B (b.getD 0 0), B (b.getD 1 0), B (b.getD 2 0), B (b.getD 3 0)]] := by
    by_cases h4 : 4 ≤ b.length
    · rw [show (if b.length ≤ 4 then b.length else 4) = 4 by split <;> omega]
      rcases b with _ | ⟨b0, _ | ⟨b1, _ | ⟨b2, _ | ⟨b3, r⟩⟩⟩⟩ <;> simp [Bs, B] at h4 ⊢
    · rw [show (if b.length ≤ 4 then b.length else 4) = b.length by split <;> omega]
      rcases b with _ | ⟨b0, _ | ⟨b1, _ | ⟨b2, _ | ⟨b3, r⟩⟩⟩⟩ <;> simp [Bs, B] at h4 ⊢
  rw [key]
  refine ⟨by split <;> omega, hK _ ?_⟩
  clear hK K key
  refine awp_keep [3] ?_
  simp only [keep_eqs, K_ops, Nat.reduceEqDiff, if_true, if_false]
  have h0 := (b.getD 0 0).toNat_lt
  have h1 := (b.getD 1 0).toNat_lt
  have h2 := (b.getD 2 0).toNat_lt
  have h3 := (b.getD 3 0).toNat_lt
  have hg := gw_word _ _ _ _ h0 h1 h2 h3
  have hl : ∀ n, n = (b.getD 0 0).toNat * 16777216 + (b.getD 1 0).toNat * 65536 + (b.getD 2 0).toNat * 256 + (b.getD 3 0).toNat → n = gw b := fun n h => h
  generalize gw b = g at hl ⊢
  generalize (b.getD 0 0) = b0 at *
  generalize (b.getD 1 0) = b1 at *
  generalize (b.getD 2 0) = b2 at *
  generalize (b.getD 3 0) = b3 at *
  rw [show [B b0, B b1, B b2, B b3] = Bs [b0, b1, b2, b3] from rfl]
  refine awp_seq_k fun K hK => awp_region [] ?_
  simp only [K_eqs, aidxAddr, K_ops, cav, Tryd.underlying61, if_true, tszs, Int.le_refl, Int.cast_ofNat_Int, Int.reduceLT, and_true, Int.toNat_zero, Nat.mul_one, Nat.add_zero, Nat.reduceLT, aload, Nat.reduceEqDiff, if_false, List.contains_nil, Bool.false_eq_true, apart, isAggD, Tryd.underlying5, K_conv, Tryd.underlying23, aconvO, aview, ntok, aconv, Option.isSome_some, Int.reduceLE, Int.reduceToNat, Nat.zero_add, K_nil, Then, true_and, List.getElem?_cons_zero, Bs_length, List.length_cons, List.length_nil, Nat.reduceAdd, Bs_getD, B, List.getD_cons_zero, n_u32, K_int, aint, IntKind.bits, Nat.min_def, Nat.reduceLeDiff, n_shl, List.getD_cons_succ, n_or32, hg, hl _ rfl]
  (repeat' apply And.intro) <;> try (first | exact True.intro | omega)
  refine hK _ ?_
  clear hK K
  refine awp_ret ?_
  simp only [K_fin, ares, aress, ares1, afin, K_ops, Nat.reduceEqDiff, if_false, if_true, noref, and_true, true_and]
end Go.Proofs.YtjdlgbkpdfaloaaDoor
