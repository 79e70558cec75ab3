/- The walk of WordBytes. -/
import Derived.Test.YtjdlgbkpdfaloaaDoorWl
import Derived.Test.YtjdlgbkpdfaloaaDoorWm
import Derived.Test.YtjdlgbkpdfaloaaDoorWn
import Derived.Test.YtjdlgbkpdfaloaaDoorWo
namespace Go.Proofs.YtjdlgbkpdfaloaaDoor
open Go Go.V
set_option linter.unusedSimpArgs false
set_option linter.unusedVariables false

/-- The four bytes as the document reads them, one by one. -/
def gwi (b : List UInt8) : Nat → Nat
  | 0 => 0
  | i + 1 => gwi b i * 256 + (b.getD i 0).toNat
theorem gwi4 (b : List UInt8) : gwi b 4 = gw b := by simp only [gwi, gw]; omega
theorem gwi_step (b : List UInt8) (i : Nat) (hi : i < 4) : gwi b i * 256 % 4294967296 = gwi b i * 256 ∧ (gwi b i * 256 + (b.getD i 0).toNat) % 4294967296 = gwi b (i + 1) := by
  have hb : ∀ j, gwi b j < 256 ^ j := by
    intro j
    induction j with
    | zero => simp [gwi]
    | succ j ih =>
      have := (b.getD j 0).toNat_lt
      simp only [gwi, Nat.pow_succ]
      omega
  have h := hb (i + 1)
  have h2 : 256 ^ (i + 1) ≤ 256 ^ 4 := Nat.pow_le_pow_right (by omega) (by omega)
  have e : gwi b (i + 1) = gwi b i * 256 + (b.getD i 0).toNat := rfl
  have h3 : 256 ^ 4 = 4294967296 := rfl
  rw [h3] at h2
  clear h3
  constructor
  · exact Nat.mod_eq_of_lt (by omega)
  · rw [← e]; exact Nat.mod_eq_of_lt (by omega)

theorem refget_ok (b : List UInt8) (p : Perm) (hb : b.length ≤ 9223372036854775807) : ACalls Tryd.prog [] 17 [.sl b.length (Bs b) p] [] (fun r os => os = [] ∧ r = .val (.int .u32 (gw b : Int))) := by
  refine acalls_of_awp Tryd.func17 rfl rfl Tryd.ntmps17 (rts := #[23]) rfl Tryd.results17 (by simp) ?_
  simp only [argSlots, Nat.reduceAdd]
  refine awp_seq_k fun K hK => awp_region [] ?_
  simp only [K_eqs, Nat.reduceLT, K_ops, cav, K_nil, Then, true_and]
  (repeat' apply And.intro) <;> try (first | exact True.intro | omega)
  refine hK _ ?_
  clear hK K
  refine awp_seq_k fun K hK => awp_region [] ?_
  simp only [K_eqs, Nat.reduceLT, K_ops, cav, K_nil, Then, true_and]
  (repeat' apply And.intro) <;> try (first | exact True.intro | omega)
  refine hK _ ?_
  clear hK K
  refine awp_seq_k fun K1 hK1 => ?_
  refine awp_seq_k fun K hK => awp_region [] ?_
  simp only [K_eqs, Nat.reduceLT, K_ops, cav, K_nil, Then, true_and]
  (repeat' apply And.intro) <;> try (first | exact True.intro | omega)
  refine hK _ ?_
  clear hK K
  refine awp_keep [0, 3, 4] ?_
  simp only [keep_eqs, K_ops, Nat.reduceEqDiff, if_true, if_false]
  refine awp_block ?_
  refine awp_loop_from (fun i : Nat => ⟨23, [(0, .sl b.length (Bs b) p), (3, .val (.int .u32 (gwi b i : Int))), (4, .val (.int .i64 (i : Int)))], []⟩)
    (fun i => i ≤ 4) (fun i => 4 - i) 0 (by omega) (.of_keep [0, 3, 4] rfl) ?_
  intro i hi
  refine awp_seq_k fun K2 hK2 => ?_
  refine awp_seq_k fun K hK => awp_region [] ?_
  simp only [K_eqs, Nat.reduceLT, K_ops, reduceCtorEq, Nat.reduceEqDiff, if_true, if_false, cav, K_int, aint, d_lt, K_nil, Then, true_and]
  (repeat' apply And.intro) <;> try (first | exact True.intro | omega)
  refine hK _ ?_
  clear hK K
  refine awp_cond rfl rfl (fun h => ?_) (fun h => ?_)
  · have hlt : i < 4 := of_decide_eq_true h
    refine awp_skip (hK2 _ ?_)
    clear hK2 K2
    refine awp_keep [0, 3, 4] ?_
    simp only [keep_eqs, K_ops, Nat.reduceEqDiff, if_true, if_false]
    refine awp_seq ?_
    refine awp_block ?_
    obtain ⟨s1, s2⟩ := gwi_step b i hlt
    refine awp_seq_k fun K hK => awp_region [] ?_
    simp only [K_eqs, Nat.reduceLT, K_ops, reduceCtorEq, Nat.reduceEqDiff, if_false, if_true, cav, K_int, aint, n_mul, n_u32, s1, K_nil, Then, true_and]
    (repeat' apply And.intro) <;> try (first | exact True.intro | omega)
    refine hK _ ?_
    clear hK K
    refine awp_seq_k fun K hK => awp_region [] ?_
    simp only [K_eqs, Nat.reduceLT, K_ops, Nat.reduceEqDiff, reduceCtorEq, if_true, if_false, abuiltin, List.map_cons, List.map_nil, alen, Tryd.underlying27, K_nil, Then, true_and, K_int, aint, d_ltn]
    refine hK _ ?_
    clear hK K
    by_cases hlen : i < b.length
    · refine awp_condT (by simp only [K_ops, lk, hlen, decide_true]; rfl) ?_
      have hpos : 0 < b.length - i := by omega
      have hm : (b.getD i 0).toNat % 4294967296 = (b.getD i 0).toNat := Nat.mod_eq_of_lt (Nat.lt_of_lt_of_le (b.getD i 0).toNat_lt (by decide))
      refine awp_keep [0, 3, 4] ?_
      simp only [keep_eqs, K_ops, Nat.reduceEqDiff, if_true, if_false]
      refine awp_region [] ?_
      simp only [K_eqs, Nat.reduceLT, K_ops, reduceCtorEq, Nat.reduceEqDiff, if_false, if_true, aidxAddr, Tryd.underlying27, tszs, Bs_length, Nat.mul_one, and_true, true_and, Int.toNat_natCast, Bs_drop, aload, List.contains_nil, Bool.false_eq_true, apart, isAggD, Tryd.underlying5, K_conv, Tryd.underlying23, aconvO, aview, ntok, aconv, Option.isSome_some, K_nil, List.length_drop, hpos, Bs_getD, B, drop_getD, Nat.add_zero, n_u32, hm, K_int, aint, n_addn, s2]
      refine ⟨⟨by omega, by omega⟩, ?_⟩
      simp only [InBlock, Then]
      refine awp_keep [0, 3, 4] ?_
      simp only [keep_eqs, K_ops, Nat.reduceEqDiff, if_true, if_false]
      have h6 : IntKind.i64.wrap ((i + 1 : Nat) : Int) = ((i + 1 : Nat) : Int) := n_i64 (by omega)
      refine awp_region [] ?_
      simp only [K_eqs, Nat.reduceLT, K_ops, reduceCtorEq, Nat.reduceEqDiff, if_true, if_false, cav, K_int, aint, n_add, h6, K_nil, Then, true_and]
      refine ⟨i + 1, by omega, by omega, .of_keep [0, 3, 4] rfl⟩
    · refine awp_condF (by simp only [K_ops, lk, hlen, decide_false]; rfl) (awp_skip ?_)
      have hz : gwi b i * 256 = gwi b (i + 1) := by
        show _ = gwi b i * 256 + (b.getD i 0).toNat
        rw [List.getD_eq_getElem?_getD, List.getElem?_eq_none (by omega)]
        exact (Nat.add_zero _).symm
      rw [hz]
      simp only [InBlock, Then]
      refine awp_keep [0, 3, 4] ?_
      simp only [keep_eqs, K_ops, Nat.reduceEqDiff, if_true, if_false]
      have h6 : IntKind.i64.wrap ((i + 1 : Nat) : Int) = ((i + 1 : Nat) : Int) := n_i64 (by omega)
      refine awp_region [] ?_
      simp only [K_eqs, Nat.reduceLT, K_ops, reduceCtorEq, Nat.reduceEqDiff, if_true, if_false, cav, K_int, aint, n_add, h6, K_nil, Then, true_and]
      refine ⟨i + 1, by omega, by omega, .of_keep [0, 3, 4] rfl⟩
  · have he : i = 4 := by have := of_decide_eq_false h; omega
    subst he
    refine awp_exit ?_
    simp only [Then, InBlock, if_true]
    refine hK1 _ ?_
    clear hK1 K1 hK2 K2
    refine awp_keep [3] ?_
    simp only [keep_eqs, K_ops, Nat.reduceEqDiff, if_true, if_false]
    refine awp_seq_k fun K hK => awp_region [] ?_
    simp only [K_eqs, Nat.reduceLT, K_ops, if_true, Nat.reduceEqDiff, if_false, K_nil, Then, true_and]
    (repeat' apply And.intro) <;> try (first | exact True.intro | omega)
    refine hK _ ?_
    clear hK K
    refine awp_ret ?_
    simp only [K_fin, ares, aress, ares1, afin, K_ops, Nat.reduceEqDiff, if_false, if_true, noref, and_true, true_and]
    rw [gwi4]

theorem refbytes_ok (x : Nat) (hx : x < 4294967296) : ACalls Tryd.prog [] 18 [.val (.int .u32 (x : Int))] [] (fun r os => os = [] ∧ r = .sl 4 (Bs (be4 x)) .full) := by
  refine acalls_of_awp Tryd.func18 rfl rfl Tryd.ntmps18 (rts := #[27]) rfl Tryd.results18 (by simp) ?_
  simp only [argSlots, Nat.reduceAdd]
  have q0 : x / 16777216 % 4294967296 % 256 = (UInt8.ofNat (x / 16777216)).toNat := by simp
  have q1 : x / 65536 % 4294967296 % 256 % 256 = (UInt8.ofNat (x / 65536)).toNat := by simp
  have q2 : x / 256 % 4294967296 % 256 % 256 = (UInt8.ofNat (x / 256)).toNat := by simp
  have q3 : x % 256 % 256 = (UInt8.ofNat x).toNat := by simp
  refine awp_seq_k fun K hK => awp_region [] ?_
  simp only [K_eqs, Nat.reduceLT, K_ops, cav, K_nil, Then, true_and]
  (repeat' apply And.intro) <;> try (first | exact True.intro | omega)
  refine hK _ ?_
  clear hK K
  refine awp_seq_k fun K hK => awp_region [] ?_
  simp only [K_eqs, Nat.reduceLT, K_ops, reduceCtorEq, if_true, if_false, Nat.reduceEqDiff, cav, K_int, aint, ne_eq, Int.reduceEq, not_false_eq_true, and_true, n_tdiv, n_u32, K_conv, Tryd.underlying5, List.contains_nil, Bool.false_eq_true, aconvO, aview, noref, aconv, Tryd.underlying23, Option.isSome_some, n_u8, q0, n_tmod, q1, q2, q3, abuildOwn, Tryd.underlying27, tszs, tzeros, Nat.mul_one, zrep_byte, List.replicate_succ, List.replicate_zero, aparts, List.map_cons, List.map_nil, afill, spl, List.take_zero, acells, List.nil_append, List.length_cons, List.length_nil, Nat.zero_add, Bs_drop, List.drop_succ_cons, List.drop_zero, List.cons_append, List.take_succ_cons, Nat.reduceAdd, List.drop_nil, Bs_nil, List.append_nil, Bs_length, Nat.le_refl, List.all_cons, oneC, Value.oneCell', List.all_nil, Bool.and_true, Nat.reduceLeDiff, abuildSlice, K_nil, Then, true_and]
  (repeat' apply And.intro) <;> try (first | exact True.intro | omega)
  refine hK _ ?_
  clear hK K
  refine awp_keep [2] ?_
  simp only [keep_eqs, K_ops, Nat.reduceEqDiff, if_true, if_false]
  rw [show [AV.val (Value.int IntKind.u8 ↑(UInt8.ofNat (x / 16777216)).toNat), AV.val (Value.int IntKind.u8 ↑(UInt8.ofNat (x / 65536)).toNat), AV.val (Value.int IntKind.u8 ↑(UInt8.ofNat (x / 256)).toNat), AV.val (Value.int IntKind.u8 ↑(UInt8.ofNat x).toNat)] = Bs (be4 x) from rfl]
  refine awp_ret ?_
  simp only [K_fin, ares, aress, ares1, afin, K_ops, if_true, norefs_Bs, ntok, and_true, true_and]

end Go.Proofs.YtjdlgbkpdfaloaaDoor
