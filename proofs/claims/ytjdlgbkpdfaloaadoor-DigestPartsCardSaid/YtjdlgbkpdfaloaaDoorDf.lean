/- The walks of layer 2's document: a schedule. -/
import Derived.Test.YtjdlgbkpdfaloaaDoorDp
import Derived.Test.YtjdlgbkpdfaloaaDoorWl
import Derived.Test.YtjdlgbkpdfaloaaDoorDb
import Derived.Test.YtjdlgbkpdfaloaaDoorWp
import Derived.Test.YtjdlgbkpdfaloaaDoorPc
namespace Go.Proofs.YtjdlgbkpdfaloaaDoor
open Go Go.V
set_option linter.unusedSimpArgs false
set_option linter.unusedVariables false

theorem turn2_ok (x n : Nat) (hx : x < 4294967296) (h1 : 1 ≤ n) (h2 : n ≤ 31) : ACalls Tryd.prog [] 51 [.val (.int .u32 (x : Int)), .val (.int .u64 (n : Int))] [] (fun r os => os = [] ∧ r = .val (.int .u32 (turn x (n : Int) : Int))) := by
  have hw : IntKind.u64.wrap (32 - (n : Int)) = ((32 - n : Nat) : Int) := by
    rw [show (32 : Int) - (n : Int) = ((32 - n : Nat) : Int) by omega, n_u64, Nat.mod_eq_of_lt (by omega)]
  have e1 : (if n ≤ 32 then n else 32) = n := if_pos (by omega)
  have e2 : (if 32 - n ≤ 32 then 32 - n else 32) = 32 - n := if_pos (by omega)
  have ht := turn_or (x := x) h1 h2
  have hlt : turn x (n : Int) % 4294967296 = turn x (n : Int) := Nat.mod_eq_of_lt (turn_lt hx _)
  generalize turn x (n : Int) = t at ht hlt ⊢
  refine acalls_of_awp Tryd.func51 rfl rfl Tryd.ntmps51 (rts := #[23]) rfl Tryd.results51 (by simp) ?_
  simp only [argSlots, Nat.reduceAdd]
  refine awp_seq_k fun K hK => awp_region [] ?_
  simp only [K_eqs, Nat.reduceLT, K_ops, cav, K_nil, Then, true_and]
  (repeat' apply And.intro) <;> try (first | exact True.intro | omega)
  refine hK _ ?_
  clear hK K
  refine awp_seq_k fun K hK => awp_region [] ?_
  simp only [K_eqs, Nat.reduceLT, K_ops, reduceCtorEq, if_false, if_true, Nat.reduceEqDiff, K_int, aint, Int.toNat_natCast, IntKind.bits, Nat.min_def, e1, n_fdiv, cav, hw, e2, n_shl, n_u32, n_or32, ht, hlt, K_nil, Then, true_and]
  (repeat' apply And.intro) <;> try (first | exact True.intro | omega)
  refine hK _ ?_
  clear hK K
  refine awp_ret ?_
  simp only [K_fin, ares, aress, ares1, afin, K_ops, Nat.reduceEqDiff, reduceCtorEq, if_false, if_true, noref, and_true, true_and]

set_option maxRecDepth 100000 in
theorem primes2_ok : ACalls Tryd.prog [] 52 [] [] (fun r os => os = [] ∧ r = .sl 64 (Is .u32 tabW) .full) := by
  refine acalls_of_awp Tryd.func52 rfl rfl Tryd.ntmps52 (rts := #[38]) rfl Tryd.results52 (by simp) ?_
  simp only [argSlots, Nat.reduceAdd]
  refine awp_seq_k fun K hK => awp_region [] ?_
  simp only [K_eqs, Nat.reduceLT, K_ops, cav, K_nil, Then, true_and]
  (repeat' apply And.intro) <;> try (first | exact True.intro | omega)
  refine hK _ ?_
  clear hK K
  refine awp_seq_k fun K hK => awp_region [] ?_
  simp only [K_eqs, List.contains_nil, Bool.false_eq_true, if_false]
  refine buildSlice_B (Is .u32 tabW) Tryd.underlying38 (sz := 1) (z := [.int .u32 0]) (by simp only [tszs]) (by simp only [tzeros]) (by kernel_rfl) rfl (by omega) ?_
  simp only [Nat.reduceLT, K_ops, reduceCtorEq, if_false, if_true, K_nil, Then, true_and]
  refine hK _ ?_
  refine awp_ret ?_
  simp only [K_fin, ares, aress, ares1, afin, K_ops, reduceCtorEq, if_true, if_false, norefs_Is, ntok, and_true, true_and]

/-- A row of the first i words. -/
def wl (W : Nat → Nat) (i : Nat) : List Int := (List.range i).map fun j => ((W j : Nat) : Int)
theorem wl_length (W : Nat → Nat) (i : Nat) : (wl W i).length = i := by simp [wl]
theorem wl_succ (W : Nat → Nat) (i : Nat) : wl W (i + 1) = wl W i ++ [((W i : Nat) : Int)] := by simp [wl, List.range_succ]
theorem wl_getD (W : Nat → Nat) {i j : Nat} (h : j < i) : (wl W i).getD j 0 = ((W j : Nat) : Int) := by simp [wl, List.getD_eq_getElem?_getD, h]
theorem wl_arr (W : Nat → Nat) (n : Nat) : wl W n = arr n W n := by
  unfold wl arr
  apply List.map_congr_left
  intro j hj
  rw [if_pos (by simpa using hj)]

/-- What a block's words are, without what is inside 'Get' and 'turn'. -/
theorem sched2_calls (b : List UInt8) (hb : b.length = 64) : ∃ W t17 t19 t7 t18 s1 s0 : Nat → Nat, W = word b ∧ (∀ i, W i < 4294967296) ∧
    (∀ i, i < 16 → ∀ p, ACalls Tryd.prog [] 17 [.sl (64 - 4 * i) (Bs (b.drop (4 * i))) p] [] (fun r os => os = [] ∧ r = .val (.int .u32 (W i : Int)))) ∧
    (∀ i, ACalls Tryd.prog [] 51 [.val (.int .u32 (W i : Int)), .val (.int .u64 17)] [] (fun r os => os = [] ∧ r = .val (.int .u32 (t17 i : Int)))) ∧
    (∀ i, ACalls Tryd.prog [] 51 [.val (.int .u32 (W i : Int)), .val (.int .u64 19)] [] (fun r os => os = [] ∧ r = .val (.int .u32 (t19 i : Int)))) ∧
    (∀ i, ACalls Tryd.prog [] 51 [.val (.int .u32 (W i : Int)), .val (.int .u64 7)] [] (fun r os => os = [] ∧ r = .val (.int .u32 (t7 i : Int)))) ∧
    (∀ i, ACalls Tryd.prog [] 51 [.val (.int .u32 (W i : Int)), .val (.int .u64 18)] [] (fun r os => os = [] ∧ r = .val (.int .u32 (t18 i : Int)))) ∧
    (∀ i, ((t17 i ^^^ t19 i) % 4294967296 ^^^ W i / 1024 % 4294967296) % 4294967296 = s1 i) ∧
    (∀ i, ((t7 i ^^^ t18 i) % 4294967296 ^^^ W i / 8 % 4294967296) % 4294967296 = s0 i) ∧
    (∀ i, 16 ≤ i → (((s1 (i - 2) + W (i - 7)) % 4294967296 + s0 (i - 15)) % 4294967296 + W (i - 16)) % 4294967296 = W i) := by
  have hm : ∀ i k, word b i / k % 4294967296 = word b i / k := fun i k => Nat.mod_eq_of_lt (Nat.lt_of_le_of_lt (Nat.div_le_self _ _) (word_lt b i))
  refine ⟨word b, fun i => turn (word b i) 17, fun i => turn (word b i) 19, fun i => turn (word b i) 7, fun i => turn (word b i) 18, fun i => small 1 (word b i), fun i => small 0 (word b i), rfl, word_lt b, fun i hi p => ?_,
    fun i => turn2_ok _ 17 (word_lt b i) (by omega) (by omega), fun i => turn2_ok _ 19 (word_lt b i) (by omega) (by omega), fun i => turn2_ok _ 7 (word_lt b i) (by omega) (by omega), fun i => turn2_ok _ 18 (word_lt b i) (by omega) (by omega),
    fun i => ?_, fun i => ?_, fun i hi => ?_⟩
  · have h := refget_ok (b.drop (4 * i)) p (by rw [List.length_drop]; omega)
    rw [List.length_drop, hb, ← word_small b i hi] at h
    exact h
  · rw [hm, xor3_mod (turn_lt (word_lt b i) _) (turn_lt (word_lt b i) _) (Nat.lt_of_le_of_lt (Nat.div_le_self _ _) (word_lt b i))]
    exact (small1 _).symm
  · rw [hm, xor3_mod (turn_lt (word_lt b i) _) (turn_lt (word_lt b i) _) (Nat.lt_of_le_of_lt (Nat.div_le_self _ _) (word_lt b i))]
    exact (small0 _).symm
  · rw [word_big b i hi]
    show (((small 1 (word b (i - 2)) + word b (i - 7)) % 4294967296 + small 0 (word b (i - 15))) % 4294967296 + word b (i - 16)) % 4294967296 = _
    generalize small 1 (word b (i - 2)) = a
    generalize small 0 (word b (i - 15)) = c
    omega

theorem refsched_ok (b : List UInt8) (hb : b.length = 64) : ACalls Tryd.prog [] 31 [.sl 64 (Bs b) .no] [] (fun r os => os = [] ∧ r = .sl 64 (Is .u32 (arr 64 (word b) 64)) .no) := by
  obtain ⟨W, t17, t19, t7, t18, s1, s0, hW, hlt, cG, c17, c19, c7, c18, h1, h0, hbig⟩ := sched2_calls b hb
  rw [← hW, ← wl_arr]
  have hl : ∀ i, (wl W i).length = i := wl_length W
  refine acalls_of_awp Tryd.func31 rfl rfl Tryd.ntmps31 (rts := #[38]) rfl Tryd.results31 (by simp) ?_
  simp only [argSlots, Nat.reduceAdd]
  refine awp_seq_k fun K hK => awp_region [] ?_
  simp only [K_eqs, Nat.reduceLT, K_ops, cav, K_nil, Then, true_and]
  (repeat' apply And.intro) <;> try (first | exact True.intro | omega)
  refine hK _ ?_
  clear hK K
  refine awp_seq_k fun K hK => awp_region [] ?_
  simp only [K_eqs, List.contains_nil, Bool.false_eq_true, abuildOwn, Tryd.underlying38, tszs, tzeros, Nat.mul_one, aparts, List.map_nil, afill, List.length_cons, List.length_nil, Nat.zero_add, Nat.reduceLeDiff, true_and, List.nil_append, abuildSlice, and_true, if_false, K_ops, Nat.reduceLT, Nat.reduceEqDiff, reduceCtorEq, if_true, K_nil, Then]
  (repeat' apply And.intro) <;> try (first | exact True.intro | omega)
  refine hK _ ?_
  clear hK K
  refine awp_keep [0, 3] ?_
  simp only [keep_eqs, K_ops, Nat.reduceEqDiff, if_true, if_false]
  refine awp_tok 1 3 rfl ?_
  refine awp_seq_k fun K1 hK1 => ?_
  refine awp_seq_k fun K hK => awp_region [] ?_
  simp only [List.length_nil, List.nil_append, K_eqs, Nat.reduceLT, K_ops, cav, K_nil, Then, true_and]
  (repeat' apply And.intro) <;> try (first | exact True.intro | omega)
  refine hK _ ?_
  clear hK K
  refine awp_keep [0, 3, 4] ?_
  simp only [keep_eqs, K_ops, Nat.reduceEqDiff, if_true, if_false]
  refine awp_block ?_
  refine awp_loop_from (fun i : Nat => ⟨84, [(0, .sl 64 (Bs b) .no), (3, .sl i (Is .u32 (wl W i)) (.tok 0)), (4, .val (.int .i64 (i : Int)))], [.tok 1 i]⟩)
    (fun i => i ≤ 16) (fun i => 16 - i) 0 (by omega) (.of_keep [0, 3, 4] rfl) ?_
  intro i hi
  refine awp_seq_k fun K2 hK2 => ?_
  refine awp_seq_k fun K hK => awp_region [] ?_
  simp only [K_eqs, Nat.reduceLT, K_ops, reduceCtorEq, Nat.reduceEqDiff, if_true, if_false, cav, K_int, aint, d_lt, K_nil, Then, true_and]
  (repeat' apply And.intro) <;> try (first | exact True.intro | omega)
  refine hK _ ?_
  clear hK K
  refine awp_cond rfl rfl (fun h => ?_) (fun h => ?_)
  · have hlt : i < 16 := of_decide_eq_true h
    refine awp_skip (hK2 _ ?_)
    clear hK2 K2
    refine awp_keep [0, 3, 4] ?_
    simp only [keep_eqs, K_ops, Nat.reduceEqDiff, if_true, if_false]
    refine awp_seq ?_
    refine awp_block ?_
    have hw : IntKind.i64.wrap (4 * (i : Int)) = ((4 * i : Nat) : Int) := by rw [i64_wrap (by omega) (by omega)]; omega
    have h64 : ((64 : Int) - ((4 * i : Nat) : Int)).toNat = 64 - 4 * i := by omega
    have hd : (b.drop (4 * i)).take (64 - 4 * i) = b.drop (4 * i) := List.take_of_length_le (by rw [List.length_drop]; omega)
    refine awp_region [] ?_
    simp only [K_eqs, Nat.reduceLT, K_ops, reduceCtorEq, Nat.reduceEqDiff, if_false, if_true, cav, K_int, aint, hw, aslice, bopt, Option.map_some, Option.map_none, Tryd.underlying27, tszs, Bs_length, hb, Nat.mul_one, lowOf, highOf, Int.cast_ofNat_Int, Int.le_refl, ne_eq, not_true_eq_false, and_true, or_false, true_and, h64, Int.toNat_natCast, Bs_drop, Bs_take, hd, sliceP, K_call, Nat.reduceAdd, List.contains_nil, Bool.false_eq_true, List.map_cons, List.map_nil, aviews, aview, ntok, List.headD_cons, norefs_Bs, Bool.or_false]
    refine ⟨by omega, ?_⟩
    refine andC_eq (by simp [norefs_Bs, norefs, noref, norefs_Is, flats_Is]) (cG i hlt _) (by simp [noref, norefs, norefs_Bs, flat, norefs_Is, flats_Is]) ?_
    simp only [RestC_eqs, K_eqs, List.contains_nil, Bool.false_eq_true, abuildOwn, Tryd.underlying38, tszs, tzeros, Nat.mul_one, zrep_Is, List.replicate_succ, List.replicate_zero, aparts, List.map_cons, K_ops, Nat.reduceEqDiff, reduceCtorEq, if_false, if_true, List.map_nil, afill, spl, List.take_zero, acells, List.nil_append, List.length_cons, List.length_nil, Nat.zero_add, Is_drop, List.drop_succ_cons, List.drop_nil, Is_nil, List.append_nil, Is_length, Nat.le_refl, List.all_cons, oneC, Value.oneCell', List.all_nil, Bool.and_true, and_true, Nat.reduceLeDiff, List.cons_append, abuildSlice, Nat.reduceLT, abuiltin, aappend, tbys, appSrc, srcCells, List.getElem?_cons_zero, hl, true_and, List.set_cons_zero, K_nil]
    refine ⟨by omega, ?_⟩
    have e : Is .u32 (wl W i) ++ [AV.val (.int .u32 ((W i : Nat) : Int))] = Is .u32 (wl W (i + 1)) := by rw [wl_succ, Is_append]; rfl
    rw [e]
    simp only [InBlock, Then]
    refine awp_keep [0, 3, 4] ?_
    simp only [keep_eqs, K_ops, Nat.reduceEqDiff, if_true, if_false]
    have h6 : IntKind.i64.wrap ((i + 1 : Nat) : Int) = ((i + 1 : Nat) : Int) := n_i64 (by omega)
    refine awp_region [] ?_
    simp only [K_eqs, Nat.reduceLT, K_ops, reduceCtorEq, Nat.reduceEqDiff, if_true, if_false, cav, K_int, aint, n_add, h6, K_nil, Then, true_and]
    refine ⟨i + 1, by omega, by omega, .of_keep [0, 3, 4] rfl⟩
  · have he : i = 16 := by have := of_decide_eq_false h; omega
    subst he
    refine awp_exit ?_
    simp only [Then, InBlock, if_true]
    refine hK1 _ ?_
    clear hK1 K1 hK2 K2
    refine awp_keep [0, 3] ?_
    simp only [keep_eqs, K_ops, Nat.reduceEqDiff, if_true, if_false]
    refine awp_seq_k fun K1 hK1 => ?_
    refine awp_seq_k fun K hK => awp_region [] ?_
    simp only [K_eqs, Nat.reduceLT, K_ops, cav, K_nil, Then, true_and]
    (repeat' apply And.intro) <;> try (first | exact True.intro | omega)
    refine hK _ ?_
    clear hK K
    refine awp_keep [3, 5] ?_
    simp only [keep_eqs, K_ops, Nat.reduceEqDiff, if_true, if_false]
    refine awp_block ?_
    refine awp_loop_from (fun i : Nat => ⟨84, [(3, .sl i (Is .u32 (wl W i)) (.tok 0)), (5, .val (.int .i64 (i : Int)))], [.tok 1 i]⟩)
      (fun i => 16 ≤ i ∧ i ≤ 64) (fun i => 64 - i) 16 ⟨by omega, by omega⟩ (.of_keep [3, 5] rfl) ?_
    rintro i ⟨hi16, hi⟩
    refine awp_seq_k fun K2 hK2 => ?_
    refine awp_seq_k fun K hK => awp_region [] ?_
    simp only [K_eqs, Nat.reduceLT, K_ops, Nat.reduceEqDiff, if_true, if_false, cav, K_int, aint, d_lt, K_nil, Then, true_and]
    (repeat' apply And.intro) <;> try (first | exact True.intro | omega)
    refine hK _ ?_
    clear hK K
    refine awp_cond rfl rfl (fun h => ?_) (fun h => ?_)
    · have hlt : i < 64 := of_decide_eq_true h
      refine awp_skip (hK2 _ ?_)
      clear hK2 K2
      refine awp_keep [3, 5] ?_
      simp only [keep_eqs, K_ops, Nat.reduceEqDiff, if_true, if_false]
      refine awp_seq ?_
      refine awp_block ?_
      have w2 : IntKind.i64.wrap ((i : Int) - 2) = ((i - 2 : Nat) : Int) := by rw [i64_wrap (by omega) (by omega)]; omega
      have w7 : IntKind.i64.wrap ((i : Int) - 7) = ((i - 7 : Nat) : Int) := by rw [i64_wrap (by omega) (by omega)]; omega
      have w15 : IntKind.i64.wrap ((i : Int) - 15) = ((i - 15 : Nat) : Int) := by rw [i64_wrap (by omega) (by omega)]; omega
      have w16 : IntKind.i64.wrap ((i : Int) - 16) = ((i - 16 : Nat) : Int) := by rw [i64_wrap (by omega) (by omega)]; omega
      have l2 : i - 2 < i := by omega
      have l7 : i - 7 < i := by omega
      have l15 : i - 15 < i := by omega
      have l16 : i - 16 < i := by omega
      have q2 : 0 < i - (i - 2) := by omega
      have q7 : 0 < i - (i - 7) := by omega
      have q15 : 0 < i - (i - 15) := by omega
      have q16 : 0 < i - (i - 16) := by omega
      have g2 := wl_getD W l2
      have g7 := wl_getD W l7
      have g15 := wl_getD W l15
      have g16 := wl_getD W l16
      have hb1 := h1 (i - 2)
      have hb0 := h0 (i - 15)
      refine awp_seq_k fun K hK => ?_
      refine awp_draw [] (by kernel_rfl) (by kernel_rfl) ?_
      simp only [K_eqs, Nat.reduceLT, K_ops, Nat.reduceEqDiff, if_false, if_true, cav, K_int, aint, w2, aidxAddr, Tryd.underlying38, tszs, Is_length, hl, Nat.mul_one, and_true, true_and, Int.toNat_natCast, Is_drop, aload, List.contains_nil, Bool.false_eq_true, apart, isAggD, Tryd.underlying23, K_call, Nat.reduceAdd, List.map_cons, List.map_nil, aviews, aview, ntok, List.headD_cons, noref, Bool.or_false, List.length_drop, q2, Is_getD, I, drop_getD, Nat.add_zero, g2]
      refine ⟨by omega, ?_⟩
      refine andC_eq (by simp [norefs_Bs, norefs, noref, norefs_Is, flats_Is]) (c17 (i - 2)) (by simp [noref, norefs, norefs_Bs, flat, norefs_Is, flats_Is]) ?_
      simp only [RestC_eqs, K_eqs, Nat.reduceLT, K_ops, Nat.reduceEqDiff, if_false, if_true, cav, K_int, aint, w2, aidxAddr, Tryd.underlying38, tszs, Is_length, hl, Nat.mul_one, and_true, true_and, Int.toNat_natCast, Is_drop, aload, List.contains_nil, Bool.false_eq_true, apart, isAggD, Tryd.underlying23, K_call, Nat.reduceAdd, List.map_cons, List.map_nil, aviews, aview, ntok, List.headD_cons, noref, Bool.or_false, List.length_drop, q2, Is_getD, I, drop_getD, Nat.add_zero, g2]
      refine ⟨by omega, ?_⟩
      refine andC_eq (by simp [norefs_Bs, norefs, noref, norefs_Is, flats_Is]) (c19 (i - 2)) (by simp [noref, norefs, norefs_Bs, flat, norefs_Is, flats_Is]) ?_
      simp only [RestC_eqs, K_eqs, K_ops, Nat.reduceEqDiff, if_false, if_true, K_int, aint, n_xor32, Nat.reduceLT, cav, w2, aidxAddr, Tryd.underlying38, tszs, Is_length, hl, Nat.mul_one, and_true, true_and, Int.toNat_natCast, Is_drop, aload, List.contains_nil, Bool.false_eq_true, apart, isAggD, Tryd.underlying23, K_nil, Then, List.length_drop, q2, Is_getD, I, drop_getD, Nat.add_zero, g2, ne_eq, Int.reduceEq, not_false_eq_true, n_tdiv, n_u32, hb1]
      refine ⟨by omega, hK _ ?_⟩
      clear hK K
      refine awp_keep [3, 5, 6] ?_
      simp only [keep_eqs, K_ops, Nat.reduceEqDiff, if_true, if_false]
      refine awp_seq_k fun K hK => ?_
      refine awp_draw [] (by kernel_rfl) (by kernel_rfl) ?_
      simp only [K_eqs, Nat.reduceLT, K_ops, Nat.reduceEqDiff, if_false, if_true, cav, K_int, aint, w15, aidxAddr, Tryd.underlying38, tszs, Is_length, hl, Nat.mul_one, and_true, true_and, Int.toNat_natCast, Is_drop, aload, List.contains_nil, Bool.false_eq_true, apart, isAggD, Tryd.underlying23, K_call, Nat.reduceAdd, List.map_cons, List.map_nil, aviews, aview, ntok, List.headD_cons, noref, Bool.or_false, List.length_drop, q15, Is_getD, I, drop_getD, Nat.add_zero, g15]
      refine ⟨by omega, ?_⟩
      refine andC_eq (by simp [norefs_Bs, norefs, noref, norefs_Is, flats_Is]) (c7 (i - 15)) (by simp [noref, norefs, norefs_Bs, flat, norefs_Is, flats_Is]) ?_
      simp only [RestC_eqs, K_eqs, Nat.reduceLT, K_ops, Nat.reduceEqDiff, if_false, if_true, cav, K_int, aint, w15, aidxAddr, Tryd.underlying38, tszs, Is_length, hl, Nat.mul_one, and_true, true_and, Int.toNat_natCast, Is_drop, aload, List.contains_nil, Bool.false_eq_true, apart, isAggD, Tryd.underlying23, K_call, Nat.reduceAdd, List.map_cons, List.map_nil, aviews, aview, ntok, List.headD_cons, noref, Bool.or_false, List.length_drop, q15, Is_getD, I, drop_getD, Nat.add_zero, g15]
      refine ⟨by omega, ?_⟩
      refine andC_eq (by simp [norefs_Bs, norefs, noref, norefs_Is, flats_Is]) (c18 (i - 15)) (by simp [noref, norefs, norefs_Bs, flat, norefs_Is, flats_Is]) ?_
      simp only [RestC_eqs, K_eqs, K_ops, Nat.reduceEqDiff, if_false, if_true, K_int, aint, n_xor32, Nat.reduceLT, cav, w15, aidxAddr, Tryd.underlying38, tszs, Is_length, hl, Nat.mul_one, and_true, true_and, Int.toNat_natCast, Is_drop, aload, List.contains_nil, Bool.false_eq_true, apart, isAggD, Tryd.underlying23, K_nil, Then, List.length_drop, q15, Is_getD, I, drop_getD, Nat.add_zero, g15, ne_eq, Int.reduceEq, not_false_eq_true, n_tdiv, n_u32, hb0]
      refine ⟨by omega, hK _ ?_⟩
      clear hK K
      refine awp_keep [3, 5, 6, 7] ?_
      simp only [keep_eqs, K_ops, Nat.reduceEqDiff, if_true, if_false]
      have hbi := hbig i hi16
      refine awp_draw [] (by kernel_rfl) (by kernel_rfl) ?_
      simp only [K_eqs, Nat.reduceLT, K_ops, Nat.reduceEqDiff, if_false, if_true, cav, K_int, aint, w7, aidxAddr, Tryd.underlying38, tszs, Is_length, hl, Nat.mul_one, and_true, true_and, Int.toNat_natCast, Is_drop, aload, List.contains_nil, Bool.false_eq_true, apart, isAggD, Tryd.underlying23, w16, abuildOwn, tzeros, zrep_Is, List.replicate_succ, List.replicate_zero, aparts, List.map_cons, List.map_nil, afill, spl, List.take_zero, acells, List.nil_append, Nat.zero_add, List.length_cons, List.length_nil, Nat.le_refl, Nat.reduceLeDiff, List.cons_append, abuildSlice, abuiltin, aappend, tbys, appSrc, srcCells, List.getElem?_cons_zero, List.set_cons_zero, K_nil, List.length_drop, q16, Is_getD, I, drop_getD, Nat.add_zero, g16, q7, g7, n_addn, n_u32, hbi, List.all_cons, oneC, Value.oneCell', List.all_nil, Bool.and_true, List.drop_succ_cons, List.drop_nil, Is_nil, List.append_nil]
      refine ⟨by omega, by omega, by omega, ?_⟩
      have e : Is .u32 (wl W i) ++ [AV.val (.int .u32 ((W i : Nat) : Int))] = Is .u32 (wl W (i + 1)) := by rw [wl_succ, Is_append]; rfl
      rw [e]
      simp only [InBlock, Then]
      refine awp_keep [3, 5] ?_
      simp only [keep_eqs, K_ops, Nat.reduceEqDiff, if_true, if_false]
      have h6 : IntKind.i64.wrap ((i + 1 : Nat) : Int) = ((i + 1 : Nat) : Int) := n_i64 (by omega)
      refine awp_region [] ?_
      simp only [K_eqs, Nat.reduceLT, K_ops, Nat.reduceEqDiff, if_true, if_false, cav, K_int, aint, n_add, h6, K_nil, Then, true_and]
      refine ⟨i + 1, by omega, by omega, .of_keep [3, 5] rfl⟩
    · have he : i = 64 := by have := of_decide_eq_false h; omega
      subst he
      refine awp_exit ?_
      simp only [Then, InBlock, if_true]
      refine hK1 _ ?_
      clear hK1 K1 hK2 K2
      refine awp_keep [3] ?_
      simp only [keep_eqs, K_ops, Nat.reduceEqDiff, if_true, if_false]
      refine awp_seq_k fun K hK => awp_region [] ?_
      simp only [K_eqs, Nat.reduceLT, K_ops, if_true, Nat.reduceEqDiff, if_false, K_nil, Then, true_and]
      (repeat' apply And.intro) <;> try (first | exact True.intro | omega)
      refine hK _ ?_
      clear hK K
      refine awp_ret ?_
      simp only [K_fin, ares, aress, ares1, afin, K_ops, Nat.reduceEqDiff, if_false, if_true, norefs_Is, ntok, and_true, true_and]
end Go.Proofs.YtjdlgbkpdfaloaaDoor
