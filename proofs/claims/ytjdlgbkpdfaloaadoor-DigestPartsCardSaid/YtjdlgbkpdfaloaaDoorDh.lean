/- The walk of the eight words. -/
import Derived.Test.YtjdlgbkpdfaloaaDoorDg
namespace Go.Proofs.YtjdlgbkpdfaloaaDoor
open Go Go.V
set_option linter.unusedSimpArgs false
set_option linter.unusedVariables false

theorem round1_calls (hh : List Nat) (hw : words8 hh) (W : Nat → Nat) (i : Nat) : ∃ a b c d e f g h g1 ch g0 mo : Nat, rounds hh Kn W i = [a, b, c, d, e, f, g, h] ∧
    ACalls Tryd.prog GP 20 [.val (.int .i64 1), .val (.int .u32 (e : Int))] [] (fun r os => os = [] ∧ r = .val (.int .u32 (g1 : Int))) ∧
    ACalls Tryd.prog GP 25 [.val (.int .u32 (e : Int)), .val (.int .u32 (f : Int)), .val (.int .u32 (g : Int))] [] (fun r os => os = [] ∧ r = .val (.int .u32 (ch : Int))) ∧
    ACalls Tryd.prog GP 20 [.val (.int .i64 0), .val (.int .u32 (a : Int))] [] (fun r os => os = [] ∧ r = .val (.int .u32 (g0 : Int))) ∧
    ACalls Tryd.prog GP 27 [.val (.int .u32 (a : Int)), .val (.int .u32 (b : Int)), .val (.int .u32 (c : Int))] [] (fun r os => os = [] ∧ r = .val (.int .u32 (mo : Int))) ∧
    rounds hh Kn W (i + 1) = [(((((h + g1) % 4294967296 + ch) % 4294967296 + Kn i) % 4294967296 + W i) % 4294967296 + (g0 + mo) % 4294967296) % 4294967296, a, b, c, (d + ((((h + g1) % 4294967296 + ch) % 4294967296 + Kn i) % 4294967296 + W i) % 4294967296) % 4294967296, e, f, g] := by
  obtain ⟨a, b, c, d, e, f, g, h, hr, ⟨ha, hb, hc, hd, he, hf, hg, hh'⟩, hn⟩ := round_form hw Kn W i
  exact ⟨a, b, c, d, e, f, g, h, great 1 e, V.choose e f g, great 0 a, most a b c, hr, (great_ok 1 e he).g, (choose_ok e f g he hf hg).g, (great_ok 0 a ha).g, (most_ok a b c ha hb hc).g, hn⟩

theorem prime_at (i : Nat) (h : i < 64) : ACalls Tryd.prog GP 11 [.val (.int .i64 (i : Int))] [] (fun r os => os = [] ∧ r = .val (.int .u32 (Kn i : Int))) := by
  have hp := wprime_ok (i : Int)
  rw [if_pos ⟨by omega, by omega⟩, Int.toNat_natCast, K_at i h] at hp
  exact hp

theorem comp_ok (hh : List Nat) (b : List UInt8) (hw : words8 hh) (hb : b.length = 64) : ACalls Tryd.prog GP 34 [.agg (Is .u32 (nats hh)), .agg (Bs b)] [] (fun r os => os = [] ∧ r = .agg (Is .u32 (nats (adds (rounds hh Kn (word b) 64) hh)))) := by
  have cS := (schedule_ok b hb).g (G := GP)
  have hround := round1_calls hh hw (word b)
  have h0 : rounds hh Kn (word b) 0 = hh := rfl
  have hlen := fun i => words8_length (rounds_words hw Kn (word b) i)
  have h8 := words8_length hw
  have hfin : nats (adds (rounds hh Kn (word b) 64) hh) = mix (fun p => (rounds hh Kn (word b) 64).getD p 0) (fun p => ((rounds hh Kn (word b) 64).getD p 0 + hh.getD p 0) % 4294967296) 8 := mix_eight (hlen 64) h8 _
  rw [hfin]
  generalize word b = W at *
  generalize rounds hh Kn W = R at *
  clear hfin
  have nl : (nats hh).length = 8 := by rw [← h8]; exact List.length_map _
  have nt : (nats hh).take 8 = nats hh := List.take_of_length_le (by omega)
  have nd : (nats hh).drop 8 = [] := List.drop_eq_nil_of_le (by omega)
  have al : (arr 64 W 64).length = 64 := arr_length _ _ _
  have bt : b.take 64 = b := List.take_of_length_le (by omega)
  have bd : b.drop 64 = [] := List.drop_eq_nil_of_le (by omega)
  obtain ⟨z8, hz8, hz8l⟩ : ∃ z8 : List Int, (zvs .u32 8).map cav = Is .u32 z8 ∧ z8.length = 8 := ⟨_, zvs_Is _ _, by simp⟩
  have zd : z8.drop 8 = [] := List.drop_eq_nil_of_le (by omega)
  refine acalls_of_awp Tryd.func34 rfl rfl Tryd.ntmps34 (rts := #[25]) rfl Tryd.results34 (by simp) ?_
  simp only [argSlots, Nat.reduceAdd]
  refine awp_seq_k fun K hK => awp_region [] ?_
  simp only [K_eqs, abox, acells, K_ops, reduceCtorEq, if_false, if_true, Is_one, List.length_nil, List.nil_append, Nat.reduceLT, Nat.reduceEqDiff, Bs_one, aalloc, tzeros, hz8, K_nil, Then, true_and, List.cons_append, List.length_cons, Nat.zero_add, Nat.reduceAdd]
  (repeat' apply And.intro) <;> try (first | exact True.intro | omega)
  refine hK _ ?_
  clear hK K
  refine awp_seq_k fun K hK => awp_region [] ?_
  simp only [K_eqs, aload, K_ops, Nat.reduceEqDiff, reduceCtorEq, if_false, if_true, List.contains_nil, Bool.false_eq_true, List.getElem?_cons_zero, apart, isAggD, Tryd.underlying25, tszs, Nat.zero_add, Is_length, nl, Nat.le_refl, List.drop_zero, Is_take, nt, Nat.reduceLT, aalloc, tzeros, List.length_cons, List.length_nil, Nat.reduceAdd, hz8, List.cons_append, List.nil_append, K_store, astore, acells, spl, K_nil, Then, true_and, List.getElem?_cons_succ, hz8l, List.take_zero, Is_drop, List.set_cons_succ, List.set_cons_zero, Is_one, and_true, zd, Is_nil, List.append_nil]
  (repeat' apply And.intro) <;> try (first | exact True.intro | omega)
  refine hK _ ?_
  clear hK K
  refine awp_keep [2, 3, 4, 5] ?_
  simp only [keep_eqs, K_ops, Nat.reduceEqDiff, if_true, if_false]
  refine awp_seq_k fun K1 hK1 => ?_
  refine awp_seq_k fun K hK => awp_region [] ?_
  simp only [K_eqs, aload, K_ops, Nat.reduceEqDiff, if_false, if_true, List.contains_nil, Bool.false_eq_true, List.getElem?_cons_succ, List.getElem?_cons_zero, apart, isAggD, Tryd.underlying37, tszs, Nat.zero_add, Bs_length, hb, Nat.le_refl, List.drop_zero, Bs_take, bt, Nat.reduceLT, K_call, Nat.reduceAdd, List.map_cons, List.map_nil, aviews, aview, ntok, List.headD_cons, true_and, noref, norefs_Bs, and_true, Bool.or_false]
  refine andC_eq (by simp [norefs_Bs, norefs, noref, norefs_Is, flats_Is]) (cS) (by simp [noref, norefs, norefs_Bs, flat, norefs_Is, flats_Is]) ?_
  simp only [RestC_eqs, K_eqs, Nat.reduceLT, K_ops, cav, K_nil, Then, true_and]
  refine hK _ ?_
  clear hK K
  refine awp_keep [2, 4, 5, 13, 14] ?_
  simp only [keep_eqs, K_ops, Nat.reduceEqDiff, if_true, if_false]
  refine awp_block ?_
  refine awp_loop_from (fun i : Nat => ⟨82, [(2, .ptr 0 0), (4, .ptr 2 0), (5, .ptr 3 0), (13, .agg (Is .u32 (arr 64 W 64))), (14, .val (.int .i64 (i : Int)))], [.cells (Is .u32 (nats hh)), .cells (Bs b), .cells (Is .u32 z8), .cells (Is .u32 (nats (R i)))]⟩)
    (fun i => i ≤ 64) (fun i => 64 - i) 0 (by omega) (by rw [h0]; exact .of_keep [2, 4, 5, 13, 14] rfl) ?_
  intro i hi
  refine awp_seq_k fun K hK => awp_region [] ?_
  simp only [K_eqs, K_ops, Nat.reduceEqDiff, if_true, if_false, cav, K_int, aint, d_lt, Nat.reduceLT, K_nil, Then, true_and]
  (repeat' apply And.intro) <;> try (first | exact True.intro | omega)
  refine hK _ ?_
  clear hK K
  refine awp_seq ?_
  refine awp_cond rfl rfl (fun h => ?_) (fun h => ?_)
  · have hlt : i < 64 := of_decide_eq_true h
    clear h
    refine awp_skip ?_
    simp only [Then]
    refine awp_keep [2, 4, 5, 13, 14] ?_
    simp only [keep_eqs, K_ops, Nat.reduceEqDiff, if_true, if_false]
    obtain ⟨a, b', c, d, e, f, g, h, g1, ch, g0, mo, hr, c1, cch, c0, cmo, hnext⟩ := hround i
    have hnr : nats (R i) = [(a : Int), (b' : Int), (c : Int), (d : Int), (e : Int), (f : Int), (g : Int), (h : Int)] := by rw [hr]; rfl
    rw [hnr]
    have wa := arr_getD (n := 64) W hlt hlt
    refine awp_seq ?_
    refine awp_block ?_
    refine awp_seq_k fun K hK => awp_region [] ?_
    simp only [K_eqs, Nat.reduceLT, K_ops, Nat.reduceEqDiff, if_true, if_false, aidx, Tryd.underlying40, tszs, apart, isAggD, Tryd.underlying23, Int.toNat_natCast, Nat.mul_one, Is_length, al, hlt, Is_getD, I, wa, Int.cast_ofNat_Int, and_true, K_nil, Then, true_and]
    refine ⟨by omega, hK _ ?_⟩
    clear hK K
    refine awp_keep [2, 4, 5, 6, 7, 13, 14] ?_
    simp only [keep_eqs, K_ops, Nat.reduceEqDiff, if_true, if_false]
    generalize htt : (((((h + g1) % 4294967296 + ch) % 4294967296 + Kn i) % 4294967296 + W i) % 4294967296) = T at hnext
    refine awp_seq_k fun K hK => ?_
    refine awp_draw [22, 30, 33] (by kernel_rfl) (by kernel_rfl) ?_
    simp only [K_eqs, aidxAddr, K_ops, cav, Tryd.underlying25, Nat.reduceEqDiff, if_false, if_true, tszs, Int.reduceLE, Int.cast_ofNat_Int, Int.reduceLT, and_true, Int.reduceToNat, Nat.mul_one, Nat.zero_add, Nat.reduceLT, aload, List.contains_cons, Nat.reduceBEq, List.contains_nil, Bool.or_false, Bool.false_eq_true, apart, isAggD, Tryd.underlying23, K_call, Nat.reduceAdd, List.map_cons, List.map_nil, beq_self_eq_true, aviews, aview, noref, ntok, List.tail_cons, List.headD_cons, true_and, List.getElem?_cons_succ, List.getElem?_cons_zero, Is_length, List.length_cons, List.length_nil, Is_getD, I, List.getD_cons_succ, List.getD_cons_zero]
    refine andC_eq (by simp [norefs_Bs, norefs, noref, norefs_Is, flats_Is]) (c1) (by simp [noref, norefs, norefs_Bs, flat, norefs_Is, flats_Is]) ?_
    simp only [RestC_eqs, K_eqs, K_ops, Nat.reduceEqDiff, if_false, if_true, K_int, aint, n_addn, n_u32, Nat.reduceLT, aidxAddr, cav, Tryd.underlying25, tszs, Int.reduceLE, Int.cast_ofNat_Int, Int.reduceLT, and_true, Int.reduceToNat, Nat.mul_one, Nat.zero_add, aload, List.contains_cons, Nat.reduceBEq, List.contains_nil, Bool.or_false, Bool.false_eq_true, apart, isAggD, Tryd.underlying23, K_call, Nat.reduceAdd, List.map_cons, List.map_nil, beq_self_eq_true, Bool.false_or, aviews, aview, ntok, List.headD_cons, List.tail_cons, true_and, List.getElem?_cons_succ, List.getElem?_cons_zero, Is_length, List.length_cons, List.length_nil, Is_getD, I, List.getD_cons_succ, List.getD_cons_zero, noref]
    refine andC_eq (by simp [norefs_Bs, norefs, noref, norefs_Is, flats_Is]) (cch) (by simp [noref, norefs, norefs_Bs, flat, norefs_Is, flats_Is]) ?_
    simp only [RestC_eqs, K_eqs, K_ops, Nat.reduceEqDiff, if_false, if_true, K_int, aint, n_addn, n_u32, Nat.reduceLT, K_call, Nat.reduceAdd, List.contains_cons, Nat.reduceBEq, List.contains_nil, Bool.or_false, Bool.false_eq_true, List.map_cons, List.map_nil, beq_self_eq_true, Bool.false_or, aviews, aview, noref, and_true, true_and]
    refine andC_eq (by simp [norefs_Bs, norefs, noref, norefs_Is, flats_Is]) (prime_at i hlt) (by simp [noref, norefs, norefs_Bs, flat, norefs_Is, flats_Is]) ?_
    simp only [RestC_eqs, K_eqs, K_ops, Nat.reduceEqDiff, if_false, if_true, K_int, aint, n_addn, n_u32, Nat.reduceLT, htt, K_nil, Then, true_and]
    refine hK _ ?_
    clear hK K
    refine awp_keep [2, 4, 5, 8, 13, 14] ?_
    simp only [keep_eqs, K_ops, Nat.reduceEqDiff, if_true, if_false]
    refine awp_seq_k fun K hK => ?_
    refine awp_draw [39, 46] (by kernel_rfl) (by kernel_rfl) ?_
    simp only [K_eqs, aidxAddr, K_ops, cav, Tryd.underlying25, Nat.reduceEqDiff, if_false, if_true, tszs, Int.le_refl, Int.cast_ofNat_Int, Int.reduceLT, and_true, Int.toNat_zero, Nat.mul_one, Nat.add_zero, Nat.reduceLT, aload, List.contains_cons, Nat.reduceBEq, List.contains_nil, Bool.or_false, Bool.false_eq_true, apart, isAggD, Tryd.underlying23, K_call, Nat.reduceAdd, List.map_cons, List.map_nil, beq_self_eq_true, aviews, aview, noref, ntok, List.tail_cons, List.headD_cons, true_and, List.getElem?_cons_succ, List.getElem?_cons_zero, Is_length, List.length_cons, List.length_nil, Nat.zero_add, Is_getD, I, List.getD_cons_zero]
    refine andC_eq (by simp [norefs_Bs, norefs, noref, norefs_Is, flats_Is]) (c0) (by simp [noref, norefs, norefs_Bs, flat, norefs_Is, flats_Is]) ?_
    simp only [RestC_eqs, K_eqs, aidxAddr, K_ops, cav, Tryd.underlying25, Nat.reduceEqDiff, if_false, if_true, tszs, Int.le_refl, Int.cast_ofNat_Int, Int.reduceLT, and_true, Int.toNat_zero, Nat.mul_one, Nat.add_zero, Nat.reduceLT, aload, List.contains_cons, Nat.reduceBEq, List.contains_nil, Bool.or_false, Bool.false_eq_true, apart, isAggD, Tryd.underlying23, Int.reduceLE, Int.reduceToNat, Nat.zero_add, K_call, Nat.reduceAdd, List.map_cons, List.map_nil, beq_self_eq_true, Bool.false_or, aviews, aview, ntok, List.headD_cons, List.tail_cons, true_and, List.getElem?_cons_succ, List.getElem?_cons_zero, Is_length, List.length_cons, List.length_nil, Is_getD, I, List.getD_cons_succ, List.getD_cons_zero, noref]
    refine andC_eq (by simp [norefs_Bs, norefs, noref, norefs_Is, flats_Is]) (cmo) (by simp [noref, norefs, norefs_Bs, flat, norefs_Is, flats_Is]) ?_
    simp only [RestC_eqs, K_eqs, K_ops, Nat.reduceEqDiff, if_false, if_true, K_int, aint, n_addn, n_u32, Nat.reduceLT, K_nil, Then, true_and]
    refine hK _ ?_
    clear hK K
    refine awp_keep [2, 4, 5, 8, 9, 13, 14] ?_
    simp only [keep_eqs, K_ops, Nat.reduceEqDiff, if_true, if_false]
    have hn1 : nats (R (i + 1)) = [(((T + (g0 + mo) % 4294967296) % 4294967296 : Nat) : Int), (a : Int), (b' : Int), (c : Int), ((d + T) % 4294967296 : Nat), (e : Int), (f : Int), (g : Int)] := by rw [hnext]; rfl
    have h6 : IntKind.i64.wrap ((i + 1 : Nat) : Int) = ((i + 1 : Nat) : Int) := n_i64 (by omega)
    refine awp_region [] ?_
    simp only [K_eqs, Nat.reduceLT, K_ops, Nat.reduceEqDiff, if_false, if_true, K_int, aint, n_addn, n_u32, aidxAddr, cav, Tryd.underlying25, tszs, Int.le_refl, Int.cast_ofNat_Int, Int.reduceLT, and_true, Int.toNat_zero, Nat.mul_one, Nat.add_zero, aload, List.contains_nil, Bool.false_eq_true, apart, isAggD, Tryd.underlying23, Int.reduceLE, Int.reduceToNat, Nat.zero_add, abuild, tzeros, zvs_Is, List.replicate_succ, List.replicate_zero, aparts, List.map_cons, List.map_nil, afill, spl, List.take_zero, acells, List.nil_append, List.length_cons, List.length_nil, Is_drop, List.drop_succ_cons, List.drop_zero, List.cons_append, List.take_succ_cons, Nat.reduceAdd, Nat.reduceLeDiff, Is_length, true_and, List.all_cons, oneC, Value.oneCell', List.all_nil, Bool.and_true, K_store, astore, List.getElem?_cons_succ, List.getElem?_cons_zero, List.set_cons_succ, List.set_cons_zero, K_nil, Bool.true_and, Is_getD, I, List.getD_cons_succ, List.getD_cons_zero, Nat.le_refl, List.drop_nil, Is_nil, List.append_nil]
    rw [show [AV.val (Value.int IntKind.u32 (((T + (g0 + mo) % 4294967296) % 4294967296 : Nat) : Int)), AV.val (Value.int IntKind.u32 (a : Int)), AV.val (Value.int IntKind.u32 (b' : Int)), AV.val (Value.int IntKind.u32 (c : Int)), AV.val (Value.int IntKind.u32 (((d + T) % 4294967296 : Nat) : Int)), AV.val (Value.int IntKind.u32 (e : Int)), AV.val (Value.int IntKind.u32 (f : Int)), AV.val (Value.int IntKind.u32 (g : Int))] = Is .u32 (nats (R (i + 1))) from by rw [hn1]; rfl]
    simp only [InBlock, Then]
    refine awp_keep [2, 4, 5, 13, 14] ?_
    simp only [keep_eqs, K_ops, Nat.reduceEqDiff, if_true, if_false]
    have h6 : IntKind.i64.wrap ((i + 1 : Nat) : Int) = ((i + 1 : Nat) : Int) := n_i64 (by omega)
    refine awp_region [] ?_
    simp only [K_eqs, K_ops, Nat.reduceEqDiff, if_true, if_false, cav, K_int, aint, n_add, h6, Nat.reduceLT, K_nil, Then, true_and]
    refine ⟨i + 1, by omega, by omega, .of_keep [2, 4, 5, 13, 14] rfl⟩
  · have he : i = 64 := by have := of_decide_eq_false h; omega
    subst he
    refine awp_exit ?_
    simp only [Then, InBlock, if_true]
    refine hK1 _ ?_
    clear hK1 K1
    refine awp_keep [2, 4, 5] ?_
    simp only [keep_eqs, K_ops, Nat.reduceEqDiff, if_true, if_false]
    have hV0 := mix_zero (hlen 64) (fun p => ((R 64).getD p 0 + hh.getD p 0) % 4294967296)
    generalize hA : (fun p => ((R 64).getD p 0 + hh.getD p 0) % 4294967296) = A at hV0 ⊢
    have hAV : ∀ p, A p = ((fun p => (R 64).getD p 0) p + hh.getD p 0) % 4294967296 := fun p => by rw [← hA]
    generalize hV : (fun p => (R 64).getD p 0) = V at hV0 hAV ⊢
    rw [show nats (R 64) = mix V A 0 from hV0]
    have ml : ∀ j, (mix V A j).length = 8 := mix_length V A
    have mt : (mix V A 8).take 8 = mix V A 8 := List.take_of_length_le (by rw [ml]; omega)
    have md : (mix V A 8).drop 8 = [] := List.drop_eq_nil_of_le (by rw [ml]; omega)
    have hget : ∀ j, (nats hh).getD j 0 = ((hh.getD j 0 : Nat) : Int) := fun j => by
      simp only [nats, List.getD_eq_getElem?_getD, List.getElem?_map]
      cases hh[j]? <;> rfl
    refine awp_seq_k fun K1 hK1 => ?_
    refine awp_seq_k fun K hK => awp_region [] ?_
    simp only [K_eqs, Nat.reduceLT, K_ops, cav, K_nil, Then, true_and]
    (repeat' apply And.intro) <;> try (first | exact True.intro | omega)
    refine hK _ ?_
    clear hK K
    refine awp_keep [2, 4, 5, 69] ?_
    simp only [keep_eqs, K_ops, Nat.reduceEqDiff, if_true, if_false]
    refine awp_block ?_
    refine awp_loop_from (fun j : Nat => ⟨82, [(2, .ptr 0 0), (4, .ptr 2 0), (5, .ptr 3 0), (69, .val (.int .i64 (j : Int)))], [.cells (Is .u32 (nats hh)), .cells (Bs b), .cells (Is .u32 z8), .cells (Is .u32 (mix V A j))]⟩)
      (fun j => j ≤ 8) (fun j => 8 - j) 0 (by omega) (.of_keep [2, 4, 5, 69] rfl) ?_
    intro j hj
    refine awp_seq_k fun K hK => awp_region [] ?_
    simp only [K_eqs, K_ops, Nat.reduceEqDiff, if_true, if_false, cav, K_int, aint, d_lt, Nat.reduceLT, K_nil, Then, true_and]
    (repeat' apply And.intro) <;> try (first | exact True.intro | omega)
    refine hK _ ?_
    clear hK K
    refine awp_seq ?_
    refine awp_cond rfl rfl (fun h => ?_) (fun h => ?_)
    · have hlt : j < 8 := by have := of_decide_eq_true h; omega
      refine awp_skip ?_
      simp only [Then]
      refine awp_keep [2, 4, 5, 69] ?_
      simp only [keep_eqs, K_ops, Nat.reduceEqDiff, if_true, if_false]
      refine awp_seq ?_
      refine awp_block ?_
      refine awp_seq_k fun K hK => awp_region [] ?_
      simp only [K_eqs, Nat.reduceLT, K_ops, Nat.reduceEqDiff, if_true, if_false, K_nil, Then, true_and]
      (repeat' apply And.intro) <;> try (first | exact True.intro | omega)
      refine hK _ ?_
      clear hK K
      refine awp_keep [2, 4, 5, 10, 69] ?_
      simp only [keep_eqs, K_ops, Nat.reduceEqDiff, if_true, if_false]
      have gm := mix_getD V A (Nat.le_refl j) hlt
      have ga := hAV j
      have gh := hget j
      have q8 : 0 < 8 - j := by omega
      have l8 : j ≤ 8 := by omega
      generalize hh.getD j 0 = x at ga gh
      refine awp_draw [] (by kernel_rfl) (by kernel_rfl) ?_
      simp only [K_eqs, Nat.reduceLT, K_ops, Nat.reduceEqDiff, if_false, if_true, aidxAddr, Tryd.underlying25, tszs, Int.cast_ofNat_Int, Int.toNat_natCast, Nat.mul_one, Nat.zero_add, aload, List.contains_nil, Bool.false_eq_true, apart, isAggD, Tryd.underlying23, K_store, astore, acells, spl, K_nil, true_and, List.getElem?_cons_succ, List.getElem?_cons_zero, Is_length, ml, Is_take, Is_drop, List.set_cons_succ, List.set_cons_zero, nl, hlt, Is_getD, I, gh, gm, K_int, aint, n_addn, n_u32, ← ga, List.all_cons, oneC, Value.oneCell', List.all_nil, Bool.and_true, List.length_cons, List.length_nil, Nat.reduceLeDiff, and_true]
      refine ⟨by omega, by omega, by omega, by omega, ?_⟩
      rw [Is_set (by rw [ml]; omega), mix_set]
      simp only [InBlock, Then]
      refine awp_keep [2, 4, 5, 69] ?_
      simp only [keep_eqs, K_ops, Nat.reduceEqDiff, if_true, if_false]
      have h6 : IntKind.i64.wrap ((j + 1 : Nat) : Int) = ((j + 1 : Nat) : Int) := n_i64 (by omega)
      refine awp_region [] ?_
      simp only [K_eqs, K_ops, Nat.reduceEqDiff, if_true, if_false, cav, K_int, aint, n_add, h6, Nat.reduceLT, K_nil, Then, true_and]
      exact ⟨j + 1, by omega, by omega, .of_keep [2, 4, 5, 69] rfl⟩
    · have he : j = 8 := by have := of_decide_eq_false h; omega
      subst he
      refine awp_exit ?_
      simp only [Then, InBlock, if_true]
      refine hK1 _ ?_
      clear hK1 K1
      refine awp_keep [4, 5] ?_
      simp only [keep_eqs, K_ops, Nat.reduceEqDiff, if_true, if_false]
      refine awp_seq_k fun K hK => awp_region [] ?_
      simp only [K_eqs, aload, K_ops, Nat.reduceEqDiff, if_true, if_false, List.contains_nil, Bool.false_eq_true, List.getElem?_cons_succ, List.getElem?_cons_zero, apart, isAggD, Tryd.underlying25, tszs, Nat.zero_add, Is_length, ml, Nat.le_refl, List.drop_zero, Is_take, mt, Nat.reduceLT, K_store, astore, acells, hz8l, spl, List.take_zero, List.nil_append, Is_drop, List.set_cons_succ, List.set_cons_zero, K_nil, Then, true_and, Is_one, and_true, zd, Is_nil, List.append_nil]
      (repeat' apply And.intro) <;> try (first | exact True.intro | omega)
      refine hK _ ?_
      clear hK K
      refine awp_ret ?_
      simp only [K_fin, ares, aress, ares1, aload, K_ops, Nat.reduceEqDiff, if_false, if_true, List.getElem?_cons_succ, List.getElem?_cons_zero, apart, isAggD, Tryd.underlying25, tszs, Nat.zero_add, Is_length, ml, Nat.le_refl, List.drop_zero, Is_take, mt, afin, noref, norefs_Is, and_true, true_and]
end Go.Proofs.YtjdlgbkpdfaloaaDoor
