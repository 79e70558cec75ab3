/- The walk of the document's eight words. -/
import Derived.Test.YtjdlgbkpdfaloaaDoorDf
import Derived.Test.YtjdlgbkpdfaloaaDoorDd
namespace Go.Proofs.YtjdlgbkpdfaloaaDoor
open Go Go.V
set_option linter.unusedSimpArgs false
set_option linter.unusedVariables false

def Kn (i : Nat) : Nat := roots3.getD i 0
def nats (l : List Nat) : List Int := l.map fun n : Nat => (n : Int)

theorem round2_calls (hh : List Nat) (hw : words8 hh) (W : Nat → Nat) (i : Nat) : ∃ a b c d e f g h g1 ch g0 mo t6 t11 t25 t2 t13 t22 : Nat, rounds hh Kn W i = [a, b, c, d, e, f, g, h] ∧
    ACalls Tryd.prog [] 51 [.val (.int .u32 (e : Int)), .val (.int .u64 6)] [] (fun r os => os = [] ∧ r = .val (.int .u32 (t6 : Int))) ∧
    ACalls Tryd.prog [] 51 [.val (.int .u32 (e : Int)), .val (.int .u64 11)] [] (fun r os => os = [] ∧ r = .val (.int .u32 (t11 : Int))) ∧
    ACalls Tryd.prog [] 51 [.val (.int .u32 (e : Int)), .val (.int .u64 25)] [] (fun r os => os = [] ∧ r = .val (.int .u32 (t25 : Int))) ∧
    ACalls Tryd.prog [] 51 [.val (.int .u32 (a : Int)), .val (.int .u64 2)] [] (fun r os => os = [] ∧ r = .val (.int .u32 (t2 : Int))) ∧
    ACalls Tryd.prog [] 51 [.val (.int .u32 (a : Int)), .val (.int .u64 13)] [] (fun r os => os = [] ∧ r = .val (.int .u32 (t13 : Int))) ∧
    ACalls Tryd.prog [] 51 [.val (.int .u32 (a : Int)), .val (.int .u64 22)] [] (fun r os => os = [] ∧ r = .val (.int .u32 (t22 : Int))) ∧
    ((t6 ^^^ t11) % 4294967296 ^^^ t25) % 4294967296 = g1 ∧ ((t2 ^^^ t13) % 4294967296 ^^^ t22) % 4294967296 = g0 ∧
    ((e &&& f) % 4294967296 ||| ((e ^^^ 4294967295) % 4294967296 &&& g) % 4294967296) % 4294967296 = ch ∧
    (((a &&& b) % 4294967296 ||| (a &&& c) % 4294967296) % 4294967296 ||| (b &&& c) % 4294967296) % 4294967296 = mo ∧
    rounds hh Kn W (i + 1) = [(((((h + g1) % 4294967296 + ch) % 4294967296 + Kn i) % 4294967296 + W i) % 4294967296 + (g0 + mo) % 4294967296) % 4294967296, a, b, c, (d + ((((h + g1) % 4294967296 + ch) % 4294967296 + Kn i) % 4294967296 + W i) % 4294967296) % 4294967296, e, f, g] := by
  obtain ⟨a, b, c, d, e, f, g, h, hr, ⟨ha, hb, hc, hd, he, hf, hg, hh'⟩, hn⟩ := round_form hw Kn W i
  refine ⟨a, b, c, d, e, f, g, h, great 1 e, V.choose e f g, great 0 a, most a b c, turn e 6, turn e 11, turn e 25, turn a 2, turn a 13, turn a 22, hr, turn2_ok e 6 he (by omega) (by omega), turn2_ok e 11 he (by omega) (by omega), turn2_ok e 25 he (by omega) (by omega),
    turn2_ok a 2 ha (by omega) (by omega), turn2_ok a 13 ha (by omega) (by omega), turn2_ok a 22 ha (by omega) (by omega), ?_, ?_, choose_or he hf hg, most_or ha hb hc, hn⟩
  · rw [xor3_mod (turn_lt he _) (turn_lt he _) (turn_lt he _)]
    exact (great1 _).symm
  · rw [xor3_mod (turn_lt ha _) (turn_lt ha _) (turn_lt ha _)]
    exact (great0 _).symm

theorem K_at (i : Nat) (h : i < 64) : tabW.getD i 0 = ((Kn i : Nat) : Int) := tabW_get i h

theorem refcomp_ok (hh : List Nat) (b : List UInt8) (hw : words8 hh) (hb : b.length = 64) : ACalls Tryd.prog [] 33 [.sl 8 (Is .u32 (nats hh)) .no, .sl 64 (Bs b) .no] [] (fun r os => os = [] ∧ r = .sl 8 (Is .u32 (nats (adds (rounds hh Kn (word b) 64) hh))) .no) := by
  have cS := refsched_ok b hb
  have hround := round2_calls hh hw (word b)
  have h0 : rounds hh Kn (word b) 0 = hh := rfl
  have hlen := fun i => words8_length (rounds_words hw Kn (word b) i)
  have h8 := words8_length hw
  have hfin : nats (adds (rounds hh Kn (word b) 64) hh) = mix (fun p => (rounds hh Kn (word b) 64).getD p 0) (fun p => ((rounds hh Kn (word b) 64).getD p 0 + hh.getD p 0) % 4294967296) 8 := mix_eight (hlen 64) h8 _
  rw [hfin]
  generalize word b = W at *
  generalize rounds hh Kn W = R at *
  clear hfin
  have nl : (nats hh).length = 8 := by rw [← h8]; exact List.length_map _
  have nt : (nats hh).take 8 = nats hh := List.take_of_length_le (by omega)
  have al : (arr 64 W 64).length = 64 := arr_length _ _ _
  have rl : tabW.length = 64 := rfl
  refine acalls_of_awp Tryd.func33 rfl rfl Tryd.ntmps33 (rts := #[38]) rfl Tryd.results33 (by simp) ?_
  simp only [argSlots, Nat.reduceAdd]
  refine awp_seq_k fun K hK => awp_region [] ?_
  simp only [K_eqs, Nat.reduceLT, K_ops, cav, K_nil, Then, true_and]
  (repeat' apply And.intro) <;> try (first | exact True.intro | omega)
  refine hK _ ?_
  clear hK K
  refine awp_seq_k fun K hK => awp_region [] ?_
  simp only [K_eqs, Nat.reduceLT, K_ops, Nat.reduceEqDiff, reduceCtorEq, if_true, if_false, K_call, Nat.reduceAdd, List.contains_nil, Bool.false_eq_true, List.map_cons, List.map_nil, aviews, aview, norefs_Bs, ntok, and_true, Bool.or_false, true_and]
  refine andC_eq (by simp [norefs_Bs, norefs, noref, norefs_Is, flats_Is]) (cS) (by simp [noref, norefs, norefs_Bs, flat, norefs_Is, flats_Is]) ?_
  simp only [RestC_eqs, K_eqs, Nat.reduceLT, K_ops, Nat.reduceEqDiff, reduceCtorEq, if_false, if_true, K_nil, Then, true_and]
  refine hK _ ?_
  clear hK K
  refine awp_keep [0, 5] ?_
  simp only [keep_eqs, K_ops, Nat.reduceEqDiff, if_true, if_false]
  refine awp_seq_k fun K hK => awp_region [] ?_
  simp only [K_call, Nat.reduceLT, Nat.reduceAdd, List.contains_nil, Bool.false_eq_true, K_ops, List.map_nil, if_false, aviews, true_and]
  refine andC_eq (by simp [norefs_Bs, norefs, noref, norefs_Is, flats_Is]) (primes2_ok) (by simp [noref, norefs, norefs_Bs, flat, norefs_Is, flats_Is]) ?_
  simp only [RestC_eqs, K_eqs, Nat.reduceLT, K_ops, reduceCtorEq, Nat.reduceEqDiff, if_false, if_true, K_nil, Then, true_and]
  refine hK _ ?_
  clear hK K
  refine awp_keep [0, 5, 6] ?_
  simp only [keep_eqs, K_ops, Nat.reduceEqDiff, if_true, if_false]
  refine awp_seq_k fun K hK => awp_region [] ?_
  simp only [K_eqs, List.contains_nil, Bool.false_eq_true, abuildOwn, Tryd.underlying38, tszs, tzeros, Nat.mul_one, zrep_Is, List.replicate_zero, Is_nil, aparts, List.map_nil, afill, List.length_cons, List.length_nil, Nat.zero_add, Nat.reduceLeDiff, and_true, List.nil_append, abuildSlice, if_false, K_ops, Nat.reduceLT, reduceCtorEq, if_true, abuiltin, List.map_cons, Nat.reduceEqDiff, aappend, tbys, appSrc, srcCells, Is_length, nl, Nat.reduceMul, Is_one, K_nil, Then, true_and]
  refine hK _ ?_
  clear hK K
  refine awp_noperm 7 rfl ?_
  refine awp_keep [0, 5, 6, 7] ?_
  simp only [keep_eqs, K_ops, Nat.reduceEqDiff, if_true, if_false]
  refine awp_seq_k fun K1 hK1 => ?_
  refine awp_seq_k fun K hK => awp_region [] ?_
  simp only [K_eqs, Nat.reduceLT, K_ops, cav, K_nil, Then, true_and]
  (repeat' apply And.intro) <;> try (first | exact True.intro | omega)
  refine hK _ ?_
  clear hK K
  refine awp_keep [0, 5, 6, 7, 8] ?_
  simp only [keep_eqs, K_ops, Nat.reduceEqDiff, if_true, if_false]
  refine awp_block ?_
  refine awp_loop_from (fun i : Nat => if i = 64 then ⟨159, [(0, .sl 8 (Is .u32 (nats hh)) .no), (7, .osl 1 0 8 (some 8)), (8, .val (.int .i64 (i : Int)))], [.tok 1 8, .cells (Is .u32 (nats (R 64)))]⟩
      else ⟨159, [(0, .sl 8 (Is .u32 (nats hh)) .no), (5, .sl 64 (Is .u32 (arr 64 W 64)) .no), (6, .sl 64 (Is .u32 tabW) .full), (7, .sl 8 (Is .u32 (nats (R i))) .no), (8, .val (.int .i64 (i : Int)))], [.tok 1 8]⟩)
    (fun i => i ≤ 64) (fun i => 64 - i) 0 (by omega) (by rw [if_neg (by omega), h0]; exact .of_keep [0, 5, 6, 7, 8] rfl) ?_
  intro i hi
  rcases Nat.lt_or_ge i 64 with hlt | hge
  · rw [if_neg (by omega)]
    obtain ⟨a, b', c, d, e, f, g, h, g1, ch, g0, mo, t6, t11, t25, t2, t13, t22, hr, c6, c11, c25, c2, c13, c22, q1, q2, q3, q4, hnext⟩ := hround i
    have hnr : nats (R i) = [(a : Int), (b' : Int), (c : Int), (d : Int), (e : Int), (f : Int), (g : Int), (h : Int)] := by rw [hr]; rfl
    rw [hnr]
    have hd : decide ((i : Int) < 64) = true := decide_eq_true (by omega)
    refine awp_seq_k fun K2 hK2 => ?_
    refine awp_seq_k fun K hK => awp_region [] ?_
    simp only [K_eqs, Nat.reduceLT, K_ops, reduceCtorEq, Nat.reduceEqDiff, if_true, if_false, cav, K_int, aint, hd, K_nil, Then, true_and]
    (repeat' apply And.intro) <;> try (first | exact True.intro | omega)
    refine hK _ ?_
    clear hK K
    refine awp_condT rfl (awp_skip (hK2 _ ?_))
    clear hK2 K2
    refine awp_keep [0, 5, 6, 7, 8] ?_
    simp only [keep_eqs, K_ops, Nat.reduceEqDiff, if_true, if_false]
    refine awp_seq ?_
    refine awp_block ?_
    refine awp_seq_k fun K hK => ?_
    refine awp_draw [] (by kernel_rfl) (by kernel_rfl) ?_
    simp only [K_eqs, Nat.reduceLT, K_ops, reduceCtorEq, Nat.reduceEqDiff, if_false, if_true, aidxAddr, cav, Tryd.underlying38, tszs, Is_length, List.length_cons, List.length_nil, Nat.zero_add, Nat.reduceAdd, Nat.mul_one, Int.reduceLE, Int.cast_ofNat_Int, Int.reduceLT, and_true, Int.reduceToNat, Is_drop, List.drop_succ_cons, List.drop_zero, aload, List.contains_nil, Bool.false_eq_true, apart, isAggD, Tryd.underlying23, K_call, List.map_cons, List.map_nil, aviews, aview, ntok, List.headD_cons, noref, Bool.or_false, true_and, Is_getD, I, List.getD_cons_zero]
    refine andC_eq (by simp [norefs_Bs, norefs, noref, norefs_Is, flats_Is]) (c6) (by simp [noref, norefs, norefs_Bs, flat, norefs_Is, flats_Is]) ?_
    simp only [RestC_eqs, K_eqs, Nat.reduceLT, K_ops, Nat.reduceEqDiff, reduceCtorEq, if_false, if_true, aidxAddr, cav, Tryd.underlying38, tszs, Is_length, List.length_cons, List.length_nil, Nat.zero_add, Nat.reduceAdd, Nat.mul_one, Int.reduceLE, Int.cast_ofNat_Int, Int.reduceLT, and_true, Int.reduceToNat, Is_drop, List.drop_succ_cons, List.drop_zero, aload, List.contains_nil, Bool.false_eq_true, apart, isAggD, Tryd.underlying23, K_call, List.map_cons, List.map_nil, aviews, aview, ntok, List.headD_cons, noref, Bool.or_false, true_and, Is_getD, I, List.getD_cons_zero]
    refine andC_eq (by simp [norefs_Bs, norefs, noref, norefs_Is, flats_Is]) (c11) (by simp [noref, norefs, norefs_Bs, flat, norefs_Is, flats_Is]) ?_
    simp only [RestC_eqs, K_eqs, K_ops, Nat.reduceEqDiff, reduceCtorEq, if_false, if_true, K_int, aint, n_xor32, Nat.reduceLT, aidxAddr, cav, Tryd.underlying38, tszs, Is_length, List.length_cons, List.length_nil, Nat.zero_add, Nat.reduceAdd, Nat.mul_one, Int.reduceLE, Int.cast_ofNat_Int, Int.reduceLT, and_true, Int.reduceToNat, Is_drop, List.drop_succ_cons, List.drop_zero, aload, List.contains_nil, Bool.false_eq_true, apart, isAggD, Tryd.underlying23, K_call, List.map_cons, List.map_nil, aviews, aview, ntok, List.headD_cons, noref, Bool.or_false, true_and, Is_getD, I, List.getD_cons_zero]
    refine andC_eq (by simp [norefs_Bs, norefs, noref, norefs_Is, flats_Is]) (c25) (by simp [noref, norefs, norefs_Bs, flat, norefs_Is, flats_Is]) ?_
    simp only [RestC_eqs, K_eqs, K_ops, Nat.reduceEqDiff, reduceCtorEq, if_false, if_true, K_int, aint, n_xor32, q1, Nat.reduceLT, K_nil, Then, true_and]
    refine hK _ ?_
    clear hK K
    refine awp_keep [0, 5, 6, 7, 8, 9] ?_
    simp only [keep_eqs, K_ops, Nat.reduceEqDiff, if_true, if_false]
    refine awp_seq_k fun K hK => ?_
    refine awp_draw [] (by kernel_rfl) (by kernel_rfl) ?_
    simp only [K_eqs, Nat.reduceLT, K_ops, reduceCtorEq, Nat.reduceEqDiff, if_false, if_true, aidxAddr, cav, Tryd.underlying38, tszs, Is_length, List.length_cons, List.length_nil, Nat.zero_add, Nat.reduceAdd, Nat.mul_one, Int.reduceLE, Int.cast_ofNat_Int, Int.reduceLT, and_true, Int.reduceToNat, Is_drop, List.drop_succ_cons, List.drop_zero, aload, List.contains_nil, Bool.false_eq_true, apart, isAggD, Tryd.underlying23, K_nil, Then, true_and, Is_getD, I, List.getD_cons_zero, K_int, aint, n_xor32l, n_and32, n_or32, q3]
    refine hK _ ?_
    clear hK K
    refine awp_keep [0, 5, 6, 7, 8, 9, 10] ?_
    simp only [keep_eqs, K_ops, Nat.reduceEqDiff, if_true, if_false]
    have ka := K_at i hlt
    have wa := arr_getD (n := 64) W hlt hlt
    have q64 : 0 < 64 - i := by omega
    have l64 : i ≤ 64 := by omega
    generalize htt : (((((h + g1) % 4294967296 + ch) % 4294967296 + Kn i) % 4294967296 + W i) % 4294967296) = T at hnext
    refine awp_seq_k fun K hK => ?_
    refine awp_draw [] (by kernel_rfl) (by kernel_rfl) ?_
    simp only [K_eqs, Nat.reduceLT, K_ops, reduceCtorEq, Nat.reduceEqDiff, if_false, if_true, aidxAddr, cav, Tryd.underlying38, tszs, Is_length, List.length_cons, List.length_nil, Nat.zero_add, Nat.reduceAdd, Nat.mul_one, Int.reduceLE, Int.cast_ofNat_Int, Int.reduceLT, and_true, Int.reduceToNat, Is_drop, List.drop_succ_cons, List.drop_zero, aload, List.contains_nil, Bool.false_eq_true, apart, isAggD, Tryd.underlying23, rl, true_and, Int.toNat_natCast, al, K_nil, Then, List.length_drop, q64, Is_getD, I, drop_getD, Nat.add_zero, wa, ka, List.getD_cons_zero, K_int, aint, n_addn, n_u32, htt]
    refine ⟨by omega, by omega, hK _ ?_⟩
    clear hK K
    refine awp_keep [0, 5, 6, 7, 8, 11] ?_
    simp only [keep_eqs, K_ops, Nat.reduceEqDiff, if_true, if_false]
    refine awp_seq_k fun K hK => ?_
    refine awp_draw [] (by kernel_rfl) (by kernel_rfl) ?_
    simp only [K_eqs, Nat.reduceLT, K_ops, reduceCtorEq, Nat.reduceEqDiff, if_false, if_true, aidxAddr, cav, Tryd.underlying38, tszs, Is_length, List.length_cons, List.length_nil, Nat.zero_add, Nat.reduceAdd, Nat.mul_one, Int.le_refl, Int.cast_ofNat_Int, Int.reduceLT, and_true, Int.toNat_zero, List.drop_zero, aload, List.contains_nil, Bool.false_eq_true, apart, isAggD, Tryd.underlying23, K_call, List.map_cons, List.map_nil, aviews, aview, ntok, List.headD_cons, noref, Bool.or_false, true_and, Is_getD, I, List.getD_cons_zero]
    refine andC_eq (by simp [norefs_Bs, norefs, noref, norefs_Is, flats_Is]) (c2) (by simp [noref, norefs, norefs_Bs, flat, norefs_Is, flats_Is]) ?_
    simp only [RestC_eqs, K_eqs, Nat.reduceLT, K_ops, Nat.reduceEqDiff, reduceCtorEq, if_false, if_true, aidxAddr, cav, Tryd.underlying38, tszs, Is_length, List.length_cons, List.length_nil, Nat.zero_add, Nat.reduceAdd, Nat.mul_one, Int.le_refl, Int.cast_ofNat_Int, Int.reduceLT, and_true, Int.toNat_zero, List.drop_zero, aload, List.contains_nil, Bool.false_eq_true, apart, isAggD, Tryd.underlying23, K_call, List.map_cons, List.map_nil, aviews, aview, ntok, List.headD_cons, noref, Bool.or_false, true_and, Is_getD, I, List.getD_cons_zero]
    refine andC_eq (by simp [norefs_Bs, norefs, noref, norefs_Is, flats_Is]) (c13) (by simp [noref, norefs, norefs_Bs, flat, norefs_Is, flats_Is]) ?_
    simp only [RestC_eqs, K_eqs, K_ops, Nat.reduceEqDiff, reduceCtorEq, if_false, if_true, K_int, aint, n_xor32, Nat.reduceLT, aidxAddr, cav, Tryd.underlying38, tszs, Is_length, List.length_cons, List.length_nil, Nat.zero_add, Nat.reduceAdd, Nat.mul_one, Int.le_refl, Int.cast_ofNat_Int, Int.reduceLT, and_true, Int.toNat_zero, List.drop_zero, aload, List.contains_nil, Bool.false_eq_true, apart, isAggD, Tryd.underlying23, K_call, List.map_cons, List.map_nil, aviews, aview, ntok, List.headD_cons, noref, Bool.or_false, true_and, Is_getD, I, List.getD_cons_zero]
    refine andC_eq (by simp [norefs_Bs, norefs, noref, norefs_Is, flats_Is]) (c22) (by simp [noref, norefs, norefs_Bs, flat, norefs_Is, flats_Is]) ?_
    simp only [RestC_eqs, K_eqs, K_ops, Nat.reduceEqDiff, reduceCtorEq, if_false, if_true, K_int, aint, n_xor32, q2, Nat.reduceLT, K_nil, Then, true_and]
    refine hK _ ?_
    clear hK K
    refine awp_keep [0, 5, 6, 7, 8, 11, 12] ?_
    simp only [keep_eqs, K_ops, Nat.reduceEqDiff, if_true, if_false]
    refine awp_seq_k fun K hK => ?_
    refine awp_draw [] (by kernel_rfl) (by kernel_rfl) ?_
    simp only [K_eqs, Nat.reduceLT, K_ops, reduceCtorEq, Nat.reduceEqDiff, if_false, if_true, aidxAddr, cav, Tryd.underlying38, tszs, Is_length, List.length_cons, List.length_nil, Nat.zero_add, Nat.reduceAdd, Nat.mul_one, Int.le_refl, Int.cast_ofNat_Int, Int.reduceLT, and_true, Int.toNat_zero, List.drop_zero, aload, List.contains_nil, Bool.false_eq_true, apart, isAggD, Tryd.underlying23, Int.reduceLE, Int.reduceToNat, Is_drop, List.drop_succ_cons, K_nil, Then, true_and, Is_getD, I, List.getD_cons_zero, K_int, aint, n_and32, n_or32, q4]
    refine hK _ ?_
    clear hK K
    refine awp_keep [0, 5, 6, 7, 8, 11, 12, 13] ?_
    simp only [keep_eqs, K_ops, Nat.reduceEqDiff, if_true, if_false]
    refine awp_seq_k fun K hK => awp_region [] ?_
    simp only [K_eqs, Nat.reduceLT, K_ops, reduceCtorEq, Nat.reduceEqDiff, if_false, if_true, K_int, aint, n_addn, n_u32, K_nil, Then, true_and]
    (repeat' apply And.intro) <;> try (first | exact True.intro | omega)
    refine hK _ ?_
    clear hK K
    refine awp_keep [0, 5, 6, 7, 8, 11, 14] ?_
    simp only [keep_eqs, K_ops, Nat.reduceEqDiff, if_true, if_false]
    have hn1 : nats (R (i + 1)) = [(((T + (g0 + mo) % 4294967296) % 4294967296 : Nat) : Int), (a : Int), (b' : Int), (c : Int), ((d + T) % 4294967296 : Nat), (e : Int), (f : Int), (g : Int)] := by rw [hnext]; rfl
    have h6 : IntKind.i64.wrap ((i + 1 : Nat) : Int) = ((i + 1 : Nat) : Int) := n_i64 (by omega)
    by_cases hlast : i = 63
    · subst hlast
      refine awp_draw [139] (by kernel_rfl) (by kernel_rfl) ?_
      simp only [Int.cast_ofNat_Int, Nat.reduceSub, K_eqs, Nat.reduceLT, K_ops, reduceCtorEq, Nat.reduceEqDiff, if_false, if_true, K_int, aint, n_addn, n_u32, aidxAddr, cav, Tryd.underlying38, tszs, Is_length, List.length_cons, List.length_nil, Nat.zero_add, Nat.reduceAdd, Nat.mul_one, Int.le_refl, Int.reduceLT, and_true, Int.toNat_zero, List.drop_zero, aload, List.contains_cons, Nat.reduceBEq, List.contains_nil, Bool.or_false, Bool.false_eq_true, apart, isAggD, Tryd.underlying23, Int.reduceLE, Int.reduceToNat, Is_drop, List.drop_succ_cons, beq_self_eq_true, abuildOwn, tzeros, zrep_Is, List.replicate_succ, List.replicate_zero, aparts, List.map_cons, List.map_nil, afill, spl, List.take_zero, acells, List.nil_append, List.cons_append, List.take_succ_cons, Nat.reduceLeDiff, true_and, List.all_cons, oneC, Value.oneCell', List.all_nil, Bool.and_true, abuildSlice, K_nil, Is_getD, I, List.getD_cons_zero, Nat.le_refl, List.drop_nil, Is_nil, List.append_nil]
      simp only [InBlock, Then]
      refine awp_keep [0, 7, 8] ?_
      simp only [keep_eqs, K_ops, Nat.reduceEqDiff, if_true, if_false]
      refine awp_region [] ?_
      simp only [K_eqs, Nat.reduceLT, K_ops, reduceCtorEq, Nat.reduceEqDiff, if_true, if_false, cav, K_int, aint, K_nil, Then, true_and]
      refine ⟨64, by omega, by omega, ?_⟩
      rw [if_pos rfl, show nats (R 64) = _ from hn1]
      exact .of_keep [0, 7, 8] rfl
    · skip
      refine awp_draw [] (by kernel_rfl) (by kernel_rfl) ?_
      simp only [K_eqs, Nat.reduceLT, K_ops, reduceCtorEq, Nat.reduceEqDiff, if_false, if_true, K_int, aint, n_addn, n_u32, aidxAddr, cav, Tryd.underlying38, tszs, Is_length, List.length_cons, List.length_nil, Nat.zero_add, Nat.reduceAdd, Nat.mul_one, Int.le_refl, Int.cast_ofNat_Int, Int.reduceLT, and_true, Int.toNat_zero, List.drop_zero, aload, List.contains_nil, Bool.false_eq_true, apart, isAggD, Tryd.underlying23, Int.reduceLE, Int.reduceToNat, Is_drop, List.drop_succ_cons, abuildOwn, tzeros, zrep_Is, List.replicate_succ, List.replicate_zero, aparts, List.map_cons, List.map_nil, afill, spl, List.take_zero, acells, List.nil_append, List.cons_append, List.take_succ_cons, Nat.reduceLeDiff, true_and, List.all_cons, oneC, Value.oneCell', List.all_nil, Bool.and_true, abuildSlice, K_nil, Is_getD, I, List.getD_cons_zero, Nat.le_refl, List.drop_nil, Is_nil, List.append_nil]
      simp only [InBlock, Then]
      refine awp_noperm 7 rfl ?_
      refine awp_keep [0, 5, 6, 7, 8] ?_
      simp only [keep_eqs, K_ops, Nat.reduceEqDiff, if_true, if_false]
      refine awp_region [] ?_
      simp only [K_eqs, Nat.reduceLT, K_ops, reduceCtorEq, Nat.reduceEqDiff, if_true, if_false, cav, K_int, aint, n_add, h6, K_nil, Then, true_and]
      refine ⟨i + 1, by omega, by omega, ?_⟩
      rw [if_neg (by omega), hn1]
      exact .of_keep [0, 5, 6, 7, 8] rfl
  · have he : i = 64 := by omega
    subst he
    rw [if_pos rfl]
    refine awp_seq_k fun K2 hK2 => ?_
    refine awp_seq_k fun K hK => awp_region [] ?_
    simp only [Int.cast_ofNat_Int, Nat.reduceSub, K_eqs, Nat.reduceLT, K_ops, reduceCtorEq, Nat.reduceEqDiff, if_true, if_false, cav, K_int, aint, Int.reduceLT, K_nil, Then, true_and]
    (repeat' apply And.intro) <;> try (first | exact True.intro | omega)
    refine hK _ ?_
    clear hK K
    refine awp_condF rfl ?_
    refine awp_exit ?_
    simp only [Then, InBlock, if_true]
    refine hK1 _ ?_
    clear hK1 K1 hK2 K2
    refine awp_keep [0, 7] ?_
    simp only [keep_eqs, K_ops, Nat.reduceEqDiff, if_true, if_false]
    have hV0 := mix_zero (hlen 64) (fun p => ((R 64).getD p 0 + hh.getD p 0) % 4294967296)
    generalize hA : (fun p => ((R 64).getD p 0 + hh.getD p 0) % 4294967296) = A at hV0 ⊢
    have hAV : ∀ p, A p = ((fun p => (R 64).getD p 0) p + hh.getD p 0) % 4294967296 := fun p => by rw [← hA]
    generalize hV : (fun p => (R 64).getD p 0) = V at hV0 hAV ⊢
    rw [show nats (R 64) = mix V A 0 from hV0]
    have ml : ∀ j, (mix V A j).length = 8 := mix_length V A
    have hget : ∀ j, (nats hh).getD j 0 = ((hh.getD j 0 : Nat) : Int) := fun j => by
      simp only [nats, List.getD_eq_getElem?_getD, List.getElem?_map]
      cases hh[j]? <;> rfl
    refine awp_seq_k fun K1 hK1 => ?_
    refine awp_seq_k fun K hK => awp_region [] ?_
    simp only [K_eqs, Nat.reduceLT, K_ops, reduceCtorEq, if_true, if_false, abuiltin, List.map_cons, Nat.reduceEqDiff, List.map_nil, alen, Tryd.underlying38, Int.cast_ofNat_Int, cav, K_nil, Then, true_and]
    (repeat' apply And.intro) <;> try (first | exact True.intro | omega)
    refine hK _ ?_
    clear hK K
    refine awp_keep [0, 7, 141, 142] ?_
    simp only [keep_eqs, K_ops, Nat.reduceEqDiff, if_true, if_false]
    refine awp_block ?_
    refine awp_loop_from (fun j : Nat => ⟨159, [(0, .sl 8 (Is .u32 (nats hh)) .no), (7, .osl 1 0 8 (some 8)), (141, .val (.int .i64 8)), (142, .val (.int .i64 (j : Int)))], [.tok 1 8, .cells (Is .u32 (mix V A j))]⟩)
      (fun j => j ≤ 8) (fun j => 8 - j) 0 (by omega) (.of_keep [0, 7, 141, 142] rfl) ?_
    intro j hj
    refine awp_seq_k fun K hK => awp_region [] ?_
    simp only [K_eqs, K_ops, reduceCtorEq, Nat.reduceEqDiff, if_true, if_false, K_int, aint, d_lt, Nat.reduceLT, K_nil, Then, true_and]
    (repeat' apply And.intro) <;> try (first | exact True.intro | omega)
    refine hK _ ?_
    clear hK K
    refine awp_seq ?_
    refine awp_cond rfl rfl (fun h => ?_) (fun h => ?_)
    · have hlt : j < 8 := by have := of_decide_eq_true h; omega
      refine awp_skip ?_
      simp only [Then]
      refine awp_keep [0, 7, 141, 142] ?_
      simp only [keep_eqs, K_ops, Nat.reduceEqDiff, if_true, if_false]
      refine awp_seq ?_
      refine awp_block ?_
      refine awp_seq_k fun K hK => awp_region [] ?_
      simp only [K_eqs, Nat.reduceLT, K_ops, reduceCtorEq, Nat.reduceEqDiff, if_true, if_false, K_nil, Then, true_and]
      (repeat' apply And.intro) <;> try (first | exact True.intro | omega)
      refine hK _ ?_
      clear hK K
      refine awp_keep [0, 7, 15, 141, 142] ?_
      simp only [keep_eqs, K_ops, Nat.reduceEqDiff, if_true, if_false]
      have gm := mix_getD V A (Nat.le_refl j) hlt
      have ga := hAV j
      have gh := hget j
      have q8 : 0 < 8 - j := by omega
      have l8 : j ≤ 8 := by omega
      generalize hh.getD j 0 = x at ga gh
      refine awp_draw [] (by kernel_rfl) (by kernel_rfl) ?_
      simp only [K_eqs, Nat.reduceLT, K_ops, reduceCtorEq, Nat.reduceEqDiff, if_false, if_true, aidxAddr, Tryd.underlying38, tszs, Int.cast_ofNat_Int, Int.toNat_natCast, Nat.mul_one, Nat.zero_add, aload, List.contains_nil, Bool.false_eq_true, apart, isAggD, Tryd.underlying23, Is_length, nl, and_true, true_and, Is_drop, K_store, astore, acells, spl, K_nil, List.getElem?_cons_succ, List.getElem?_cons_zero, ml, Is_take, List.set_cons_succ, List.set_cons_zero, List.length_drop, q8, Is_getD, I, drop_getD, Nat.add_zero, gh, hlt, gm, K_int, aint, n_addn, n_u32, ← ga, List.all_cons, oneC, Value.oneCell', List.all_nil, Bool.and_true, List.length_cons, List.length_nil, Nat.reduceLeDiff]
      refine ⟨by omega, by omega, by omega, by omega, ?_⟩
      rw [Is_set (by rw [ml]; omega), mix_set]
      simp only [InBlock, Then]
      refine awp_keep [0, 7, 141, 142] ?_
      simp only [keep_eqs, K_ops, Nat.reduceEqDiff, if_true, if_false]
      have h6 : IntKind.i64.wrap ((j + 1 : Nat) : Int) = ((j + 1 : Nat) : Int) := n_i64 (by omega)
      refine awp_region [] ?_
      simp only [K_eqs, K_ops, reduceCtorEq, Nat.reduceEqDiff, if_true, if_false, cav, K_int, aint, n_add, h6, Nat.reduceLT, K_nil, Then, true_and]
      exact ⟨j + 1, by omega, by omega, .of_keep [0, 7, 141, 142] rfl⟩
    · have he : j = 8 := by have := of_decide_eq_false h; omega
      subst he
      refine awp_exit ?_
      simp only [Then, InBlock, if_true]
      refine hK1 _ ?_
      clear hK1 K1
      refine awp_keep [7] ?_
      simp only [keep_eqs, K_ops, Nat.reduceEqDiff, if_true, if_false]
      refine awp_seq_k fun K hK => awp_region [] ?_
      simp only [K_eqs, Nat.reduceLT, K_ops, if_true, Nat.reduceEqDiff, if_false, K_nil, Then, true_and]
      (repeat' apply And.intro) <;> try (first | exact True.intro | omega)
      refine hK _ ?_
      clear hK K
      have mt : (mix V A 8).take 8 = mix V A 8 := List.take_of_length_le (by rw [ml]; omega)
      refine awp_ret ?_
      simp only [K_fin, ares, aress, ares1, afin, K_ops, Nat.reduceEqDiff, if_false, if_true, List.getElem?_cons_succ, List.getElem?_cons_zero, List.headD_cons, Tryd.underlying38, tszs, Nat.mul_one, Nat.zero_add, Is_length, ml, Nat.le_refl, List.drop_zero, Is_take, mt, norefs_Is, and_true, true_and]
end Go.Proofs.YtjdlgbkpdfaloaaDoor
