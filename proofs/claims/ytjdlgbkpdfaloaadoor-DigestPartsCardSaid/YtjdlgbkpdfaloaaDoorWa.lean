/- The walks of the small functions. -/
import Derived.Test.YtjdlgbkpdfaloaaDoorT
import Derived.Test.YtjdlgbkpdfaloaaDoorVp
import Derived.Laws.BitsLemmas
import Derived.Test.YtjdlgbkpdfaloaaDoorVn
import Derived.WalkKit
namespace Go.Proofs.YtjdlgbkpdfaloaaDoor
open Go Go.V
set_option linter.unusedSimpArgs false
theorem clip_ok (l : List UInt8) (p : Perm) : ACalls Tryd.prog [] 46 [.sl l.length (Bs l) p] [] (fun r os => os = [] ∧ r = .sl l.length (Bs l) .full) := by
  refine acalls_of_awp Tryd.func46 rfl rfl Tryd.ntmps46 (rts := #[27]) rfl Tryd.results46 (by simp) ?_
  simp only [argSlots, Nat.reduceAdd]
  refine awp_seq_k fun K hK => awp_region [] ?_
  simp only [K_eqs, Nat.reduceLT, K_ops, cav, K_nil, Then, true_and]
  (repeat' apply And.intro) <;> try (first | exact True.intro | omega)
  refine hK _ ?_
  clear hK K
  refine awp_seq_k fun K hK => awp_region [] ?_
  simp only [K_eqs, Nat.reduceLT, K_ops, reduceCtorEq, if_true, if_false, abuiltin, List.map_cons, Nat.reduceEqDiff, List.map_nil, alen, Tryd.underlying27, aslice, bopt, Option.map_none, Option.map_some, tszs, Bs_length, Nat.mul_one, lowOf, highOf, ne_eq, true_and, Bs_drop, Bs_take, sliceP, K_nil, Then, Int.le_refl, not_false_eq_true, and_true, or_true, Int.sub_zero, Int.toNat_natCast, Int.toNat_zero, List.drop_zero, Nat.le_refl, List.take_of_length_le]
  (repeat' apply And.intro) <;> try (first | exact True.intro | omega)
  refine hK _ ?_
  clear hK K
  refine awp_ret ?_
  simp only [K_fin, ares, aress, ares1, afin, K_ops, Nat.reduceEqDiff, reduceCtorEq, if_false, if_true, norefs_Bs, ntok, and_true, true_and]

/-- A number's four bytes. -/
def be4 (x : Nat) : List UInt8 := [UInt8.ofNat (x / 16777216), UInt8.ofNat (x / 65536), UInt8.ofNat (x / 256), UInt8.ofNat x]

theorem u8_wrap (n : Nat) : IntKind.u8.wrap (n : Int) = ((UInt8.ofNat n).toNat : Int) := by
  rw [IntKind.wrap_u8]
  simp
theorem fdiv_pow (a k : Nat) : Int.fdiv (a : Int) (2 ^ k) = ((a / 2 ^ k : Nat) : Int) := by
  rw [Int.fdiv_eq_ediv_of_nonneg _ (by exact Int.le_of_lt (Int.pow_pos (by omega)))]
  rw [show (2 : Int) ^ k = ((2 ^ k : Nat) : Int) from by simp]
  rfl
theorem B_eq (b : UInt8) : AV.val (.int .u8 (b.toNat : Int)) = B b := rfl
theorem Bs_cons (b : UInt8) (l : List UInt8) : B b :: Bs l = Bs (b :: l) := rfl

theorem put_ok (l : List UInt8) (p : Perm) (x : Nat) (hl : l.length ≤ 70368744177664) : ACalls Tryd.prog [] 15 [.sl l.length (Bs l) p, .val (.int .u32 (x : Int))] [] (fun r os => os = [] ∧ r = .sl (l.length + 4) (Bs (l ++ be4 x)) .no) := by
  refine acalls_of_awp Tryd.func15 rfl rfl Tryd.ntmps15 (rts := #[27]) rfl Tryd.results15 (by simp) ?_
  simp only [argSlots, Nat.reduceAdd]
  refine awp_seq_k fun K hK => awp_region [] ?_
  simp only [K_eqs, Nat.reduceLT, K_ops, cav, K_nil, Then, true_and]
  (repeat' apply And.intro) <;> try (first | exact True.intro | omega)
  refine hK _ ?_
  clear hK K
  refine awp_seq_k fun K hK => awp_region [] ?_
  simp only [K_eqs, Nat.reduceLT, K_ops, reduceCtorEq, if_false, if_true, K_call, Nat.reduceAdd, List.contains_nil, Bool.false_eq_true, List.map_cons, Nat.reduceEqDiff, List.map_nil, aviews, aview, norefs_Bs, ntok, and_true, Bool.or_false, true_and]
  refine andC_eq trivial (clip_ok l _) (by simp [noref, norefs_Bs]) ?_
  simp only [RestC_eqs, K_eqs, Nat.reduceLT, K_ops, Nat.reduceEqDiff, reduceCtorEq, if_true, if_false, cav, K_int, aint, Int.reduceLE, Int.reduceToNat, IntKind.bits, Nat.min_def, Nat.reduceLeDiff, fdiv_pow, K_conv, Tryd.underlying5, List.contains_nil, Bool.false_eq_true, aconvO, aview, noref, aconv, Tryd.underlying23, Option.isSome_some, u8_wrap, and_true, abuildOwn, Tryd.underlying27, tszs, tzeros, Nat.mul_one, zrep_byte, List.replicate_succ, List.replicate_zero, aparts, List.map_cons, List.map_nil, afill, spl, List.take_zero, acells, List.nil_append, List.length_cons, List.length_nil, Nat.zero_add, Bs_drop, List.drop_succ_cons, List.drop_zero, List.cons_append, List.take_succ_cons, Nat.reduceAdd, List.drop_nil, Bs_nil, List.append_nil, Bs_length, Nat.le_refl, List.all_cons, oneC, Value.oneCell', List.all_nil, Bool.and_true, abuildSlice, abuiltin, aappend, tbys, appSrc, srcCells, true_and, K_nil, Then]
  refine ⟨by omega, hK _ ?_⟩
  refine awp_keep [4] ?_
  simp only [keep_eqs, K_ops, Nat.reduceEqDiff, if_true, if_false]
  simp only [B_eq, ← Bs_nil, Bs_cons, ← Bs_append]
  refine awp_ret ?_
  simp only [Then, InBlock, K_fin, ares, aress, ares1, afin, ntok, noref, eq_self, K_ops, Nat.reduceEqDiff, if_true, if_false, List.headD_cons, List.tail_cons, and_true, true_and, norefs_Bs]
  simp [be4]

/-- What is put behind a message: how many noughts, all of it. -/
def padZ (n : Nat) : Nat := (119 - n % 64) % 64
def padL (n : Nat) : List UInt8 := 128 :: (List.replicate (padZ n) 0 ++ be4 (n / 536870912 % 4294967296) ++ be4 (n * 8 % 4294967296))

theorem u64_wrap (n : Nat) : IntKind.u64.wrap (n : Int) = ((n % 18446744073709551616 : Nat) : Int) := by
  simp [IntKind.wrap, IntKind.bits, IntKind.signed]
theorem u32_wrap (n : Nat) : IntKind.u32.wrap (n : Int) = ((n % 4294967296 : Nat) : Int) := by
  simp [IntKind.wrap, IntKind.bits, IntKind.signed]

theorem tmod_nat (a b : Nat) : Int.tmod (a : Int) (b : Int) = ((a % b : Nat) : Int) := rfl
theorem tdiv_nat (a b : Nat) : Int.tdiv (a : Int) (b : Int) = ((a / b : Nat) : Int) := rfl

theorem pad_test (n k : Nat) (hk : k ≤ padZ n) : ((IntKind.u64.wrap (IntKind.u64.wrap ((n : Int) + IntKind.u64.wrap ((1 + k : Nat) : Int)) + 8)).tmod 64 != 0) = decide (k < padZ n) := by
  have e1 : IntKind.u64.wrap ((1 + k : Nat) : Int) = ((1 + k : Nat) : Int) := by
    rw [u64_wrap]
    unfold padZ at hk
    omega
  rw [e1, show (n : Int) + ((1 + k : Nat) : Int) = ((n + (1 + k) : Nat) : Int) from by omega, u64_wrap, show (((n + (1 + k)) % 18446744073709551616 : Nat) : Int) + 8 = (((n + (1 + k)) % 18446744073709551616 + 8 : Nat) : Int) from by omega, u64_wrap]
  rw [show ((64 : Int)) = ((64 : Nat) : Int) from rfl, tmod_nat]
  unfold padZ at *
  rw [Bool.eq_iff_iff]
  simp only [bne_iff_ne, ne_eq, decide_eq_true_eq]
  omega

theorem pad_ok (n : Nat) (hn : n < 18446744073709551616) : ACalls Tryd.prog [] 50 [.val (.int .u64 (n : Int))] [] (fun r os => os = [] ∧ r = .sl (padL n).length (Bs (padL n)) .no) := by
  have hz : padZ n < 64 := by unfold padZ; omega
  refine acalls_of_awp Tryd.func50 rfl rfl Tryd.ntmps50 (rts := #[27]) rfl Tryd.results50 (by simp) ?_
  simp only [argSlots, Nat.reduceAdd]
  refine awp_seq_k fun K hK => awp_region [] ?_
  simp only [K_eqs, Nat.reduceLT, K_ops, cav, K_nil, Then, true_and]
  (repeat' apply And.intro) <;> try (first | exact True.intro | omega)
  refine hK _ ?_
  clear hK K
  refine awp_seq_k fun K hK => awp_region [] ?_
  simp only [K_eqs, List.contains_nil, Bool.false_eq_true, abuildOwn, Tryd.underlying27, tszs, tzeros, Nat.mul_one, zrep_byte, List.replicate_succ, List.replicate_zero, aparts, List.map_cons, K_ops, cav, List.map_nil, afill, spl, List.take_zero, acells, List.nil_append, List.length_cons, List.length_nil, Nat.zero_add, Bs_drop, List.drop_succ_cons, List.drop_nil, Bs_nil, List.append_nil, Bs_length, Nat.le_refl, List.all_cons, oneC, Value.oneCell', List.all_nil, Bool.and_true, and_true, Nat.reduceLeDiff, abuildSlice, if_false, Nat.reduceLT, Nat.reduceEqDiff, reduceCtorEq, if_true, K_nil, Then, true_and]
  (repeat' apply And.intro) <;> try (first | exact True.intro | omega)
  refine hK _ ?_
  clear hK K
  refine awp_keep [0, 3] ?_
  simp only [keep_eqs, K_ops, Nat.reduceEqDiff, if_true, if_false]
  refine awp_seq_k fun K hK => ?_
  refine awp_block ?_
  refine awp_tok 1 3 rfl ?_
  refine awp_loop_from (fun k => ⟨26, [(0, .val (.int .u64 (n : Int))), (3, .sl (1 + k) (Bs (128 :: List.replicate k 0)) (.tok 0))], [.tok 1 (1 + k)]⟩) (fun k => k ≤ padZ n) (fun k => padZ n - k) 0 (Nat.zero_le _) (.of_keep [0, 3] rfl) ?_
  intro k hk
  refine awp_seq (awp_seq ?_)
  refine awp_region [] ?_
  simp only [K_eqs, Nat.reduceLT, K_ops, reduceCtorEq, if_false, if_true, Nat.reduceEqDiff, abuiltin, List.map_cons, List.map_nil, alen, Tryd.underlying27, K_conv, Tryd.underlying56, List.contains_nil, Bool.false_eq_true, aconvO, aview, ntok, Tryd.underlying3, aconv, Option.isSome_some, cav, K_nil, Then, true_and, K_int, aint, ne_eq, Int.reduceEq, not_false_eq_true, and_true, pad_test n k hk]
  (repeat' apply And.intro) <;> try (first | exact True.intro | omega)
  refine awp_cond rfl rfl (fun h => ?_) (fun h => ?_)
  · have hlt : k < padZ n := by simpa using h
    refine awp_skip ?_
    simp only [Then]
    refine awp_keep [0, 3] ?_
    simp only [keep_eqs, K_ops, Nat.reduceEqDiff, if_true, if_false]
    refine awp_block ?_
    refine awp_region [] ?_
    simp only [K_eqs, Nat.reduceLT, K_ops, reduceCtorEq, if_true, if_false, List.contains_nil, Bool.false_eq_true, abuildOwn, Tryd.underlying27, tszs, tzeros, Nat.mul_one, zrep_byte, List.replicate_succ, List.replicate_zero, aparts, List.map_cons, cav, List.map_nil, afill, spl, List.take_zero, acells, List.nil_append, List.length_cons, List.length_nil, Nat.zero_add, Bs_drop, List.drop_succ_cons, List.drop_nil, Bs_nil, List.append_nil, Bs_length, Nat.le_refl, List.all_cons, oneC, Value.oneCell', List.all_nil, Bool.and_true, and_true, Nat.reduceLeDiff, List.cons_append, abuildSlice, abuiltin, Nat.reduceEqDiff, aappend, tbys, appSrc, srcCells, List.getElem?_cons_zero, true_and, List.set_cons_zero, K_nil]
    (repeat' apply And.intro) <;> try (first | exact True.intro | omega)
    all_goals try (simp; omega)
    simp only [InBlock]
    refine ⟨k + 1, by omega, by omega, ?_⟩
    have e : Bs (128 :: List.replicate k 0) ++ [AV.val (Value.int IntKind.u8 0)] = Bs (128 :: List.replicate (k + 1) 0) := by
      rw [List.replicate_succ', ← List.cons_append, Bs_append]
      rfl
    rw [e]
    exact .of_keep [0, 3] rfl
  · have hge : k = padZ n := by
      have : ¬ k < padZ n := by simpa using h
      omega
    subst hge
    refine awp_exit ?_
    simp only [Then, InBlock, if_true]
    refine hK _ ?_
    clear hK K
    refine awp_keep [0, 3] ?_
    simp only [keep_eqs, K_ops, Nat.reduceEqDiff, if_true, if_false]
    refine awp_seq_k fun K hK => awp_region [] ?_
    simp only [K_eqs, Nat.reduceLT, K_ops, reduceCtorEq, if_true, if_false, Nat.reduceEqDiff, cav, K_int, aint, Int.reduceLE, Int.reduceToNat, IntKind.bits, Nat.min_def, Nat.reduceLeDiff, fdiv_pow, K_conv, Tryd.underlying23, List.contains_nil, Bool.false_eq_true, aconvO, aview, noref, aconv, Tryd.underlying56, Option.isSome_some, u32_wrap, and_true, K_call, Nat.reduceAdd, List.map_cons, List.map_nil, aviews, norefs_Bs, ntok, Bool.or_false, true_and]
    rw [show 1 + padZ n = (128 :: List.replicate (padZ n) (0 : UInt8)).length from by simp; omega]
    refine andC_eq (by simp [norefs_Bs, norefs, noref]) (put_ok _ _ _ (by simp; omega)) (by simp [noref, norefs, norefs_Bs, flat]) ?_
    simp only [List.length_cons, List.cons_append, RestC_eqs, K_eqs, Nat.reduceLT, K_ops, Nat.reduceEqDiff, reduceCtorEq, if_false, if_true, K_nil, Then, true_and]
    (repeat' apply And.intro) <;> try (first | exact True.intro | omega)
    refine hK _ ?_
    clear hK K
    refine awp_keep [0, 3] ?_
    simp only [keep_eqs, K_ops, Nat.reduceEqDiff, if_true, if_false]
    refine awp_seq_k fun K hK => awp_region [] ?_
    simp only [K_eqs, Nat.reduceLT, K_ops, reduceCtorEq, if_true, if_false, Nat.reduceEqDiff, cav, K_int, aint, Int.reduceLE, Int.reduceToNat, IntKind.bits, Nat.min_def, Nat.reduceLeDiff, K_conv, Tryd.underlying23, List.contains_nil, Bool.false_eq_true, aconvO, aview, noref, aconv, Tryd.underlying56, Option.isSome_some, and_true, K_call, Nat.reduceAdd, List.map_cons, List.map_nil, aviews, norefs_Bs, ntok, Bool.or_false, true_and]
    rw [show ((n : Int) * 2 ^ 3) = ((n * 8 : Nat) : Int) from by omega, u64_wrap, u32_wrap]
    rw [show (List.replicate (padZ n) (0 : UInt8)).length + 1 + 4 = (128 :: (List.replicate (padZ n) 0 ++ be4 (n / 2 ^ 29 % 4294967296))).length from by simp [be4]]
    refine andC_eq (by simp [norefs_Bs, norefs, noref]) (put_ok _ _ _ (by simp [be4]; omega)) (by simp [noref, norefs, norefs_Bs, flat]) ?_
    simp only [List.length_cons, List.cons_append, RestC_eqs, K_eqs, Nat.reduceLT, K_ops, Nat.reduceEqDiff, reduceCtorEq, if_false, if_true, K_nil, Then, true_and]
    (repeat' apply And.intro) <;> try (first | exact True.intro | omega)
    refine hK _ ?_
    clear hK K
    refine awp_keep [2] ?_
    simp only [keep_eqs, K_ops, Nat.reduceEqDiff, if_true, if_false]
    refine awp_ret ?_
    simp only [Then, InBlock, K_fin, ares, aress, ares1, afin, ntok, noref, eq_self, K_ops, Nat.reduceEqDiff, if_true, if_false, List.headD_cons, List.tail_cons, and_true, true_and, norefs_Bs]
    have e1 : n * 8 % 18446744073709551616 % 4294967296 = n * 8 % 4294967296 := by omega
    have e2 : n / 2 ^ 29 % 4294967296 = n / 536870912 % 4294967296 := rfl
    rw [e1, e2]
    simp only [padL]
    congr 1
    simp [be4]

/-- A number's bytes, the first j of eight. -/
def be8 (x : Nat) (j : Nat) : List UInt8 := (List.range j).map fun i => UInt8.ofNat (x / 2 ^ (8 * (7 - i)))

theorem be8_succ (x j : Nat) : be8 x (j + 1) = be8 x j ++ [UInt8.ofNat (x / 2 ^ (8 * (7 - j)))] := by simp [be8, List.range_succ]
theorem be8_length (x j : Nat) : (be8 x j).length = j := by simp [be8]

theorem ofNat8 {a b : Nat} (h : a % 256 = b % 256) : UInt8.ofNat a = UInt8.ofNat b := by
  apply UInt8.toNat_inj.1
  simpa using h

theorem be8_eq (n : Nat) : be8 (n * 8 % 18446744073709551616) 8 = be4 (n / 536870912 % 4294967296) ++ be4 (n * 8 % 4294967296) := by
  simp only [be8, be4, List.range_succ, List.range_zero, List.nil_append, List.cons_append, List.map_cons, List.map_nil]
  repeat' (apply congr (congrArg List.cons (ofNat8 (by omega))))
  rfl

theorem i64_wrap {n : Int} (h0 : -9223372036854775808 ≤ n) (h1 : n ≤ 9223372036854775807) : IntKind.i64.wrap n = n := by
  simp [IntKind.wrap, IntKind.bits, IntKind.signed]
  omega

theorem refpad_ok (n : Nat) (hn : n < 18446744073709551616) : ACalls Tryd.prog [] 53 [.val (.int .u64 (n : Int))] [] (fun r os => os = [] ∧ r = .sl (padL n).length (Bs (padL n)) .no) := by
  have hz : padZ n < 64 := by unfold padZ; omega
  have hpz : (IntKind.i64.wrap (IntKind.i64.wrap (55 - IntKind.i64.wrap ((n : Int).tmod 64)) + 64)).tmod 64 = (padZ n : Int) := by
    rw [show (64 : Int) = ((64 : Nat) : Int) from rfl, tmod_nat]
    rw [i64_wrap (n := ((n % 64 : Nat) : Int)) (by omega) (by omega), i64_wrap (n := 55 - ((n % 64 : Nat) : Int)) (by omega) (by omega), i64_wrap (by omega) (by omega)]
    rw [show 55 - ((n % 64 : Nat) : Int) + ((64 : Nat) : Int) = ((119 - n % 64 : Nat) : Int) from by omega, tmod_nat]
    rfl
  refine acalls_of_awp Tryd.func53 rfl rfl Tryd.ntmps53 (rts := #[27]) rfl Tryd.results53 (by simp) ?_
  simp only [argSlots, Nat.reduceAdd]
  refine awp_seq_k fun K hK => awp_region [] ?_
  simp only [K_eqs, Nat.reduceLT, K_ops, cav, K_nil, Then, true_and]
  (repeat' apply And.intro) <;> try (first | exact True.intro | omega)
  refine hK _ ?_
  clear hK K
  refine awp_seq_k fun K hK => awp_region [] ?_
  simp only [K_eqs, Nat.reduceLT, K_ops, reduceCtorEq, if_true, if_false, Nat.reduceEqDiff, cav, K_int, aint, ne_eq, Int.reduceEq, not_false_eq_true, and_true, K_conv, Tryd.underlying3, List.contains_nil, Bool.false_eq_true, aconvO, aview, noref, aconv, Tryd.underlying56, Option.isSome_some, K_nil, Then, true_and]
  (repeat' apply And.intro) <;> try (first | exact True.intro | omega)
  refine hK _ ?_
  clear hK K
  refine awp_keep [0, 3] ?_
  simp only [keep_eqs, K_ops, Nat.reduceEqDiff, if_true, if_false]
  refine awp_seq_k fun K hK => awp_region [] ?_
  simp only [hpz, K_eqs, List.contains_nil, Bool.false_eq_true, abuildOwn, Tryd.underlying27, tszs, tzeros, Nat.mul_one, zrep_byte, List.replicate_succ, List.replicate_zero, aparts, List.map_cons, K_ops, cav, List.map_nil, afill, spl, List.take_zero, acells, List.nil_append, List.length_cons, List.length_nil, Nat.zero_add, Bs_drop, List.drop_succ_cons, List.drop_nil, Bs_nil, List.append_nil, Bs_length, Nat.le_refl, List.all_cons, oneC, Value.oneCell', List.all_nil, Bool.and_true, and_true, Nat.reduceLeDiff, abuildSlice, if_false, Nat.reduceLT, Nat.reduceEqDiff, reduceCtorEq, if_true, abuiltin, aappend, tbys, appSrc, Tryd.underlying3, Int.toNat_natCast, Bs_one, true_and, List.cons_append, K_nil, Then]
  (repeat' apply And.intro) <;> try (first | exact True.intro | omega)
  refine hK _ ?_
  clear hK K
  refine awp_keep [0, 4] ?_
  simp only [keep_eqs, K_ops, Nat.reduceEqDiff, if_true, if_false]
  rw [show AV.val (Value.int IntKind.u8 128) :: Bs (List.replicate (padZ n) 0) = Bs (128 :: List.replicate (padZ n) 0) from rfl]
  refine awp_seq_k fun K hK => awp_region [] ?_
  simp only [K_eqs, Nat.reduceLT, K_ops, reduceCtorEq, if_false, if_true, Nat.reduceEqDiff, cav, K_int, aint, K_nil, Then, true_and]
  (repeat' apply And.intro) <;> try (first | exact True.intro | omega)
  refine hK _ ?_
  clear hK K
  refine awp_keep [4, 5] ?_
  simp only [keep_eqs, K_ops, Nat.reduceEqDiff, if_true, if_false]
  refine awp_seq_k fun K hK => ?_
  refine awp_seq_k fun K hK => awp_region [] ?_
  simp only [K_eqs, Nat.reduceLT, K_ops, cav, K_nil, Then, true_and]
  (repeat' apply And.intro) <;> try (first | exact True.intro | omega)
  refine hK _ ?_
  clear hK K
  refine awp_keep [4, 5, 6] ?_
  simp only [keep_eqs, K_ops, Nat.reduceEqDiff, if_true, if_false]
  refine awp_block ?_
  rw [show ((n : Int) * 8) = ((n * 8 : Nat) : Int) from by omega, u64_wrap]
  have hx : n * 8 % 18446744073709551616 < 18446744073709551616 := by omega
  generalize hxe : n * 8 % 18446744073709551616 = x at hx ⊢
  refine awp_loop_from (fun j => ⟨33, [(4, .sl (1 + padZ n + j) (Bs (128 :: List.replicate (padZ n) 0 ++ be8 x j)) (.tok 0)), (5, .val (.int .u64 (x : Int))), (6, .val (.int .i64 (7 - (j : Int))))], [.tok 1 (1 + padZ n + j)]⟩) (fun j => j ≤ 8) (fun j => 8 - j) 0 (by omega) (.of_keep [4, 5, 6] (by simp [keep, lk, be8])) ?_
  intro j hj
  refine awp_seq (awp_seq ?_)
  refine awp_region [] ?_
  simp only [List.cons_append, K_eqs, Nat.reduceLT, K_ops, Nat.reduceEqDiff, if_true, if_false, cav, K_int, aint, K_nil, Then, true_and]
  (repeat' apply And.intro) <;> try (first | exact True.intro | omega)
  refine awp_cond rfl rfl (fun h => ?_) (fun h => ?_)
  · clear hK
    have hlt : j < 8 := by simp at h; omega
    refine awp_skip ?_
    simp only [Then]
    refine awp_keep [4, 5, 6] ?_
    simp only [keep_eqs, K_ops, Nat.reduceEqDiff, if_true, if_false]
    refine awp_seq ?_
    refine awp_block ?_
    refine awp_region [] ?_
    rw [show (7 - (j : Int)) = ((7 - j : Nat) : Int) from by omega]
    simp only [K_eqs, Nat.reduceLT, K_ops, Nat.reduceEqDiff, if_false, if_true, cav, K_int, aint, K_conv, Tryd.underlying60, List.contains_nil, Bool.false_eq_true, aconvO, aview, noref, aconv, Tryd.underlying3, Option.isSome_some, and_true, IntKind.bits, Nat.min_def, Tryd.underlying5, ntok, Tryd.underlying56, abuildOwn, Tryd.underlying27, tszs, tzeros, Nat.mul_one, zrep_byte, List.replicate_succ, List.replicate_zero, aparts, List.map_cons, List.map_nil, afill, spl, List.take_zero, acells, List.nil_append, Nat.zero_add, Bs_drop, Bs_length, List.length_cons, List.length_nil, Nat.le_refl, true_and, Nat.reduceLeDiff, abuildSlice, abuiltin, aappend, tbys, appSrc, srcCells, K_nil, ne_eq, Int.reduceEq, not_false_eq_true, List.all_cons, oneC, Value.oneCell', List.all_nil, Bool.and_true, List.getElem?_cons_zero, List.drop_succ_cons, List.drop_nil, Bs_nil, List.append_nil, List.set_cons_zero]
    have e2 : IntKind.u64.wrap (IntKind.i64.wrap (8 * ((7 - j : Nat) : Int))) = ((8 * (7 - j) : Nat) : Int) := by
      rw [i64_wrap (by omega) (by omega), show 8 * ((7 - j : Nat) : Int) = ((8 * (7 - j) : Nat) : Int) from by omega, u64_wrap]
      omega
    simp only [e2]
    refine ⟨by omega, ⟨by simp [be8_length]; omega, by omega, by omega⟩, ?_⟩
    simp only [InBlock, Then]
    refine awp_keep [4, 5, 6] ?_
    simp only [keep_eqs, K_ops, Nat.reduceEqDiff, if_true, if_false]
    refine awp_region [] ?_
    simp only [Int.toNat_natCast, K_eqs, Nat.reduceLT, K_ops, Nat.reduceEqDiff, if_true, if_false, cav, K_int, aint, K_nil, Then, true_and]
    rw [i64_wrap (by omega) (by omega)]
    refine ⟨j + 1, by omega, by omega, ?_⟩
    rw [if_pos (by omega), show ((256 : Int)) = ((256 : Nat) : Int) from rfl, fdiv_pow, tmod_nat, u8_wrap, B_eq, ← Bs_nil, Bs_cons, ← Bs_append]
    have e3 : (128 :: (List.replicate (padZ n) 0 ++ be8 x j)) ++ [UInt8.ofNat (x / 2 ^ (8 * (7 - j)) % 256)] = 128 :: (List.replicate (padZ n) 0 ++ be8 x (j + 1)) := by
      rw [be8_succ, ofNat8 (Nat.mod_mod _ 256)]
      simp
    rw [e3, show ((7 - j : Nat) : Int) - 1 = 7 - ((j + 1 : Nat) : Int) from by omega, show 1 + padZ n + j + 1 = 1 + padZ n + (j + 1) from by omega]
    exact .of_keep [4, 5, 6] rfl
  · have he : j = 8 := by simp at h; omega
    subst he
    refine awp_exit ?_
    simp only [Then, InBlock, if_true]
    refine hK _ ?_
    clear hK K
    refine awp_keep [4] ?_
    simp only [keep_eqs, K_ops, Nat.reduceEqDiff, if_true, if_false]
    refine awp_seq_k fun K hK => awp_region [] ?_
    simp only [K_eqs, Nat.reduceLT, K_ops, if_true, Nat.reduceEqDiff, if_false, K_nil, Then, true_and]
    (repeat' apply And.intro) <;> try (first | exact True.intro | omega)
    refine hK _ ?_
    clear hK K
    refine awp_keep [2] ?_
    simp only [keep_eqs, K_ops, Nat.reduceEqDiff, if_true, if_false]
    refine awp_ret ?_
    simp only [Then, InBlock, K_fin, ares, aress, ares1, afin, ntok, noref, eq_self, K_ops, Nat.reduceEqDiff, if_true, if_false, List.headD_cons, List.tail_cons, and_true, true_and, norefs_Bs]
    have e4 : (128 :: (List.replicate (padZ n) 0 ++ be8 x 8)) = padL n := by
      rw [← hxe, be8_eq]
      simp [padL]
    rw [e4]
    simp [padL, be4]
    omega

theorem padL3_length : (padL 3).length = 61 := by decide
theorem padL3_first : (Bs (padL 3))[0]? = some (B 128) := by rfl
theorem padL3_last : (Bs (padL 3))[60]? = some (B 24) := by rfl

theorem alive_ok : ACalls Tryd.prog [] 30 [] [] (fun r os => os = [] ∧ r = .val (.bool true)) := by
  refine acalls_of_awp Tryd.func30 rfl rfl Tryd.ntmps30 (rts := #[4]) rfl Tryd.results30 (by simp) ?_
  simp only [argSlots, Nat.reduceAdd]
  refine awp_seq_k fun K hK => awp_region [] ?_
  simp only [K_eqs, Nat.reduceLT, K_ops, cav, K_nil, Then, true_and]
  (repeat' apply And.intro) <;> try (first | exact True.intro | omega)
  refine hK _ ?_
  clear hK K
  refine awp_seq_k fun K hK => awp_region [] ?_
  simp only [K_call, Nat.reduceLT, Nat.reduceAdd, List.contains_nil, Bool.false_eq_true, K_ops, List.map_cons, cav, List.map_nil, if_false, aviews, aview, noref, and_true, Bool.or_false, true_and]
  refine andC_eq (by simp [norefs_Bs, norefs, noref]) (pad_ok 3 (by omega)) (by simp [noref, norefs, norefs_Bs, flat]) ?_
  simp only [RestC_eqs, K_eqs, Nat.reduceLT, K_ops, reduceCtorEq, if_false, if_true, K_nil, Then, true_and]
  (repeat' apply And.intro) <;> try (first | exact True.intro | omega)
  refine hK _ ?_
  clear hK K
  refine awp_keep [0, 1] ?_
  simp only [keep_eqs, K_ops, Nat.reduceEqDiff, if_true, if_false]
  generalize hl : padL 3 = l
  have h61 : l.length = 61 := by rw [← hl]; decide
  have h128 : l.getD 0 0 = 128 := by rw [← hl]; decide
  have h24 : l.getD 60 0 = 24 := by rw [← hl]; decide
  refine awp_seq_k fun K hK => awp_region [] ?_
  simp only [h61, K_eqs, Nat.reduceLT, K_ops, reduceCtorEq, if_true, if_false, abuiltin, List.map_cons, Nat.reduceEqDiff, List.map_nil, alen, Tryd.underlying27, Int.cast_ofNat_Int, cav, true_and, K_int, aint, beq_self_eq_true, gval, gslot, List.getElem?_toArray, List.getElem?_cons_succ, List.getElem?_cons_zero, Option.bind_some, gdec_eqs, K_gT, gok, aidxAddr, tszs, Bs_length, Nat.mul_one, Int.le_refl, Int.reduceLT, and_true, Int.toNat_zero, List.drop_zero, aload, List.contains_nil, Bool.false_eq_true, apart, isAggD, Tryd.underlying5, apick, Bs_getD, B, h128, UInt8.reduceToNat, Int.reduceLE, Int.reduceToNat, Bs_drop, K_nil, Then, List.length_drop, Nat.reduceSub, drop_getD, Nat.add_zero, h24]
  (repeat' apply And.intro) <;> try (first | exact True.intro | omega)
  refine hK _ ?_
  clear hK K
  refine awp_ret ?_
  simp only [K_fin, ares, aress, ares1, afin, K_ops, reduceCtorEq, if_false, if_true, noref, and_true, true_and]

end Go.Proofs.YtjdlgbkpdfaloaaDoor
