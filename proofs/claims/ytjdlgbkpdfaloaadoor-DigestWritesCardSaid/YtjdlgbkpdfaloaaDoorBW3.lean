/-
  Texts of one proof, merged: T, Wa, Dp, Wl, Wm, Wn, Wo, Db, Wp, Df, Dd, Dg, Dh, Ea, Eb, Ec, Ed, Ee, Eg.
-/
import Derived.Test.YtjdlgbkpdfaloaaDoorBW2
import Derived.Test.YtjdlgbkpdfaloaaDoorProg
import Derived.KernelRfl
import Derived.Laws.BitsLemmas
import Derived.WalkKit
/-
  The sizes and the zero values of the seat's types, as closed facts (printed by wip/tools/gentypes.py).
-/
namespace Go.Proofs.YtjdlgbkpdfaloaaDoor
open Go Go.V
theorem tszs : tsz Tryd.prog 2 = some 1 ∧
  tsz Tryd.prog 3 = some 1 ∧
  tsz Tryd.prog 4 = some 1 ∧
  tsz Tryd.prog 5 = some 1 ∧
  tsz Tryd.prog 6 = some 1 ∧
  tsz Tryd.prog 7 = some 4 ∧
  tsz Tryd.prog 8 = some 4 ∧
  tsz Tryd.prog 9 = some 1 ∧
  tsz Tryd.prog 10 = some 1 ∧
  tsz Tryd.prog 11 = some 1 ∧
  tsz Tryd.prog 12 = some 1 ∧
  tsz Tryd.prog 13 = some 2 ∧
  tsz Tryd.prog 14 = some 2 ∧
  tsz Tryd.prog 15 = some 1 ∧
  tsz Tryd.prog 16 = some 1 ∧
  tsz Tryd.prog 17 = some 1 ∧
  tsz Tryd.prog 18 = some 1 ∧
  tsz Tryd.prog 19 = some 1 ∧
  tsz Tryd.prog 21 = some 1 ∧
  tsz Tryd.prog 23 = some 1 ∧
  tsz Tryd.prog 25 = some 8 ∧
  tsz Tryd.prog 27 = some 1 ∧
  tsz Tryd.prog 33 = some 3 ∧
  tsz Tryd.prog 37 = some 64 ∧
  tsz Tryd.prog 38 = some 1 ∧
  tsz Tryd.prog 40 = some 64 ∧
  tsz Tryd.prog 45 = some 1 ∧
  tsz Tryd.prog 46 = some 32 ∧
  tsz Tryd.prog 47 = some 32 ∧
  tsz Tryd.prog 51 = some 1 ∧
  tsz Tryd.prog 56 = some 1 ∧
  tsz Tryd.prog 60 = some 1 ∧
  tsz Tryd.prog 61 = some 4 ∧
  tsz Tryd.prog 65 = some 73 ∧
  tsz Tryd.prog 66 = some 73 ∧
  tsz Tryd.prog 67 = some 1 ∧
  tsz Tryd.prog 72 = some 4 ∧
  tsz Tryd.prog 73 = some 4 ∧
  tsz Tryd.prog 74 = some 0 ∧
  tsz Tryd.prog 75 = some 0 ∧
  tsz Tryd.prog 76 = some 0 ∧
  tsz Tryd.prog 78 = some 1 ∧
  tsz Tryd.prog 79 = some 1 ∧
  tsz Tryd.prog 81 = some 1 ∧
  tsz Tryd.prog 82 = some 1 ∧
  tsz Tryd.prog 83 = some 1 ∧
  tsz Tryd.prog 84 = some 11 ∧
  tsz Tryd.prog 85 = some 11 := ⟨by kernel_rfl, by kernel_rfl, by kernel_rfl, by kernel_rfl, by kernel_rfl, by kernel_rfl, by kernel_rfl, by kernel_rfl, by kernel_rfl, by kernel_rfl, by kernel_rfl, by kernel_rfl, by kernel_rfl, by kernel_rfl, by kernel_rfl, by kernel_rfl, by kernel_rfl, by kernel_rfl, by kernel_rfl, by kernel_rfl, by kernel_rfl, by kernel_rfl, by kernel_rfl, by kernel_rfl, by kernel_rfl, by kernel_rfl, by kernel_rfl, by kernel_rfl, by kernel_rfl, by kernel_rfl, by kernel_rfl, by kernel_rfl, by kernel_rfl, by kernel_rfl, by kernel_rfl, by kernel_rfl, by kernel_rfl, by kernel_rfl, by kernel_rfl, by kernel_rfl, by kernel_rfl, by kernel_rfl, by kernel_rfl, by kernel_rfl, by kernel_rfl, by kernel_rfl, by kernel_rfl, by kernel_rfl⟩

theorem tbys : tby Tryd.prog 2 = some 8 ∧
  tby Tryd.prog 3 = some 8 ∧
  tby Tryd.prog 4 = some 1 ∧
  tby Tryd.prog 5 = some 1 ∧
  tby Tryd.prog 6 = some 1 ∧
  tby Tryd.prog 7 = some 24 ∧
  tby Tryd.prog 8 = some 24 ∧
  tby Tryd.prog 9 = some 16 ∧
  tby Tryd.prog 10 = some 16 ∧
  tby Tryd.prog 11 = some 16 ∧
  tby Tryd.prog 12 = some 8 ∧
  tby Tryd.prog 13 = some 24 ∧
  tby Tryd.prog 14 = some 24 ∧
  tby Tryd.prog 15 = some 8 ∧
  tby Tryd.prog 16 = some 8 ∧
  tby Tryd.prog 17 = some 8 ∧
  tby Tryd.prog 18 = some 8 ∧
  tby Tryd.prog 19 = some 8 ∧
  tby Tryd.prog 21 = some 4 ∧
  tby Tryd.prog 23 = some 4 ∧
  tby Tryd.prog 25 = some 32 ∧
  tby Tryd.prog 27 = some 24 ∧
  tby Tryd.prog 33 = some 12 ∧
  tby Tryd.prog 37 = some 64 ∧
  tby Tryd.prog 38 = some 24 ∧
  tby Tryd.prog 40 = some 256 ∧
  tby Tryd.prog 45 = some 24 ∧
  tby Tryd.prog 46 = some 32 ∧
  tby Tryd.prog 47 = some 32 ∧
  tby Tryd.prog 51 = some 8 ∧
  tby Tryd.prog 56 = some 8 ∧
  tby Tryd.prog 60 = some 8 ∧
  tby Tryd.prog 61 = some 4 ∧
  tby Tryd.prog 65 = some 104 ∧
  tby Tryd.prog 66 = some 104 ∧
  tby Tryd.prog 67 = some 24 ∧
  tby Tryd.prog 72 = some 40 ∧
  tby Tryd.prog 73 = some 40 ∧
  tby Tryd.prog 74 = some 0 ∧
  tby Tryd.prog 75 = some 0 ∧
  tby Tryd.prog 76 = some 0 ∧
  tby Tryd.prog 78 = some 1 ∧
  tby Tryd.prog 79 = some 1 ∧
  tby Tryd.prog 81 = some 8 ∧
  tby Tryd.prog 82 = some 4 ∧
  tby Tryd.prog 83 = some 4 ∧
  tby Tryd.prog 84 = some 48 ∧
  tby Tryd.prog 85 = some 48 := ⟨by kernel_rfl, by kernel_rfl, by kernel_rfl, by kernel_rfl, by kernel_rfl, by kernel_rfl, by kernel_rfl, by kernel_rfl, by kernel_rfl, by kernel_rfl, by kernel_rfl, by kernel_rfl, by kernel_rfl, by kernel_rfl, by kernel_rfl, by kernel_rfl, by kernel_rfl, by kernel_rfl, by kernel_rfl, by kernel_rfl, by kernel_rfl, by kernel_rfl, by kernel_rfl, by kernel_rfl, by kernel_rfl, by kernel_rfl, by kernel_rfl, by kernel_rfl, by kernel_rfl, by kernel_rfl, by kernel_rfl, by kernel_rfl, by kernel_rfl, by kernel_rfl, by kernel_rfl, by kernel_rfl, by kernel_rfl, by kernel_rfl, by kernel_rfl, by kernel_rfl, by kernel_rfl, by kernel_rfl, by kernel_rfl, by kernel_rfl, by kernel_rfl, by kernel_rfl, by kernel_rfl, by kernel_rfl⟩

theorem tzeros : tzero Tryd.prog 2 = some ([.int .i64 0]) ∧
  tzero Tryd.prog 3 = some ([.int .i64 0]) ∧
  tzero Tryd.prog 4 = some ([.bool false]) ∧
  tzero Tryd.prog 5 = some ([.int .u8 0]) ∧
  tzero Tryd.prog 6 = some ([.int .u8 0]) ∧
  tzero Tryd.prog 7 = some ([.int .i64 0, .int .i64 0, .bool false, .int .u8 0]) ∧
  tzero Tryd.prog 8 = some ([.int .i64 0, .int .i64 0, .bool false, .int .u8 0]) ∧
  tzero Tryd.prog 9 = some ([.string ⟨#[]⟩]) ∧
  tzero Tryd.prog 10 = some ([.string ⟨#[]⟩]) ∧
  tzero Tryd.prog 11 = some ([.string ⟨#[]⟩]) ∧
  tzero Tryd.prog 12 = some ([.int .u64 0]) ∧
  tzero Tryd.prog 13 = some ([.string ⟨#[]⟩, .int .u64 0]) ∧
  tzero Tryd.prog 14 = some ([.string ⟨#[]⟩, .int .u64 0]) ∧
  tzero Tryd.prog 15 = some ([.pointer none]) ∧
  tzero Tryd.prog 16 = some ([.pointer none]) ∧
  tzero Tryd.prog 17 = some ([.pointer none]) ∧
  tzero Tryd.prog 18 = some ([.pointer none]) ∧
  tzero Tryd.prog 19 = some ([.pointer none]) ∧
  tzero Tryd.prog 21 = some ([.int .i32 0]) ∧
  tzero Tryd.prog 23 = some ([.int .u32 0]) ∧
  tzero Tryd.prog 25 = some (zvs .u32 8) ∧
  tzero Tryd.prog 27 = some ([.slice none 0 0]) ∧
  tzero Tryd.prog 33 = some ([.int .u32 0, .int .u32 0, .int .u32 0]) ∧
  tzero Tryd.prog 37 = some (zvs .u8 64) ∧
  tzero Tryd.prog 38 = some ([.slice none 0 0]) ∧
  tzero Tryd.prog 40 = some (zvs .u32 64) ∧
  tzero Tryd.prog 45 = some ([.slice none 0 0]) ∧
  tzero Tryd.prog 46 = some (zvs .u8 32) ∧
  tzero Tryd.prog 47 = some (zvs .u8 32) ∧
  tzero Tryd.prog 51 = some ([.pointer none]) ∧
  tzero Tryd.prog 56 = some ([.int .u64 0]) ∧
  tzero Tryd.prog 60 = some ([.int .u64 0]) ∧
  tzero Tryd.prog 61 = some ([.int .u8 0, .int .u8 0, .int .u8 0, .int .u8 0]) ∧
  tzero Tryd.prog 65 = some ([.int .u32 0, .int .u32 0, .int .u32 0, .int .u32 0, .int .u32 0, .int .u32 0, .int .u32 0, .int .u32 0, .int .u8 0, .int .u8 0, .int .u8 0, .int .u8 0, .int .u8 0, .int .u8 0, .int .u8 0, .int .u8 0, .int .u8 0, .int .u8 0, .int .u8 0, .int .u8 0, .int .u8 0, .int .u8 0, .int .u8 0, .int .u8 0, .int .u8 0, .int .u8 0, .int .u8 0, .int .u8 0, .int .u8 0, .int .u8 0, .int .u8 0, .int .u8 0, .int .u8 0, .int .u8 0, .int .u8 0, .int .u8 0, .int .u8 0, .int .u8 0, .int .u8 0, .int .u8 0, .int .u8 0, .int .u8 0, .int .u8 0, .int .u8 0, .int .u8 0, .int .u8 0, .int .u8 0, .int .u8 0, .int .u8 0, .int .u8 0, .int .u8 0, .int .u8 0, .int .u8 0, .int .u8 0, .int .u8 0, .int .u8 0, .int .u8 0, .int .u8 0, .int .u8 0, .int .u8 0, .int .u8 0, .int .u8 0, .int .u8 0, .int .u8 0, .int .u8 0, .int .u8 0, .int .u8 0, .int .u8 0, .int .u8 0, .int .u8 0, .int .u8 0, .int .u8 0, .int .u64 0]) ∧
  tzero Tryd.prog 66 = some ([.int .u32 0, .int .u32 0, .int .u32 0, .int .u32 0, .int .u32 0, .int .u32 0, .int .u32 0, .int .u32 0, .int .u8 0, .int .u8 0, .int .u8 0, .int .u8 0, .int .u8 0, .int .u8 0, .int .u8 0, .int .u8 0, .int .u8 0, .int .u8 0, .int .u8 0, .int .u8 0, .int .u8 0, .int .u8 0, .int .u8 0, .int .u8 0, .int .u8 0, .int .u8 0, .int .u8 0, .int .u8 0, .int .u8 0, .int .u8 0, .int .u8 0, .int .u8 0, .int .u8 0, .int .u8 0, .int .u8 0, .int .u8 0, .int .u8 0, .int .u8 0, .int .u8 0, .int .u8 0, .int .u8 0, .int .u8 0, .int .u8 0, .int .u8 0, .int .u8 0, .int .u8 0, .int .u8 0, .int .u8 0, .int .u8 0, .int .u8 0, .int .u8 0, .int .u8 0, .int .u8 0, .int .u8 0, .int .u8 0, .int .u8 0, .int .u8 0, .int .u8 0, .int .u8 0, .int .u8 0, .int .u8 0, .int .u8 0, .int .u8 0, .int .u8 0, .int .u8 0, .int .u8 0, .int .u8 0, .int .u8 0, .int .u8 0, .int .u8 0, .int .u8 0, .int .u8 0, .int .u64 0]) ∧
  tzero Tryd.prog 67 = some ([.slice none 0 0]) ∧
  tzero Tryd.prog 72 = some ([.pointer none, .pointer none, .pointer none, .string ⟨#[]⟩]) ∧
  tzero Tryd.prog 73 = some ([.pointer none, .pointer none, .pointer none, .string ⟨#[]⟩]) ∧
  tzero Tryd.prog 74 = some ([]) ∧
  tzero Tryd.prog 75 = some ([]) ∧
  tzero Tryd.prog 76 = some ([]) ∧
  tzero Tryd.prog 78 = some ([.int .u8 0]) ∧
  tzero Tryd.prog 79 = some ([.int .u8 0]) ∧
  tzero Tryd.prog 81 = some ([.pointer none]) ∧
  tzero Tryd.prog 82 = some ([.int .i32 0]) ∧
  tzero Tryd.prog 83 = some ([.int .i32 0]) ∧
  tzero Tryd.prog 84 = some ([.int .u64 0, .int .u64 0, .int .u32 0, .int .u8 0, .int .u8 0, .int .u8 0, .int .u8 0, .nilFunc, .pointer none, .int .i32 0, .int .i32 0]) ∧
  tzero Tryd.prog 85 = some ([.int .u64 0, .int .u64 0, .int .u32 0, .int .u8 0, .int .u8 0, .int .u8 0, .int .u8 0, .nilFunc, .pointer none, .int .i32 0, .int .i32 0]) := ⟨by kernel_rfl, by kernel_rfl, by kernel_rfl, by kernel_rfl, by kernel_rfl, by kernel_rfl, by kernel_rfl, by kernel_rfl, by kernel_rfl, by kernel_rfl, by kernel_rfl, by kernel_rfl, by kernel_rfl, by kernel_rfl, by kernel_rfl, by kernel_rfl, by kernel_rfl, by kernel_rfl, by kernel_rfl, by kernel_rfl, by kernel_rfl, by kernel_rfl, by kernel_rfl, by kernel_rfl, by kernel_rfl, by kernel_rfl, by kernel_rfl, by kernel_rfl, by kernel_rfl, by kernel_rfl, by kernel_rfl, by kernel_rfl, by kernel_rfl, by kernel_rfl, by kernel_rfl, by kernel_rfl, by kernel_rfl, by kernel_rfl, by kernel_rfl, by kernel_rfl, by kernel_rfl, by kernel_rfl, by kernel_rfl, by kernel_rfl, by kernel_rfl, by kernel_rfl, by kernel_rfl, by kernel_rfl⟩

theorem tgrds : Tryd.prog.eqGuardType Tryd.prog.depth 47 = false ∧
  Tryd.prog.eqGuardType Tryd.prog.depth 46 = false := ⟨by kernel_rfl, by kernel_rfl⟩

theorem tstds : Tryd.prog.stoodInHeld 47 = false ∧
  Tryd.prog.stoodInHeld 46 = false := ⟨by kernel_rfl, by kernel_rfl⟩


end Go.Proofs.YtjdlgbkpdfaloaaDoor
/- The walks of the small functions. -/
namespace Go.Proofs.YtjdlgbkpdfaloaaDoor
open Go Go.V
set_option linter.unusedSimpArgs false
theorem clip_ok (l : List UInt8) (p : Perm) : ACalls Tryd.prog [] 46 [.sl l.length (Bs l) p] [] (fun r os => os = [] ∧ r = .sl l.length (Bs l) .full) := by
  refine acalls_of_awp Tryd.func46 rfl rfl Tryd.ntmps46 (rts := #[27]) rfl Tryd.results46 (by simp) ?_
  simp only [argSlots, Nat.reduceAdd]
  refine awp_seq_k fun K hK => awp_region [] ?_
  simp only [K_eqs, Nat.reduceLT, K_ops, cav, K_nil, Then, true_and]
  (repeat' apply And.intro) <;> try (first | exact True.intro | omega)
  refine hK _ ?_
  clear hK K
  refine awp_seq_k fun K hK => awp_region [] ?_
  simp only [K_eqs, Nat.reduceLT, K_ops, reduceCtorEq, if_true, if_false, abuiltin, List.map_cons, Nat.reduceEqDiff, List.map_nil, alen, Tryd.underlying27, aslice, bopt, Option.map_none, Option.map_some, tszs, Bs_length, Nat.mul_one, lowOf, highOf, ne_eq, true_and, Bs_drop, Bs_take, sliceP, K_nil, Then, Int.le_refl, not_false_eq_true, and_true, or_true, Int.sub_zero, Int.toNat_natCast, Int.toNat_zero, List.drop_zero, Nat.le_refl, List.take_of_length_le]
  (repeat' apply And.intro) <;> try (first | exact True.intro | omega)
  refine hK _ ?_
  clear hK K
  refine awp_ret ?_
  simp only [K_fin, ares, aress, ares1, afin, K_ops, Nat.reduceEqDiff, reduceCtorEq, if_false, if_true, norefs_Bs, ntok, and_true, true_and]

/-- A number's four bytes. -/
def be4 (x : Nat) : List UInt8 := [UInt8.ofNat (x / 16777216), UInt8.ofNat (x / 65536), UInt8.ofNat (x / 256), UInt8.ofNat x]

theorem u8_wrap (n : Nat) : IntKind.u8.wrap (n : Int) = ((UInt8.ofNat n).toNat : Int) := by
  rw [IntKind.wrap_u8]
  simp
theorem fdiv_pow (a k : Nat) : Int.fdiv (a : Int) (2 ^ k) = ((a / 2 ^ k : Nat) : Int) := by
  rw [Int.fdiv_eq_ediv_of_nonneg _ (by exact Int.le_of_lt (Int.pow_pos (by omega)))]
  rw [show (2 : Int) ^ k = ((2 ^ k : Nat) : Int) from by simp]
  rfl
theorem B_eq (b : UInt8) : AV.val (.int .u8 (b.toNat : Int)) = B b := rfl
theorem Bs_cons (b : UInt8) (l : List UInt8) : B b :: Bs l = Bs (b :: l) := rfl

theorem put_ok (l : List UInt8) (p : Perm) (x : Nat) (hl : l.length ≤ 70368744177664) : ACalls Tryd.prog [] 15 [.sl l.length (Bs l) p, .val (.int .u32 (x : Int))] [] (fun r os => os = [] ∧ r = .sl (l.length + 4) (Bs (l ++ be4 x)) .no) := by
  refine acalls_of_awp Tryd.func15 rfl rfl Tryd.ntmps15 (rts := #[27]) rfl Tryd.results15 (by simp) ?_
  simp only [argSlots, Nat.reduceAdd]
  refine awp_seq_k fun K hK => awp_region [] ?_
  simp only [K_eqs, Nat.reduceLT, K_ops, cav, K_nil, Then, true_and]
  (repeat' apply And.intro) <;> try (first | exact True.intro | omega)
  refine hK _ ?_
  clear hK K
  refine awp_seq_k fun K hK => awp_region [] ?_
  simp only [K_eqs, Nat.reduceLT, K_ops, reduceCtorEq, if_false, if_true, K_call, Nat.reduceAdd, List.contains_nil, Bool.false_eq_true, List.map_cons, Nat.reduceEqDiff, List.map_nil, aviews, aview, norefs_Bs, ntok, and_true, Bool.or_false, true_and]
  refine andC_eq trivial (clip_ok l _) (by simp [noref, norefs_Bs]) ?_
  simp only [RestC_eqs, K_eqs, Nat.reduceLT, K_ops, Nat.reduceEqDiff, reduceCtorEq, if_true, if_false, cav, K_int, aint, Int.reduceLE, Int.reduceToNat, IntKind.bits, Nat.min_def, Nat.reduceLeDiff, fdiv_pow, K_conv, Tryd.underlying5, List.contains_nil, Bool.false_eq_true, aconvO, aview, noref, aconv, Tryd.underlying23, Option.isSome_some, u8_wrap, and_true, abuildOwn, Tryd.underlying27, tszs, tzeros, Nat.mul_one, zrep_byte, List.replicate_succ, List.replicate_zero, aparts, List.map_cons, List.map_nil, afill, spl, List.take_zero, acells, List.nil_append, List.length_cons, List.length_nil, Nat.zero_add, Bs_drop, List.drop_succ_cons, List.drop_zero, List.cons_append, List.take_succ_cons, Nat.reduceAdd, List.drop_nil, Bs_nil, List.append_nil, Bs_length, Nat.le_refl, List.all_cons, oneC, Value.oneCell', List.all_nil, Bool.and_true, abuildSlice, abuiltin, aappend, tbys, appSrc, srcCells, true_and, K_nil, Then]
  refine ⟨by omega, hK _ ?_⟩
  refine awp_keep [4] ?_
  simp only [keep_eqs, K_ops, Nat.reduceEqDiff, if_true, if_false]
  simp only [B_eq, ← Bs_nil, Bs_cons, ← Bs_append]
  refine awp_ret ?_
  simp only [Then, InBlock, K_fin, ares, aress, ares1, afin, ntok, noref, eq_self, K_ops, Nat.reduceEqDiff, if_true, if_false, List.headD_cons, List.tail_cons, and_true, true_and, norefs_Bs]
  simp [be4]

/-- What is put behind a message: how many noughts, all of it. -/
def padZ (n : Nat) : Nat := (119 - n % 64) % 64
def padL (n : Nat) : List UInt8 := 128 :: (List.replicate (padZ n) 0 ++ be4 (n / 536870912 % 4294967296) ++ be4 (n * 8 % 4294967296))

theorem u64_wrap (n : Nat) : IntKind.u64.wrap (n : Int) = ((n % 18446744073709551616 : Nat) : Int) := by
  simp [IntKind.wrap, IntKind.bits, IntKind.signed]
theorem u32_wrap (n : Nat) : IntKind.u32.wrap (n : Int) = ((n % 4294967296 : Nat) : Int) := by
  simp [IntKind.wrap, IntKind.bits, IntKind.signed]

theorem tmod_nat (a b : Nat) : Int.tmod (a : Int) (b : Int) = ((a % b : Nat) : Int) := rfl
theorem tdiv_nat (a b : Nat) : Int.tdiv (a : Int) (b : Int) = ((a / b : Nat) : Int) := rfl

theorem pad_test (n k : Nat) (hk : k ≤ padZ n) : ((IntKind.u64.wrap (IntKind.u64.wrap ((n : Int) + IntKind.u64.wrap ((1 + k : Nat) : Int)) + 8)).tmod 64 != 0) = decide (k < padZ n) := by
  have e1 : IntKind.u64.wrap ((1 + k : Nat) : Int) = ((1 + k : Nat) : Int) := by
    rw [u64_wrap]
    unfold padZ at hk
    omega
  rw [e1, show (n : Int) + ((1 + k : Nat) : Int) = ((n + (1 + k) : Nat) : Int) from by omega, u64_wrap, show (((n + (1 + k)) % 18446744073709551616 : Nat) : Int) + 8 = (((n + (1 + k)) % 18446744073709551616 + 8 : Nat) : Int) from by omega, u64_wrap]
  rw [show ((64 : Int)) = ((64 : Nat) : Int) from rfl, tmod_nat]
  unfold padZ at *
  rw [Bool.eq_iff_iff]
  simp only [bne_iff_ne, ne_eq, decide_eq_true_eq]
  omega

theorem pad_ok (n : Nat) (hn : n < 18446744073709551616) : ACalls Tryd.prog [] 50 [.val (.int .u64 (n : Int))] [] (fun r os => os = [] ∧ r = .sl (padL n).length (Bs (padL n)) .no) := by
  have hz : padZ n < 64 := by unfold padZ; omega
  refine acalls_of_awp Tryd.func50 rfl rfl Tryd.ntmps50 (rts := #[27]) rfl Tryd.results50 (by simp) ?_
  simp only [argSlots, Nat.reduceAdd]
  refine awp_seq_k fun K hK => awp_region [] ?_
  simp only [K_eqs, Nat.reduceLT, K_ops, cav, K_nil, Then, true_and]
  (repeat' apply And.intro) <;> try (first | exact True.intro | omega)
  refine hK _ ?_
  clear hK K
  refine awp_seq_k fun K hK => awp_region [] ?_
  simp only [K_eqs, List.contains_nil, Bool.false_eq_true, abuildOwn, Tryd.underlying27, tszs, tzeros, Nat.mul_one, zrep_byte, List.replicate_succ, List.replicate_zero, aparts, List.map_cons, K_ops, cav, List.map_nil, afill, spl, List.take_zero, acells, List.nil_append, List.length_cons, List.length_nil, Nat.zero_add, Bs_drop, List.drop_succ_cons, List.drop_nil, Bs_nil, List.append_nil, Bs_length, Nat.le_refl, List.all_cons, oneC, Value.oneCell', List.all_nil, Bool.and_true, and_true, Nat.reduceLeDiff, abuildSlice, if_false, Nat.reduceLT, Nat.reduceEqDiff, reduceCtorEq, if_true, K_nil, Then, true_and]
  (repeat' apply And.intro) <;> try (first | exact True.intro | omega)
  refine hK _ ?_
  clear hK K
  refine awp_keep [0, 3] ?_
  simp only [keep_eqs, K_ops, Nat.reduceEqDiff, if_true, if_false]
  refine awp_seq_k fun K hK => ?_
  refine awp_block ?_
  refine awp_tok 1 3 rfl ?_
  refine awp_loop_from (fun k => ⟨26, [(0, .val (.int .u64 (n : Int))), (3, .sl (1 + k) (Bs (128 :: List.replicate k 0)) (.tok 0))], [.tok 1 (1 + k)]⟩) (fun k => k ≤ padZ n) (fun k => padZ n - k) 0 (Nat.zero_le _) (.of_keep [0, 3] rfl) ?_
  intro k hk
  refine awp_seq (awp_seq ?_)
  refine awp_region [] ?_
  simp only [K_eqs, Nat.reduceLT, K_ops, reduceCtorEq, if_false, if_true, Nat.reduceEqDiff, abuiltin, List.map_cons, List.map_nil, alen, Tryd.underlying27, K_conv, Tryd.underlying56, List.contains_nil, Bool.false_eq_true, aconvO, aview, ntok, Tryd.underlying3, aconv, Option.isSome_some, cav, K_nil, Then, true_and, K_int, aint, ne_eq, Int.reduceEq, not_false_eq_true, and_true, pad_test n k hk]
  (repeat' apply And.intro) <;> try (first | exact True.intro | omega)
  refine awp_cond rfl rfl (fun h => ?_) (fun h => ?_)
  · have hlt : k < padZ n := by simpa using h
    refine awp_skip ?_
    simp only [Then]
    refine awp_keep [0, 3] ?_
    simp only [keep_eqs, K_ops, Nat.reduceEqDiff, if_true, if_false]
    refine awp_block ?_
    refine awp_region [] ?_
    simp only [K_eqs, Nat.reduceLT, K_ops, reduceCtorEq, if_true, if_false, List.contains_nil, Bool.false_eq_true, abuildOwn, Tryd.underlying27, tszs, tzeros, Nat.mul_one, zrep_byte, List.replicate_succ, List.replicate_zero, aparts, List.map_cons, cav, List.map_nil, afill, spl, List.take_zero, acells, List.nil_append, List.length_cons, List.length_nil, Nat.zero_add, Bs_drop, List.drop_succ_cons, List.drop_nil, Bs_nil, List.append_nil, Bs_length, Nat.le_refl, List.all_cons, oneC, Value.oneCell', List.all_nil, Bool.and_true, and_true, Nat.reduceLeDiff, List.cons_append, abuildSlice, abuiltin, Nat.reduceEqDiff, aappend, tbys, appSrc, srcCells, List.getElem?_cons_zero, true_and, List.set_cons_zero, K_nil]
    (repeat' apply And.intro) <;> try (first | exact True.intro | omega)
    all_goals try (simp; omega)
    simp only [InBlock]
    refine ⟨k + 1, by omega, by omega, ?_⟩
    have e : Bs (128 :: List.replicate k 0) ++ [AV.val (Value.int IntKind.u8 0)] = Bs (128 :: List.replicate (k + 1) 0) := by
      rw [List.replicate_succ', ← List.cons_append, Bs_append]
      rfl
    rw [e]
    exact .of_keep [0, 3] rfl
  · have hge : k = padZ n := by
      have : ¬ k < padZ n := by simpa using h
      omega
    subst hge
    refine awp_exit ?_
    simp only [Then, InBlock, if_true]
    refine hK _ ?_
    clear hK K
    refine awp_keep [0, 3] ?_
    simp only [keep_eqs, K_ops, Nat.reduceEqDiff, if_true, if_false]
    refine awp_seq_k fun K hK => awp_region [] ?_
    simp only [K_eqs, Nat.reduceLT, K_ops, reduceCtorEq, if_true, if_false, Nat.reduceEqDiff, cav, K_int, aint, Int.reduceLE, Int.reduceToNat, IntKind.bits, Nat.min_def, Nat.reduceLeDiff, fdiv_pow, K_conv, Tryd.underlying23, List.contains_nil, Bool.false_eq_true, aconvO, aview, noref, aconv, Tryd.underlying56, Option.isSome_some, u32_wrap, and_true, K_call, Nat.reduceAdd, List.map_cons, List.map_nil, aviews, norefs_Bs, ntok, Bool.or_false, true_and]
    rw [show 1 + padZ n = (128 :: List.replicate (padZ n) (0 : UInt8)).length from by simp; omega]
    refine andC_eq (by simp [norefs_Bs, norefs, noref]) (put_ok _ _ _ (by simp; omega)) (by simp [noref, norefs, norefs_Bs, flat]) ?_
    simp only [List.length_cons, List.cons_append, RestC_eqs, K_eqs, Nat.reduceLT, K_ops, Nat.reduceEqDiff, reduceCtorEq, if_false, if_true, K_nil, Then, true_and]
    (repeat' apply And.intro) <;> try (first | exact True.intro | omega)
    refine hK _ ?_
    clear hK K
    refine awp_keep [0, 3] ?_
    simp only [keep_eqs, K_ops, Nat.reduceEqDiff, if_true, if_false]
    refine awp_seq_k fun K hK => awp_region [] ?_
    simp only [K_eqs, Nat.reduceLT, K_ops, reduceCtorEq, if_true, if_false, Nat.reduceEqDiff, cav, K_int, aint, Int.reduceLE, Int.reduceToNat, IntKind.bits, Nat.min_def, Nat.reduceLeDiff, K_conv, Tryd.underlying23, List.contains_nil, Bool.false_eq_true, aconvO, aview, noref, aconv, Tryd.underlying56, Option.isSome_some, and_true, K_call, Nat.reduceAdd, List.map_cons, List.map_nil, aviews, norefs_Bs, ntok, Bool.or_false, true_and]
    rw [show ((n : Int) * 2 ^ 3) = ((n * 8 : Nat) : Int) from by omega, u64_wrap, u32_wrap]
    rw [show (List.replicate (padZ n) (0 : UInt8)).length + 1 + 4 = (128 :: (List.replicate (padZ n) 0 ++ be4 (n / 2 ^ 29 % 4294967296))).length from by simp [be4]]
    refine andC_eq (by simp [norefs_Bs, norefs, noref]) (put_ok _ _ _ (by simp [be4]; omega)) (by simp [noref, norefs, norefs_Bs, flat]) ?_
    simp only [List.length_cons, List.cons_append, RestC_eqs, K_eqs, Nat.reduceLT, K_ops, Nat.reduceEqDiff, reduceCtorEq, if_false, if_true, K_nil, Then, true_and]
    (repeat' apply And.intro) <;> try (first | exact True.intro | omega)
    refine hK _ ?_
    clear hK K
    refine awp_keep [2] ?_
    simp only [keep_eqs, K_ops, Nat.reduceEqDiff, if_true, if_false]
    refine awp_ret ?_
    simp only [Then, InBlock, K_fin, ares, aress, ares1, afin, ntok, noref, eq_self, K_ops, Nat.reduceEqDiff, if_true, if_false, List.headD_cons, List.tail_cons, and_true, true_and, norefs_Bs]
    have e1 : n * 8 % 18446744073709551616 % 4294967296 = n * 8 % 4294967296 := by omega
    have e2 : n / 2 ^ 29 % 4294967296 = n / 536870912 % 4294967296 := rfl
    rw [e1, e2]
    simp only [padL]
    congr 1
    simp [be4]

/-- A number's bytes, the first j of eight. -/
def be8 (x : Nat) (j : Nat) : List UInt8 := (List.range j).map fun i => UInt8.ofNat (x / 2 ^ (8 * (7 - i)))

theorem be8_succ (x j : Nat) : be8 x (j + 1) = be8 x j ++ [UInt8.ofNat (x / 2 ^ (8 * (7 - j)))] := by simp [be8, List.range_succ]
theorem be8_length (x j : Nat) : (be8 x j).length = j := by simp [be8]

theorem ofNat8 {a b : Nat} (h : a % 256 = b % 256) : UInt8.ofNat a = UInt8.ofNat b := by
  apply UInt8.toNat_inj.1
  simpa using h

theorem be8_eq (n : Nat) : be8 (n * 8 % 18446744073709551616) 8 = be4 (n / 536870912 % 4294967296) ++ be4 (n * 8 % 4294967296) := by
  simp only [be8, be4, List.range_succ, List.range_zero, List.nil_append, List.cons_append, List.map_cons, List.map_nil]
  repeat' (apply congr (congrArg List.cons (ofNat8 (by omega))))
  rfl

theorem i64_wrap {n : Int} (h0 : -9223372036854775808 ≤ n) (h1 : n ≤ 9223372036854775807) : IntKind.i64.wrap n = n := by
  simp [IntKind.wrap, IntKind.bits, IntKind.signed]
  omega

theorem refpad_ok (n : Nat) (hn : n < 18446744073709551616) : ACalls Tryd.prog [] 53 [.val (.int .u64 (n : Int))] [] (fun r os => os = [] ∧ r = .sl (padL n).length (Bs (padL n)) .no) := by
  have hz : padZ n < 64 := by unfold padZ; omega
  have hpz : (IntKind.i64.wrap (IntKind.i64.wrap (55 - IntKind.i64.wrap ((n : Int).tmod 64)) + 64)).tmod 64 = (padZ n : Int) := by
    rw [show (64 : Int) = ((64 : Nat) : Int) from rfl, tmod_nat]
    rw [i64_wrap (n := ((n % 64 : Nat) : Int)) (by omega) (by omega), i64_wrap (n := 55 - ((n % 64 : Nat) : Int)) (by omega) (by omega), i64_wrap (by omega) (by omega)]
    rw [show 55 - ((n % 64 : Nat) : Int) + ((64 : Nat) : Int) = ((119 - n % 64 : Nat) : Int) from by omega, tmod_nat]
    rfl
  refine acalls_of_awp Tryd.func53 rfl rfl Tryd.ntmps53 (rts := #[27]) rfl Tryd.results53 (by simp) ?_
  simp only [argSlots, Nat.reduceAdd]
  refine awp_seq_k fun K hK => awp_region [] ?_
  simp only [K_eqs, Nat.reduceLT, K_ops, cav, K_nil, Then, true_and]
  (repeat' apply And.intro) <;> try (first | exact True.intro | omega)
  refine hK _ ?_
  clear hK K
  refine awp_seq_k fun K hK => awp_region [] ?_
  simp only [K_eqs, Nat.reduceLT, K_ops, reduceCtorEq, if_true, if_false, Nat.reduceEqDiff, cav, K_int, aint, ne_eq, Int.reduceEq, not_false_eq_true, and_true, K_conv, Tryd.underlying3, List.contains_nil, Bool.false_eq_true, aconvO, aview, noref, aconv, Tryd.underlying56, Option.isSome_some, K_nil, Then, true_and]
  (repeat' apply And.intro) <;> try (first | exact True.intro | omega)
  refine hK _ ?_
  clear hK K
  refine awp_keep [0, 3] ?_
  simp only [keep_eqs, K_ops, Nat.reduceEqDiff, if_true, if_false]
  refine awp_seq_k fun K hK => awp_region [] ?_
  simp only [hpz, K_eqs, List.contains_nil, Bool.false_eq_true, abuildOwn, Tryd.underlying27, tszs, tzeros, Nat.mul_one, zrep_byte, List.replicate_succ, List.replicate_zero, aparts, List.map_cons, K_ops, cav, List.map_nil, afill, spl, List.take_zero, acells, List.nil_append, List.length_cons, List.length_nil, Nat.zero_add, Bs_drop, List.drop_succ_cons, List.drop_nil, Bs_nil, List.append_nil, Bs_length, Nat.le_refl, List.all_cons, oneC, Value.oneCell', List.all_nil, Bool.and_true, and_true, Nat.reduceLeDiff, abuildSlice, if_false, Nat.reduceLT, Nat.reduceEqDiff, reduceCtorEq, if_true, abuiltin, aappend, tbys, appSrc, Tryd.underlying3, Int.toNat_natCast, Bs_one, true_and, List.cons_append, K_nil, Then]
  (repeat' apply And.intro) <;> try (first | exact True.intro | omega)
  refine hK _ ?_
  clear hK K
  refine awp_keep [0, 4] ?_
  simp only [keep_eqs, K_ops, Nat.reduceEqDiff, if_true, if_false]
  rw [show AV.val (Value.int IntKind.u8 128) :: Bs (List.replicate (padZ n) 0) = Bs (128 :: List.replicate (padZ n) 0) from rfl]
  refine awp_seq_k fun K hK => awp_region [] ?_
  simp only [K_eqs, Nat.reduceLT, K_ops, reduceCtorEq, if_false, if_true, Nat.reduceEqDiff, cav, K_int, aint, K_nil, Then, true_and]
  (repeat' apply And.intro) <;> try (first | exact True.intro | omega)
  refine hK _ ?_
  clear hK K
  refine awp_keep [4, 5] ?_
  simp only [keep_eqs, K_ops, Nat.reduceEqDiff, if_true, if_false]
  refine awp_seq_k fun K hK => ?_
  refine awp_seq_k fun K hK => awp_region [] ?_
  simp only [K_eqs, Nat.reduceLT, K_ops, cav, K_nil, Then, true_and]
  (repeat' apply And.intro) <;> try (first | exact True.intro | omega)
  refine hK _ ?_
  clear hK K
  refine awp_keep [4, 5, 6] ?_
  simp only [keep_eqs, K_ops, Nat.reduceEqDiff, if_true, if_false]
  refine awp_block ?_
  rw [show ((n : Int) * 8) = ((n * 8 : Nat) : Int) from by omega, u64_wrap]
  have hx : n * 8 % 18446744073709551616 < 18446744073709551616 := by omega
  generalize hxe : n * 8 % 18446744073709551616 = x at hx ⊢
  refine awp_loop_from (fun j => ⟨33, [(4, .sl (1 + padZ n + j) (Bs (128 :: List.replicate (padZ n) 0 ++ be8 x j)) (.tok 0)), (5, .val (.int .u64 (x : Int))), (6, .val (.int .i64 (7 - (j : Int))))], [.tok 1 (1 + padZ n + j)]⟩) (fun j => j ≤ 8) (fun j => 8 - j) 0 (by omega) (.of_keep [4, 5, 6] (by simp [keep, lk, be8])) ?_
  intro j hj
  refine awp_seq (awp_seq ?_)
  refine awp_region [] ?_
  simp only [List.cons_append, K_eqs, Nat.reduceLT, K_ops, Nat.reduceEqDiff, if_true, if_false, cav, K_int, aint, K_nil, Then, true_and]
  (repeat' apply And.intro) <;> try (first | exact True.intro | omega)
  refine awp_cond rfl rfl (fun h => ?_) (fun h => ?_)
  · clear hK
    have hlt : j < 8 := by simp at h; omega
    refine awp_skip ?_
    simp only [Then]
    refine awp_keep [4, 5, 6] ?_
    simp only [keep_eqs, K_ops, Nat.reduceEqDiff, if_true, if_false]
    refine awp_seq ?_
    refine awp_block ?_
    refine awp_region [] ?_
    rw [show (7 - (j : Int)) = ((7 - j : Nat) : Int) from by omega]
    simp only [K_eqs, Nat.reduceLT, K_ops, Nat.reduceEqDiff, if_false, if_true, cav, K_int, aint, K_conv, Tryd.underlying60, List.contains_nil, Bool.false_eq_true, aconvO, aview, noref, aconv, Tryd.underlying3, Option.isSome_some, and_true, IntKind.bits, Nat.min_def, Tryd.underlying5, ntok, Tryd.underlying56, abuildOwn, Tryd.underlying27, tszs, tzeros, Nat.mul_one, zrep_byte, List.replicate_succ, List.replicate_zero, aparts, List.map_cons, List.map_nil, afill, spl, List.take_zero, acells, List.nil_append, Nat.zero_add, Bs_drop, Bs_length, List.length_cons, List.length_nil, Nat.le_refl, true_and, Nat.reduceLeDiff, abuildSlice, abuiltin, aappend, tbys, appSrc, srcCells, K_nil, ne_eq, Int.reduceEq, not_false_eq_true, List.all_cons, oneC, Value.oneCell', List.all_nil, Bool.and_true, List.getElem?_cons_zero, List.drop_succ_cons, List.drop_nil, Bs_nil, List.append_nil, List.set_cons_zero]
    have e2 : IntKind.u64.wrap (IntKind.i64.wrap (8 * ((7 - j : Nat) : Int))) = ((8 * (7 - j) : Nat) : Int) := by
      rw [i64_wrap (by omega) (by omega), show 8 * ((7 - j : Nat) : Int) = ((8 * (7 - j) : Nat) : Int) from by omega, u64_wrap]
      omega
    simp only [e2]
    refine ⟨by omega, ⟨by simp [be8_length]; omega, by omega, by omega⟩, ?_⟩
    simp only [InBlock, Then]
    refine awp_keep [4, 5, 6] ?_
    simp only [keep_eqs, K_ops, Nat.reduceEqDiff, if_true, if_false]
    refine awp_region [] ?_
    simp only [Int.toNat_natCast, K_eqs, Nat.reduceLT, K_ops, Nat.reduceEqDiff, if_true, if_false, cav, K_int, aint, K_nil, Then, true_and]
    rw [i64_wrap (by omega) (by omega)]
    refine ⟨j + 1, by omega, by omega, ?_⟩
    rw [if_pos (by omega), show ((256 : Int)) = ((256 : Nat) : Int) from rfl, fdiv_pow, tmod_nat, u8_wrap, B_eq, ← Bs_nil, Bs_cons, ← Bs_append]
    have e3 : (128 :: (List.replicate (padZ n) 0 ++ be8 x j)) ++ [UInt8.ofNat (x / 2 ^ (8 * (7 - j)) % 256)] = 128 :: (List.replicate (padZ n) 0 ++ be8 x (j + 1)) := by
      rw [be8_succ, ofNat8 (Nat.mod_mod _ 256)]
      simp
    rw [e3, show ((7 - j : Nat) : Int) - 1 = 7 - ((j + 1 : Nat) : Int) from by omega, show 1 + padZ n + j + 1 = 1 + padZ n + (j + 1) from by omega]
    exact .of_keep [4, 5, 6] rfl
  · have he : j = 8 := by simp at h; omega
    subst he
    refine awp_exit ?_
    simp only [Then, InBlock, if_true]
    refine hK _ ?_
    clear hK K
    refine awp_keep [4] ?_
    simp only [keep_eqs, K_ops, Nat.reduceEqDiff, if_true, if_false]
    refine awp_seq_k fun K hK => awp_region [] ?_
    simp only [K_eqs, Nat.reduceLT, K_ops, if_true, Nat.reduceEqDiff, if_false, K_nil, Then, true_and]
    (repeat' apply And.intro) <;> try (first | exact True.intro | omega)
    refine hK _ ?_
    clear hK K
    refine awp_keep [2] ?_
    simp only [keep_eqs, K_ops, Nat.reduceEqDiff, if_true, if_false]
    refine awp_ret ?_
    simp only [Then, InBlock, K_fin, ares, aress, ares1, afin, ntok, noref, eq_self, K_ops, Nat.reduceEqDiff, if_true, if_false, List.headD_cons, List.tail_cons, and_true, true_and, norefs_Bs]
    have e4 : (128 :: (List.replicate (padZ n) 0 ++ be8 x 8)) = padL n := by
      rw [← hxe, be8_eq]
      simp [padL]
    rw [e4]
    simp [padL, be4]
    omega

theorem padL3_length : (padL 3).length = 61 := by decide
theorem padL3_first : (Bs (padL 3))[0]? = some (B 128) := by rfl
theorem padL3_last : (Bs (padL 3))[60]? = some (B 24) := by rfl

theorem alive_ok : ACalls Tryd.prog [] 30 [] [] (fun r os => os = [] ∧ r = .val (.bool true)) := by
  refine acalls_of_awp Tryd.func30 rfl rfl Tryd.ntmps30 (rts := #[4]) rfl Tryd.results30 (by simp) ?_
  simp only [argSlots, Nat.reduceAdd]
  refine awp_seq_k fun K hK => awp_region [] ?_
  simp only [K_eqs, Nat.reduceLT, K_ops, cav, K_nil, Then, true_and]
  (repeat' apply And.intro) <;> try (first | exact True.intro | omega)
  refine hK _ ?_
  clear hK K
  refine awp_seq_k fun K hK => awp_region [] ?_
  simp only [K_call, Nat.reduceLT, Nat.reduceAdd, List.contains_nil, Bool.false_eq_true, K_ops, List.map_cons, cav, List.map_nil, if_false, aviews, aview, noref, and_true, Bool.or_false, true_and]
  refine andC_eq (by simp [norefs_Bs, norefs, noref]) (pad_ok 3 (by omega)) (by simp [noref, norefs, norefs_Bs, flat]) ?_
  simp only [RestC_eqs, K_eqs, Nat.reduceLT, K_ops, reduceCtorEq, if_false, if_true, K_nil, Then, true_and]
  (repeat' apply And.intro) <;> try (first | exact True.intro | omega)
  refine hK _ ?_
  clear hK K
  refine awp_keep [0, 1] ?_
  simp only [keep_eqs, K_ops, Nat.reduceEqDiff, if_true, if_false]
  generalize hl : padL 3 = l
  have h61 : l.length = 61 := by rw [← hl]; decide
  have h128 : l.getD 0 0 = 128 := by rw [← hl]; decide
  have h24 : l.getD 60 0 = 24 := by rw [← hl]; decide
  refine awp_seq_k fun K hK => awp_region [] ?_
  simp only [h61, K_eqs, Nat.reduceLT, K_ops, reduceCtorEq, if_true, if_false, abuiltin, List.map_cons, Nat.reduceEqDiff, List.map_nil, alen, Tryd.underlying27, Int.cast_ofNat_Int, cav, true_and, K_int, aint, beq_self_eq_true, gval, gslot, List.getElem?_toArray, List.getElem?_cons_succ, List.getElem?_cons_zero, Option.bind_some, gdec_eqs, K_gT, gok, aidxAddr, tszs, Bs_length, Nat.mul_one, Int.le_refl, Int.reduceLT, and_true, Int.toNat_zero, List.drop_zero, aload, List.contains_nil, Bool.false_eq_true, apart, isAggD, Tryd.underlying5, apick, Bs_getD, B, h128, UInt8.reduceToNat, Int.reduceLE, Int.reduceToNat, Bs_drop, K_nil, Then, List.length_drop, Nat.reduceSub, drop_getD, Nat.add_zero, h24]
  (repeat' apply And.intro) <;> try (first | exact True.intro | omega)
  refine hK _ ?_
  clear hK K
  refine awp_ret ?_
  simp only [K_fin, ares, aress, ares1, afin, K_ops, reduceCtorEq, if_false, if_true, noref, and_true, true_and]

end Go.Proofs.YtjdlgbkpdfaloaaDoor
/- The table, and the words that it gives. -/
namespace Go.Proofs.YtjdlgbkpdfaloaaDoor
open Go Go.V
set_option linter.unusedSimpArgs false
set_option linter.unusedVariables false

/-- The table that the row lists. -/
def GP : List (Nat × List AV) := [(0, Is .u32 tabW)]
theorem gp0 : gav GP 0 = .cptr (Is .u32 tabW) := rfl

theorem wprime_ok (i : Int) : ACalls Tryd.prog GP 11 [.val (.int .i64 i)] [] (fun r os => os = [] ∧ r = .val (.int .u32 (if 0 ≤ i ∧ i < 64 then tabW.getD i.toNat 0 else 0))) := by
  refine acalls_of_awp Tryd.func11 rfl rfl Tryd.ntmps11 (rts := #[23]) rfl Tryd.results11 (by simp) ?_
  simp only [argSlots, Nat.reduceAdd]
  refine awp_seq_k fun K hK => awp_region [] ?_
  simp only [K_eqs, Nat.reduceLT, K_ops, cav, K_nil, Then, true_and]
  (repeat' apply And.intro) <;> try (first | exact True.intro | omega)
  refine hK _ ?_
  clear hK K
  refine awp_seq_k fun K1 hK1 => ?_
  refine awp_seq_k fun K hK => ?_
  have next : ∀ (t : Bool) (s : St), t = decide (¬ (0 ≤ i ∧ i < 64)) → Weak GP s ⟨12, [(8, .val (.bool t)), (0, .val (.int .i64 i))], []⟩ → K s := by
    intro t s ht hw
    refine hK s (awp_weak hw ?_)
    clear hw hK K
    refine awp_cond rfl rfl (fun h => ?_) (fun h => ?_)
    · have hn : ¬ (0 ≤ i ∧ i < 64) := of_decide_eq_true (ht.symm.trans h)
      refine awp_keep [0] ?_
      simp only [keep_eqs, K_ops, Nat.reduceEqDiff, if_true, if_false]
      refine awp_seq_k fun K hK => awp_region [] ?_
      simp only [K_eqs, Nat.reduceLT, K_ops, cav, K_nil, Then, true_and]
      (repeat' apply And.intro) <;> try (first | exact True.intro | omega)
      refine hK _ ?_
      clear hK K
      refine awp_keep [2] ?_
      simp only [keep_eqs, K_ops, Nat.reduceEqDiff, if_true, if_false]
      refine awp_ret ?_
      simp only [Then, InBlock, K_fin, ares, aress, ares1, afin, ntok, noref, eq_self, K_ops, Nat.reduceEqDiff, if_true, if_false, List.headD_cons, List.tail_cons, and_true, true_and]
      rw [if_neg hn]
    · have hn : 0 ≤ i ∧ i < 64 := by
        have := of_decide_eq_false (ht.symm.trans h)
        omega
      refine awp_skip (hK1 _ ?_)
      clear hK1 K1
      obtain ⟨j, rfl⟩ : ∃ j : Nat, i = j := ⟨i.toNat, by omega⟩
      have hl : tabW.length = 64 := rfl
      have hj : j < 64 := by omega
      have hj2 : 0 < 64 - j := by omega
      have hj3 : j ≤ 64 := by omega
      refine awp_keep [0] ?_
      simp only [keep_eqs, K_ops, Nat.reduceEqDiff, if_true, if_false]
      refine awp_seq_k fun K hK => awp_region [] ?_
      simp only [Int.toNat_natCast, K_eqs, Nat.reduceLT, K_ops, if_true, aidxAddr, reduceCtorEq, if_false, Tryd.underlying40, gp0, tszs, Int.cast_ofNat_Int, Nat.mul_one, Is_length, hl, hj3, and_true, Is_drop, aload, Nat.reduceEqDiff, List.contains_nil, Bool.false_eq_true, apart, isAggD, Tryd.underlying23, K_nil, Then, true_and, List.length_drop, hj2, Is_getD, drop_getD, Nat.add_zero, I_un]
      refine ⟨⟨by omega, by omega⟩, hK _ ?_⟩
      refine awp_keep [2] ?_
      simp only [keep_eqs, K_ops, Nat.reduceEqDiff, if_true, if_false]
      refine awp_ret ?_
      simp only [Then, InBlock, K_fin, ares, aress, ares1, afin, ntok, noref, eq_self, K_ops, Nat.reduceEqDiff, if_true, if_false, List.headD_cons, List.tail_cons, and_true, true_and]
      rw [if_pos hn, Int.toNat_natCast]
  by_cases h0 : i < 0
  · have h0' : decide (i < 0) = true := by simpa using h0
    refine awp_region [] ?_
    simp only [K_eqs, Nat.reduceLT, K_ops, reduceCtorEq, if_true, if_false, Nat.reduceEqDiff, cav, K_int, aint, h0', gval, gslot, List.getElem?_toArray, List.getElem?_cons_succ, List.getElem?_cons_zero, Option.bind_some, gdec_eqs, K_gF, gok, apick, K_nil, Then, true_and]
    (repeat' apply And.intro) <;> try (first | exact True.intro | omega)
    refine next _ _ ?_ (.of_keep [8, 0] rfl)
    simp
    omega
  · have h0' : decide (i < 0) = false := by simpa using h0
    refine awp_region [] ?_
    simp only [K_eqs, Nat.reduceLT, K_ops, reduceCtorEq, if_true, if_false, Nat.reduceEqDiff, cav, K_int, aint, h0', gval, gslot, List.getElem?_toArray, List.getElem?_cons_succ, List.getElem?_cons_zero, Option.bind_some, gdec_eqs, Bool.not_false, K_gT, gok, apick, Bool.false_eq_true, K_nil, Then, true_and]
    (repeat' apply And.intro) <;> try (first | exact True.intro | omega)
    refine next _ _ ?_ (.of_keep [8, 0] rfl)
    rw [Bool.eq_iff_iff]
    simp
    omega

end Go.Proofs.YtjdlgbkpdfaloaaDoor
/- The walks of layer 1 (word). -/
namespace Go.Proofs.YtjdlgbkpdfaloaaDoor
open Go Go.V
set_option linter.unusedSimpArgs false
set_option linter.unusedVariables false

theorem u64_of (n : Int) : ∃ m : Nat, IntKind.u64.wrap n = (m : Int) ∧ m % 32 = (n % 32).toNat := by
  refine ⟨(n % 18446744073709551616).toNat, ?_, by omega⟩
  simp [IntKind.wrap, IntKind.signed, IntKind.bits]
  omega

theorem rot_ok (x : Nat) (n : Int) (hx : x < 4294967296) : ACalls Tryd.prog [] 47 [.val (.int .u32 (x : Int)), .val (.int .i64 n)] [] (fun r os => os = [] ∧ r = .val (.int .u32 (rotl x (n % 32).toNat : Int))) := by
  obtain ⟨m, hm, hm32⟩ := u64_of n
  generalize hk : (n % 32).toNat = k at hm32
  have hk32 : k < 32 := by omega
  have ha : bits BinOp.and IntKind.u64 (m : Int) 31 = (k : Int) := by
    have h := n_and64 m 31
    rw [show m &&& 31 = m % 32 from Nat.and_two_pow_sub_one_eq_mod m 5, hm32, Nat.mod_eq_of_lt (by omega)] at h
    exact h
  have hw : IntKind.u64.wrap (32 - (k : Int)) = ((32 - k : Nat) : Int) := by
    rw [show (32 : Int) - (k : Int) = ((32 - k : Nat) : Int) by omega, n_u64, Nat.mod_eq_of_lt (by omega)]
  have e1 : (if k ≤ 32 then k else 32) = k := if_pos (by omega)
  have e2 : (if 32 - k ≤ 32 then 32 - k else 32) = 32 - k := if_pos (by omega)
  refine acalls_of_awp Tryd.func47 rfl rfl Tryd.ntmps47 (rts := #[23]) rfl Tryd.results47 (by simp) ?_
  simp only [argSlots, Nat.reduceAdd]
  refine awp_seq_k fun K hK => awp_region [] ?_
  simp only [K_eqs, Nat.reduceLT, K_ops, cav, K_nil, Then, true_and]
  (repeat' apply And.intro) <;> try (first | exact True.intro | omega)
  refine hK _ ?_
  clear hK K
  refine awp_seq_k fun K hK => awp_region [] ?_
  simp only [K_eqs, Nat.reduceLT, K_ops, Nat.reduceEqDiff, reduceCtorEq, if_true, if_false, K_conv, Tryd.underlying60, List.contains_nil, Bool.false_eq_true, aconvO, aview, noref, aconv, Tryd.underlying3, Option.isSome_some, hm, and_true, cav, K_int, aint, ha, K_nil, Then, true_and]
  (repeat' apply And.intro) <;> try (first | exact True.intro | omega)
  refine hK _ ?_
  clear hK K
  refine awp_seq_k fun K hK => awp_region [] ?_
  simp only [K_eqs, Nat.reduceLT, K_ops, reduceCtorEq, if_false, if_true, Nat.reduceEqDiff, K_int, aint, Int.toNat_natCast, IntKind.bits, Nat.min_def, e1, n_shl, n_u32, cav, hw, e2, n_fdiv, n_or32, K_nil, Then, true_and]
  (repeat' apply And.intro) <;> try (first | exact True.intro | omega)
  refine hK _ ?_
  clear hK K
  have hr : rotl x k % 4294967296 = rotl x k := Nat.mod_eq_of_lt (rotl_lt hx hk32)
  rw [show (x * 2 ^ k % 4294967296 ||| x / 2 ^ (32 - k)) = rotl x k from rfl, hr]
  refine awp_ret ?_
  simp only [K_fin, ares, aress, ares1, afin, K_ops, Nat.reduceEqDiff, reduceCtorEq, if_false, if_true, noref, and_true, true_and]

theorem tmod32 (n : Int) : -32 < n.tmod 32 ∧ n.tmod 32 < 32 ∧ (n.tmod 32) % 32 = n % 32 := by
  have h := Int.tmod_def n 32
  refine ⟨?_, Int.tmod_lt_of_pos n (by omega), by omega⟩
  by_cases hn : 0 ≤ n
  · have := Int.tmod_nonneg 32 hn; omega
  · have h1 := Int.neg_tmod (-n) 32
    rw [Int.neg_neg] at h1
    have h2 := Int.tmod_lt_of_pos (-n) (show (0 : Int) < 32 by omega)
    omega

theorem turn_ok (x : Nat) (n : Int) (hx : x < 4294967296) : ACalls Tryd.prog [] 19 [.val (.int .u32 (x : Int)), .val (.int .i64 n)] [] (fun r os => os = [] ∧ r = .val (.int .u32 (turn x n : Int))) := by
  obtain ⟨h1, h2, h3⟩ := tmod32 n
  have hw : IntKind.i64.wrap (0 - n.tmod 32) = -(n.tmod 32) := by rw [i64_wrap (by omega) (by omega)]; omega
  have hr := rot_ok x (-(n.tmod 32)) hx
  rw [show (-(n.tmod 32)) % 32 = (-n) % 32 by omega] at hr
  refine acalls_of_awp Tryd.func19 rfl rfl Tryd.ntmps19 (rts := #[23]) rfl Tryd.results19 (by simp) ?_
  simp only [argSlots, Nat.reduceAdd]
  refine awp_seq_k fun K hK => awp_region [] ?_
  simp only [K_eqs, Nat.reduceLT, K_ops, cav, K_nil, Then, true_and]
  (repeat' apply And.intro) <;> try (first | exact True.intro | omega)
  refine hK _ ?_
  clear hK K
  refine awp_seq_k fun K hK => awp_region [] ?_
  simp only [K_eqs, Nat.reduceLT, K_ops, reduceCtorEq, if_false, if_true, Nat.reduceEqDiff, cav, K_int, aint, ne_eq, Int.reduceEq, not_false_eq_true, and_true, aun, hw, K_call, Nat.reduceAdd, List.contains_nil, Bool.false_eq_true, List.map_cons, List.map_nil, aviews, aview, noref, ntok, List.tail_cons, List.headD_cons, Tryd.underlying3, true_and, Bool.or_false]
  refine andC_eq (by simp [norefs_Bs, norefs, noref]) (hr) (by simp [noref, norefs, norefs_Bs, flat]) ?_
  simp only [RestC_eqs, K_eqs, Nat.reduceLT, K_ops, Nat.reduceEqDiff, reduceCtorEq, if_false, if_true, K_nil, Then, true_and]
  refine hK _ ?_
  refine awp_ret ?_
  simp only [K_fin, ares, aress, ares1, afin, K_ops, Nat.reduceEqDiff, reduceCtorEq, if_false, if_true, noref, and_true, true_and]
  rfl

theorem bit_ok (x i : Nat) (hi : i < 32) : ACalls Tryd.prog [] 49 [.val (.int .u32 (x : Int)), .val (.int .i64 (i : Int))] [] (fun r os => os = [] ∧ r = .val (.int .u32 ((x.testBit i).toNat : Int))) := by
  have e1 : (if i ≤ 32 then i else 32) = i := if_pos (by omega)
  have e2 : i % 18446744073709551616 = i := Nat.mod_eq_of_lt (by omega)
  refine acalls_of_awp Tryd.func49 rfl rfl Tryd.ntmps49 (rts := #[23]) rfl Tryd.results49 (by simp) ?_
  simp only [argSlots, Nat.reduceAdd]
  refine awp_seq_k fun K hK => awp_region [] ?_
  simp only [K_eqs, Nat.reduceLT, K_ops, cav, K_nil, Then, true_and]
  (repeat' apply And.intro) <;> try (first | exact True.intro | omega)
  refine hK _ ?_
  clear hK K
  refine awp_seq_k fun K hK => awp_region [] ?_
  simp only [K_eqs, Nat.reduceLT, K_ops, reduceCtorEq, if_false, if_true, Nat.reduceEqDiff, K_conv, Tryd.underlying60, List.contains_nil, Bool.false_eq_true, aconvO, aview, noref, aconv, Tryd.underlying3, Option.isSome_some, n_u64, e2, and_true, K_int, aint, Int.toNat_natCast, IntKind.bits, Nat.min_def, e1, n_fdiv, cav, ne_eq, Int.reduceEq, not_false_eq_true, n_tmod, bit_mod, K_nil, Then, true_and]
  (repeat' apply And.intro) <;> try (first | exact True.intro | omega)
  refine hK _ ?_
  clear hK K
  refine awp_ret ?_
  simp only [K_fin, ares, aress, ares1, afin, K_ops, Nat.reduceEqDiff, reduceCtorEq, if_false, if_true, noref, and_true, true_and]

/-- What one round of the loops over bits gives. -/
theorem bsum_step (f : Nat → Bool) (i : Nat) (hi : i < 32) : ((f i).toNat * 2 ^ i) % 4294967296 = (f i).toNat * 2 ^ i ∧ (bsum f i + (f i).toNat * 2 ^ i) % 4294967296 = bsum f (i + 1) := by
  have h := bsum_lt f (i + 1)
  have h2 : 2 ^ (i + 1) ≤ 2 ^ 32 := Nat.pow_le_pow_right (by omega) (by omega)
  have e : bsum f (i + 1) = bsum f i + (f i).toNat * 2 ^ i := rfl
  constructor
  · exact Nat.mod_eq_of_lt (by omega)
  · rw [← e]; exact Nat.mod_eq_of_lt (by omega)

theorem refturn_ok (x : Nat) (n : Int) (hx : x < 4294967296) : ACalls Tryd.prog [] 24 [.val (.int .u32 (x : Int)), .val (.int .i64 n)] [] (fun r os => os = [] ∧ r = .val (.int .u32 (turn x n : Int))) := by
  obtain ⟨h1, h2, h3⟩ := tmod32 n
  generalize hf : (fun j : Nat => x.testBit (((j : Int) + n) % 32).toNat) = f
  have hres : bsum f 32 = turn x n := bsum_eq (turn_lt hx n) fun i hi => by rw [turn_bit hx, ← hf]; simp [hi]
  refine acalls_of_awp Tryd.func24 rfl rfl Tryd.ntmps24 (rts := #[23]) rfl Tryd.results24 (by simp) ?_
  simp only [argSlots, Nat.reduceAdd]
  refine awp_seq_k fun K hK => awp_region [] ?_
  simp only [K_eqs, Nat.reduceLT, K_ops, cav, K_nil, Then, true_and]
  (repeat' apply And.intro) <;> try (first | exact True.intro | omega)
  refine hK _ ?_
  clear hK K
  refine awp_seq_k fun K hK => awp_region [] ?_
  simp only [K_eqs, Nat.reduceLT, K_ops, cav, K_nil, Then, true_and]
  (repeat' apply And.intro) <;> try (first | exact True.intro | omega)
  refine hK _ ?_
  clear hK K
  refine awp_seq_k fun K1 hK1 => ?_
  refine awp_seq_k fun K hK => awp_region [] ?_
  simp only [K_eqs, Nat.reduceLT, K_ops, cav, K_nil, Then, true_and]
  (repeat' apply And.intro) <;> try (first | exact True.intro | omega)
  refine hK _ ?_
  clear hK K
  refine awp_keep [0, 1, 5, 6] ?_
  simp only [keep_eqs, K_ops, Nat.reduceEqDiff, if_true, if_false]
  refine awp_block ?_
  refine awp_loop_from (fun i : Nat => ⟨27, [(0, .val (.int .u32 (x : Int))), (1, .val (.int .i64 n)), (5, .val (.int .u32 (bsum f i : Int))), (6, .val (.int .i64 (i : Int)))], []⟩)
    (fun i => i ≤ 32) (fun i => 32 - i) 0 (by omega) (.of_keep [0, 1, 5, 6] rfl) ?_
  intro i hi
  refine awp_seq_k fun K2 hK2 => ?_
  refine awp_seq_k fun K hK => awp_region [] ?_
  simp only [K_eqs, Nat.reduceLT, K_ops, reduceCtorEq, Nat.reduceEqDiff, if_true, if_false, cav, K_int, aint, d_lt, K_nil, Then, true_and]
  (repeat' apply And.intro) <;> try (first | exact True.intro | omega)
  refine hK _ ?_
  clear hK K
  refine awp_cond rfl rfl (fun h => ?_) (fun h => ?_)
  · have hlt : i < 32 := of_decide_eq_true h
    refine awp_skip (hK2 _ ?_)
    clear hK2 K2
    refine awp_keep [0, 1, 5, 6] ?_
    simp only [keep_eqs, K_ops, Nat.reduceEqDiff, if_true, if_false]
    refine awp_seq ?_
    refine awp_block ?_
    have hj : (IntKind.i64.wrap (IntKind.i64.wrap ((i : Int) + n.tmod 32) + 32)).tmod 32 = ((((i : Int) + n) % 32).toNat : Int) := by
      rw [i64_wrap (n := (i : Int) + n.tmod 32) (by omega) (by omega), i64_wrap (by omega) (by omega)]
      rw [Int.tmod_eq_emod_of_nonneg (by omega)]
      omega
    generalize hjj : (((i : Int) + n) % 32).toNat = j at hj
    have hj32 : j < 32 := by omega
    have hfi : x.testBit j = f i := by rw [← hf, ← hjj]
    refine awp_seq_k fun K hK => awp_region [] ?_
    simp only [K_eqs, Nat.reduceLT, K_ops, reduceCtorEq, Nat.reduceEqDiff, if_true, if_false, cav, K_int, aint, ne_eq, Int.reduceEq, not_false_eq_true, and_true, hj, K_nil, Then, true_and]
    (repeat' apply And.intro) <;> try (first | exact True.intro | omega)
    refine hK _ ?_
    clear hK K
    refine awp_keep [0, 1, 5, 6, 7] ?_
    simp only [keep_eqs, K_ops, Nat.reduceEqDiff, if_true, if_false]
    obtain ⟨s1, s2⟩ := bsum_step f i hlt
    have e1 : (if i ≤ 32 then i else 32) = i := if_pos (by omega)
    have e2 : i % 18446744073709551616 = i := Nat.mod_eq_of_lt (by omega)
    refine awp_region [] ?_
    simp only [K_eqs, Nat.reduceLT, K_ops, reduceCtorEq, Nat.reduceEqDiff, if_false, if_true, K_call, Nat.reduceAdd, List.contains_nil, Bool.false_eq_true, List.map_cons, List.map_nil, aviews, aview, noref, and_true, Bool.or_false, true_and]
    refine andC_eq (by simp [norefs_Bs, norefs, noref]) (bit_ok x j hj32) (by simp [noref, norefs, norefs_Bs, flat]) ?_
    simp only [hfi, RestC_eqs, K_eqs, Nat.reduceLT, K_ops, Nat.reduceEqDiff, reduceCtorEq, if_false, if_true, K_conv, Tryd.underlying60, List.contains_nil, Bool.false_eq_true, aconvO, aview, noref, aconv, Tryd.underlying3, Option.isSome_some, n_u64, e2, and_true, K_int, aint, Int.toNat_natCast, IntKind.bits, Nat.min_def, e1, n_shl, n_u32, s1, n_addn, s2, K_nil, true_and]
    refine ⟨by omega, ?_⟩
    simp only [InBlock, Then]
    refine awp_keep [0, 1, 5, 6] ?_
    simp only [keep_eqs, K_ops, Nat.reduceEqDiff, if_true, if_false]
    have h6 : IntKind.i64.wrap ((i + 1 : Nat) : Int) = ((i + 1 : Nat) : Int) := n_i64 (by omega)
    refine awp_region [] ?_
    simp only [K_eqs, Nat.reduceLT, K_ops, reduceCtorEq, Nat.reduceEqDiff, if_true, if_false, cav, K_int, aint, n_add, h6, K_nil, Then, true_and]
    refine ⟨i + 1, by omega, by omega, .of_keep [0, 1, 5, 6] rfl⟩
  · have he : i = 32 := by have := of_decide_eq_false h; omega
    subst he
    refine awp_exit ?_
    simp only [Then, InBlock, if_true]
    refine hK1 _ ?_
    clear hK1 K1 hK2 K2
    refine awp_keep [5] ?_
    simp only [keep_eqs, K_ops, Nat.reduceEqDiff, if_true, if_false]
    refine awp_seq_k fun K hK => awp_region [] ?_
    simp only [K_eqs, Nat.reduceLT, K_ops, if_true, Nat.reduceEqDiff, if_false, K_nil, Then, true_and]
    (repeat' apply And.intro) <;> try (first | exact True.intro | omega)
    refine hK _ ?_
    clear hK K
    refine awp_ret ?_
    simp only [K_fin, ares, aress, ares1, afin, K_ops, Nat.reduceEqDiff, if_false, if_true, noref, and_true, true_and]
    rw [hres]

theorem sum_ok (x y z : Nat) (hx : x < 4294967296) (hy : y < 4294967296) (hz : z < 4294967296) : ACalls Tryd.prog [] 48 [.val (.int .u32 (x : Int)), .val (.int .u32 (y : Int)), .val (.int .u32 (z : Int))] [] (fun r os => os = [] ∧ r = .val (.int .u32 (xor3 x y z : Int))) := by
  generalize hf : (fun j : Nat => (xor3 x y z).testBit j) = f
  have hres : bsum f 32 = xor3 x y z := bsum_eq (xor3_lt hx hy hz) fun i hi => by rw [← hf]
  refine acalls_of_awp Tryd.func48 rfl rfl Tryd.ntmps48 (rts := #[23]) rfl Tryd.results48 (by simp) ?_
  simp only [argSlots, Nat.reduceAdd]
  refine awp_seq_k fun K hK => awp_region [] ?_
  simp only [K_eqs, Nat.reduceLT, K_ops, cav, K_nil, Then, true_and]
  (repeat' apply And.intro) <;> try (first | exact True.intro | omega)
  refine hK _ ?_
  clear hK K
  refine awp_seq_k fun K hK => awp_region [] ?_
  simp only [K_eqs, Nat.reduceLT, K_ops, cav, K_nil, Then, true_and]
  (repeat' apply And.intro) <;> try (first | exact True.intro | omega)
  refine hK _ ?_
  clear hK K
  refine awp_seq_k fun K1 hK1 => ?_
  refine awp_seq_k fun K hK => awp_region [] ?_
  simp only [K_eqs, Nat.reduceLT, K_ops, cav, K_nil, Then, true_and]
  (repeat' apply And.intro) <;> try (first | exact True.intro | omega)
  refine hK _ ?_
  clear hK K
  refine awp_keep [0, 1, 2, 7, 8] ?_
  simp only [keep_eqs, K_ops, Nat.reduceEqDiff, if_true, if_false]
  refine awp_block ?_
  refine awp_loop_from (fun i : Nat => ⟨31, [(0, .val (.int .u32 (x : Int))), (1, .val (.int .u32 (y : Int))), (2, .val (.int .u32 (z : Int))), (7, .val (.int .u32 (bsum f i : Int))), (8, .val (.int .i64 (i : Int)))], []⟩)
    (fun i => i ≤ 32) (fun i => 32 - i) 0 (by omega) (.of_keep [0, 1, 2, 7, 8] rfl) ?_
  intro i hi
  refine awp_seq_k fun K2 hK2 => ?_
  refine awp_seq_k fun K hK => awp_region [] ?_
  simp only [K_eqs, Nat.reduceLT, K_ops, reduceCtorEq, Nat.reduceEqDiff, if_true, if_false, cav, K_int, aint, d_lt, K_nil, Then, true_and]
  (repeat' apply And.intro) <;> try (first | exact True.intro | omega)
  refine hK _ ?_
  clear hK K
  refine awp_cond rfl rfl (fun h => ?_) (fun h => ?_)
  · have hlt : i < 32 := of_decide_eq_true h
    refine awp_skip (hK2 _ ?_)
    clear hK2 K2
    refine awp_keep [0, 1, 2, 7, 8] ?_
    simp only [keep_eqs, K_ops, Nat.reduceEqDiff, if_true, if_false]
    refine awp_seq ?_
    refine awp_block ?_
    have hfi : (((x.testBit i).toNat + (y.testBit i).toNat) % 4294967296 + (z.testBit i).toNat) % 4294967296 % 2 = (f i).toNat := by
      rw [← hf]
      show _ = ((xor3 x y z).testBit i).toNat
      rw [xor3_bit]
      cases x.testBit i <;> cases y.testBit i <;> cases z.testBit i <;> rfl
    obtain ⟨s1, s2⟩ := bsum_step f i hlt
    have e1 : (if i ≤ 32 then i else 32) = i := if_pos (by omega)
    have e2 : i % 18446744073709551616 = i := Nat.mod_eq_of_lt (by omega)
    refine awp_region [] ?_
    simp only [K_eqs, Nat.reduceLT, K_ops, reduceCtorEq, Nat.reduceEqDiff, if_false, if_true, K_call, Nat.reduceAdd, List.contains_nil, Bool.false_eq_true, List.map_cons, List.map_nil, aviews, aview, noref, and_true, Bool.or_false, true_and]
    refine andC_eq (by simp [norefs_Bs, norefs, noref]) (bit_ok x i hlt) (by simp [noref, norefs, norefs_Bs, flat]) ?_
    simp only [RestC_eqs, K_eqs, Nat.reduceLT, K_ops, Nat.reduceEqDiff, reduceCtorEq, if_false, if_true, K_call, Nat.reduceAdd, List.contains_nil, Bool.false_eq_true, List.map_cons, List.map_nil, aviews, aview, noref, and_true, Bool.or_false, true_and]
    refine andC_eq (by simp [norefs_Bs, norefs, noref]) (bit_ok y i hlt) (by simp [noref, norefs, norefs_Bs, flat]) ?_
    simp only [RestC_eqs, K_eqs, K_ops, Nat.reduceEqDiff, reduceCtorEq, if_false, if_true, K_int, aint, Nat.reduceLT, K_call, Nat.reduceAdd, List.contains_nil, Bool.false_eq_true, List.map_cons, List.map_nil, aviews, aview, noref, and_true, Bool.or_false, true_and]
    refine andC_eq (by simp [norefs_Bs, norefs, noref]) (bit_ok z i hlt) (by simp [noref, norefs, norefs_Bs, flat]) ?_
    simp only [n_addn, n_u32, RestC_eqs, K_eqs, K_ops, Nat.reduceEqDiff, reduceCtorEq, if_false, if_true, K_int, aint, Nat.reduceLT, cav, ne_eq, Int.reduceEq, not_false_eq_true, and_true, n_tmod, hfi, K_conv, Tryd.underlying60, List.contains_nil, Bool.false_eq_true, aconvO, aview, noref, aconv, Tryd.underlying3, Option.isSome_some, n_u64, e2, Int.toNat_natCast, IntKind.bits, Nat.min_def, e1, n_shl, s1, s2, K_nil, true_and]
    refine ⟨by omega, ?_⟩
    simp only [InBlock, Then]
    refine awp_keep [0, 1, 2, 7, 8] ?_
    simp only [keep_eqs, K_ops, Nat.reduceEqDiff, if_true, if_false]
    have h6 : IntKind.i64.wrap ((i + 1 : Nat) : Int) = ((i + 1 : Nat) : Int) := n_i64 (by omega)
    refine awp_region [] ?_
    simp only [K_eqs, Nat.reduceLT, K_ops, reduceCtorEq, Nat.reduceEqDiff, if_true, if_false, cav, K_int, aint, n_add, h6, K_nil, Then, true_and]
    refine ⟨i + 1, by omega, by omega, .of_keep [0, 1, 2, 7, 8] rfl⟩
  · have he : i = 32 := by have := of_decide_eq_false h; omega
    subst he
    refine awp_exit ?_
    simp only [Then, InBlock, if_true]
    refine hK1 _ ?_
    clear hK1 K1 hK2 K2
    refine awp_keep [7] ?_
    simp only [keep_eqs, K_ops, Nat.reduceEqDiff, if_true, if_false]
    refine awp_seq_k fun K hK => awp_region [] ?_
    simp only [K_eqs, Nat.reduceLT, K_ops, if_true, Nat.reduceEqDiff, if_false, K_nil, Then, true_and]
    (repeat' apply And.intro) <;> try (first | exact True.intro | omega)
    refine hK _ ?_
    clear hK K
    refine awp_ret ?_
    simp only [K_fin, ares, aress, ares1, afin, K_ops, Nat.reduceEqDiff, if_false, if_true, noref, and_true, true_and]
    rw [hres]

end Go.Proofs.YtjdlgbkpdfaloaaDoor
/- The walks of layer 1 (word), second part. -/
namespace Go.Proofs.YtjdlgbkpdfaloaaDoor
open Go Go.V
set_option linter.unusedSimpArgs false
set_option linter.unusedVariables false

theorem small_ok (i : Int) (x : Nat) (hx : x < 4294967296) : ACalls Tryd.prog [] 22 [.val (.int .i64 i), .val (.int .u32 (x : Int))] [] (fun r os => os = [] ∧ r = .val (.int .u32 (small i x : Int))) := by
  have f0 : ((turn x 7 ^^^ turn x 18) ^^^ x / 2 ^ 3) % 4294967296 = small 0 x := by
    have h := (Nat.mod_eq_of_lt (xor3_lt (turn_lt hx 7) (turn_lt hx 18) (show x / 8 < 4294967296 by omega))).trans (small0 x).symm
    rw [show (2 : Nat) ^ 3 = 8 from rfl, xor3_eq]
    exact h
  have f1 : ((turn x 17 ^^^ turn x 19) ^^^ x / 2 ^ 10) % 4294967296 = small 1 x := by
    have h := (Nat.mod_eq_of_lt (xor3_lt (turn_lt hx 17) (turn_lt hx 19) (show x / 1024 < 4294967296 by omega))).trans (small1 x).symm
    rw [show (2 : Nat) ^ 10 = 1024 from rfl, xor3_eq]
    exact h
  have hm : ∀ a b, (turn x a ^^^ turn x b) % 4294967296 = turn x a ^^^ turn x b := fun a b => Nat.mod_eq_of_lt (lt32_of_bits fun j hj => by simp [Nat.testBit_xor, bit_high (turn_lt hx _) hj])
  refine acalls_of_awp Tryd.func22 rfl rfl Tryd.ntmps22 (rts := #[23]) rfl Tryd.results22 (by simp) ?_
  simp only [argSlots, Nat.reduceAdd]
  refine awp_seq_k fun K hK => awp_region [] ?_
  simp only [K_eqs, Nat.reduceLT, K_ops, cav, K_nil, Then, true_and]
  (repeat' apply And.intro) <;> try (first | exact True.intro | omega)
  refine hK _ ?_
  clear hK K
  refine awp_seq_k fun K1 hK1 => ?_
  refine awp_seq_k fun K hK => awp_region [] ?_
  simp only [K_eqs, Nat.reduceLT, K_ops, reduceCtorEq, if_false, if_true, K_nil, Then, true_and]
  (repeat' apply And.intro) <;> try (first | exact True.intro | omega)
  refine hK _ ?_
  clear hK K
  refine awp_block ?_
  refine awp_keep [1, 5] ?_
  simp only [keep_eqs, K_ops, Nat.reduceEqDiff, if_true, if_false]
  by_cases h0 : i = 0
  · subst h0
    refine awp_seq_k fun K hK => awp_region [] ?_
    simp only [K_eqs, K_ops, Nat.reduceEqDiff, if_true, if_false, cav, K_int, aint, beq_self_eq_true, Nat.reduceLT, K_nil, Then, true_and]
    (repeat' apply And.intro) <;> try (first | exact True.intro | omega)
    refine hK _ ?_
    clear hK K
    refine awp_condT rfl ?_
    refine awp_keep [1] ?_
    simp only [keep_eqs, K_ops, Nat.reduceEqDiff, if_true, if_false]
    refine awp_seq_k fun K hK => awp_region [] ?_
    simp only [K_eqs, Nat.reduceLT, K_ops, if_true, K_call, Nat.reduceAdd, List.contains_nil, Bool.false_eq_true, List.map_cons, Nat.reduceEqDiff, if_false, cav, List.map_nil, aviews, aview, noref, and_true, Bool.or_false, true_and]
    refine andC_eq (by simp [norefs_Bs, norefs, noref]) (turn_ok x 7 hx) (by simp [noref, norefs, norefs_Bs, flat]) ?_
    simp only [RestC_eqs, K_eqs, Nat.reduceLT, K_ops, Nat.reduceEqDiff, if_true, if_false, K_call, Nat.reduceAdd, List.contains_nil, Bool.false_eq_true, List.map_cons, cav, List.map_nil, aviews, aview, noref, and_true, Bool.or_false, true_and]
    refine andC_eq (by simp [norefs_Bs, norefs, noref]) (turn_ok x 18 hx) (by simp [noref, norefs, norefs_Bs, flat]) ?_
    simp only [RestC_eqs, K_eqs, K_ops, Nat.reduceEqDiff, if_false, if_true, K_int, aint, n_xor32, hm, Nat.reduceLT, cav, Int.reduceLE, Int.reduceToNat, IntKind.bits, Nat.min_def, Nat.reduceLeDiff, n_fdiv, f0, K_nil, Then, true_and]
    refine hK _ ?_
    refine awp_keep [4] ?_
    simp only [keep_eqs, K_ops, Nat.reduceEqDiff, if_true, if_false]
    refine awp_ret ?_
    simp only [InBlock, Then, K_fin, ares, aress, ares1, afin, K_ops, if_true, noref, and_true, true_and]
  have hb0 : (i == 0) = false := by simpa using h0
  refine awp_seq_k fun K hK => awp_region [] ?_
  simp only [K_eqs, K_ops, Nat.reduceEqDiff, if_true, if_false, cav, K_int, aint, hb0, Nat.reduceLT, K_nil, Then, true_and]
  (repeat' apply And.intro) <;> try (first | exact True.intro | omega)
  refine hK _ ?_
  clear hK K
  refine awp_condF rfl ?_
  refine awp_keep [1, 5] ?_
  simp only [keep_eqs, K_ops, Nat.reduceEqDiff, if_true, if_false]
  by_cases h1 : i = 1
  · subst h1
    refine awp_seq_k fun K hK => awp_region [] ?_
    simp only [K_eqs, K_ops, Nat.reduceEqDiff, if_true, if_false, cav, K_int, aint, beq_self_eq_true, Nat.reduceLT, K_nil, Then, true_and]
    (repeat' apply And.intro) <;> try (first | exact True.intro | omega)
    refine hK _ ?_
    clear hK K
    refine awp_condT rfl ?_
    refine awp_keep [1] ?_
    simp only [keep_eqs, K_ops, Nat.reduceEqDiff, if_true, if_false]
    refine awp_seq_k fun K hK => awp_region [] ?_
    simp only [K_eqs, Nat.reduceLT, K_ops, if_true, K_call, Nat.reduceAdd, List.contains_nil, Bool.false_eq_true, List.map_cons, Nat.reduceEqDiff, if_false, cav, List.map_nil, aviews, aview, noref, and_true, Bool.or_false, true_and]
    refine andC_eq (by simp [norefs_Bs, norefs, noref]) (turn_ok x 17 hx) (by simp [noref, norefs, norefs_Bs, flat]) ?_
    simp only [RestC_eqs, K_eqs, Nat.reduceLT, K_ops, Nat.reduceEqDiff, if_true, if_false, K_call, Nat.reduceAdd, List.contains_nil, Bool.false_eq_true, List.map_cons, cav, List.map_nil, aviews, aview, noref, and_true, Bool.or_false, true_and]
    refine andC_eq (by simp [norefs_Bs, norefs, noref]) (turn_ok x 19 hx) (by simp [noref, norefs, norefs_Bs, flat]) ?_
    simp only [RestC_eqs, K_eqs, K_ops, Nat.reduceEqDiff, if_false, if_true, K_int, aint, n_xor32, hm, Nat.reduceLT, cav, Int.reduceLE, Int.reduceToNat, IntKind.bits, Nat.min_def, Nat.reduceLeDiff, n_fdiv, f1, K_nil, Then, true_and]
    refine hK _ ?_
    refine awp_keep [4] ?_
    simp only [keep_eqs, K_ops, Nat.reduceEqDiff, if_true, if_false]
    refine awp_ret ?_
    simp only [InBlock, Then, K_fin, ares, aress, ares1, afin, K_ops, if_true, noref, and_true, true_and]
  have hb1 : (i == 1) = false := by simpa using h1
  refine awp_seq_k fun K hK => awp_region [] ?_
  simp only [K_eqs, K_ops, Nat.reduceEqDiff, if_true, if_false, cav, K_int, aint, hb1, Nat.reduceLT, K_nil, Then, true_and]
  (repeat' apply And.intro) <;> try (first | exact True.intro | omega)
  refine hK _ ?_
  clear hK K
  refine awp_condF rfl ?_
  refine awp_skip ?_
  simp only [InBlock, Then]
  refine hK1 _ ?_
  clear hK1 K1
  refine awp_seq_k fun K hK => awp_region [] ?_
  simp only [K_eqs, Nat.reduceLT, K_ops, cav, K_nil, Then, true_and]
  (repeat' apply And.intro) <;> try (first | exact True.intro | omega)
  refine hK _ ?_
  clear hK K
  refine awp_keep [4] ?_
  simp only [keep_eqs, K_ops, Nat.reduceEqDiff, if_true, if_false]
  refine awp_ret ?_
  simp only [K_fin, ares, aress, ares1, afin, K_ops, if_true, noref, and_true, true_and]
  rw [small2 x h0 h1]
  rfl

end Go.Proofs.YtjdlgbkpdfaloaaDoor
/- The walks of layer 1 (word), second part. -/
namespace Go.Proofs.YtjdlgbkpdfaloaaDoor
open Go Go.V
set_option linter.unusedSimpArgs false
set_option linter.unusedVariables false

theorem refsmall_ok (i : Int) (x : Nat) (hx : x < 4294967296) : ACalls Tryd.prog [] 23 [.val (.int .i64 i), .val (.int .u32 (x : Int))] [] (fun r os => os = [] ∧ r = .val (.int .u32 (small i x : Int))) := by
  refine acalls_of_awp Tryd.func23 rfl rfl Tryd.ntmps23 (rts := #[23]) rfl Tryd.results23 (by simp) ?_
  simp only [argSlots, Nat.reduceAdd]
  refine awp_seq_k fun K hK => awp_region [] ?_
  simp only [K_eqs, Nat.reduceLT, K_ops, cav, K_nil, Then, true_and]
  (repeat' apply And.intro) <;> try (first | exact True.intro | omega)
  refine hK _ ?_
  clear hK K
  refine awp_seq_k fun K1 hK1 => ?_
  by_cases h0 : i = 0
  · subst h0
    refine awp_seq_k fun K hK => awp_region [] ?_
    simp only [K_eqs, Nat.reduceLT, K_ops, reduceCtorEq, if_false, if_true, Nat.reduceEqDiff, cav, K_int, aint, beq_self_eq_true, K_nil, Then, true_and]
    (repeat' apply And.intro) <;> try (first | exact True.intro | omega)
    refine hK _ ?_
    clear hK K
    refine awp_condT rfl ?_
    refine awp_keep [1] ?_
    simp only [keep_eqs, K_ops, Nat.reduceEqDiff, if_true, if_false]
    refine awp_seq_k fun K hK => awp_region [] ?_
    simp only [K_eqs, Nat.reduceLT, K_ops, if_true, K_call, Nat.reduceAdd, List.contains_nil, Bool.false_eq_true, List.map_cons, Nat.reduceEqDiff, if_false, cav, List.map_nil, aviews, aview, noref, and_true, Bool.or_false, true_and]
    refine andC_eq (by simp [norefs_Bs, norefs, noref]) (refturn_ok x 7 hx) (by simp [noref, norefs, norefs_Bs, flat]) ?_
    simp only [RestC_eqs, K_eqs, Nat.reduceLT, K_ops, Nat.reduceEqDiff, if_true, if_false, K_call, Nat.reduceAdd, List.contains_nil, Bool.false_eq_true, List.map_cons, cav, List.map_nil, aviews, aview, noref, and_true, Bool.or_false, true_and]
    refine andC_eq (by simp [norefs_Bs, norefs, noref]) (refturn_ok x 18 hx) (by simp [noref, norefs, norefs_Bs, flat]) ?_
    simp only [RestC_eqs, K_eqs, Nat.reduceLT, K_ops, Nat.reduceEqDiff, if_true, if_false, cav, K_int, aint, ne_eq, Int.reduceEq, not_false_eq_true, and_true, n_tdiv, n_u32, show x / 8 % 4294967296 = x / 8 from by omega, K_call, Nat.reduceAdd, List.contains_nil, Bool.false_eq_true, List.map_cons, List.map_nil, aviews, aview, noref, Bool.or_false, true_and]
    refine andC_eq (by simp [norefs_Bs, norefs, noref]) (sum_ok (turn x 7) (turn x 18) (x / 8) (turn_lt hx _) (turn_lt hx _) (by omega)) (by simp [noref, norefs, norefs_Bs, flat]) ?_
    simp only [RestC_eqs, K_eqs, Nat.reduceLT, K_ops, Nat.reduceEqDiff, if_false, if_true, K_nil, Then, true_and]
    refine hK _ ?_
    refine awp_keep [4] ?_
    simp only [keep_eqs, K_ops, Nat.reduceEqDiff, if_true, if_false]
    refine awp_ret ?_
    simp only [Then, K_fin, ares, aress, ares1, afin, K_ops, if_true, noref, and_true, true_and]
    rw [small0]
  have hb0 : (i == 0) = false := by simpa using h0
  refine awp_seq_k fun K hK => awp_region [] ?_
  simp only [K_eqs, Nat.reduceLT, K_ops, reduceCtorEq, if_false, if_true, Nat.reduceEqDiff, cav, K_int, aint, hb0, K_nil, Then, true_and]
  (repeat' apply And.intro) <;> try (first | exact True.intro | omega)
  refine hK _ ?_
  clear hK K
  refine awp_condF rfl (awp_skip (hK1 _ ?_))
  clear hK1 K1
  refine awp_keep [0, 1] ?_
  simp only [keep_eqs, K_ops, Nat.reduceEqDiff, if_true, if_false]
  refine awp_seq_k fun K1 hK1 => ?_
  by_cases h1 : i = 1
  · subst h1
    refine awp_seq_k fun K hK => awp_region [] ?_
    simp only [K_eqs, Nat.reduceLT, K_ops, reduceCtorEq, if_false, if_true, Nat.reduceEqDiff, cav, K_int, aint, beq_self_eq_true, K_nil, Then, true_and]
    (repeat' apply And.intro) <;> try (first | exact True.intro | omega)
    refine hK _ ?_
    clear hK K
    refine awp_condT rfl ?_
    refine awp_keep [1] ?_
    simp only [keep_eqs, K_ops, Nat.reduceEqDiff, if_true, if_false]
    refine awp_seq_k fun K hK => awp_region [] ?_
    simp only [K_eqs, Nat.reduceLT, K_ops, if_true, K_call, Nat.reduceAdd, List.contains_nil, Bool.false_eq_true, List.map_cons, Nat.reduceEqDiff, if_false, cav, List.map_nil, aviews, aview, noref, and_true, Bool.or_false, true_and]
    refine andC_eq (by simp [norefs_Bs, norefs, noref]) (refturn_ok x 17 hx) (by simp [noref, norefs, norefs_Bs, flat]) ?_
    simp only [RestC_eqs, K_eqs, Nat.reduceLT, K_ops, Nat.reduceEqDiff, if_true, if_false, K_call, Nat.reduceAdd, List.contains_nil, Bool.false_eq_true, List.map_cons, cav, List.map_nil, aviews, aview, noref, and_true, Bool.or_false, true_and]
    refine andC_eq (by simp [norefs_Bs, norefs, noref]) (refturn_ok x 19 hx) (by simp [noref, norefs, norefs_Bs, flat]) ?_
    simp only [RestC_eqs, K_eqs, Nat.reduceLT, K_ops, Nat.reduceEqDiff, if_true, if_false, cav, K_int, aint, ne_eq, Int.reduceEq, not_false_eq_true, and_true, n_tdiv, n_u32, show x / 1024 % 4294967296 = x / 1024 from by omega, K_call, Nat.reduceAdd, List.contains_nil, Bool.false_eq_true, List.map_cons, List.map_nil, aviews, aview, noref, Bool.or_false, true_and]
    refine andC_eq (by simp [norefs_Bs, norefs, noref]) (sum_ok (turn x 17) (turn x 19) (x / 1024) (turn_lt hx _) (turn_lt hx _) (by omega)) (by simp [noref, norefs, norefs_Bs, flat]) ?_
    simp only [RestC_eqs, K_eqs, Nat.reduceLT, K_ops, Nat.reduceEqDiff, if_false, if_true, K_nil, Then, true_and]
    refine hK _ ?_
    refine awp_keep [4] ?_
    simp only [keep_eqs, K_ops, Nat.reduceEqDiff, if_true, if_false]
    refine awp_ret ?_
    simp only [Then, K_fin, ares, aress, ares1, afin, K_ops, if_true, noref, and_true, true_and]
    rw [small1]
  have hb1 : (i == 1) = false := by simpa using h1
  refine awp_seq_k fun K hK => awp_region [] ?_
  simp only [K_eqs, Nat.reduceLT, K_ops, reduceCtorEq, if_false, if_true, Nat.reduceEqDiff, cav, K_int, aint, hb1, K_nil, Then, true_and]
  (repeat' apply And.intro) <;> try (first | exact True.intro | omega)
  refine hK _ ?_
  clear hK K
  refine awp_condF rfl (awp_skip (hK1 _ ?_))
  clear hK1 K1
  refine awp_seq_k fun K hK => awp_region [] ?_
  simp only [K_eqs, Nat.reduceLT, K_ops, cav, K_nil, Then, true_and]
  (repeat' apply And.intro) <;> try (first | exact True.intro | omega)
  refine hK _ ?_
  clear hK K
  refine awp_keep [4] ?_
  simp only [keep_eqs, K_ops, Nat.reduceEqDiff, if_true, if_false]
  refine awp_ret ?_
  simp only [K_fin, ares, aress, ares1, afin, K_ops, if_true, noref, and_true, true_and]
  rw [small2 x h0 h1]
  rfl

end Go.Proofs.YtjdlgbkpdfaloaaDoor
/- The walks of layer 1 (word), second part. -/
namespace Go.Proofs.YtjdlgbkpdfaloaaDoor
open Go Go.V
set_option linter.unusedSimpArgs false
set_option linter.unusedVariables false

theorem get_ok (b : List UInt8) (p : Perm) : ACalls Tryd.prog [] 16 [.sl b.length (Bs b) p] [] (fun r os => os = [] ∧ r = .val (.int .u32 (gw b : Int))) := by
  refine acalls_of_awp Tryd.func16 rfl rfl Tryd.ntmps16 (rts := #[23]) rfl Tryd.results16 (by simp) ?_
  simp only [argSlots, Nat.reduceAdd]
  refine awp_seq_k fun K hK => awp_region [] ?_
  simp only [K_eqs, Nat.reduceLT, K_ops, cav, K_nil, Then, true_and]
  (repeat' apply And.intro) <;> try (first | exact True.intro | omega)
  refine hK _ ?_
  clear hK K
  refine awp_seq_k fun K hK => awp_region [] ?_
  simp only [K_eqs, aalloc, tzeros, List.length_nil, List.map_cons, cav, List.map_nil, List.nil_append, Nat.reduceLT, K_nil, Then, true_and, K_ops]
  (repeat' apply And.intro) <;> try (first | exact True.intro | omega)
  refine hK _ ?_
  clear hK K
  refine awp_keep [0, 3] ?_
  simp only [keep_eqs, K_ops, Nat.reduceEqDiff, if_true, if_false]
  refine awp_seq_k fun K hK => awp_region [] ?_
  simp only [K_eqs, aslice, bopt, Option.map_none, Tryd.underlying61, K_ops, reduceCtorEq, if_true, if_false, tszs, lowOf, Int.le_refl, highOf, Int.cast_ofNat_Int, Int.reduceLE, ne_eq, not_true_eq_false, or_false, and_true, Int.toNat_zero, Nat.mul_one, Nat.add_zero, Int.sub_zero, Int.reduceToNat, Nat.reduceLT, abuiltin, List.map_cons, Nat.reduceEqDiff, List.map_nil, acopy, Tryd.underlying27, srcCells, Bs_length, Nat.min_def, spl, K_nil, Then, true_and, List.getElem?_cons_zero, Nat.zero_add, List.length_cons, List.length_nil, Nat.reduceAdd, Bs_take, Bs_one, List.take_zero, List.nil_append, List.set_cons_zero]
  have key : (if 0 < if b.length ≤ 4 then b.length else 4 then
            [AObj.cells
                (Bs (List.take (if b.length ≤ 4 then b.length else 4) b) ++
                  List.drop (List.take (if b.length ≤ 4 then b.length else 4) b).length
                    [AV.val (Value.int IntKind.u8 0), AV.val (Value.int IntKind.u8 0), AV.val (Value.int IntKind.u8 0),
                      AV.val (Value.int IntKind.u8 0)])]
          else
            [AObj.cells
                [AV.val (Value.int IntKind.u8 0), AV.val (Value.int IntKind.u8 0), AV.val (Value.int IntKind.u8 0),
                  AV.val (Value.int IntKind.u8 0)]]) = [AObj.cells [B (b.getD 0 0), B (b.getD 1 0), B (b.getD 2 0), B (b.getD 3 0)]] := by
    by_cases h4 : 4 ≤ b.length
    · rw [show (if b.length ≤ 4 then b.length else 4) = 4 by split <;> omega]
      rcases b with _ | ⟨b0, _ | ⟨b1, _ | ⟨b2, _ | ⟨b3, r⟩⟩⟩⟩ <;> simp [Bs, B] at h4 ⊢
    · rw [show (if b.length ≤ 4 then b.length else 4) = b.length by split <;> omega]
      rcases b with _ | ⟨b0, _ | ⟨b1, _ | ⟨b2, _ | ⟨b3, r⟩⟩⟩⟩ <;> simp [Bs, B] at h4 ⊢
  rw [key]
  refine ⟨by split <;> omega, hK _ ?_⟩
  clear hK K key
  refine awp_keep [3] ?_
  simp only [keep_eqs, K_ops, Nat.reduceEqDiff, if_true, if_false]
  have h0 := (b.getD 0 0).toNat_lt
  have h1 := (b.getD 1 0).toNat_lt
  have h2 := (b.getD 2 0).toNat_lt
  have h3 := (b.getD 3 0).toNat_lt
  have hg := gw_word _ _ _ _ h0 h1 h2 h3
  have hl : ∀ n, n = (b.getD 0 0).toNat * 16777216 + (b.getD 1 0).toNat * 65536 + (b.getD 2 0).toNat * 256 + (b.getD 3 0).toNat → n = gw b := fun n h => h
  generalize gw b = g at hl ⊢
  generalize (b.getD 0 0) = b0 at *
  generalize (b.getD 1 0) = b1 at *
  generalize (b.getD 2 0) = b2 at *
  generalize (b.getD 3 0) = b3 at *
  rw [show [B b0, B b1, B b2, B b3] = Bs [b0, b1, b2, b3] from rfl]
  refine awp_seq_k fun K hK => awp_region [] ?_
  simp only [K_eqs, aidxAddr, K_ops, cav, Tryd.underlying61, if_true, tszs, Int.le_refl, Int.cast_ofNat_Int, Int.reduceLT, and_true, Int.toNat_zero, Nat.mul_one, Nat.add_zero, Nat.reduceLT, aload, Nat.reduceEqDiff, if_false, List.contains_nil, Bool.false_eq_true, apart, isAggD, Tryd.underlying5, K_conv, Tryd.underlying23, aconvO, aview, ntok, aconv, Option.isSome_some, Int.reduceLE, Int.reduceToNat, Nat.zero_add, K_nil, Then, true_and, List.getElem?_cons_zero, Bs_length, List.length_cons, List.length_nil, Nat.reduceAdd, Bs_getD, B, List.getD_cons_zero, n_u32, K_int, aint, IntKind.bits, Nat.min_def, Nat.reduceLeDiff, n_shl, List.getD_cons_succ, n_or32, hg, hl _ rfl]
  (repeat' apply And.intro) <;> try (first | exact True.intro | omega)
  refine hK _ ?_
  clear hK K
  refine awp_ret ?_
  simp only [K_fin, ares, aress, ares1, afin, K_ops, Nat.reduceEqDiff, if_false, if_true, noref, and_true, true_and]
end Go.Proofs.YtjdlgbkpdfaloaaDoor
/- The walk of WordBytes. -/
namespace Go.Proofs.YtjdlgbkpdfaloaaDoor
open Go Go.V
set_option linter.unusedSimpArgs false
set_option linter.unusedVariables false

/-- The four bytes as the document reads them, one by one. -/
def gwi (b : List UInt8) : Nat → Nat
  | 0 => 0
  | i + 1 => gwi b i * 256 + (b.getD i 0).toNat
theorem gwi4 (b : List UInt8) : gwi b 4 = gw b := by simp only [gwi, gw]; omega
theorem gwi_step (b : List UInt8) (i : Nat) (hi : i < 4) : gwi b i * 256 % 4294967296 = gwi b i * 256 ∧ (gwi b i * 256 + (b.getD i 0).toNat) % 4294967296 = gwi b (i + 1) := by
  have hb : ∀ j, gwi b j < 256 ^ j := by
    intro j
    induction j with
    | zero => simp [gwi]
    | succ j ih =>
      have := (b.getD j 0).toNat_lt
      simp only [gwi, Nat.pow_succ]
      omega
  have h := hb (i + 1)
  have h2 : 256 ^ (i + 1) ≤ 256 ^ 4 := Nat.pow_le_pow_right (by omega) (by omega)
  have e : gwi b (i + 1) = gwi b i * 256 + (b.getD i 0).toNat := rfl
  have h3 : 256 ^ 4 = 4294967296 := rfl
  rw [h3] at h2
  clear h3
  constructor
  · exact Nat.mod_eq_of_lt (by omega)
  · rw [← e]; exact Nat.mod_eq_of_lt (by omega)

theorem refget_ok (b : List UInt8) (p : Perm) (hb : b.length ≤ 9223372036854775807) : ACalls Tryd.prog [] 17 [.sl b.length (Bs b) p] [] (fun r os => os = [] ∧ r = .val (.int .u32 (gw b : Int))) := by
  refine acalls_of_awp Tryd.func17 rfl rfl Tryd.ntmps17 (rts := #[23]) rfl Tryd.results17 (by simp) ?_
  simp only [argSlots, Nat.reduceAdd]
  refine awp_seq_k fun K hK => awp_region [] ?_
  simp only [K_eqs, Nat.reduceLT, K_ops, cav, K_nil, Then, true_and]
  (repeat' apply And.intro) <;> try (first | exact True.intro | omega)
  refine hK _ ?_
  clear hK K
  refine awp_seq_k fun K hK => awp_region [] ?_
  simp only [K_eqs, Nat.reduceLT, K_ops, cav, K_nil, Then, true_and]
  (repeat' apply And.intro) <;> try (first | exact True.intro | omega)
  refine hK _ ?_
  clear hK K
  refine awp_seq_k fun K1 hK1 => ?_
  refine awp_seq_k fun K hK => awp_region [] ?_
  simp only [K_eqs, Nat.reduceLT, K_ops, cav, K_nil, Then, true_and]
  (repeat' apply And.intro) <;> try (first | exact True.intro | omega)
  refine hK _ ?_
  clear hK K
  refine awp_keep [0, 3, 4] ?_
  simp only [keep_eqs, K_ops, Nat.reduceEqDiff, if_true, if_false]
  refine awp_block ?_
  refine awp_loop_from (fun i : Nat => ⟨23, [(0, .sl b.length (Bs b) p), (3, .val (.int .u32 (gwi b i : Int))), (4, .val (.int .i64 (i : Int)))], []⟩)
    (fun i => i ≤ 4) (fun i => 4 - i) 0 (by omega) (.of_keep [0, 3, 4] rfl) ?_
  intro i hi
  refine awp_seq_k fun K2 hK2 => ?_
  refine awp_seq_k fun K hK => awp_region [] ?_
  simp only [K_eqs, Nat.reduceLT, K_ops, reduceCtorEq, Nat.reduceEqDiff, if_true, if_false, cav, K_int, aint, d_lt, K_nil, Then, true_and]
  (repeat' apply And.intro) <;> try (first | exact True.intro | omega)
  refine hK _ ?_
  clear hK K
  refine awp_cond rfl rfl (fun h => ?_) (fun h => ?_)
  · have hlt : i < 4 := of_decide_eq_true h
    refine awp_skip (hK2 _ ?_)
    clear hK2 K2
    refine awp_keep [0, 3, 4] ?_
    simp only [keep_eqs, K_ops, Nat.reduceEqDiff, if_true, if_false]
    refine awp_seq ?_
    refine awp_block ?_
    obtain ⟨s1, s2⟩ := gwi_step b i hlt
    refine awp_seq_k fun K hK => awp_region [] ?_
    simp only [K_eqs, Nat.reduceLT, K_ops, reduceCtorEq, Nat.reduceEqDiff, if_false, if_true, cav, K_int, aint, n_mul, n_u32, s1, K_nil, Then, true_and]
    (repeat' apply And.intro) <;> try (first | exact True.intro | omega)
    refine hK _ ?_
    clear hK K
    refine awp_seq_k fun K hK => awp_region [] ?_
    simp only [K_eqs, Nat.reduceLT, K_ops, Nat.reduceEqDiff, reduceCtorEq, if_true, if_false, abuiltin, List.map_cons, List.map_nil, alen, Tryd.underlying27, K_nil, Then, true_and, K_int, aint, d_ltn]
    refine hK _ ?_
    clear hK K
    by_cases hlen : i < b.length
    · refine awp_condT (by simp only [K_ops, lk, hlen, decide_true]; rfl) ?_
      have hpos : 0 < b.length - i := by omega
      have hm : (b.getD i 0).toNat % 4294967296 = (b.getD i 0).toNat := Nat.mod_eq_of_lt (Nat.lt_of_lt_of_le (b.getD i 0).toNat_lt (by decide))
      refine awp_keep [0, 3, 4] ?_
      simp only [keep_eqs, K_ops, Nat.reduceEqDiff, if_true, if_false]
      refine awp_region [] ?_
      simp only [K_eqs, Nat.reduceLT, K_ops, reduceCtorEq, Nat.reduceEqDiff, if_false, if_true, aidxAddr, Tryd.underlying27, tszs, Bs_length, Nat.mul_one, and_true, true_and, Int.toNat_natCast, Bs_drop, aload, List.contains_nil, Bool.false_eq_true, apart, isAggD, Tryd.underlying5, K_conv, Tryd.underlying23, aconvO, aview, ntok, aconv, Option.isSome_some, K_nil, List.length_drop, hpos, Bs_getD, B, drop_getD, Nat.add_zero, n_u32, hm, K_int, aint, n_addn, s2]
      refine ⟨⟨by omega, by omega⟩, ?_⟩
      simp only [InBlock, Then]
      refine awp_keep [0, 3, 4] ?_
      simp only [keep_eqs, K_ops, Nat.reduceEqDiff, if_true, if_false]
      have h6 : IntKind.i64.wrap ((i + 1 : Nat) : Int) = ((i + 1 : Nat) : Int) := n_i64 (by omega)
      refine awp_region [] ?_
      simp only [K_eqs, Nat.reduceLT, K_ops, reduceCtorEq, Nat.reduceEqDiff, if_true, if_false, cav, K_int, aint, n_add, h6, K_nil, Then, true_and]
      refine ⟨i + 1, by omega, by omega, .of_keep [0, 3, 4] rfl⟩
    · refine awp_condF (by simp only [K_ops, lk, hlen, decide_false]; rfl) (awp_skip ?_)
      have hz : gwi b i * 256 = gwi b (i + 1) := by
        show _ = gwi b i * 256 + (b.getD i 0).toNat
        rw [List.getD_eq_getElem?_getD, List.getElem?_eq_none (by omega)]
        exact (Nat.add_zero _).symm
      rw [hz]
      simp only [InBlock, Then]
      refine awp_keep [0, 3, 4] ?_
      simp only [keep_eqs, K_ops, Nat.reduceEqDiff, if_true, if_false]
      have h6 : IntKind.i64.wrap ((i + 1 : Nat) : Int) = ((i + 1 : Nat) : Int) := n_i64 (by omega)
      refine awp_region [] ?_
      simp only [K_eqs, Nat.reduceLT, K_ops, reduceCtorEq, Nat.reduceEqDiff, if_true, if_false, cav, K_int, aint, n_add, h6, K_nil, Then, true_and]
      refine ⟨i + 1, by omega, by omega, .of_keep [0, 3, 4] rfl⟩
  · have he : i = 4 := by have := of_decide_eq_false h; omega
    subst he
    refine awp_exit ?_
    simp only [Then, InBlock, if_true]
    refine hK1 _ ?_
    clear hK1 K1 hK2 K2
    refine awp_keep [3] ?_
    simp only [keep_eqs, K_ops, Nat.reduceEqDiff, if_true, if_false]
    refine awp_seq_k fun K hK => awp_region [] ?_
    simp only [K_eqs, Nat.reduceLT, K_ops, if_true, Nat.reduceEqDiff, if_false, K_nil, Then, true_and]
    (repeat' apply And.intro) <;> try (first | exact True.intro | omega)
    refine hK _ ?_
    clear hK K
    refine awp_ret ?_
    simp only [K_fin, ares, aress, ares1, afin, K_ops, Nat.reduceEqDiff, if_false, if_true, noref, and_true, true_and]
    rw [gwi4]

theorem refbytes_ok (x : Nat) (hx : x < 4294967296) : ACalls Tryd.prog [] 18 [.val (.int .u32 (x : Int))] [] (fun r os => os = [] ∧ r = .sl 4 (Bs (be4 x)) .full) := by
  refine acalls_of_awp Tryd.func18 rfl rfl Tryd.ntmps18 (rts := #[27]) rfl Tryd.results18 (by simp) ?_
  simp only [argSlots, Nat.reduceAdd]
  have q0 : x / 16777216 % 4294967296 % 256 = (UInt8.ofNat (x / 16777216)).toNat := by simp
  have q1 : x / 65536 % 4294967296 % 256 % 256 = (UInt8.ofNat (x / 65536)).toNat := by simp
  have q2 : x / 256 % 4294967296 % 256 % 256 = (UInt8.ofNat (x / 256)).toNat := by simp
  have q3 : x % 256 % 256 = (UInt8.ofNat x).toNat := by simp
  refine awp_seq_k fun K hK => awp_region [] ?_
  simp only [K_eqs, Nat.reduceLT, K_ops, cav, K_nil, Then, true_and]
  (repeat' apply And.intro) <;> try (first | exact True.intro | omega)
  refine hK _ ?_
  clear hK K
  refine awp_seq_k fun K hK => awp_region [] ?_
  simp only [K_eqs, Nat.reduceLT, K_ops, reduceCtorEq, if_true, if_false, Nat.reduceEqDiff, cav, K_int, aint, ne_eq, Int.reduceEq, not_false_eq_true, and_true, n_tdiv, n_u32, K_conv, Tryd.underlying5, List.contains_nil, Bool.false_eq_true, aconvO, aview, noref, aconv, Tryd.underlying23, Option.isSome_some, n_u8, q0, n_tmod, q1, q2, q3, abuildOwn, Tryd.underlying27, tszs, tzeros, Nat.mul_one, zrep_byte, List.replicate_succ, List.replicate_zero, aparts, List.map_cons, List.map_nil, afill, spl, List.take_zero, acells, List.nil_append, List.length_cons, List.length_nil, Nat.zero_add, Bs_drop, List.drop_succ_cons, List.drop_zero, List.cons_append, List.take_succ_cons, Nat.reduceAdd, List.drop_nil, Bs_nil, List.append_nil, Bs_length, Nat.le_refl, List.all_cons, oneC, Value.oneCell', List.all_nil, Bool.and_true, Nat.reduceLeDiff, abuildSlice, K_nil, Then, true_and]
  (repeat' apply And.intro) <;> try (first | exact True.intro | omega)
  refine hK _ ?_
  clear hK K
  refine awp_keep [2] ?_
  simp only [keep_eqs, K_ops, Nat.reduceEqDiff, if_true, if_false]
  rw [show [AV.val (Value.int IntKind.u8 ↑(UInt8.ofNat (x / 16777216)).toNat), AV.val (Value.int IntKind.u8 ↑(UInt8.ofNat (x / 65536)).toNat), AV.val (Value.int IntKind.u8 ↑(UInt8.ofNat (x / 256)).toNat), AV.val (Value.int IntKind.u8 ↑(UInt8.ofNat x).toNat)] = Bs (be4 x) from rfl]
  refine awp_ret ?_
  simp only [K_fin, ares, aress, ares1, afin, K_ops, if_true, norefs_Bs, ntok, and_true, true_and]

end Go.Proofs.YtjdlgbkpdfaloaaDoor
/- The walk of block.Schedule. -/
namespace Go.Proofs.YtjdlgbkpdfaloaaDoor
open Go Go.V
set_option linter.unusedSimpArgs false
set_option linter.unusedVariables false

/-- What a block's words are, without what is inside 'Get' and 'Small'. -/
theorem sched_calls (b : List UInt8) (hb : b.length = 64) : ∃ W s1 s0 : Nat → Nat, W = word b ∧ (∀ i, W i < 4294967296) ∧
    (∀ i, i < 16 → ∀ p, ACalls Tryd.prog [] 16 [.sl (64 - 4 * i) (Bs (b.drop (4 * i))) p] [] (fun r os => os = [] ∧ r = .val (.int .u32 (W i : Int)))) ∧
    (∀ i, ACalls Tryd.prog [] 22 [.val (.int .i64 1), .val (.int .u32 (W i : Int))] [] (fun r os => os = [] ∧ r = .val (.int .u32 (s1 i : Int)))) ∧
    (∀ i, ACalls Tryd.prog [] 22 [.val (.int .i64 0), .val (.int .u32 (W i : Int))] [] (fun r os => os = [] ∧ r = .val (.int .u32 (s0 i : Int)))) ∧
    (∀ i, 16 ≤ i → (((s1 (i - 2) + W (i - 7)) % 4294967296 + s0 (i - 15)) % 4294967296 + W (i - 16)) % 4294967296 = W i) := by
  refine ⟨word b, fun i => small 1 (word b i), fun i => small 0 (word b i), rfl, word_lt b, fun i hi p => ?_, fun i => small_ok 1 _ (word_lt b i), fun i => small_ok 0 _ (word_lt b i), fun i hi => ?_⟩
  · have h := get_ok (b.drop (4 * i)) p
    rw [List.length_drop, hb, ← word_small b i hi] at h
    exact h
  · rw [word_big b i hi]
    show (((small 1 (word b (i - 2)) + word b (i - 7)) % 4294967296 + small 0 (word b (i - 15))) % 4294967296 + word b (i - 16)) % 4294967296 = _
    generalize small 1 (word b (i - 2)) = a
    generalize small 0 (word b (i - 15)) = c
    omega

theorem schedule_ok (b : List UInt8) (hb : b.length = 64) : ACalls Tryd.prog [] 32 [.agg (Bs b)] [] (fun r os => os = [] ∧ r = .agg (Is .u32 (arr 64 (word b) 64))) := by
  obtain ⟨W, s1, s0, hW, hlt, cG, c1, c0, hbig⟩ := sched_calls b hb
  rw [← hW]
  have hbt : b.take 64 = b := List.take_of_length_le (by omega)
  have hbd : b.drop 64 = [] := List.drop_eq_nil_of_le (by omega)
  have hz : (zvs .u32 64).map cav = Is .u32 (arr 64 W 0) := by rw [zvs_Is, arr_zero]
  have hl : ∀ i, (arr 64 W i).length = 64 := arr_length 64 W
  refine acalls_of_awp Tryd.func32 rfl rfl Tryd.ntmps32 (rts := #[40]) rfl Tryd.results32 (by simp) ?_
  simp only [argSlots, Nat.reduceAdd]
  refine awp_seq_k fun K hK => awp_region [] ?_
  simp only [K_eqs, abox, acells, K_ops, if_true, Bs_one, List.length_nil, List.nil_append, Nat.reduceLT, aalloc, tzeros, hz, K_nil, Then, true_and, List.length_cons, Nat.zero_add, List.cons_append]
  (repeat' apply And.intro) <;> try (first | exact True.intro | omega)
  refine hK _ ?_
  clear hK K
  refine awp_keep [1, 2] ?_
  simp only [keep_eqs, K_ops, Nat.reduceEqDiff, if_true, if_false]
  refine awp_seq_k fun K1 hK1 => ?_
  refine awp_seq_k fun K hK => awp_region [] ?_
  simp only [K_eqs, Nat.reduceLT, K_ops, cav, K_nil, Then, true_and]
  (repeat' apply And.intro) <;> try (first | exact True.intro | omega)
  refine hK _ ?_
  clear hK K
  refine awp_block ?_
  refine awp_loop_from (fun i : Nat => ⟨40, [(1, .ptr 0 0), (2, .ptr 1 0), (4, .val (.int .i64 (i : Int)))], [.cells (Bs b), .cells (Is .u32 (arr 64 W i))]⟩)
    (fun i => i ≤ 64) (fun i => 64 - i) 0 (by omega) (.of_keep [1, 2, 4] rfl) ?_
  intro i hi
  refine awp_seq_k fun K hK => awp_region [] ?_
  simp only [K_eqs, K_ops, Nat.reduceEqDiff, if_true, if_false, cav, K_int, aint, d_lt, Nat.reduceLT, K_nil, Then, true_and]
  (repeat' apply And.intro) <;> try (first | exact True.intro | omega)
  refine hK _ ?_
  clear hK K
  refine awp_seq ?_
  refine awp_cond rfl rfl (fun h => ?_) (fun h => ?_)
  · have hlt : i < 64 := of_decide_eq_true h
    refine awp_skip ?_
    simp only [Then]
    refine awp_keep [1, 2, 4] ?_
    simp only [keep_eqs, K_ops, Nat.reduceEqDiff, if_true, if_false]
    refine awp_seq ?_
    refine awp_block ?_
    refine awp_seq_k fun K hK => awp_region [] ?_
    simp only [K_eqs, Nat.reduceLT, K_ops, Nat.reduceEqDiff, if_true, if_false, K_nil, Then, true_and]
    (repeat' apply And.intro) <;> try (first | exact True.intro | omega)
    refine hK _ ?_
    clear hK K
    refine awp_seq_k fun K hK => awp_region [] ?_
    simp only [K_eqs, Nat.reduceLT, K_ops, Nat.reduceEqDiff, if_false, if_true, cav, K_int, aint, d_lt, K_nil, Then, true_and]
    refine hK _ ?_
    clear hK K
    refine awp_keep [1, 2, 3, 4, 8] ?_
    simp only [keep_eqs, K_ops, Nat.reduceEqDiff, if_true, if_false]
    by_cases h16 : i < 16
    · refine awp_condT (by simp only [K_ops, lk, h16, decide_true]; rfl) ?_
      refine awp_keep [1, 2, 3, 4] ?_
      simp only [keep_eqs, K_ops, Nat.reduceEqDiff, if_true, if_false]
      have hw : IntKind.i64.wrap (4 * (i : Int)) = ((4 * i : Nat) : Int) := by rw [i64_wrap (by omega) (by omega)]; omega
      have h64 : ((64 : Int) - ((4 * i : Nat) : Int)).toNat = 64 - 4 * i := by omega
      have hd : (b.drop (4 * i)).take (64 - 4 * i) = b.drop (4 * i) := List.take_of_length_le (by rw [List.length_drop]; omega)
      refine awp_region [] ?_
      simp only [K_eqs, Nat.reduceLT, K_ops, Nat.reduceEqDiff, if_false, if_true, cav, K_int, aint, hw, aslice, bopt, Option.map_some, Option.map_none, Tryd.underlying37, tszs, lowOf, highOf, Int.cast_ofNat_Int, Int.le_refl, ne_eq, not_true_eq_false, or_false, and_true, Int.toNat_natCast, Nat.mul_one, Nat.zero_add, h64, K_call, Nat.reduceAdd, List.contains_nil, Bool.false_eq_true, List.map_cons, List.map_nil, aviews, aview, ntok, List.headD_cons, Tryd.underlying27, true_and, List.getElem?_cons_zero, Bs_length, Bs_drop, Bs_take, hd, norefs_Bs, Bool.or_false]
      refine ⟨by omega, ?_⟩
      refine andC_eq (by omega) (cG i h16 _) (by simp [flat]) ?_
      simp only [RestC_eqs, K_eqs, aidxAddr, K_ops, Nat.reduceEqDiff, if_false, if_true, Tryd.underlying40, tszs, Int.cast_ofNat_Int, Int.toNat_natCast, Nat.mul_one, Nat.zero_add, Nat.reduceLT, K_store, astore, acells, List.all_cons, oneC, Value.oneCell', List.all_nil, Bool.and_true, List.length_cons, List.length_nil, and_true, spl, K_nil, true_and, List.getElem?_cons_succ, List.getElem?_cons_zero, Is_length, hl, Nat.reduceLeDiff, Is_take, Is_drop, List.set_cons_succ, List.set_cons_zero]
      refine ⟨⟨by omega, by omega⟩, by omega, ?_⟩
      rw [Is_set (by rw [hl]; omega), arr_set]
      simp only [InBlock, Then]
      refine awp_keep [1, 2, 4] ?_
      simp only [keep_eqs, K_ops, Nat.reduceEqDiff, if_true, if_false]
      have h6 : IntKind.i64.wrap ((i + 1 : Nat) : Int) = ((i + 1 : Nat) : Int) := n_i64 (by omega)
      refine awp_region [] ?_
      simp only [K_eqs, K_ops, Nat.reduceEqDiff, if_true, if_false, cav, K_int, aint, n_add, h6, Nat.reduceLT, K_nil, Then, true_and]
      exact ⟨i + 1, by omega, by omega, .of_keep [1, 2, 4] rfl⟩
    · refine awp_condF (by simp only [K_ops, lk, h16, decide_false]; rfl) ?_
      refine awp_keep [1, 2, 3, 4] ?_
      simp only [keep_eqs, K_ops, Nat.reduceEqDiff, if_true, if_false]
      have w2 : IntKind.i64.wrap ((i : Int) - 2) = ((i - 2 : Nat) : Int) := by rw [i64_wrap (by omega) (by omega)]; omega
      have w7 : IntKind.i64.wrap ((i : Int) - 7) = ((i - 7 : Nat) : Int) := by rw [i64_wrap (by omega) (by omega)]; omega
      have w15 : IntKind.i64.wrap ((i : Int) - 15) = ((i - 15 : Nat) : Int) := by rw [i64_wrap (by omega) (by omega)]; omega
      have w16 : IntKind.i64.wrap ((i : Int) - 16) = ((i - 16 : Nat) : Int) := by rw [i64_wrap (by omega) (by omega)]; omega
      have l2 : i - 2 < 64 := by omega
      have l7 : i - 7 < 64 := by omega
      have l15 : i - 15 < 64 := by omega
      have l16 : i - 16 < 64 := by omega
      have g2 := arr_getD (n := 64) W (show i - 2 < i by omega) l2
      have g7 := arr_getD (n := 64) W (show i - 7 < i by omega) l7
      have g15 := arr_getD (n := 64) W (show i - 15 < i by omega) l15
      have g16 := arr_getD (n := 64) W (show i - 16 < i by omega) l16
      refine awp_draw [20, 30] (by kernel_rfl) (by kernel_rfl) ?_
      simp only [K_eqs, Nat.reduceLT, K_ops, Nat.reduceEqDiff, if_false, if_true, cav, K_int, aint, w2, aidxAddr, Tryd.underlying40, tszs, Int.cast_ofNat_Int, Int.toNat_natCast, Nat.mul_one, Nat.zero_add, aload, List.contains_cons, Nat.reduceBEq, List.contains_nil, Bool.or_false, Bool.false_eq_true, apart, isAggD, Tryd.underlying23, K_call, Nat.reduceAdd, List.map_cons, List.map_nil, beq_self_eq_true, aviews, aview, noref, ntok, List.tail_cons, List.headD_cons, true_and, List.getElem?_cons_succ, List.getElem?_cons_zero, Is_length, hl, l2, Is_getD, I, g2, and_true]
      refine ⟨by omega, ?_⟩
      refine andC_eq (by simp [norefs_Bs, norefs, noref, norefs_Is, flats_Is]) (c1 (i - 2)) (by simp [noref, norefs, norefs_Bs, flat, norefs_Is, flats_Is]) ?_
      simp only [RestC_eqs, K_eqs, Nat.reduceLT, K_ops, Nat.reduceEqDiff, if_false, if_true, cav, K_int, aint, w7, aidxAddr, Tryd.underlying40, tszs, Int.cast_ofNat_Int, Int.toNat_natCast, Nat.mul_one, Nat.zero_add, aload, List.contains_cons, Nat.reduceBEq, List.contains_nil, Bool.or_false, Bool.false_eq_true, apart, isAggD, Tryd.underlying23, w15, K_call, Nat.reduceAdd, List.map_cons, List.map_nil, beq_self_eq_true, Bool.false_or, aviews, aview, noref, ntok, List.tail_cons, List.headD_cons, true_and, List.getElem?_cons_succ, List.getElem?_cons_zero, Is_length, hl, l15, Is_getD, I, g15, and_true, l7, g7, n_addn, n_u32]
      refine ⟨by omega, by omega, ?_⟩
      refine andC_eq (by simp [norefs_Bs, norefs, noref, norefs_Is, flats_Is]) (c0 (i - 15)) (by simp [noref, norefs, norefs_Bs, flat, norefs_Is, flats_Is]) ?_
      simp only [RestC_eqs, K_eqs, K_ops, Nat.reduceEqDiff, if_false, if_true, K_int, aint, n_addn, n_u32, Nat.reduceLT, cav, w16, aidxAddr, Tryd.underlying40, tszs, Int.cast_ofNat_Int, Int.toNat_natCast, Nat.mul_one, Nat.zero_add, aload, List.contains_cons, Nat.reduceBEq, List.contains_nil, Bool.or_false, Bool.false_eq_true, apart, isAggD, Tryd.underlying23, K_store, astore, acells, spl, K_nil, true_and, List.getElem?_cons_succ, List.getElem?_cons_zero, Is_length, hl, Is_take, Is_drop, List.set_cons_succ, List.set_cons_zero, l16, Is_getD, I, g16, hbig i (by omega), List.all_cons, oneC, Value.oneCell', List.all_nil, Bool.and_true, List.length_cons, List.length_nil, Nat.reduceLeDiff, and_true]
      refine ⟨⟨by omega, by omega⟩, ⟨by omega, by omega⟩, by omega, ?_⟩
      rw [Is_set (by rw [hl]; omega), arr_set]
      simp only [InBlock, Then]
      refine awp_keep [1, 2, 4] ?_
      simp only [keep_eqs, K_ops, Nat.reduceEqDiff, if_true, if_false]
      have h6 : IntKind.i64.wrap ((i + 1 : Nat) : Int) = ((i + 1 : Nat) : Int) := n_i64 (by omega)
      refine awp_region [] ?_
      simp only [K_eqs, K_ops, Nat.reduceEqDiff, if_true, if_false, cav, K_int, aint, n_add, h6, Nat.reduceLT, K_nil, Then, true_and]
      exact ⟨i + 1, by omega, by omega, .of_keep [1, 2, 4] rfl⟩
  · have he : i = 64 := by have := of_decide_eq_false h; omega
    subst he
    refine awp_exit ?_
    simp only [Then, InBlock, if_true]
    refine hK1 _ ?_
    clear hK1 K1
    refine awp_keep [2] ?_
    simp only [keep_eqs, K_ops, Nat.reduceEqDiff, if_true, if_false]
    refine awp_seq_k fun K hK => awp_region [] ?_
    have ht : (arr 64 W 64).take 64 = arr 64 W 64 := List.take_of_length_le (by rw [hl]; omega)
    have hdr : (arr 64 W 64).drop 64 = [] := List.drop_eq_nil_of_le (by rw [hl]; omega)
    simp only [K_eqs, aload, K_ops, if_true, List.contains_nil, Bool.false_eq_true, if_false, List.getElem?_cons_succ, List.getElem?_cons_zero, apart, isAggD, Tryd.underlying40, tszs, Nat.zero_add, Is_length, hl, Nat.le_refl, List.drop_zero, Is_take, ht, Nat.reduceLT, K_store, astore, Nat.reduceEqDiff, acells, spl, List.take_zero, List.nil_append, Is_drop, List.set_cons_succ, List.set_cons_zero, K_nil, Then, true_and, Is_one, and_true, hdr, Is_nil, List.append_nil]
    refine hK _ ?_
    clear hK K
    refine awp_ret ?_
    simp only [K_fin, ares, aress, ares1, aload, K_ops, Nat.reduceEqDiff, if_true, if_false, List.getElem?_cons_succ, List.getElem?_cons_zero, apart, isAggD, Tryd.underlying40, tszs, Nat.zero_add, Is_length, hl, Nat.le_refl, List.drop_zero, Is_take, ht, afin, noref, norefs_Is, and_true, true_and]
end Go.Proofs.YtjdlgbkpdfaloaaDoor
/- The walks of layer 2's document: a schedule. -/
namespace Go.Proofs.YtjdlgbkpdfaloaaDoor
open Go Go.V
set_option linter.unusedSimpArgs false
set_option linter.unusedVariables false

theorem turn2_ok (x n : Nat) (hx : x < 4294967296) (h1 : 1 ≤ n) (h2 : n ≤ 31) : ACalls Tryd.prog [] 51 [.val (.int .u32 (x : Int)), .val (.int .u64 (n : Int))] [] (fun r os => os = [] ∧ r = .val (.int .u32 (turn x (n : Int) : Int))) := by
  have hw : IntKind.u64.wrap (32 - (n : Int)) = ((32 - n : Nat) : Int) := by
    rw [show (32 : Int) - (n : Int) = ((32 - n : Nat) : Int) by omega, n_u64, Nat.mod_eq_of_lt (by omega)]
  have e1 : (if n ≤ 32 then n else 32) = n := if_pos (by omega)
  have e2 : (if 32 - n ≤ 32 then 32 - n else 32) = 32 - n := if_pos (by omega)
  have ht := turn_or (x := x) h1 h2
  have hlt : turn x (n : Int) % 4294967296 = turn x (n : Int) := Nat.mod_eq_of_lt (turn_lt hx _)
  generalize turn x (n : Int) = t at ht hlt ⊢
  refine acalls_of_awp Tryd.func51 rfl rfl Tryd.ntmps51 (rts := #[23]) rfl Tryd.results51 (by simp) ?_
  simp only [argSlots, Nat.reduceAdd]
  refine awp_seq_k fun K hK => awp_region [] ?_
  simp only [K_eqs, Nat.reduceLT, K_ops, cav, K_nil, Then, true_and]
  (repeat' apply And.intro) <;> try (first | exact True.intro | omega)
  refine hK _ ?_
  clear hK K
  refine awp_seq_k fun K hK => awp_region [] ?_
  simp only [K_eqs, Nat.reduceLT, K_ops, reduceCtorEq, if_false, if_true, Nat.reduceEqDiff, K_int, aint, Int.toNat_natCast, IntKind.bits, Nat.min_def, e1, n_fdiv, cav, hw, e2, n_shl, n_u32, n_or32, ht, hlt, K_nil, Then, true_and]
  (repeat' apply And.intro) <;> try (first | exact True.intro | omega)
  refine hK _ ?_
  clear hK K
  refine awp_ret ?_
  simp only [K_fin, ares, aress, ares1, afin, K_ops, Nat.reduceEqDiff, reduceCtorEq, if_false, if_true, noref, and_true, true_and]

set_option maxRecDepth 100000 in
theorem primes2_ok : ACalls Tryd.prog [] 52 [] [] (fun r os => os = [] ∧ r = .sl 64 (Is .u32 tabW) .full) := by
  refine acalls_of_awp Tryd.func52 rfl rfl Tryd.ntmps52 (rts := #[38]) rfl Tryd.results52 (by simp) ?_
  simp only [argSlots, Nat.reduceAdd]
  refine awp_seq_k fun K hK => awp_region [] ?_
  simp only [K_eqs, Nat.reduceLT, K_ops, cav, K_nil, Then, true_and]
  (repeat' apply And.intro) <;> try (first | exact True.intro | omega)
  refine hK _ ?_
  clear hK K
  refine awp_seq_k fun K hK => awp_region [] ?_
  simp only [K_eqs, List.contains_nil, Bool.false_eq_true, if_false]
  refine buildSlice_B (Is .u32 tabW) Tryd.underlying38 (sz := 1) (z := [.int .u32 0]) (by simp only [tszs]) (by simp only [tzeros]) (by kernel_rfl) rfl (by omega) ?_
  simp only [Nat.reduceLT, K_ops, reduceCtorEq, if_false, if_true, K_nil, Then, true_and]
  refine hK _ ?_
  refine awp_ret ?_
  simp only [K_fin, ares, aress, ares1, afin, K_ops, reduceCtorEq, if_true, if_false, norefs_Is, ntok, and_true, true_and]

/-- A row of the first i words. -/
def wl (W : Nat → Nat) (i : Nat) : List Int := (List.range i).map fun j => ((W j : Nat) : Int)
theorem wl_length (W : Nat → Nat) (i : Nat) : (wl W i).length = i := by simp [wl]
theorem wl_succ (W : Nat → Nat) (i : Nat) : wl W (i + 1) = wl W i ++ [((W i : Nat) : Int)] := by simp [wl, List.range_succ]
theorem wl_getD (W : Nat → Nat) {i j : Nat} (h : j < i) : (wl W i).getD j 0 = ((W j : Nat) : Int) := by simp [wl, List.getD_eq_getElem?_getD, h]
theorem wl_arr (W : Nat → Nat) (n : Nat) : wl W n = arr n W n := by
  unfold wl arr
  apply List.map_congr_left
  intro j hj
  rw [if_pos (by simpa using hj)]

/-- What a block's words are, without what is inside 'Get' and 'turn'. -/
theorem sched2_calls (b : List UInt8) (hb : b.length = 64) : ∃ W t17 t19 t7 t18 s1 s0 : Nat → Nat, W = word b ∧ (∀ i, W i < 4294967296) ∧
    (∀ i, i < 16 → ∀ p, ACalls Tryd.prog [] 17 [.sl (64 - 4 * i) (Bs (b.drop (4 * i))) p] [] (fun r os => os = [] ∧ r = .val (.int .u32 (W i : Int)))) ∧
    (∀ i, ACalls Tryd.prog [] 51 [.val (.int .u32 (W i : Int)), .val (.int .u64 17)] [] (fun r os => os = [] ∧ r = .val (.int .u32 (t17 i : Int)))) ∧
    (∀ i, ACalls Tryd.prog [] 51 [.val (.int .u32 (W i : Int)), .val (.int .u64 19)] [] (fun r os => os = [] ∧ r = .val (.int .u32 (t19 i : Int)))) ∧
    (∀ i, ACalls Tryd.prog [] 51 [.val (.int .u32 (W i : Int)), .val (.int .u64 7)] [] (fun r os => os = [] ∧ r = .val (.int .u32 (t7 i : Int)))) ∧
    (∀ i, ACalls Tryd.prog [] 51 [.val (.int .u32 (W i : Int)), .val (.int .u64 18)] [] (fun r os => os = [] ∧ r = .val (.int .u32 (t18 i : Int)))) ∧
    (∀ i, ((t17 i ^^^ t19 i) % 4294967296 ^^^ W i / 1024 % 4294967296) % 4294967296 = s1 i) ∧
    (∀ i, ((t7 i ^^^ t18 i) % 4294967296 ^^^ W i / 8 % 4294967296) % 4294967296 = s0 i) ∧
    (∀ i, 16 ≤ i → (((s1 (i - 2) + W (i - 7)) % 4294967296 + s0 (i - 15)) % 4294967296 + W (i - 16)) % 4294967296 = W i) := by
  have hm : ∀ i k, word b i / k % 4294967296 = word b i / k := fun i k => Nat.mod_eq_of_lt (Nat.lt_of_le_of_lt (Nat.div_le_self _ _) (word_lt b i))
  refine ⟨word b, fun i => turn (word b i) 17, fun i => turn (word b i) 19, fun i => turn (word b i) 7, fun i => turn (word b i) 18, fun i => small 1 (word b i), fun i => small 0 (word b i), rfl, word_lt b, fun i hi p => ?_,
    fun i => turn2_ok _ 17 (word_lt b i) (by omega) (by omega), fun i => turn2_ok _ 19 (word_lt b i) (by omega) (by omega), fun i => turn2_ok _ 7 (word_lt b i) (by omega) (by omega), fun i => turn2_ok _ 18 (word_lt b i) (by omega) (by omega),
    fun i => ?_, fun i => ?_, fun i hi => ?_⟩
  · have h := refget_ok (b.drop (4 * i)) p (by rw [List.length_drop]; omega)
    rw [List.length_drop, hb, ← word_small b i hi] at h
    exact h
  · rw [hm, xor3_mod (turn_lt (word_lt b i) _) (turn_lt (word_lt b i) _) (Nat.lt_of_le_of_lt (Nat.div_le_self _ _) (word_lt b i))]
    exact (small1 _).symm
  · rw [hm, xor3_mod (turn_lt (word_lt b i) _) (turn_lt (word_lt b i) _) (Nat.lt_of_le_of_lt (Nat.div_le_self _ _) (word_lt b i))]
    exact (small0 _).symm
  · rw [word_big b i hi]
    show (((small 1 (word b (i - 2)) + word b (i - 7)) % 4294967296 + small 0 (word b (i - 15))) % 4294967296 + word b (i - 16)) % 4294967296 = _
    generalize small 1 (word b (i - 2)) = a
    generalize small 0 (word b (i - 15)) = c
    omega

theorem refsched_ok (b : List UInt8) (hb : b.length = 64) : ACalls Tryd.prog [] 31 [.sl 64 (Bs b) .no] [] (fun r os => os = [] ∧ r = .sl 64 (Is .u32 (arr 64 (word b) 64)) .no) := by
  obtain ⟨W, t17, t19, t7, t18, s1, s0, hW, hlt, cG, c17, c19, c7, c18, h1, h0, hbig⟩ := sched2_calls b hb
  rw [← hW, ← wl_arr]
  have hl : ∀ i, (wl W i).length = i := wl_length W
  refine acalls_of_awp Tryd.func31 rfl rfl Tryd.ntmps31 (rts := #[38]) rfl Tryd.results31 (by simp) ?_
  simp only [argSlots, Nat.reduceAdd]
  refine awp_seq_k fun K hK => awp_region [] ?_
  simp only [K_eqs, Nat.reduceLT, K_ops, cav, K_nil, Then, true_and]
  (repeat' apply And.intro) <;> try (first | exact True.intro | omega)
  refine hK _ ?_
  clear hK K
  refine awp_seq_k fun K hK => awp_region [] ?_
  simp only [K_eqs, List.contains_nil, Bool.false_eq_true, abuildOwn, Tryd.underlying38, tszs, tzeros, Nat.mul_one, aparts, List.map_nil, afill, List.length_cons, List.length_nil, Nat.zero_add, Nat.reduceLeDiff, true_and, List.nil_append, abuildSlice, and_true, if_false, K_ops, Nat.reduceLT, Nat.reduceEqDiff, reduceCtorEq, if_true, K_nil, Then]
  (repeat' apply And.intro) <;> try (first | exact True.intro | omega)
  refine hK _ ?_
  clear hK K
  refine awp_keep [0, 3] ?_
  simp only [keep_eqs, K_ops, Nat.reduceEqDiff, if_true, if_false]
  refine awp_tok 1 3 rfl ?_
  refine awp_seq_k fun K1 hK1 => ?_
  refine awp_seq_k fun K hK => awp_region [] ?_
  simp only [List.length_nil, List.nil_append, K_eqs, Nat.reduceLT, K_ops, cav, K_nil, Then, true_and]
  (repeat' apply And.intro) <;> try (first | exact True.intro | omega)
  refine hK _ ?_
  clear hK K
  refine awp_keep [0, 3, 4] ?_
  simp only [keep_eqs, K_ops, Nat.reduceEqDiff, if_true, if_false]
  refine awp_block ?_
  refine awp_loop_from (fun i : Nat => ⟨84, [(0, .sl 64 (Bs b) .no), (3, .sl i (Is .u32 (wl W i)) (.tok 0)), (4, .val (.int .i64 (i : Int)))], [.tok 1 i]⟩)
    (fun i => i ≤ 16) (fun i => 16 - i) 0 (by omega) (.of_keep [0, 3, 4] rfl) ?_
  intro i hi
  refine awp_seq_k fun K2 hK2 => ?_
  refine awp_seq_k fun K hK => awp_region [] ?_
  simp only [K_eqs, Nat.reduceLT, K_ops, reduceCtorEq, Nat.reduceEqDiff, if_true, if_false, cav, K_int, aint, d_lt, K_nil, Then, true_and]
  (repeat' apply And.intro) <;> try (first | exact True.intro | omega)
  refine hK _ ?_
  clear hK K
  refine awp_cond rfl rfl (fun h => ?_) (fun h => ?_)
  · have hlt : i < 16 := of_decide_eq_true h
    refine awp_skip (hK2 _ ?_)
    clear hK2 K2
    refine awp_keep [0, 3, 4] ?_
    simp only [keep_eqs, K_ops, Nat.reduceEqDiff, if_true, if_false]
    refine awp_seq ?_
    refine awp_block ?_
    have hw : IntKind.i64.wrap (4 * (i : Int)) = ((4 * i : Nat) : Int) := by rw [i64_wrap (by omega) (by omega)]; omega
    have h64 : ((64 : Int) - ((4 * i : Nat) : Int)).toNat = 64 - 4 * i := by omega
    have hd : (b.drop (4 * i)).take (64 - 4 * i) = b.drop (4 * i) := List.take_of_length_le (by rw [List.length_drop]; omega)
    refine awp_region [] ?_
    simp only [K_eqs, Nat.reduceLT, K_ops, reduceCtorEq, Nat.reduceEqDiff, if_false, if_true, cav, K_int, aint, hw, aslice, bopt, Option.map_some, Option.map_none, Tryd.underlying27, tszs, Bs_length, hb, Nat.mul_one, lowOf, highOf, Int.cast_ofNat_Int, Int.le_refl, ne_eq, not_true_eq_false, and_true, or_false, true_and, h64, Int.toNat_natCast, Bs_drop, Bs_take, hd, sliceP, K_call, Nat.reduceAdd, List.contains_nil, Bool.false_eq_true, List.map_cons, List.map_nil, aviews, aview, ntok, List.headD_cons, norefs_Bs, Bool.or_false]
    refine ⟨by omega, ?_⟩
    refine andC_eq (by simp [norefs_Bs, norefs, noref, norefs_Is, flats_Is]) (cG i hlt _) (by simp [noref, norefs, norefs_Bs, flat, norefs_Is, flats_Is]) ?_
    simp only [RestC_eqs, K_eqs, List.contains_nil, Bool.false_eq_true, abuildOwn, Tryd.underlying38, tszs, tzeros, Nat.mul_one, zrep_Is, List.replicate_succ, List.replicate_zero, aparts, List.map_cons, K_ops, Nat.reduceEqDiff, reduceCtorEq, if_false, if_true, List.map_nil, afill, spl, List.take_zero, acells, List.nil_append, List.length_cons, List.length_nil, Nat.zero_add, Is_drop, List.drop_succ_cons, List.drop_nil, Is_nil, List.append_nil, Is_length, Nat.le_refl, List.all_cons, oneC, Value.oneCell', List.all_nil, Bool.and_true, and_true, Nat.reduceLeDiff, List.cons_append, abuildSlice, Nat.reduceLT, abuiltin, aappend, tbys, appSrc, srcCells, List.getElem?_cons_zero, hl, true_and, List.set_cons_zero, K_nil]
    refine ⟨by omega, ?_⟩
    have e : Is .u32 (wl W i) ++ [AV.val (.int .u32 ((W i : Nat) : Int))] = Is .u32 (wl W (i + 1)) := by rw [wl_succ, Is_append]; rfl
    rw [e]
    simp only [InBlock, Then]
    refine awp_keep [0, 3, 4] ?_
    simp only [keep_eqs, K_ops, Nat.reduceEqDiff, if_true, if_false]
    have h6 : IntKind.i64.wrap ((i + 1 : Nat) : Int) = ((i + 1 : Nat) : Int) := n_i64 (by omega)
    refine awp_region [] ?_
    simp only [K_eqs, Nat.reduceLT, K_ops, reduceCtorEq, Nat.reduceEqDiff, if_true, if_false, cav, K_int, aint, n_add, h6, K_nil, Then, true_and]
    refine ⟨i + 1, by omega, by omega, .of_keep [0, 3, 4] rfl⟩
  · have he : i = 16 := by have := of_decide_eq_false h; omega
    subst he
    refine awp_exit ?_
    simp only [Then, InBlock, if_true]
    refine hK1 _ ?_
    clear hK1 K1 hK2 K2
    refine awp_keep [0, 3] ?_
    simp only [keep_eqs, K_ops, Nat.reduceEqDiff, if_true, if_false]
    refine awp_seq_k fun K1 hK1 => ?_
    refine awp_seq_k fun K hK => awp_region [] ?_
    simp only [K_eqs, Nat.reduceLT, K_ops, cav, K_nil, Then, true_and]
    (repeat' apply And.intro) <;> try (first | exact True.intro | omega)
    refine hK _ ?_
    clear hK K
    refine awp_keep [3, 5] ?_
    simp only [keep_eqs, K_ops, Nat.reduceEqDiff, if_true, if_false]
    refine awp_block ?_
    refine awp_loop_from (fun i : Nat => ⟨84, [(3, .sl i (Is .u32 (wl W i)) (.tok 0)), (5, .val (.int .i64 (i : Int)))], [.tok 1 i]⟩)
      (fun i => 16 ≤ i ∧ i ≤ 64) (fun i => 64 - i) 16 ⟨by omega, by omega⟩ (.of_keep [3, 5] rfl) ?_
    rintro i ⟨hi16, hi⟩
    refine awp_seq_k fun K2 hK2 => ?_
    refine awp_seq_k fun K hK => awp_region [] ?_
    simp only [K_eqs, Nat.reduceLT, K_ops, Nat.reduceEqDiff, if_true, if_false, cav, K_int, aint, d_lt, K_nil, Then, true_and]
    (repeat' apply And.intro) <;> try (first | exact True.intro | omega)
    refine hK _ ?_
    clear hK K
    refine awp_cond rfl rfl (fun h => ?_) (fun h => ?_)
    · have hlt : i < 64 := of_decide_eq_true h
      refine awp_skip (hK2 _ ?_)
      clear hK2 K2
      refine awp_keep [3, 5] ?_
      simp only [keep_eqs, K_ops, Nat.reduceEqDiff, if_true, if_false]
      refine awp_seq ?_
      refine awp_block ?_
      have w2 : IntKind.i64.wrap ((i : Int) - 2) = ((i - 2 : Nat) : Int) := by rw [i64_wrap (by omega) (by omega)]; omega
      have w7 : IntKind.i64.wrap ((i : Int) - 7) = ((i - 7 : Nat) : Int) := by rw [i64_wrap (by omega) (by omega)]; omega
      have w15 : IntKind.i64.wrap ((i : Int) - 15) = ((i - 15 : Nat) : Int) := by rw [i64_wrap (by omega) (by omega)]; omega
      have w16 : IntKind.i64.wrap ((i : Int) - 16) = ((i - 16 : Nat) : Int) := by rw [i64_wrap (by omega) (by omega)]; omega
      have l2 : i - 2 < i := by omega
      have l7 : i - 7 < i := by omega
      have l15 : i - 15 < i := by omega
      have l16 : i - 16 < i := by omega
      have q2 : 0 < i - (i - 2) := by omega
      have q7 : 0 < i - (i - 7) := by omega
      have q15 : 0 < i - (i - 15) := by omega
      have q16 : 0 < i - (i - 16) := by omega
      have g2 := wl_getD W l2
      have g7 := wl_getD W l7
      have g15 := wl_getD W l15
      have g16 := wl_getD W l16
      have hb1 := h1 (i - 2)
      have hb0 := h0 (i - 15)
      refine awp_seq_k fun K hK => ?_
      refine awp_draw [] (by kernel_rfl) (by kernel_rfl) ?_
      simp only [K_eqs, Nat.reduceLT, K_ops, Nat.reduceEqDiff, if_false, if_true, cav, K_int, aint, w2, aidxAddr, Tryd.underlying38, tszs, Is_length, hl, Nat.mul_one, and_true, true_and, Int.toNat_natCast, Is_drop, aload, List.contains_nil, Bool.false_eq_true, apart, isAggD, Tryd.underlying23, K_call, Nat.reduceAdd, List.map_cons, List.map_nil, aviews, aview, ntok, List.headD_cons, noref, Bool.or_false, List.length_drop, q2, Is_getD, I, drop_getD, Nat.add_zero, g2]
      refine ⟨by omega, ?_⟩
      refine andC_eq (by simp [norefs_Bs, norefs, noref, norefs_Is, flats_Is]) (c17 (i - 2)) (by simp [noref, norefs, norefs_Bs, flat, norefs_Is, flats_Is]) ?_
      simp only [RestC_eqs, K_eqs, Nat.reduceLT, K_ops, Nat.reduceEqDiff, if_false, if_true, cav, K_int, aint, w2, aidxAddr, Tryd.underlying38, tszs, Is_length, hl, Nat.mul_one, and_true, true_and, Int.toNat_natCast, Is_drop, aload, List.contains_nil, Bool.false_eq_true, apart, isAggD, Tryd.underlying23, K_call, Nat.reduceAdd, List.map_cons, List.map_nil, aviews, aview, ntok, List.headD_cons, noref, Bool.or_false, List.length_drop, q2, Is_getD, I, drop_getD, Nat.add_zero, g2]
      refine ⟨by omega, ?_⟩
      refine andC_eq (by simp [norefs_Bs, norefs, noref, norefs_Is, flats_Is]) (c19 (i - 2)) (by simp [noref, norefs, norefs_Bs, flat, norefs_Is, flats_Is]) ?_
      simp only [RestC_eqs, K_eqs, K_ops, Nat.reduceEqDiff, if_false, if_true, K_int, aint, n_xor32, Nat.reduceLT, cav, w2, aidxAddr, Tryd.underlying38, tszs, Is_length, hl, Nat.mul_one, and_true, true_and, Int.toNat_natCast, Is_drop, aload, List.contains_nil, Bool.false_eq_true, apart, isAggD, Tryd.underlying23, K_nil, Then, List.length_drop, q2, Is_getD, I, drop_getD, Nat.add_zero, g2, ne_eq, Int.reduceEq, not_false_eq_true, n_tdiv, n_u32, hb1]
      refine ⟨by omega, hK _ ?_⟩
      clear hK K
      refine awp_keep [3, 5, 6] ?_
      simp only [keep_eqs, K_ops, Nat.reduceEqDiff, if_true, if_false]
      refine awp_seq_k fun K hK => ?_
      refine awp_draw [] (by kernel_rfl) (by kernel_rfl) ?_
      simp only [K_eqs, Nat.reduceLT, K_ops, Nat.reduceEqDiff, if_false, if_true, cav, K_int, aint, w15, aidxAddr, Tryd.underlying38, tszs, Is_length, hl, Nat.mul_one, and_true, true_and, Int.toNat_natCast, Is_drop, aload, List.contains_nil, Bool.false_eq_true, apart, isAggD, Tryd.underlying23, K_call, Nat.reduceAdd, List.map_cons, List.map_nil, aviews, aview, ntok, List.headD_cons, noref, Bool.or_false, List.length_drop, q15, Is_getD, I, drop_getD, Nat.add_zero, g15]
      refine ⟨by omega, ?_⟩
      refine andC_eq (by simp [norefs_Bs, norefs, noref, norefs_Is, flats_Is]) (c7 (i - 15)) (by simp [noref, norefs, norefs_Bs, flat, norefs_Is, flats_Is]) ?_
      simp only [RestC_eqs, K_eqs, Nat.reduceLT, K_ops, Nat.reduceEqDiff, if_false, if_true, cav, K_int, aint, w15, aidxAddr, Tryd.underlying38, tszs, Is_length, hl, Nat.mul_one, and_true, true_and, Int.toNat_natCast, Is_drop, aload, List.contains_nil, Bool.false_eq_true, apart, isAggD, Tryd.underlying23, K_call, Nat.reduceAdd, List.map_cons, List.map_nil, aviews, aview, ntok, List.headD_cons, noref, Bool.or_false, List.length_drop, q15, Is_getD, I, drop_getD, Nat.add_zero, g15]
      refine ⟨by omega, ?_⟩
      refine andC_eq (by simp [norefs_Bs, norefs, noref, norefs_Is, flats_Is]) (c18 (i - 15)) (by simp [noref, norefs, norefs_Bs, flat, norefs_Is, flats_Is]) ?_
      simp only [RestC_eqs, K_eqs, K_ops, Nat.reduceEqDiff, if_false, if_true, K_int, aint, n_xor32, Nat.reduceLT, cav, w15, aidxAddr, Tryd.underlying38, tszs, Is_length, hl, Nat.mul_one, and_true, true_and, Int.toNat_natCast, Is_drop, aload, List.contains_nil, Bool.false_eq_true, apart, isAggD, Tryd.underlying23, K_nil, Then, List.length_drop, q15, Is_getD, I, drop_getD, Nat.add_zero, g15, ne_eq, Int.reduceEq, not_false_eq_true, n_tdiv, n_u32, hb0]
      refine ⟨by omega, hK _ ?_⟩
      clear hK K
      refine awp_keep [3, 5, 6, 7] ?_
      simp only [keep_eqs, K_ops, Nat.reduceEqDiff, if_true, if_false]
      have hbi := hbig i hi16
      refine awp_draw [] (by kernel_rfl) (by kernel_rfl) ?_
      simp only [K_eqs, Nat.reduceLT, K_ops, Nat.reduceEqDiff, if_false, if_true, cav, K_int, aint, w7, aidxAddr, Tryd.underlying38, tszs, Is_length, hl, Nat.mul_one, and_true, true_and, Int.toNat_natCast, Is_drop, aload, List.contains_nil, Bool.false_eq_true, apart, isAggD, Tryd.underlying23, w16, abuildOwn, tzeros, zrep_Is, List.replicate_succ, List.replicate_zero, aparts, List.map_cons, List.map_nil, afill, spl, List.take_zero, acells, List.nil_append, Nat.zero_add, List.length_cons, List.length_nil, Nat.le_refl, Nat.reduceLeDiff, List.cons_append, abuildSlice, abuiltin, aappend, tbys, appSrc, srcCells, List.getElem?_cons_zero, List.set_cons_zero, K_nil, List.length_drop, q16, Is_getD, I, drop_getD, Nat.add_zero, g16, q7, g7, n_addn, n_u32, hbi, List.all_cons, oneC, Value.oneCell', List.all_nil, Bool.and_true, List.drop_succ_cons, List.drop_nil, Is_nil, List.append_nil]
      refine ⟨by omega, by omega, by omega, ?_⟩
      have e : Is .u32 (wl W i) ++ [AV.val (.int .u32 ((W i : Nat) : Int))] = Is .u32 (wl W (i + 1)) := by rw [wl_succ, Is_append]; rfl
      rw [e]
      simp only [InBlock, Then]
      refine awp_keep [3, 5] ?_
      simp only [keep_eqs, K_ops, Nat.reduceEqDiff, if_true, if_false]
      have h6 : IntKind.i64.wrap ((i + 1 : Nat) : Int) = ((i + 1 : Nat) : Int) := n_i64 (by omega)
      refine awp_region [] ?_
      simp only [K_eqs, Nat.reduceLT, K_ops, Nat.reduceEqDiff, if_true, if_false, cav, K_int, aint, n_add, h6, K_nil, Then, true_and]
      refine ⟨i + 1, by omega, by omega, .of_keep [3, 5] rfl⟩
    · have he : i = 64 := by have := of_decide_eq_false h; omega
      subst he
      refine awp_exit ?_
      simp only [Then, InBlock, if_true]
      refine hK1 _ ?_
      clear hK1 K1 hK2 K2
      refine awp_keep [3] ?_
      simp only [keep_eqs, K_ops, Nat.reduceEqDiff, if_true, if_false]
      refine awp_seq_k fun K hK => awp_region [] ?_
      simp only [K_eqs, Nat.reduceLT, K_ops, if_true, Nat.reduceEqDiff, if_false, K_nil, Then, true_and]
      (repeat' apply And.intro) <;> try (first | exact True.intro | omega)
      refine hK _ ?_
      clear hK K
      refine awp_ret ?_
      simp only [K_fin, ares, aress, ares1, afin, K_ops, Nat.reduceEqDiff, if_false, if_true, norefs_Is, ntok, and_true, true_and]
end Go.Proofs.YtjdlgbkpdfaloaaDoor
/- The walks of the words' sums. -/
namespace Go.Proofs.YtjdlgbkpdfaloaaDoor
open Go Go.V
set_option linter.unusedSimpArgs false
set_option linter.unusedVariables false

theorem great_ok (i : Int) (x : Nat) (hx : x < 4294967296) : ACalls Tryd.prog [] 20 [.val (.int .i64 i), .val (.int .u32 (x : Int))] [] (fun r os => os = [] ∧ r = .val (.int .u32 (great i x : Int))) := by
  have hm : ∀ a b, (turn x a ^^^ turn x b) % 4294967296 = turn x a ^^^ turn x b := fun a b => Nat.mod_eq_of_lt (lt32_of_bits fun j hj => by simp [Nat.testBit_xor, bit_high (turn_lt hx _) hj])
  have f0 : ((turn x 2 ^^^ turn x 13) ^^^ turn x 22) % 4294967296 = great 0 x := by
    have h := (Nat.mod_eq_of_lt (xor3_lt (turn_lt hx 2) (turn_lt hx 13) (turn_lt hx 22))).trans (great0 x).symm
    rw [xor3_eq]
    exact h
  have f1 : ((turn x 6 ^^^ turn x 11) ^^^ turn x 25) % 4294967296 = great 1 x := by
    have h := (Nat.mod_eq_of_lt (xor3_lt (turn_lt hx 6) (turn_lt hx 11) (turn_lt hx 25))).trans (great1 x).symm
    rw [xor3_eq]
    exact h
  refine acalls_of_awp Tryd.func20 rfl rfl Tryd.ntmps20 (rts := #[23]) rfl Tryd.results20 (by simp) ?_
  simp only [argSlots, Nat.reduceAdd]
  refine awp_seq_k fun K hK => awp_region [] ?_
  simp only [K_eqs, Nat.reduceLT, K_ops, cav, K_nil, Then, true_and]
  (repeat' apply And.intro) <;> try (first | exact True.intro | omega)
  refine hK _ ?_
  clear hK K
  refine awp_seq_k fun K1 hK1 => ?_
  refine awp_seq_k fun K hK => awp_region [] ?_
  simp only [K_eqs, Nat.reduceLT, K_ops, reduceCtorEq, if_false, if_true, K_nil, Then, true_and]
  (repeat' apply And.intro) <;> try (first | exact True.intro | omega)
  refine hK _ ?_
  clear hK K
  refine awp_block ?_
  refine awp_keep [1, 5] ?_
  simp only [keep_eqs, K_ops, Nat.reduceEqDiff, if_true, if_false]
  by_cases h0 : i = 0
  · subst h0
    refine awp_seq_k fun K hK => awp_region [] ?_
    simp only [K_eqs, K_ops, Nat.reduceEqDiff, if_true, if_false, cav, K_int, aint, beq_self_eq_true, Nat.reduceLT, K_nil, Then, true_and]
    (repeat' apply And.intro) <;> try (first | exact True.intro | omega)
    refine hK _ ?_
    clear hK K
    refine awp_condT rfl ?_
    refine awp_keep [1] ?_
    simp only [keep_eqs, K_ops, Nat.reduceEqDiff, if_true, if_false]
    refine awp_seq_k fun K hK => awp_region [] ?_
    simp only [K_eqs, Nat.reduceLT, K_ops, if_true, K_call, Nat.reduceAdd, List.contains_nil, Bool.false_eq_true, List.map_cons, Nat.reduceEqDiff, if_false, cav, List.map_nil, aviews, aview, noref, and_true, Bool.or_false, true_and]
    refine andC_eq (by simp [norefs_Bs, norefs, noref]) (turn_ok x 2 hx) (by simp [noref, norefs, norefs_Bs, flat]) ?_
    simp only [RestC_eqs, K_eqs, Nat.reduceLT, K_ops, Nat.reduceEqDiff, if_true, if_false, K_call, Nat.reduceAdd, List.contains_nil, Bool.false_eq_true, List.map_cons, cav, List.map_nil, aviews, aview, noref, and_true, Bool.or_false, true_and]
    refine andC_eq (by simp [norefs_Bs, norefs, noref]) (turn_ok x 13 hx) (by simp [noref, norefs, norefs_Bs, flat]) ?_
    simp only [RestC_eqs, K_eqs, K_ops, Nat.reduceEqDiff, if_false, if_true, K_int, aint, n_xor32, Nat.reduceLT, K_call, Nat.reduceAdd, List.contains_nil, Bool.false_eq_true, List.map_cons, cav, List.map_nil, aviews, aview, noref, and_true, Bool.or_false, true_and]
    refine andC_eq (by simp [norefs_Bs, norefs, noref]) (turn_ok x 22 hx) (by simp [noref, norefs, norefs_Bs, flat]) ?_
    simp only [hm, RestC_eqs, K_eqs, K_ops, Nat.reduceEqDiff, if_false, if_true, K_int, aint, n_xor32, f0, Nat.reduceLT, K_nil, Then, true_and]
    refine hK _ ?_
    refine awp_keep [4] ?_
    simp only [keep_eqs, K_ops, Nat.reduceEqDiff, if_true, if_false]
    refine awp_ret ?_
    simp only [InBlock, Then, K_fin, ares, aress, ares1, afin, K_ops, if_true, noref, and_true, true_and]
  have hb0 : (i == 0) = false := by simpa using h0
  refine awp_seq_k fun K hK => awp_region [] ?_
  simp only [K_eqs, K_ops, Nat.reduceEqDiff, if_true, if_false, cav, K_int, aint, hb0, Nat.reduceLT, K_nil, Then, true_and]
  (repeat' apply And.intro) <;> try (first | exact True.intro | omega)
  refine hK _ ?_
  clear hK K
  refine awp_condF rfl ?_
  refine awp_keep [1, 5] ?_
  simp only [keep_eqs, K_ops, Nat.reduceEqDiff, if_true, if_false]
  by_cases h1 : i = 1
  · subst h1
    refine awp_seq_k fun K hK => awp_region [] ?_
    simp only [K_eqs, K_ops, Nat.reduceEqDiff, if_true, if_false, cav, K_int, aint, beq_self_eq_true, Nat.reduceLT, K_nil, Then, true_and]
    (repeat' apply And.intro) <;> try (first | exact True.intro | omega)
    refine hK _ ?_
    clear hK K
    refine awp_condT rfl ?_
    refine awp_keep [1] ?_
    simp only [keep_eqs, K_ops, Nat.reduceEqDiff, if_true, if_false]
    refine awp_seq_k fun K hK => awp_region [] ?_
    simp only [K_eqs, Nat.reduceLT, K_ops, if_true, K_call, Nat.reduceAdd, List.contains_nil, Bool.false_eq_true, List.map_cons, Nat.reduceEqDiff, if_false, cav, List.map_nil, aviews, aview, noref, and_true, Bool.or_false, true_and]
    refine andC_eq (by simp [norefs_Bs, norefs, noref]) (turn_ok x 6 hx) (by simp [noref, norefs, norefs_Bs, flat]) ?_
    simp only [RestC_eqs, K_eqs, Nat.reduceLT, K_ops, Nat.reduceEqDiff, if_true, if_false, K_call, Nat.reduceAdd, List.contains_nil, Bool.false_eq_true, List.map_cons, cav, List.map_nil, aviews, aview, noref, and_true, Bool.or_false, true_and]
    refine andC_eq (by simp [norefs_Bs, norefs, noref]) (turn_ok x 11 hx) (by simp [noref, norefs, norefs_Bs, flat]) ?_
    simp only [RestC_eqs, K_eqs, K_ops, Nat.reduceEqDiff, if_false, if_true, K_int, aint, n_xor32, Nat.reduceLT, K_call, Nat.reduceAdd, List.contains_nil, Bool.false_eq_true, List.map_cons, cav, List.map_nil, aviews, aview, noref, and_true, Bool.or_false, true_and]
    refine andC_eq (by simp [norefs_Bs, norefs, noref]) (turn_ok x 25 hx) (by simp [noref, norefs, norefs_Bs, flat]) ?_
    simp only [hm, RestC_eqs, K_eqs, K_ops, Nat.reduceEqDiff, if_false, if_true, K_int, aint, n_xor32, f1, Nat.reduceLT, K_nil, Then, true_and]
    refine hK _ ?_
    refine awp_keep [4] ?_
    simp only [keep_eqs, K_ops, Nat.reduceEqDiff, if_true, if_false]
    refine awp_ret ?_
    simp only [InBlock, Then, K_fin, ares, aress, ares1, afin, K_ops, if_true, noref, and_true, true_and]
  have hb1 : (i == 1) = false := by simpa using h1
  refine awp_seq_k fun K hK => awp_region [] ?_
  simp only [K_eqs, K_ops, Nat.reduceEqDiff, if_true, if_false, cav, K_int, aint, hb1, Nat.reduceLT, K_nil, Then, true_and]
  (repeat' apply And.intro) <;> try (first | exact True.intro | omega)
  refine hK _ ?_
  clear hK K
  refine awp_condF rfl ?_
  refine awp_skip ?_
  simp only [InBlock, Then]
  refine hK1 _ ?_
  clear hK1 K1
  refine awp_seq_k fun K hK => awp_region [] ?_
  simp only [K_eqs, Nat.reduceLT, K_ops, cav, K_nil, Then, true_and]
  (repeat' apply And.intro) <;> try (first | exact True.intro | omega)
  refine hK _ ?_
  clear hK K
  refine awp_keep [4] ?_
  simp only [keep_eqs, K_ops, Nat.reduceEqDiff, if_true, if_false]
  refine awp_ret ?_
  simp only [K_fin, ares, aress, ares1, afin, K_ops, if_true, noref, and_true, true_and]
  rw [great2 x h0 h1]
  rfl

theorem refgreat_ok (i : Int) (x : Nat) (hx : x < 4294967296) : ACalls Tryd.prog [] 21 [.val (.int .i64 i), .val (.int .u32 (x : Int))] [] (fun r os => os = [] ∧ r = .val (.int .u32 (great i x : Int))) := by
  refine acalls_of_awp Tryd.func21 rfl rfl Tryd.ntmps21 (rts := #[23]) rfl Tryd.results21 (by simp) ?_
  simp only [argSlots, Nat.reduceAdd]
  refine awp_seq_k fun K hK => awp_region [] ?_
  simp only [K_eqs, Nat.reduceLT, K_ops, cav, K_nil, Then, true_and]
  (repeat' apply And.intro) <;> try (first | exact True.intro | omega)
  refine hK _ ?_
  clear hK K
  refine awp_seq_k fun K1 hK1 => ?_
  by_cases h0 : i = 0
  · subst h0
    refine awp_seq_k fun K hK => awp_region [] ?_
    simp only [K_eqs, Nat.reduceLT, K_ops, reduceCtorEq, if_false, if_true, Nat.reduceEqDiff, cav, K_int, aint, beq_self_eq_true, K_nil, Then, true_and]
    (repeat' apply And.intro) <;> try (first | exact True.intro | omega)
    refine hK _ ?_
    clear hK K
    refine awp_condT rfl ?_
    refine awp_keep [1] ?_
    simp only [keep_eqs, K_ops, Nat.reduceEqDiff, if_true, if_false]
    refine awp_seq_k fun K hK => awp_region [] ?_
    simp only [K_eqs, Nat.reduceLT, K_ops, if_true, K_call, Nat.reduceAdd, List.contains_nil, Bool.false_eq_true, List.map_cons, Nat.reduceEqDiff, if_false, cav, List.map_nil, aviews, aview, noref, and_true, Bool.or_false, true_and]
    refine andC_eq (by simp [norefs_Bs, norefs, noref]) (refturn_ok x 2 hx) (by simp [noref, norefs, norefs_Bs, flat]) ?_
    simp only [RestC_eqs, K_eqs, Nat.reduceLT, K_ops, Nat.reduceEqDiff, if_true, if_false, K_call, Nat.reduceAdd, List.contains_nil, Bool.false_eq_true, List.map_cons, cav, List.map_nil, aviews, aview, noref, and_true, Bool.or_false, true_and]
    refine andC_eq (by simp [norefs_Bs, norefs, noref]) (refturn_ok x 13 hx) (by simp [noref, norefs, norefs_Bs, flat]) ?_
    simp only [RestC_eqs, K_eqs, Nat.reduceLT, K_ops, Nat.reduceEqDiff, if_true, if_false, K_call, Nat.reduceAdd, List.contains_nil, Bool.false_eq_true, List.map_cons, cav, List.map_nil, aviews, aview, noref, and_true, Bool.or_false, true_and]
    refine andC_eq (by simp [norefs_Bs, norefs, noref]) (refturn_ok x 22 hx) (by simp [noref, norefs, norefs_Bs, flat]) ?_
    simp only [RestC_eqs, K_call, Nat.reduceLT, Nat.reduceAdd, List.contains_nil, Bool.false_eq_true, K_ops, List.map_cons, Nat.reduceEqDiff, if_false, if_true, List.map_nil, aviews, aview, noref, and_true, Bool.or_false, true_and]
    refine andC_eq (by simp [norefs_Bs, norefs, noref]) (sum_ok (turn x 2) (turn x 13) (turn x 22) (turn_lt hx _) (turn_lt hx _) (turn_lt hx _)) (by simp [noref, norefs, norefs_Bs, flat]) ?_
    simp only [RestC_eqs, K_eqs, Nat.reduceLT, K_ops, Nat.reduceEqDiff, if_false, if_true, K_nil, Then, true_and]
    refine hK _ ?_
    refine awp_keep [4] ?_
    simp only [keep_eqs, K_ops, Nat.reduceEqDiff, if_true, if_false]
    refine awp_ret ?_
    simp only [Then, K_fin, ares, aress, ares1, afin, K_ops, if_true, noref, and_true, true_and]
    rw [great0]
  have hb0 : (i == 0) = false := by simpa using h0
  refine awp_seq_k fun K hK => awp_region [] ?_
  simp only [K_eqs, Nat.reduceLT, K_ops, reduceCtorEq, if_false, if_true, Nat.reduceEqDiff, cav, K_int, aint, hb0, K_nil, Then, true_and]
  (repeat' apply And.intro) <;> try (first | exact True.intro | omega)
  refine hK _ ?_
  clear hK K
  refine awp_condF rfl (awp_skip (hK1 _ ?_))
  clear hK1 K1
  refine awp_keep [0, 1] ?_
  simp only [keep_eqs, K_ops, Nat.reduceEqDiff, if_true, if_false]
  refine awp_seq_k fun K1 hK1 => ?_
  by_cases h1 : i = 1
  · subst h1
    refine awp_seq_k fun K hK => awp_region [] ?_
    simp only [K_eqs, Nat.reduceLT, K_ops, reduceCtorEq, if_false, if_true, Nat.reduceEqDiff, cav, K_int, aint, beq_self_eq_true, K_nil, Then, true_and]
    (repeat' apply And.intro) <;> try (first | exact True.intro | omega)
    refine hK _ ?_
    clear hK K
    refine awp_condT rfl ?_
    refine awp_keep [1] ?_
    simp only [keep_eqs, K_ops, Nat.reduceEqDiff, if_true, if_false]
    refine awp_seq_k fun K hK => awp_region [] ?_
    simp only [K_eqs, Nat.reduceLT, K_ops, if_true, K_call, Nat.reduceAdd, List.contains_nil, Bool.false_eq_true, List.map_cons, Nat.reduceEqDiff, if_false, cav, List.map_nil, aviews, aview, noref, and_true, Bool.or_false, true_and]
    refine andC_eq (by simp [norefs_Bs, norefs, noref]) (refturn_ok x 6 hx) (by simp [noref, norefs, norefs_Bs, flat]) ?_
    simp only [RestC_eqs, K_eqs, Nat.reduceLT, K_ops, Nat.reduceEqDiff, if_true, if_false, K_call, Nat.reduceAdd, List.contains_nil, Bool.false_eq_true, List.map_cons, cav, List.map_nil, aviews, aview, noref, and_true, Bool.or_false, true_and]
    refine andC_eq (by simp [norefs_Bs, norefs, noref]) (refturn_ok x 11 hx) (by simp [noref, norefs, norefs_Bs, flat]) ?_
    simp only [RestC_eqs, K_eqs, Nat.reduceLT, K_ops, Nat.reduceEqDiff, if_true, if_false, K_call, Nat.reduceAdd, List.contains_nil, Bool.false_eq_true, List.map_cons, cav, List.map_nil, aviews, aview, noref, and_true, Bool.or_false, true_and]
    refine andC_eq (by simp [norefs_Bs, norefs, noref]) (refturn_ok x 25 hx) (by simp [noref, norefs, norefs_Bs, flat]) ?_
    simp only [RestC_eqs, K_call, Nat.reduceLT, Nat.reduceAdd, List.contains_nil, Bool.false_eq_true, K_ops, List.map_cons, Nat.reduceEqDiff, if_false, if_true, List.map_nil, aviews, aview, noref, and_true, Bool.or_false, true_and]
    refine andC_eq (by simp [norefs_Bs, norefs, noref]) (sum_ok (turn x 6) (turn x 11) (turn x 25) (turn_lt hx _) (turn_lt hx _) (turn_lt hx _)) (by simp [noref, norefs, norefs_Bs, flat]) ?_
    simp only [RestC_eqs, K_eqs, Nat.reduceLT, K_ops, Nat.reduceEqDiff, if_false, if_true, K_nil, Then, true_and]
    refine hK _ ?_
    refine awp_keep [4] ?_
    simp only [keep_eqs, K_ops, Nat.reduceEqDiff, if_true, if_false]
    refine awp_ret ?_
    simp only [Then, K_fin, ares, aress, ares1, afin, K_ops, if_true, noref, and_true, true_and]
    rw [great1]
  have hb1 : (i == 1) = false := by simpa using h1
  refine awp_seq_k fun K hK => awp_region [] ?_
  simp only [K_eqs, Nat.reduceLT, K_ops, reduceCtorEq, if_false, if_true, Nat.reduceEqDiff, cav, K_int, aint, hb1, K_nil, Then, true_and]
  (repeat' apply And.intro) <;> try (first | exact True.intro | omega)
  refine hK _ ?_
  clear hK K
  refine awp_condF rfl (awp_skip (hK1 _ ?_))
  clear hK1 K1
  refine awp_seq_k fun K hK => awp_region [] ?_
  simp only [K_eqs, Nat.reduceLT, K_ops, cav, K_nil, Then, true_and]
  (repeat' apply And.intro) <;> try (first | exact True.intro | omega)
  refine hK _ ?_
  clear hK K
  refine awp_keep [4] ?_
  simp only [keep_eqs, K_ops, Nat.reduceEqDiff, if_true, if_false]
  refine awp_ret ?_
  simp only [K_fin, ares, aress, ares1, afin, K_ops, if_true, noref, and_true, true_and]
  rw [great2 x h0 h1]
  rfl

theorem choose_ok (x y z : Nat) (hx : x < 4294967296) (hy : y < 4294967296) (hz : z < 4294967296) : ACalls Tryd.prog [] 25 [.val (.int .u32 (x : Int)), .val (.int .u32 (y : Int)), .val (.int .u32 (z : Int))] [] (fun r os => os = [] ∧ r = .val (.int .u32 (V.choose x y z : Int))) := by
  have hn : bits BinOp.xor IntKind.u32 (if IntKind.u32.signed then -1 else IntKind.u32.max) (x : Int) = ((4294967295 ^^^ x : Nat) : Int) := by
    have h := n_xor32 4294967295 x
    rw [Nat.mod_eq_of_lt (lt32_of_bits fun j hj => by simp [Nat.testBit_xor, ones_bit, bit_high hx hj, show ¬ j < 32 by omega])] at h
    exact h
  have m1 : (x &&& y) % 4294967296 = x &&& y := Nat.mod_eq_of_lt (lt32_of_bits fun j hj => by simp [Nat.testBit_and, bit_high hx hj])
  have m2 : ((4294967295 ^^^ x) &&& z) % 4294967296 = (4294967295 ^^^ x) &&& z := Nat.mod_eq_of_lt (lt32_of_bits fun j hj => by simp [Nat.testBit_and, bit_high hz hj])
  have m3 : ((x &&& y) ^^^ ((4294967295 ^^^ x) &&& z)) % 4294967296 = V.choose x y z := Nat.mod_eq_of_lt (choose_lt hx hy hz)
  generalize 4294967295 ^^^ x = nx at hn m2 m3
  refine acalls_of_awp Tryd.func25 rfl rfl Tryd.ntmps25 (rts := #[23]) rfl Tryd.results25 (by simp) ?_
  simp only [argSlots, Nat.reduceAdd]
  refine awp_seq_k fun K hK => awp_region [] ?_
  simp only [K_eqs, Nat.reduceLT, K_ops, cav, K_nil, Then, true_and]
  (repeat' apply And.intro) <;> try (first | exact True.intro | omega)
  refine hK _ ?_
  clear hK K
  refine awp_seq_k fun K hK => awp_region [] ?_
  simp only [K_eqs, Nat.reduceLT, K_ops, reduceCtorEq, if_false, if_true, Nat.reduceEqDiff, K_int, aint, n_and32, m1, aun, hn, K_nil, Then, true_and, m2, n_xor32, m3]
  (repeat' apply And.intro) <;> try (first | exact True.intro | omega)
  refine hK _ ?_
  clear hK K
  refine awp_ret ?_
  simp only [K_fin, ares, aress, ares1, afin, K_ops, Nat.reduceEqDiff, reduceCtorEq, if_false, if_true, noref, and_true, true_and]

theorem most_ok (x y z : Nat) (hx : x < 4294967296) (hy : y < 4294967296) (hz : z < 4294967296) : ACalls Tryd.prog [] 27 [.val (.int .u32 (x : Int)), .val (.int .u32 (y : Int)), .val (.int .u32 (z : Int))] [] (fun r os => os = [] ∧ r = .val (.int .u32 (most x y z : Int))) := by
  have m1 : (x &&& y) % 4294967296 = x &&& y := Nat.mod_eq_of_lt (lt32_of_bits fun j hj => by simp [Nat.testBit_and, bit_high hx hj])
  have m2 : (x &&& z) % 4294967296 = x &&& z := Nat.mod_eq_of_lt (lt32_of_bits fun j hj => by simp [Nat.testBit_and, bit_high hz hj])
  have m4 : (y &&& z) % 4294967296 = y &&& z := Nat.mod_eq_of_lt (lt32_of_bits fun j hj => by simp [Nat.testBit_and, bit_high hz hj])
  have m5 : ((x &&& y) ^^^ (x &&& z)) % 4294967296 = (x &&& y) ^^^ (x &&& z) := Nat.mod_eq_of_lt (lt32_of_bits fun j hj => by simp [Nat.testBit_and, Nat.testBit_xor, bit_high hx hj])
  have m3 : (((x &&& y) ^^^ (x &&& z)) ^^^ (y &&& z)) % 4294967296 = most x y z := Nat.mod_eq_of_lt (most_lt hx hy hz)
  refine acalls_of_awp Tryd.func27 rfl rfl Tryd.ntmps27 (rts := #[23]) rfl Tryd.results27 (by simp) ?_
  simp only [argSlots, Nat.reduceAdd]
  refine awp_seq_k fun K hK => awp_region [] ?_
  simp only [K_eqs, Nat.reduceLT, K_ops, cav, K_nil, Then, true_and]
  (repeat' apply And.intro) <;> try (first | exact True.intro | omega)
  refine hK _ ?_
  clear hK K
  refine awp_seq_k fun K hK => awp_region [] ?_
  simp only [K_eqs, Nat.reduceLT, K_ops, reduceCtorEq, if_false, if_true, Nat.reduceEqDiff, K_int, aint, n_and32, m1, m2, n_xor32, m5, m4, m3, K_nil, Then, true_and]
  (repeat' apply And.intro) <;> try (first | exact True.intro | omega)
  refine hK _ ?_
  clear hK K
  refine awp_ret ?_
  simp only [K_fin, ares, aress, ares1, afin, K_ops, Nat.reduceEqDiff, reduceCtorEq, if_false, if_true, noref, and_true, true_and]

theorem refchoose_ok (x y z : Nat) (hx : x < 4294967296) (hy : y < 4294967296) (hz : z < 4294967296) : ACalls Tryd.prog [] 26 [.val (.int .u32 (x : Int)), .val (.int .u32 (y : Int)), .val (.int .u32 (z : Int))] [] (fun r os => os = [] ∧ r = .val (.int .u32 (V.choose x y z : Int))) := by
  generalize hf : (fun j : Nat => (V.choose x y z).testBit j) = f
  have hres : bsum f 32 = V.choose x y z := bsum_eq (choose_lt hx hy hz) fun i hi => by rw [← hf]
  refine acalls_of_awp Tryd.func26 rfl rfl Tryd.ntmps26 (rts := #[23]) rfl Tryd.results26 (by simp) ?_
  simp only [argSlots, Nat.reduceAdd]
  refine awp_seq_k fun K hK => awp_region [] ?_
  simp only [K_eqs, Nat.reduceLT, K_ops, cav, K_nil, Then, true_and]
  (repeat' apply And.intro) <;> try (first | exact True.intro | omega)
  refine hK _ ?_
  clear hK K
  refine awp_seq_k fun K hK => awp_region [] ?_
  simp only [K_eqs, Nat.reduceLT, K_ops, cav, K_nil, Then, true_and]
  (repeat' apply And.intro) <;> try (first | exact True.intro | omega)
  refine hK _ ?_
  clear hK K
  refine awp_seq_k fun K1 hK1 => ?_
  refine awp_seq_k fun K hK => awp_region [] ?_
  simp only [K_eqs, Nat.reduceLT, K_ops, cav, K_nil, Then, true_and]
  (repeat' apply And.intro) <;> try (first | exact True.intro | omega)
  refine hK _ ?_
  clear hK K
  refine awp_keep [0, 1, 2, 7, 8] ?_
  simp only [keep_eqs, K_ops, Nat.reduceEqDiff, if_true, if_false]
  refine awp_block ?_
  refine awp_loop_from (fun i : Nat => ⟨31, [(0, .val (.int .u32 (x : Int))), (1, .val (.int .u32 (y : Int))), (2, .val (.int .u32 (z : Int))), (7, .val (.int .u32 (bsum f i : Int))), (8, .val (.int .i64 (i : Int)))], []⟩)
    (fun i => i ≤ 32) (fun i => 32 - i) 0 (by omega) (.of_keep [0, 1, 2, 7, 8] rfl) ?_
  intro i hi
  refine awp_seq_k fun K2 hK2 => ?_
  refine awp_seq_k fun K hK => awp_region [] ?_
  simp only [K_eqs, Nat.reduceLT, K_ops, reduceCtorEq, Nat.reduceEqDiff, if_true, if_false, cav, K_int, aint, d_lt, K_nil, Then, true_and]
  (repeat' apply And.intro) <;> try (first | exact True.intro | omega)
  refine hK _ ?_
  clear hK K
  refine awp_cond rfl rfl (fun h => ?_) (fun h => ?_)
  · have hlt : i < 32 := of_decide_eq_true h
    refine awp_skip (hK2 _ ?_)
    clear hK2 K2
    refine awp_keep [0, 1, 2, 7, 8] ?_
    simp only [keep_eqs, K_ops, Nat.reduceEqDiff, if_true, if_false]
    refine awp_seq ?_
    refine awp_block ?_
    have hfi : f i = (if x.testBit i then y.testBit i else z.testBit i) := by
      rw [← hf]
      show (V.choose x y z).testBit i = _
      rw [choose_bit _ _ _ _ hlt]
    obtain ⟨s1, s2⟩ := bsum_step f i hlt
    have e1 : (if i ≤ 32 then i else 32) = i := if_pos (by omega)
    have e2 : i % 18446744073709551616 = i := Nat.mod_eq_of_lt (by omega)
    refine awp_seq_k fun K hK => awp_region [] ?_
    simp only [K_eqs, Nat.reduceLT, K_ops, reduceCtorEq, Nat.reduceEqDiff, if_false, if_true, K_call, Nat.reduceAdd, List.contains_nil, Bool.false_eq_true, List.map_cons, List.map_nil, aviews, aview, noref, and_true, Bool.or_false, true_and]
    refine andC_eq (by simp [norefs_Bs, norefs, noref]) (bit_ok z i hlt) (by simp [noref, norefs, norefs_Bs, flat]) ?_
    simp only [RestC_eqs, K_eqs, Nat.reduceLT, K_ops, Nat.reduceEqDiff, reduceCtorEq, if_false, if_true, K_nil, Then, true_and]
    refine hK _ ?_
    clear hK K
    refine awp_keep [0, 1, 2, 7, 8, 9] ?_
    simp only [keep_eqs, K_ops, Nat.reduceEqDiff, if_true, if_false]
    refine awp_seq_k fun K3 hK3 => ?_
    refine awp_seq_k fun K hK => awp_region [] ?_
    simp only [K_eqs, Nat.reduceLT, K_ops, reduceCtorEq, if_false, if_true, Nat.reduceEqDiff, K_call, Nat.reduceAdd, List.contains_nil, Bool.false_eq_true, List.map_cons, List.map_nil, aviews, aview, noref, and_true, Bool.or_false, true_and]
    refine andC_eq (by simp [norefs_Bs, norefs, noref]) (bit_ok x i hlt) (by simp [noref, norefs, norefs_Bs, flat]) ?_
    simp only [RestC_eqs, K_eqs, K_ops, Nat.reduceEqDiff, reduceCtorEq, if_false, if_true, cav, K_int, aint, Nat.reduceLT, K_nil, Then, true_and]
    refine hK _ ?_
    clear hK K
    cases hxi : x.testBit i
    · rw [hxi] at hfi
      simp only [Bool.false_eq_true, if_false] at hfi
      refine awp_condF rfl (awp_skip (hK3 _ ?_))
      clear hK3 K3
      refine awp_keep [0, 1, 2, 7, 8, 9] ?_
      simp only [keep_eqs, K_ops, Nat.reduceEqDiff, if_true, if_false]
      rw [← hfi]
      refine awp_region [] ?_
      simp only [K_eqs, Nat.reduceLT, K_ops, reduceCtorEq, Nat.reduceEqDiff, if_false, if_true, K_conv, Tryd.underlying60, List.contains_nil, Bool.false_eq_true, aconvO, aview, noref, aconv, Tryd.underlying3, Option.isSome_some, n_u64, e2, and_true, K_int, aint, Int.toNat_natCast, IntKind.bits, Nat.min_def, e1, n_shl, n_u32, s1, n_addn, s2, K_nil, true_and]
      refine ⟨by omega, ?_⟩
      simp only [InBlock, Then]
      refine awp_keep [0, 1, 2, 7, 8] ?_
      simp only [keep_eqs, K_ops, Nat.reduceEqDiff, if_true, if_false]
      have h6 : IntKind.i64.wrap ((i + 1 : Nat) : Int) = ((i + 1 : Nat) : Int) := n_i64 (by omega)
      refine awp_region [] ?_
      simp only [K_eqs, Nat.reduceLT, K_ops, reduceCtorEq, Nat.reduceEqDiff, if_true, if_false, cav, K_int, aint, n_add, h6, K_nil, Then, true_and]
      refine ⟨i + 1, by omega, by omega, .of_keep [0, 1, 2, 7, 8] rfl⟩
    · rw [hxi] at hfi
      simp only [if_true] at hfi
      refine awp_condT rfl ?_
      refine awp_keep [0, 1, 2, 7, 8] ?_
      simp only [keep_eqs, K_ops, Nat.reduceEqDiff, if_true, if_false]
      refine awp_region [] ?_
      simp only [K_eqs, Nat.reduceLT, K_ops, reduceCtorEq, Nat.reduceEqDiff, if_false, if_true, K_call, Nat.reduceAdd, List.contains_nil, Bool.false_eq_true, List.map_cons, List.map_nil, aviews, aview, noref, and_true, Bool.or_false, true_and]
      refine andC_eq (by simp [norefs_Bs, norefs, noref]) (bit_ok y i hlt) (by simp [noref, norefs, norefs_Bs, flat]) ?_
      simp only [RestC_eqs, K_eqs, Nat.reduceLT, K_ops, Nat.reduceEqDiff, reduceCtorEq, if_false, if_true, K_nil, Then, true_and]
      refine hK3 _ ?_
      clear hK3 K3
      refine awp_keep [0, 1, 2, 7, 8, 9] ?_
      simp only [keep_eqs, K_ops, Nat.reduceEqDiff, if_true, if_false]
      rw [← hfi]
      refine awp_region [] ?_
      simp only [K_eqs, Nat.reduceLT, K_ops, reduceCtorEq, Nat.reduceEqDiff, if_false, if_true, K_conv, Tryd.underlying60, List.contains_nil, Bool.false_eq_true, aconvO, aview, noref, aconv, Tryd.underlying3, Option.isSome_some, n_u64, e2, and_true, K_int, aint, Int.toNat_natCast, IntKind.bits, Nat.min_def, e1, n_shl, n_u32, s1, n_addn, s2, K_nil, true_and]
      refine ⟨by omega, ?_⟩
      simp only [InBlock, Then]
      refine awp_keep [0, 1, 2, 7, 8] ?_
      simp only [keep_eqs, K_ops, Nat.reduceEqDiff, if_true, if_false]
      have h6 : IntKind.i64.wrap ((i + 1 : Nat) : Int) = ((i + 1 : Nat) : Int) := n_i64 (by omega)
      refine awp_region [] ?_
      simp only [K_eqs, Nat.reduceLT, K_ops, reduceCtorEq, Nat.reduceEqDiff, if_true, if_false, cav, K_int, aint, n_add, h6, K_nil, Then, true_and]
      refine ⟨i + 1, by omega, by omega, .of_keep [0, 1, 2, 7, 8] rfl⟩
  · have he : i = 32 := by have := of_decide_eq_false h; omega
    subst he
    refine awp_exit ?_
    simp only [Then, InBlock, if_true]
    refine hK1 _ ?_
    clear hK1 K1 hK2 K2
    refine awp_keep [7] ?_
    simp only [keep_eqs, K_ops, Nat.reduceEqDiff, if_true, if_false]
    refine awp_seq_k fun K hK => awp_region [] ?_
    simp only [K_eqs, Nat.reduceLT, K_ops, if_true, Nat.reduceEqDiff, if_false, K_nil, Then, true_and]
    (repeat' apply And.intro) <;> try (first | exact True.intro | omega)
    refine hK _ ?_
    clear hK K
    refine awp_ret ?_
    simp only [K_fin, ares, aress, ares1, afin, K_ops, Nat.reduceEqDiff, if_false, if_true, noref, and_true, true_and]
    rw [hres]

theorem refmost_ok (x y z : Nat) (hx : x < 4294967296) (hy : y < 4294967296) (hz : z < 4294967296) : ACalls Tryd.prog [] 28 [.val (.int .u32 (x : Int)), .val (.int .u32 (y : Int)), .val (.int .u32 (z : Int))] [] (fun r os => os = [] ∧ r = .val (.int .u32 (most x y z : Int))) := by
  generalize hf : (fun j : Nat => (most x y z).testBit j) = f
  have hres : bsum f 32 = most x y z := bsum_eq (most_lt hx hy hz) fun i hi => by rw [← hf]
  refine acalls_of_awp Tryd.func28 rfl rfl Tryd.ntmps28 (rts := #[23]) rfl Tryd.results28 (by simp) ?_
  simp only [argSlots, Nat.reduceAdd]
  refine awp_seq_k fun K hK => awp_region [] ?_
  simp only [K_eqs, Nat.reduceLT, K_ops, cav, K_nil, Then, true_and]
  (repeat' apply And.intro) <;> try (first | exact True.intro | omega)
  refine hK _ ?_
  clear hK K
  refine awp_seq_k fun K hK => awp_region [] ?_
  simp only [K_eqs, Nat.reduceLT, K_ops, cav, K_nil, Then, true_and]
  (repeat' apply And.intro) <;> try (first | exact True.intro | omega)
  refine hK _ ?_
  clear hK K
  refine awp_seq_k fun K1 hK1 => ?_
  refine awp_seq_k fun K hK => awp_region [] ?_
  simp only [K_eqs, Nat.reduceLT, K_ops, cav, K_nil, Then, true_and]
  (repeat' apply And.intro) <;> try (first | exact True.intro | omega)
  refine hK _ ?_
  clear hK K
  refine awp_keep [0, 1, 2, 7, 8] ?_
  simp only [keep_eqs, K_ops, Nat.reduceEqDiff, if_true, if_false]
  refine awp_block ?_
  refine awp_loop_from (fun i : Nat => ⟨31, [(0, .val (.int .u32 (x : Int))), (1, .val (.int .u32 (y : Int))), (2, .val (.int .u32 (z : Int))), (7, .val (.int .u32 (bsum f i : Int))), (8, .val (.int .i64 (i : Int)))], []⟩)
    (fun i => i ≤ 32) (fun i => 32 - i) 0 (by omega) (.of_keep [0, 1, 2, 7, 8] rfl) ?_
  intro i hi
  refine awp_seq_k fun K2 hK2 => ?_
  refine awp_seq_k fun K hK => awp_region [] ?_
  simp only [K_eqs, Nat.reduceLT, K_ops, reduceCtorEq, Nat.reduceEqDiff, if_true, if_false, cav, K_int, aint, d_lt, K_nil, Then, true_and]
  (repeat' apply And.intro) <;> try (first | exact True.intro | omega)
  refine hK _ ?_
  clear hK K
  refine awp_cond rfl rfl (fun h => ?_) (fun h => ?_)
  · have hlt : i < 32 := of_decide_eq_true h
    refine awp_skip (hK2 _ ?_)
    clear hK2 K2
    refine awp_keep [0, 1, 2, 7, 8] ?_
    simp only [keep_eqs, K_ops, Nat.reduceEqDiff, if_true, if_false]
    refine awp_seq ?_
    refine awp_block ?_
    have hfi : f i = decide (2 ≤ ((x.testBit i).toNat + (y.testBit i).toNat) % 4294967296 + (z.testBit i).toNat) := by
      rw [← hf]
      show (most x y z).testBit i = _
      rw [most_bit]
      cases x.testBit i <;> cases y.testBit i <;> cases z.testBit i <;> rfl
    have hmm : (((x.testBit i).toNat + (y.testBit i).toNat) % 4294967296 + (z.testBit i).toNat) % 4294967296 = ((x.testBit i).toNat + (y.testBit i).toNat) % 4294967296 + (z.testBit i).toNat := by
      cases x.testBit i <;> cases y.testBit i <;> cases z.testBit i <;> rfl
    obtain ⟨s1, s2⟩ := bsum_step f i hlt
    have e1 : (if i ≤ 32 then i else 32) = i := if_pos (by omega)
    have e2 : i % 18446744073709551616 = i := Nat.mod_eq_of_lt (by omega)
    refine awp_seq_k fun K hK => awp_region [] ?_
    simp only [K_eqs, Nat.reduceLT, K_ops, reduceCtorEq, if_false, if_true, Nat.reduceEqDiff, K_call, Nat.reduceAdd, List.contains_nil, Bool.false_eq_true, List.map_cons, List.map_nil, aviews, aview, noref, and_true, Bool.or_false, true_and]
    refine andC_eq (by simp [norefs_Bs, norefs, noref]) (bit_ok x i hlt) (by simp [noref, norefs, norefs_Bs, flat]) ?_
    simp only [RestC_eqs, K_eqs, Nat.reduceLT, K_ops, Nat.reduceEqDiff, reduceCtorEq, if_false, if_true, K_call, Nat.reduceAdd, List.contains_nil, Bool.false_eq_true, List.map_cons, List.map_nil, aviews, aview, noref, and_true, Bool.or_false, true_and]
    refine andC_eq (by simp [norefs_Bs, norefs, noref]) (bit_ok y i hlt) (by simp [noref, norefs, norefs_Bs, flat]) ?_
    simp only [RestC_eqs, K_eqs, K_ops, Nat.reduceEqDiff, reduceCtorEq, if_false, if_true, K_int, aint, Nat.reduceLT, K_call, Nat.reduceAdd, List.contains_nil, Bool.false_eq_true, List.map_cons, List.map_nil, aviews, aview, noref, and_true, Bool.or_false, true_and]
    refine andC_eq (by simp [norefs_Bs, norefs, noref]) (bit_ok z i hlt) (by simp [noref, norefs, norefs_Bs, flat]) ?_
    simp only [n_addn, n_u32, RestC_eqs, K_eqs, K_ops, Nat.reduceEqDiff, reduceCtorEq, if_false, if_true, K_int, aint, hmm, Nat.reduceLT, cav, d_ge, ← hfi, K_nil, Then, true_and]
    refine hK _ ?_
    clear hK K
    cases hfv : f i
    · have hb : bsum f i = bsum f (i + 1) := by simp [bsum, hfv]
      refine awp_condF rfl (awp_skip ?_)
      rw [hb]
      simp only [InBlock, Then]
      refine awp_keep [0, 1, 2, 7, 8] ?_
      simp only [keep_eqs, K_ops, Nat.reduceEqDiff, if_true, if_false]
      have h6 : IntKind.i64.wrap ((i + 1 : Nat) : Int) = ((i + 1 : Nat) : Int) := n_i64 (by omega)
      refine awp_region [] ?_
      simp only [K_eqs, Nat.reduceLT, K_ops, reduceCtorEq, Nat.reduceEqDiff, if_true, if_false, cav, K_int, aint, n_add, h6, K_nil, Then, true_and]
      refine ⟨i + 1, by omega, by omega, .of_keep [0, 1, 2, 7, 8] rfl⟩
    · rw [hfv] at s1 s2
      simp only [Bool.toNat_true] at s1 s2
      refine awp_condT rfl ?_
      refine awp_keep [0, 1, 2, 7, 8] ?_
      simp only [keep_eqs, K_ops, Nat.reduceEqDiff, if_true, if_false]
      refine awp_region [] ?_
      simp only [K_eqs, Nat.reduceLT, K_ops, reduceCtorEq, Nat.reduceEqDiff, if_false, if_true, K_conv, Tryd.underlying60, List.contains_nil, Bool.false_eq_true, aconvO, aview, noref, aconv, Tryd.underlying3, Option.isSome_some, n_u64, e2, and_true, cav, K_int, aint, Int.toNat_natCast, IntKind.bits, Nat.min_def, e1, n_rshl, n_u32, s1, n_addn, s2, K_nil, true_and]
      refine ⟨by omega, ?_⟩
      simp only [InBlock, Then]
      refine awp_keep [0, 1, 2, 7, 8] ?_
      simp only [keep_eqs, K_ops, Nat.reduceEqDiff, if_true, if_false]
      have h6 : IntKind.i64.wrap ((i + 1 : Nat) : Int) = ((i + 1 : Nat) : Int) := n_i64 (by omega)
      refine awp_region [] ?_
      simp only [K_eqs, Nat.reduceLT, K_ops, reduceCtorEq, Nat.reduceEqDiff, if_true, if_false, cav, K_int, aint, n_add, h6, K_nil, Then, true_and]
      refine ⟨i + 1, by omega, by omega, .of_keep [0, 1, 2, 7, 8] rfl⟩
  · have he : i = 32 := by have := of_decide_eq_false h; omega
    subst he
    refine awp_exit ?_
    simp only [Then, InBlock, if_true]
    refine hK1 _ ?_
    clear hK1 K1 hK2 K2
    refine awp_keep [7] ?_
    simp only [keep_eqs, K_ops, Nat.reduceEqDiff, if_true, if_false]
    refine awp_seq_k fun K hK => awp_region [] ?_
    simp only [K_eqs, Nat.reduceLT, K_ops, if_true, Nat.reduceEqDiff, if_false, K_nil, Then, true_and]
    (repeat' apply And.intro) <;> try (first | exact True.intro | omega)
    refine hK _ ?_
    clear hK K
    refine awp_ret ?_
    simp only [K_fin, ares, aress, ares1, afin, K_ops, Nat.reduceEqDiff, if_false, if_true, noref, and_true, true_and]
    rw [hres]
end Go.Proofs.YtjdlgbkpdfaloaaDoor
/- The walk of the document's eight words. -/
namespace Go.Proofs.YtjdlgbkpdfaloaaDoor
open Go Go.V
set_option linter.unusedSimpArgs false
set_option linter.unusedVariables false

def Kn (i : Nat) : Nat := roots3.getD i 0
def nats (l : List Nat) : List Int := l.map fun n : Nat => (n : Int)

theorem round2_calls (hh : List Nat) (hw : words8 hh) (W : Nat → Nat) (i : Nat) : ∃ a b c d e f g h g1 ch g0 mo t6 t11 t25 t2 t13 t22 : Nat, rounds hh Kn W i = [a, b, c, d, e, f, g, h] ∧
    ACalls Tryd.prog [] 51 [.val (.int .u32 (e : Int)), .val (.int .u64 6)] [] (fun r os => os = [] ∧ r = .val (.int .u32 (t6 : Int))) ∧
    ACalls Tryd.prog [] 51 [.val (.int .u32 (e : Int)), .val (.int .u64 11)] [] (fun r os => os = [] ∧ r = .val (.int .u32 (t11 : Int))) ∧
    ACalls Tryd.prog [] 51 [.val (.int .u32 (e : Int)), .val (.int .u64 25)] [] (fun r os => os = [] ∧ r = .val (.int .u32 (t25 : Int))) ∧
    ACalls Tryd.prog [] 51 [.val (.int .u32 (a : Int)), .val (.int .u64 2)] [] (fun r os => os = [] ∧ r = .val (.int .u32 (t2 : Int))) ∧
    ACalls Tryd.prog [] 51 [.val (.int .u32 (a : Int)), .val (.int .u64 13)] [] (fun r os => os = [] ∧ r = .val (.int .u32 (t13 : Int))) ∧
    ACalls Tryd.prog [] 51 [.val (.int .u32 (a : Int)), .val (.int .u64 22)] [] (fun r os => os = [] ∧ r = .val (.int .u32 (t22 : Int))) ∧
    ((t6 ^^^ t11) % 4294967296 ^^^ t25) % 4294967296 = g1 ∧ ((t2 ^^^ t13) % 4294967296 ^^^ t22) % 4294967296 = g0 ∧
    ((e &&& f) % 4294967296 ||| ((e ^^^ 4294967295) % 4294967296 &&& g) % 4294967296) % 4294967296 = ch ∧
    (((a &&& b) % 4294967296 ||| (a &&& c) % 4294967296) % 4294967296 ||| (b &&& c) % 4294967296) % 4294967296 = mo ∧
    rounds hh Kn W (i + 1) = [(((((h + g1) % 4294967296 + ch) % 4294967296 + Kn i) % 4294967296 + W i) % 4294967296 + (g0 + mo) % 4294967296) % 4294967296, a, b, c, (d + ((((h + g1) % 4294967296 + ch) % 4294967296 + Kn i) % 4294967296 + W i) % 4294967296) % 4294967296, e, f, g] := by
  obtain ⟨a, b, c, d, e, f, g, h, hr, ⟨ha, hb, hc, hd, he, hf, hg, hh'⟩, hn⟩ := round_form hw Kn W i
  refine ⟨a, b, c, d, e, f, g, h, great 1 e, V.choose e f g, great 0 a, most a b c, turn e 6, turn e 11, turn e 25, turn a 2, turn a 13, turn a 22, hr, turn2_ok e 6 he (by omega) (by omega), turn2_ok e 11 he (by omega) (by omega), turn2_ok e 25 he (by omega) (by omega),
    turn2_ok a 2 ha (by omega) (by omega), turn2_ok a 13 ha (by omega) (by omega), turn2_ok a 22 ha (by omega) (by omega), ?_, ?_, choose_or he hf hg, most_or ha hb hc, hn⟩
  · rw [xor3_mod (turn_lt he _) (turn_lt he _) (turn_lt he _)]
    exact (great1 _).symm
  · rw [xor3_mod (turn_lt ha _) (turn_lt ha _) (turn_lt ha _)]
    exact (great0 _).symm

theorem K_at (i : Nat) (h : i < 64) : tabW.getD i 0 = ((Kn i : Nat) : Int) := tabW_get i h

theorem refcomp_ok (hh : List Nat) (b : List UInt8) (hw : words8 hh) (hb : b.length = 64) : ACalls Tryd.prog [] 33 [.sl 8 (Is .u32 (nats hh)) .no, .sl 64 (Bs b) .no] [] (fun r os => os = [] ∧ r = .sl 8 (Is .u32 (nats (adds (rounds hh Kn (word b) 64) hh))) .no) := by
  have cS := refsched_ok b hb
  have hround := round2_calls hh hw (word b)
  have h0 : rounds hh Kn (word b) 0 = hh := rfl
  have hlen := fun i => words8_length (rounds_words hw Kn (word b) i)
  have h8 := words8_length hw
  have hfin : nats (adds (rounds hh Kn (word b) 64) hh) = mix (fun p => (rounds hh Kn (word b) 64).getD p 0) (fun p => ((rounds hh Kn (word b) 64).getD p 0 + hh.getD p 0) % 4294967296) 8 := mix_eight (hlen 64) h8 _
  rw [hfin]
  generalize word b = W at *
  generalize rounds hh Kn W = R at *
  clear hfin
  have nl : (nats hh).length = 8 := by rw [← h8]; exact List.length_map _
  have nt : (nats hh).take 8 = nats hh := List.take_of_length_le (by omega)
  have al : (arr 64 W 64).length = 64 := arr_length _ _ _
  have rl : tabW.length = 64 := rfl
  refine acalls_of_awp Tryd.func33 rfl rfl Tryd.ntmps33 (rts := #[38]) rfl Tryd.results33 (by simp) ?_
  simp only [argSlots, Nat.reduceAdd]
  refine awp_seq_k fun K hK => awp_region [] ?_
  simp only [K_eqs, Nat.reduceLT, K_ops, cav, K_nil, Then, true_and]
  (repeat' apply And.intro) <;> try (first | exact True.intro | omega)
  refine hK _ ?_
  clear hK K
  refine awp_seq_k fun K hK => awp_region [] ?_
  simp only [K_eqs, Nat.reduceLT, K_ops, Nat.reduceEqDiff, reduceCtorEq, if_true, if_false, K_call, Nat.reduceAdd, List.contains_nil, Bool.false_eq_true, List.map_cons, List.map_nil, aviews, aview, norefs_Bs, ntok, and_true, Bool.or_false, true_and]
  refine andC_eq (by simp [norefs_Bs, norefs, noref, norefs_Is, flats_Is]) (cS) (by simp [noref, norefs, norefs_Bs, flat, norefs_Is, flats_Is]) ?_
  simp only [RestC_eqs, K_eqs, Nat.reduceLT, K_ops, Nat.reduceEqDiff, reduceCtorEq, if_false, if_true, K_nil, Then, true_and]
  refine hK _ ?_
  clear hK K
  refine awp_keep [0, 5] ?_
  simp only [keep_eqs, K_ops, Nat.reduceEqDiff, if_true, if_false]
  refine awp_seq_k fun K hK => awp_region [] ?_
  simp only [K_call, Nat.reduceLT, Nat.reduceAdd, List.contains_nil, Bool.false_eq_true, K_ops, List.map_nil, if_false, aviews, true_and]
  refine andC_eq (by simp [norefs_Bs, norefs, noref, norefs_Is, flats_Is]) (primes2_ok) (by simp [noref, norefs, norefs_Bs, flat, norefs_Is, flats_Is]) ?_
  simp only [RestC_eqs, K_eqs, Nat.reduceLT, K_ops, reduceCtorEq, Nat.reduceEqDiff, if_false, if_true, K_nil, Then, true_and]
  refine hK _ ?_
  clear hK K
  refine awp_keep [0, 5, 6] ?_
  simp only [keep_eqs, K_ops, Nat.reduceEqDiff, if_true, if_false]
  refine awp_seq_k fun K hK => awp_region [] ?_
  simp only [K_eqs, List.contains_nil, Bool.false_eq_true, abuildOwn, Tryd.underlying38, tszs, tzeros, Nat.mul_one, zrep_Is, List.replicate_zero, Is_nil, aparts, List.map_nil, afill, List.length_cons, List.length_nil, Nat.zero_add, Nat.reduceLeDiff, and_true, List.nil_append, abuildSlice, if_false, K_ops, Nat.reduceLT, reduceCtorEq, if_true, abuiltin, List.map_cons, Nat.reduceEqDiff, aappend, tbys, appSrc, srcCells, Is_length, nl, Nat.reduceMul, Is_one, K_nil, Then, true_and]
  refine hK _ ?_
  clear hK K
  refine awp_noperm 7 rfl ?_
  refine awp_keep [0, 5, 6, 7] ?_
  simp only [keep_eqs, K_ops, Nat.reduceEqDiff, if_true, if_false]
  refine awp_seq_k fun K1 hK1 => ?_
  refine awp_seq_k fun K hK => awp_region [] ?_
  simp only [K_eqs, Nat.reduceLT, K_ops, cav, K_nil, Then, true_and]
  (repeat' apply And.intro) <;> try (first | exact True.intro | omega)
  refine hK _ ?_
  clear hK K
  refine awp_keep [0, 5, 6, 7, 8] ?_
  simp only [keep_eqs, K_ops, Nat.reduceEqDiff, if_true, if_false]
  refine awp_block ?_
  refine awp_loop_from (fun i : Nat => if i = 64 then ⟨159, [(0, .sl 8 (Is .u32 (nats hh)) .no), (7, .osl 1 0 8 (some 8)), (8, .val (.int .i64 (i : Int)))], [.tok 1 8, .cells (Is .u32 (nats (R 64)))]⟩
      else ⟨159, [(0, .sl 8 (Is .u32 (nats hh)) .no), (5, .sl 64 (Is .u32 (arr 64 W 64)) .no), (6, .sl 64 (Is .u32 tabW) .full), (7, .sl 8 (Is .u32 (nats (R i))) .no), (8, .val (.int .i64 (i : Int)))], [.tok 1 8]⟩)
    (fun i => i ≤ 64) (fun i => 64 - i) 0 (by omega) (by rw [if_neg (by omega), h0]; exact .of_keep [0, 5, 6, 7, 8] rfl) ?_
  intro i hi
  rcases Nat.lt_or_ge i 64 with hlt | hge
  · rw [if_neg (by omega)]
    obtain ⟨a, b', c, d, e, f, g, h, g1, ch, g0, mo, t6, t11, t25, t2, t13, t22, hr, c6, c11, c25, c2, c13, c22, q1, q2, q3, q4, hnext⟩ := hround i
    have hnr : nats (R i) = [(a : Int), (b' : Int), (c : Int), (d : Int), (e : Int), (f : Int), (g : Int), (h : Int)] := by rw [hr]; rfl
    rw [hnr]
    have hd : decide ((i : Int) < 64) = true := decide_eq_true (by omega)
    refine awp_seq_k fun K2 hK2 => ?_
    refine awp_seq_k fun K hK => awp_region [] ?_
    simp only [K_eqs, Nat.reduceLT, K_ops, reduceCtorEq, Nat.reduceEqDiff, if_true, if_false, cav, K_int, aint, hd, K_nil, Then, true_and]
    (repeat' apply And.intro) <;> try (first | exact True.intro | omega)
    refine hK _ ?_
    clear hK K
    refine awp_condT rfl (awp_skip (hK2 _ ?_))
    clear hK2 K2
    refine awp_keep [0, 5, 6, 7, 8] ?_
    simp only [keep_eqs, K_ops, Nat.reduceEqDiff, if_true, if_false]
    refine awp_seq ?_
    refine awp_block ?_
    refine awp_seq_k fun K hK => ?_
    refine awp_draw [] (by kernel_rfl) (by kernel_rfl) ?_
    simp only [K_eqs, Nat.reduceLT, K_ops, reduceCtorEq, Nat.reduceEqDiff, if_false, if_true, aidxAddr, cav, Tryd.underlying38, tszs, Is_length, List.length_cons, List.length_nil, Nat.zero_add, Nat.reduceAdd, Nat.mul_one, Int.reduceLE, Int.cast_ofNat_Int, Int.reduceLT, and_true, Int.reduceToNat, Is_drop, List.drop_succ_cons, List.drop_zero, aload, List.contains_nil, Bool.false_eq_true, apart, isAggD, Tryd.underlying23, K_call, List.map_cons, List.map_nil, aviews, aview, ntok, List.headD_cons, noref, Bool.or_false, true_and, Is_getD, I, List.getD_cons_zero]
    refine andC_eq (by simp [norefs_Bs, norefs, noref, norefs_Is, flats_Is]) (c6) (by simp [noref, norefs, norefs_Bs, flat, norefs_Is, flats_Is]) ?_
    simp only [RestC_eqs, K_eqs, Nat.reduceLT, K_ops, Nat.reduceEqDiff, reduceCtorEq, if_false, if_true, aidxAddr, cav, Tryd.underlying38, tszs, Is_length, List.length_cons, List.length_nil, Nat.zero_add, Nat.reduceAdd, Nat.mul_one, Int.reduceLE, Int.cast_ofNat_Int, Int.reduceLT, and_true, Int.reduceToNat, Is_drop, List.drop_succ_cons, List.drop_zero, aload, List.contains_nil, Bool.false_eq_true, apart, isAggD, Tryd.underlying23, K_call, List.map_cons, List.map_nil, aviews, aview, ntok, List.headD_cons, noref, Bool.or_false, true_and, Is_getD, I, List.getD_cons_zero]
    refine andC_eq (by simp [norefs_Bs, norefs, noref, norefs_Is, flats_Is]) (c11) (by simp [noref, norefs, norefs_Bs, flat, norefs_Is, flats_Is]) ?_
    simp only [RestC_eqs, K_eqs, K_ops, Nat.reduceEqDiff, reduceCtorEq, if_false, if_true, K_int, aint, n_xor32, Nat.reduceLT, aidxAddr, cav, Tryd.underlying38, tszs, Is_length, List.length_cons, List.length_nil, Nat.zero_add, Nat.reduceAdd, Nat.mul_one, Int.reduceLE, Int.cast_ofNat_Int, Int.reduceLT, and_true, Int.reduceToNat, Is_drop, List.drop_succ_cons, List.drop_zero, aload, List.contains_nil, Bool.false_eq_true, apart, isAggD, Tryd.underlying23, K_call, List.map_cons, List.map_nil, aviews, aview, ntok, List.headD_cons, noref, Bool.or_false, true_and, Is_getD, I, List.getD_cons_zero]
    refine andC_eq (by simp [norefs_Bs, norefs, noref, norefs_Is, flats_Is]) (c25) (by simp [noref, norefs, norefs_Bs, flat, norefs_Is, flats_Is]) ?_
    simp only [RestC_eqs, K_eqs, K_ops, Nat.reduceEqDiff, reduceCtorEq, if_false, if_true, K_int, aint, n_xor32, q1, Nat.reduceLT, K_nil, Then, true_and]
    refine hK _ ?_
    clear hK K
    refine awp_keep [0, 5, 6, 7, 8, 9] ?_
    simp only [keep_eqs, K_ops, Nat.reduceEqDiff, if_true, if_false]
    refine awp_seq_k fun K hK => ?_
    refine awp_draw [] (by kernel_rfl) (by kernel_rfl) ?_
    simp only [K_eqs, Nat.reduceLT, K_ops, reduceCtorEq, Nat.reduceEqDiff, if_false, if_true, aidxAddr, cav, Tryd.underlying38, tszs, Is_length, List.length_cons, List.length_nil, Nat.zero_add, Nat.reduceAdd, Nat.mul_one, Int.reduceLE, Int.cast_ofNat_Int, Int.reduceLT, and_true, Int.reduceToNat, Is_drop, List.drop_succ_cons, List.drop_zero, aload, List.contains_nil, Bool.false_eq_true, apart, isAggD, Tryd.underlying23, K_nil, Then, true_and, Is_getD, I, List.getD_cons_zero, K_int, aint, n_xor32l, n_and32, n_or32, q3]
    refine hK _ ?_
    clear hK K
    refine awp_keep [0, 5, 6, 7, 8, 9, 10] ?_
    simp only [keep_eqs, K_ops, Nat.reduceEqDiff, if_true, if_false]
    have ka := K_at i hlt
    have wa := arr_getD (n := 64) W hlt hlt
    have q64 : 0 < 64 - i := by omega
    have l64 : i ≤ 64 := by omega
    generalize htt : (((((h + g1) % 4294967296 + ch) % 4294967296 + Kn i) % 4294967296 + W i) % 4294967296) = T at hnext
    refine awp_seq_k fun K hK => ?_
    refine awp_draw [] (by kernel_rfl) (by kernel_rfl) ?_
    simp only [K_eqs, Nat.reduceLT, K_ops, reduceCtorEq, Nat.reduceEqDiff, if_false, if_true, aidxAddr, cav, Tryd.underlying38, tszs, Is_length, List.length_cons, List.length_nil, Nat.zero_add, Nat.reduceAdd, Nat.mul_one, Int.reduceLE, Int.cast_ofNat_Int, Int.reduceLT, and_true, Int.reduceToNat, Is_drop, List.drop_succ_cons, List.drop_zero, aload, List.contains_nil, Bool.false_eq_true, apart, isAggD, Tryd.underlying23, rl, true_and, Int.toNat_natCast, al, K_nil, Then, List.length_drop, q64, Is_getD, I, drop_getD, Nat.add_zero, wa, ka, List.getD_cons_zero, K_int, aint, n_addn, n_u32, htt]
    refine ⟨by omega, by omega, hK _ ?_⟩
    clear hK K
    refine awp_keep [0, 5, 6, 7, 8, 11] ?_
    simp only [keep_eqs, K_ops, Nat.reduceEqDiff, if_true, if_false]
    refine awp_seq_k fun K hK => ?_
    refine awp_draw [] (by kernel_rfl) (by kernel_rfl) ?_
    simp only [K_eqs, Nat.reduceLT, K_ops, reduceCtorEq, Nat.reduceEqDiff, if_false, if_true, aidxAddr, cav, Tryd.underlying38, tszs, Is_length, List.length_cons, List.length_nil, Nat.zero_add, Nat.reduceAdd, Nat.mul_one, Int.le_refl, Int.cast_ofNat_Int, Int.reduceLT, and_true, Int.toNat_zero, List.drop_zero, aload, List.contains_nil, Bool.false_eq_true, apart, isAggD, Tryd.underlying23, K_call, List.map_cons, List.map_nil, aviews, aview, ntok, List.headD_cons, noref, Bool.or_false, true_and, Is_getD, I, List.getD_cons_zero]
    refine andC_eq (by simp [norefs_Bs, norefs, noref, norefs_Is, flats_Is]) (c2) (by simp [noref, norefs, norefs_Bs, flat, norefs_Is, flats_Is]) ?_
    simp only [RestC_eqs, K_eqs, Nat.reduceLT, K_ops, Nat.reduceEqDiff, reduceCtorEq, if_false, if_true, aidxAddr, cav, Tryd.underlying38, tszs, Is_length, List.length_cons, List.length_nil, Nat.zero_add, Nat.reduceAdd, Nat.mul_one, Int.le_refl, Int.cast_ofNat_Int, Int.reduceLT, and_true, Int.toNat_zero, List.drop_zero, aload, List.contains_nil, Bool.false_eq_true, apart, isAggD, Tryd.underlying23, K_call, List.map_cons, List.map_nil, aviews, aview, ntok, List.headD_cons, noref, Bool.or_false, true_and, Is_getD, I, List.getD_cons_zero]
    refine andC_eq (by simp [norefs_Bs, norefs, noref, norefs_Is, flats_Is]) (c13) (by simp [noref, norefs, norefs_Bs, flat, norefs_Is, flats_Is]) ?_
    simp only [RestC_eqs, K_eqs, K_ops, Nat.reduceEqDiff, reduceCtorEq, if_false, if_true, K_int, aint, n_xor32, Nat.reduceLT, aidxAddr, cav, Tryd.underlying38, tszs, Is_length, List.length_cons, List.length_nil, Nat.zero_add, Nat.reduceAdd, Nat.mul_one, Int.le_refl, Int.cast_ofNat_Int, Int.reduceLT, and_true, Int.toNat_zero, List.drop_zero, aload, List.contains_nil, Bool.false_eq_true, apart, isAggD, Tryd.underlying23, K_call, List.map_cons, List.map_nil, aviews, aview, ntok, List.headD_cons, noref, Bool.or_false, true_and, Is_getD, I, List.getD_cons_zero]
    refine andC_eq (by simp [norefs_Bs, norefs, noref, norefs_Is, flats_Is]) (c22) (by simp [noref, norefs, norefs_Bs, flat, norefs_Is, flats_Is]) ?_
    simp only [RestC_eqs, K_eqs, K_ops, Nat.reduceEqDiff, reduceCtorEq, if_false, if_true, K_int, aint, n_xor32, q2, Nat.reduceLT, K_nil, Then, true_and]
    refine hK _ ?_
    clear hK K
    refine awp_keep [0, 5, 6, 7, 8, 11, 12] ?_
    simp only [keep_eqs, K_ops, Nat.reduceEqDiff, if_true, if_false]
    refine awp_seq_k fun K hK => ?_
    refine awp_draw [] (by kernel_rfl) (by kernel_rfl) ?_
    simp only [K_eqs, Nat.reduceLT, K_ops, reduceCtorEq, Nat.reduceEqDiff, if_false, if_true, aidxAddr, cav, Tryd.underlying38, tszs, Is_length, List.length_cons, List.length_nil, Nat.zero_add, Nat.reduceAdd, Nat.mul_one, Int.le_refl, Int.cast_ofNat_Int, Int.reduceLT, and_true, Int.toNat_zero, List.drop_zero, aload, List.contains_nil, Bool.false_eq_true, apart, isAggD, Tryd.underlying23, Int.reduceLE, Int.reduceToNat, Is_drop, List.drop_succ_cons, K_nil, Then, true_and, Is_getD, I, List.getD_cons_zero, K_int, aint, n_and32, n_or32, q4]
    refine hK _ ?_
    clear hK K
    refine awp_keep [0, 5, 6, 7, 8, 11, 12, 13] ?_
    simp only [keep_eqs, K_ops, Nat.reduceEqDiff, if_true, if_false]
    refine awp_seq_k fun K hK => awp_region [] ?_
    simp only [K_eqs, Nat.reduceLT, K_ops, reduceCtorEq, Nat.reduceEqDiff, if_false, if_true, K_int, aint, n_addn, n_u32, K_nil, Then, true_and]
    (repeat' apply And.intro) <;> try (first | exact True.intro | omega)
    refine hK _ ?_
    clear hK K
    refine awp_keep [0, 5, 6, 7, 8, 11, 14] ?_
    simp only [keep_eqs, K_ops, Nat.reduceEqDiff, if_true, if_false]
    have hn1 : nats (R (i + 1)) = [(((T + (g0 + mo) % 4294967296) % 4294967296 : Nat) : Int), (a : Int), (b' : Int), (c : Int), ((d + T) % 4294967296 : Nat), (e : Int), (f : Int), (g : Int)] := by rw [hnext]; rfl
    have h6 : IntKind.i64.wrap ((i + 1 : Nat) : Int) = ((i + 1 : Nat) : Int) := n_i64 (by omega)
    by_cases hlast : i = 63
    · subst hlast
      refine awp_draw [139] (by kernel_rfl) (by kernel_rfl) ?_
      simp only [Int.cast_ofNat_Int, Nat.reduceSub, K_eqs, Nat.reduceLT, K_ops, reduceCtorEq, Nat.reduceEqDiff, if_false, if_true, K_int, aint, n_addn, n_u32, aidxAddr, cav, Tryd.underlying38, tszs, Is_length, List.length_cons, List.length_nil, Nat.zero_add, Nat.reduceAdd, Nat.mul_one, Int.le_refl, Int.reduceLT, and_true, Int.toNat_zero, List.drop_zero, aload, List.contains_cons, Nat.reduceBEq, List.contains_nil, Bool.or_false, Bool.false_eq_true, apart, isAggD, Tryd.underlying23, Int.reduceLE, Int.reduceToNat, Is_drop, List.drop_succ_cons, beq_self_eq_true, abuildOwn, tzeros, zrep_Is, List.replicate_succ, List.replicate_zero, aparts, List.map_cons, List.map_nil, afill, spl, List.take_zero, acells, List.nil_append, List.cons_append, List.take_succ_cons, Nat.reduceLeDiff, true_and, List.all_cons, oneC, Value.oneCell', List.all_nil, Bool.and_true, abuildSlice, K_nil, Is_getD, I, List.getD_cons_zero, Nat.le_refl, List.drop_nil, Is_nil, List.append_nil]
      simp only [InBlock, Then]
      refine awp_keep [0, 7, 8] ?_
      simp only [keep_eqs, K_ops, Nat.reduceEqDiff, if_true, if_false]
      refine awp_region [] ?_
      simp only [K_eqs, Nat.reduceLT, K_ops, reduceCtorEq, Nat.reduceEqDiff, if_true, if_false, cav, K_int, aint, K_nil, Then, true_and]
      refine ⟨64, by omega, by omega, ?_⟩
      rw [if_pos rfl, show nats (R 64) = _ from hn1]
      exact .of_keep [0, 7, 8] rfl
    · skip
      refine awp_draw [] (by kernel_rfl) (by kernel_rfl) ?_
      simp only [K_eqs, Nat.reduceLT, K_ops, reduceCtorEq, Nat.reduceEqDiff, if_false, if_true, K_int, aint, n_addn, n_u32, aidxAddr, cav, Tryd.underlying38, tszs, Is_length, List.length_cons, List.length_nil, Nat.zero_add, Nat.reduceAdd, Nat.mul_one, Int.le_refl, Int.cast_ofNat_Int, Int.reduceLT, and_true, Int.toNat_zero, List.drop_zero, aload, List.contains_nil, Bool.false_eq_true, apart, isAggD, Tryd.underlying23, Int.reduceLE, Int.reduceToNat, Is_drop, List.drop_succ_cons, abuildOwn, tzeros, zrep_Is, List.replicate_succ, List.replicate_zero, aparts, List.map_cons, List.map_nil, afill, spl, List.take_zero, acells, List.nil_append, List.cons_append, List.take_succ_cons, Nat.reduceLeDiff, true_and, List.all_cons, oneC, Value.oneCell', List.all_nil, Bool.and_true, abuildSlice, K_nil, Is_getD, I, List.getD_cons_zero, Nat.le_refl, List.drop_nil, Is_nil, List.append_nil]
      simp only [InBlock, Then]
      refine awp_noperm 7 rfl ?_
      refine awp_keep [0, 5, 6, 7, 8] ?_
      simp only [keep_eqs, K_ops, Nat.reduceEqDiff, if_true, if_false]
      refine awp_region [] ?_
      simp only [K_eqs, Nat.reduceLT, K_ops, reduceCtorEq, Nat.reduceEqDiff, if_true, if_false, cav, K_int, aint, n_add, h6, K_nil, Then, true_and]
      refine ⟨i + 1, by omega, by omega, ?_⟩
      rw [if_neg (by omega), hn1]
      exact .of_keep [0, 5, 6, 7, 8] rfl
  · have he : i = 64 := by omega
    subst he
    rw [if_pos rfl]
    refine awp_seq_k fun K2 hK2 => ?_
    refine awp_seq_k fun K hK => awp_region [] ?_
    simp only [Int.cast_ofNat_Int, Nat.reduceSub, K_eqs, Nat.reduceLT, K_ops, reduceCtorEq, Nat.reduceEqDiff, if_true, if_false, cav, K_int, aint, Int.reduceLT, K_nil, Then, true_and]
    (repeat' apply And.intro) <;> try (first | exact True.intro | omega)
    refine hK _ ?_
    clear hK K
    refine awp_condF rfl ?_
    refine awp_exit ?_
    simp only [Then, InBlock, if_true]
    refine hK1 _ ?_
    clear hK1 K1 hK2 K2
    refine awp_keep [0, 7] ?_
    simp only [keep_eqs, K_ops, Nat.reduceEqDiff, if_true, if_false]
    have hV0 := mix_zero (hlen 64) (fun p => ((R 64).getD p 0 + hh.getD p 0) % 4294967296)
    generalize hA : (fun p => ((R 64).getD p 0 + hh.getD p 0) % 4294967296) = A at hV0 ⊢
    have hAV : ∀ p, A p = ((fun p => (R 64).getD p 0) p + hh.getD p 0) % 4294967296 := fun p => by rw [← hA]
    generalize hV : (fun p => (R 64).getD p 0) = V at hV0 hAV ⊢
    rw [show nats (R 64) = mix V A 0 from hV0]
    have ml : ∀ j, (mix V A j).length = 8 := mix_length V A
    have hget : ∀ j, (nats hh).getD j 0 = ((hh.getD j 0 : Nat) : Int) := fun j => by
      simp only [nats, List.getD_eq_getElem?_getD, List.getElem?_map]
      cases hh[j]? <;> rfl
    refine awp_seq_k fun K1 hK1 => ?_
    refine awp_seq_k fun K hK => awp_region [] ?_
    simp only [K_eqs, Nat.reduceLT, K_ops, reduceCtorEq, if_true, if_false, abuiltin, List.map_cons, Nat.reduceEqDiff, List.map_nil, alen, Tryd.underlying38, Int.cast_ofNat_Int, cav, K_nil, Then, true_and]
    (repeat' apply And.intro) <;> try (first | exact True.intro | omega)
    refine hK _ ?_
    clear hK K
    refine awp_keep [0, 7, 141, 142] ?_
    simp only [keep_eqs, K_ops, Nat.reduceEqDiff, if_true, if_false]
    refine awp_block ?_
    refine awp_loop_from (fun j : Nat => ⟨159, [(0, .sl 8 (Is .u32 (nats hh)) .no), (7, .osl 1 0 8 (some 8)), (141, .val (.int .i64 8)), (142, .val (.int .i64 (j : Int)))], [.tok 1 8, .cells (Is .u32 (mix V A j))]⟩)
      (fun j => j ≤ 8) (fun j => 8 - j) 0 (by omega) (.of_keep [0, 7, 141, 142] rfl) ?_
    intro j hj
    refine awp_seq_k fun K hK => awp_region [] ?_
    simp only [K_eqs, K_ops, reduceCtorEq, Nat.reduceEqDiff, if_true, if_false, K_int, aint, d_lt, Nat.reduceLT, K_nil, Then, true_and]
    (repeat' apply And.intro) <;> try (first | exact True.intro | omega)
    refine hK _ ?_
    clear hK K
    refine awp_seq ?_
    refine awp_cond rfl rfl (fun h => ?_) (fun h => ?_)
    · have hlt : j < 8 := by have := of_decide_eq_true h; omega
      refine awp_skip ?_
      simp only [Then]
      refine awp_keep [0, 7, 141, 142] ?_
      simp only [keep_eqs, K_ops, Nat.reduceEqDiff, if_true, if_false]
      refine awp_seq ?_
      refine awp_block ?_
      refine awp_seq_k fun K hK => awp_region [] ?_
      simp only [K_eqs, Nat.reduceLT, K_ops, reduceCtorEq, Nat.reduceEqDiff, if_true, if_false, K_nil, Then, true_and]
      (repeat' apply And.intro) <;> try (first | exact True.intro | omega)
      refine hK _ ?_
      clear hK K
      refine awp_keep [0, 7, 15, 141, 142] ?_
      simp only [keep_eqs, K_ops, Nat.reduceEqDiff, if_true, if_false]
      have gm := mix_getD V A (Nat.le_refl j) hlt
      have ga := hAV j
      have gh := hget j
      have q8 : 0 < 8 - j := by omega
      have l8 : j ≤ 8 := by omega
      generalize hh.getD j 0 = x at ga gh
      refine awp_draw [] (by kernel_rfl) (by kernel_rfl) ?_
      simp only [K_eqs, Nat.reduceLT, K_ops, reduceCtorEq, Nat.reduceEqDiff, if_false, if_true, aidxAddr, Tryd.underlying38, tszs, Int.cast_ofNat_Int, Int.toNat_natCast, Nat.mul_one, Nat.zero_add, aload, List.contains_nil, Bool.false_eq_true, apart, isAggD, Tryd.underlying23, Is_length, nl, and_true, true_and, Is_drop, K_store, astore, acells, spl, K_nil, List.getElem?_cons_succ, List.getElem?_cons_zero, ml, Is_take, List.set_cons_succ, List.set_cons_zero, List.length_drop, q8, Is_getD, I, drop_getD, Nat.add_zero, gh, hlt, gm, K_int, aint, n_addn, n_u32, ← ga, List.all_cons, oneC, Value.oneCell', List.all_nil, Bool.and_true, List.length_cons, List.length_nil, Nat.reduceLeDiff]
      refine ⟨by omega, by omega, by omega, by omega, ?_⟩
      rw [Is_set (by rw [ml]; omega), mix_set]
      simp only [InBlock, Then]
      refine awp_keep [0, 7, 141, 142] ?_
      simp only [keep_eqs, K_ops, Nat.reduceEqDiff, if_true, if_false]
      have h6 : IntKind.i64.wrap ((j + 1 : Nat) : Int) = ((j + 1 : Nat) : Int) := n_i64 (by omega)
      refine awp_region [] ?_
      simp only [K_eqs, K_ops, reduceCtorEq, Nat.reduceEqDiff, if_true, if_false, cav, K_int, aint, n_add, h6, Nat.reduceLT, K_nil, Then, true_and]
      exact ⟨j + 1, by omega, by omega, .of_keep [0, 7, 141, 142] rfl⟩
    · have he : j = 8 := by have := of_decide_eq_false h; omega
      subst he
      refine awp_exit ?_
      simp only [Then, InBlock, if_true]
      refine hK1 _ ?_
      clear hK1 K1
      refine awp_keep [7] ?_
      simp only [keep_eqs, K_ops, Nat.reduceEqDiff, if_true, if_false]
      refine awp_seq_k fun K hK => awp_region [] ?_
      simp only [K_eqs, Nat.reduceLT, K_ops, if_true, Nat.reduceEqDiff, if_false, K_nil, Then, true_and]
      (repeat' apply And.intro) <;> try (first | exact True.intro | omega)
      refine hK _ ?_
      clear hK K
      have mt : (mix V A 8).take 8 = mix V A 8 := List.take_of_length_le (by rw [ml]; omega)
      refine awp_ret ?_
      simp only [K_fin, ares, aress, ares1, afin, K_ops, Nat.reduceEqDiff, if_false, if_true, List.getElem?_cons_succ, List.getElem?_cons_zero, List.headD_cons, Tryd.underlying38, tszs, Nat.mul_one, Nat.zero_add, Is_length, ml, Nat.le_refl, List.drop_zero, Is_take, mt, norefs_Is, and_true, true_and]
end Go.Proofs.YtjdlgbkpdfaloaaDoor
/- The walk of the eight words. -/
namespace Go.Proofs.YtjdlgbkpdfaloaaDoor
open Go Go.V
set_option linter.unusedSimpArgs false
set_option linter.unusedVariables false

theorem round1_calls (hh : List Nat) (hw : words8 hh) (W : Nat → Nat) (i : Nat) : ∃ a b c d e f g h g1 ch g0 mo : Nat, rounds hh Kn W i = [a, b, c, d, e, f, g, h] ∧
    ACalls Tryd.prog GP 20 [.val (.int .i64 1), .val (.int .u32 (e : Int))] [] (fun r os => os = [] ∧ r = .val (.int .u32 (g1 : Int))) ∧
    ACalls Tryd.prog GP 25 [.val (.int .u32 (e : Int)), .val (.int .u32 (f : Int)), .val (.int .u32 (g : Int))] [] (fun r os => os = [] ∧ r = .val (.int .u32 (ch : Int))) ∧
    ACalls Tryd.prog GP 20 [.val (.int .i64 0), .val (.int .u32 (a : Int))] [] (fun r os => os = [] ∧ r = .val (.int .u32 (g0 : Int))) ∧
    ACalls Tryd.prog GP 27 [.val (.int .u32 (a : Int)), .val (.int .u32 (b : Int)), .val (.int .u32 (c : Int))] [] (fun r os => os = [] ∧ r = .val (.int .u32 (mo : Int))) ∧
    rounds hh Kn W (i + 1) = [(((((h + g1) % 4294967296 + ch) % 4294967296 + Kn i) % 4294967296 + W i) % 4294967296 + (g0 + mo) % 4294967296) % 4294967296, a, b, c, (d + ((((h + g1) % 4294967296 + ch) % 4294967296 + Kn i) % 4294967296 + W i) % 4294967296) % 4294967296, e, f, g] := by
  obtain ⟨a, b, c, d, e, f, g, h, hr, ⟨ha, hb, hc, hd, he, hf, hg, hh'⟩, hn⟩ := round_form hw Kn W i
  exact ⟨a, b, c, d, e, f, g, h, great 1 e, V.choose e f g, great 0 a, most a b c, hr, (great_ok 1 e he).g, (choose_ok e f g he hf hg).g, (great_ok 0 a ha).g, (most_ok a b c ha hb hc).g, hn⟩

theorem prime_at (i : Nat) (h : i < 64) : ACalls Tryd.prog GP 11 [.val (.int .i64 (i : Int))] [] (fun r os => os = [] ∧ r = .val (.int .u32 (Kn i : Int))) := by
  have hp := wprime_ok (i : Int)
  rw [if_pos ⟨by omega, by omega⟩, Int.toNat_natCast, K_at i h] at hp
  exact hp

theorem comp_ok (hh : List Nat) (b : List UInt8) (hw : words8 hh) (hb : b.length = 64) : ACalls Tryd.prog GP 34 [.agg (Is .u32 (nats hh)), .agg (Bs b)] [] (fun r os => os = [] ∧ r = .agg (Is .u32 (nats (adds (rounds hh Kn (word b) 64) hh)))) := by
  have cS := (schedule_ok b hb).g (G := GP)
  have hround := round1_calls hh hw (word b)
  have h0 : rounds hh Kn (word b) 0 = hh := rfl
  have hlen := fun i => words8_length (rounds_words hw Kn (word b) i)
  have h8 := words8_length hw
  have hfin : nats (adds (rounds hh Kn (word b) 64) hh) = mix (fun p => (rounds hh Kn (word b) 64).getD p 0) (fun p => ((rounds hh Kn (word b) 64).getD p 0 + hh.getD p 0) % 4294967296) 8 := mix_eight (hlen 64) h8 _
  rw [hfin]
  generalize word b = W at *
  generalize rounds hh Kn W = R at *
  clear hfin
  have nl : (nats hh).length = 8 := by rw [← h8]; exact List.length_map _
  have nt : (nats hh).take 8 = nats hh := List.take_of_length_le (by omega)
  have nd : (nats hh).drop 8 = [] := List.drop_eq_nil_of_le (by omega)
  have al : (arr 64 W 64).length = 64 := arr_length _ _ _
  have bt : b.take 64 = b := List.take_of_length_le (by omega)
  have bd : b.drop 64 = [] := List.drop_eq_nil_of_le (by omega)
  obtain ⟨z8, hz8, hz8l⟩ : ∃ z8 : List Int, (zvs .u32 8).map cav = Is .u32 z8 ∧ z8.length = 8 := ⟨_, zvs_Is _ _, by simp⟩
  have zd : z8.drop 8 = [] := List.drop_eq_nil_of_le (by omega)
  refine acalls_of_awp Tryd.func34 rfl rfl Tryd.ntmps34 (rts := #[25]) rfl Tryd.results34 (by simp) ?_
  simp only [argSlots, Nat.reduceAdd]
  refine awp_seq_k fun K hK => awp_region [] ?_
  simp only [K_eqs, abox, acells, K_ops, reduceCtorEq, if_false, if_true, Is_one, List.length_nil, List.nil_append, Nat.reduceLT, Nat.reduceEqDiff, Bs_one, aalloc, tzeros, hz8, K_nil, Then, true_and, List.cons_append, List.length_cons, Nat.zero_add, Nat.reduceAdd]
  (repeat' apply And.intro) <;> try (first | exact True.intro | omega)
  refine hK _ ?_
  clear hK K
  refine awp_seq_k fun K hK => awp_region [] ?_
  simp only [K_eqs, aload, K_ops, Nat.reduceEqDiff, reduceCtorEq, if_false, if_true, List.contains_nil, Bool.false_eq_true, List.getElem?_cons_zero, apart, isAggD, Tryd.underlying25, tszs, Nat.zero_add, Is_length, nl, Nat.le_refl, List.drop_zero, Is_take, nt, Nat.reduceLT, aalloc, tzeros, List.length_cons, List.length_nil, Nat.reduceAdd, hz8, List.cons_append, List.nil_append, K_store, astore, acells, spl, K_nil, Then, true_and, List.getElem?_cons_succ, hz8l, List.take_zero, Is_drop, List.set_cons_succ, List.set_cons_zero, Is_one, and_true, zd, Is_nil, List.append_nil]
  (repeat' apply And.intro) <;> try (first | exact True.intro | omega)
  refine hK _ ?_
  clear hK K
  refine awp_keep [2, 3, 4, 5] ?_
  simp only [keep_eqs, K_ops, Nat.reduceEqDiff, if_true, if_false]
  refine awp_seq_k fun K1 hK1 => ?_
  refine awp_seq_k fun K hK => awp_region [] ?_
  simp only [K_eqs, aload, K_ops, Nat.reduceEqDiff, if_false, if_true, List.contains_nil, Bool.false_eq_true, List.getElem?_cons_succ, List.getElem?_cons_zero, apart, isAggD, Tryd.underlying37, tszs, Nat.zero_add, Bs_length, hb, Nat.le_refl, List.drop_zero, Bs_take, bt, Nat.reduceLT, K_call, Nat.reduceAdd, List.map_cons, List.map_nil, aviews, aview, ntok, List.headD_cons, true_and, noref, norefs_Bs, and_true, Bool.or_false]
  refine andC_eq (by simp [norefs_Bs, norefs, noref, norefs_Is, flats_Is]) (cS) (by simp [noref, norefs, norefs_Bs, flat, norefs_Is, flats_Is]) ?_
  simp only [RestC_eqs, K_eqs, Nat.reduceLT, K_ops, cav, K_nil, Then, true_and]
  refine hK _ ?_
  clear hK K
  refine awp_keep [2, 4, 5, 13, 14] ?_
  simp only [keep_eqs, K_ops, Nat.reduceEqDiff, if_true, if_false]
  refine awp_block ?_
  refine awp_loop_from (fun i : Nat => ⟨82, [(2, .ptr 0 0), (4, .ptr 2 0), (5, .ptr 3 0), (13, .agg (Is .u32 (arr 64 W 64))), (14, .val (.int .i64 (i : Int)))], [.cells (Is .u32 (nats hh)), .cells (Bs b), .cells (Is .u32 z8), .cells (Is .u32 (nats (R i)))]⟩)
    (fun i => i ≤ 64) (fun i => 64 - i) 0 (by omega) (by rw [h0]; exact .of_keep [2, 4, 5, 13, 14] rfl) ?_
  intro i hi
  refine awp_seq_k fun K hK => awp_region [] ?_
  simp only [K_eqs, K_ops, Nat.reduceEqDiff, if_true, if_false, cav, K_int, aint, d_lt, Nat.reduceLT, K_nil, Then, true_and]
  (repeat' apply And.intro) <;> try (first | exact True.intro | omega)
  refine hK _ ?_
  clear hK K
  refine awp_seq ?_
  refine awp_cond rfl rfl (fun h => ?_) (fun h => ?_)
  · have hlt : i < 64 := of_decide_eq_true h
    clear h
    refine awp_skip ?_
    simp only [Then]
    refine awp_keep [2, 4, 5, 13, 14] ?_
    simp only [keep_eqs, K_ops, Nat.reduceEqDiff, if_true, if_false]
    obtain ⟨a, b', c, d, e, f, g, h, g1, ch, g0, mo, hr, c1, cch, c0, cmo, hnext⟩ := hround i
    have hnr : nats (R i) = [(a : Int), (b' : Int), (c : Int), (d : Int), (e : Int), (f : Int), (g : Int), (h : Int)] := by rw [hr]; rfl
    rw [hnr]
    have wa := arr_getD (n := 64) W hlt hlt
    refine awp_seq ?_
    refine awp_block ?_
    refine awp_seq_k fun K hK => awp_region [] ?_
    simp only [K_eqs, Nat.reduceLT, K_ops, Nat.reduceEqDiff, if_true, if_false, aidx, Tryd.underlying40, tszs, apart, isAggD, Tryd.underlying23, Int.toNat_natCast, Nat.mul_one, Is_length, al, hlt, Is_getD, I, wa, Int.cast_ofNat_Int, and_true, K_nil, Then, true_and]
    refine ⟨by omega, hK _ ?_⟩
    clear hK K
    refine awp_keep [2, 4, 5, 6, 7, 13, 14] ?_
    simp only [keep_eqs, K_ops, Nat.reduceEqDiff, if_true, if_false]
    generalize htt : (((((h + g1) % 4294967296 + ch) % 4294967296 + Kn i) % 4294967296 + W i) % 4294967296) = T at hnext
    refine awp_seq_k fun K hK => ?_
    refine awp_draw [22, 30, 33] (by kernel_rfl) (by kernel_rfl) ?_
    simp only [K_eqs, aidxAddr, K_ops, cav, Tryd.underlying25, Nat.reduceEqDiff, if_false, if_true, tszs, Int.reduceLE, Int.cast_ofNat_Int, Int.reduceLT, and_true, Int.reduceToNat, Nat.mul_one, Nat.zero_add, Nat.reduceLT, aload, List.contains_cons, Nat.reduceBEq, List.contains_nil, Bool.or_false, Bool.false_eq_true, apart, isAggD, Tryd.underlying23, K_call, Nat.reduceAdd, List.map_cons, List.map_nil, beq_self_eq_true, aviews, aview, noref, ntok, List.tail_cons, List.headD_cons, true_and, List.getElem?_cons_succ, List.getElem?_cons_zero, Is_length, List.length_cons, List.length_nil, Is_getD, I, List.getD_cons_succ, List.getD_cons_zero]
    refine andC_eq (by simp [norefs_Bs, norefs, noref, norefs_Is, flats_Is]) (c1) (by simp [noref, norefs, norefs_Bs, flat, norefs_Is, flats_Is]) ?_
    simp only [RestC_eqs, K_eqs, K_ops, Nat.reduceEqDiff, if_false, if_true, K_int, aint, n_addn, n_u32, Nat.reduceLT, aidxAddr, cav, Tryd.underlying25, tszs, Int.reduceLE, Int.cast_ofNat_Int, Int.reduceLT, and_true, Int.reduceToNat, Nat.mul_one, Nat.zero_add, aload, List.contains_cons, Nat.reduceBEq, List.contains_nil, Bool.or_false, Bool.false_eq_true, apart, isAggD, Tryd.underlying23, K_call, Nat.reduceAdd, List.map_cons, List.map_nil, beq_self_eq_true, Bool.false_or, aviews, aview, ntok, List.headD_cons, List.tail_cons, true_and, List.getElem?_cons_succ, List.getElem?_cons_zero, Is_length, List.length_cons, List.length_nil, Is_getD, I, List.getD_cons_succ, List.getD_cons_zero, noref]
    refine andC_eq (by simp [norefs_Bs, norefs, noref, norefs_Is, flats_Is]) (cch) (by simp [noref, norefs, norefs_Bs, flat, norefs_Is, flats_Is]) ?_
    simp only [RestC_eqs, K_eqs, K_ops, Nat.reduceEqDiff, if_false, if_true, K_int, aint, n_addn, n_u32, Nat.reduceLT, K_call, Nat.reduceAdd, List.contains_cons, Nat.reduceBEq, List.contains_nil, Bool.or_false, Bool.false_eq_true, List.map_cons, List.map_nil, beq_self_eq_true, Bool.false_or, aviews, aview, noref, and_true, true_and]
    refine andC_eq (by simp [norefs_Bs, norefs, noref, norefs_Is, flats_Is]) (prime_at i hlt) (by simp [noref, norefs, norefs_Bs, flat, norefs_Is, flats_Is]) ?_
    simp only [RestC_eqs, K_eqs, K_ops, Nat.reduceEqDiff, if_false, if_true, K_int, aint, n_addn, n_u32, Nat.reduceLT, htt, K_nil, Then, true_and]
    refine hK _ ?_
    clear hK K
    refine awp_keep [2, 4, 5, 8, 13, 14] ?_
    simp only [keep_eqs, K_ops, Nat.reduceEqDiff, if_true, if_false]
    refine awp_seq_k fun K hK => ?_
    refine awp_draw [39, 46] (by kernel_rfl) (by kernel_rfl) ?_
    simp only [K_eqs, aidxAddr, K_ops, cav, Tryd.underlying25, Nat.reduceEqDiff, if_false, if_true, tszs, Int.le_refl, Int.cast_ofNat_Int, Int.reduceLT, and_true, Int.toNat_zero, Nat.mul_one, Nat.add_zero, Nat.reduceLT, aload, List.contains_cons, Nat.reduceBEq, List.contains_nil, Bool.or_false, Bool.false_eq_true, apart, isAggD, Tryd.underlying23, K_call, Nat.reduceAdd, List.map_cons, List.map_nil, beq_self_eq_true, aviews, aview, noref, ntok, List.tail_cons, List.headD_cons, true_and, List.getElem?_cons_succ, List.getElem?_cons_zero, Is_length, List.length_cons, List.length_nil, Nat.zero_add, Is_getD, I, List.getD_cons_zero]
    refine andC_eq (by simp [norefs_Bs, norefs, noref, norefs_Is, flats_Is]) (c0) (by simp [noref, norefs, norefs_Bs, flat, norefs_Is, flats_Is]) ?_
    simp only [RestC_eqs, K_eqs, aidxAddr, K_ops, cav, Tryd.underlying25, Nat.reduceEqDiff, if_false, if_true, tszs, Int.le_refl, Int.cast_ofNat_Int, Int.reduceLT, and_true, Int.toNat_zero, Nat.mul_one, Nat.add_zero, Nat.reduceLT, aload, List.contains_cons, Nat.reduceBEq, List.contains_nil, Bool.or_false, Bool.false_eq_true, apart, isAggD, Tryd.underlying23, Int.reduceLE, Int.reduceToNat, Nat.zero_add, K_call, Nat.reduceAdd, List.map_cons, List.map_nil, beq_self_eq_true, Bool.false_or, aviews, aview, ntok, List.headD_cons, List.tail_cons, true_and, List.getElem?_cons_succ, List.getElem?_cons_zero, Is_length, List.length_cons, List.length_nil, Is_getD, I, List.getD_cons_succ, List.getD_cons_zero, noref]
    refine andC_eq (by simp [norefs_Bs, norefs, noref, norefs_Is, flats_Is]) (cmo) (by simp [noref, norefs, norefs_Bs, flat, norefs_Is, flats_Is]) ?_
    simp only [RestC_eqs, K_eqs, K_ops, Nat.reduceEqDiff, if_false, if_true, K_int, aint, n_addn, n_u32, Nat.reduceLT, K_nil, Then, true_and]
    refine hK _ ?_
    clear hK K
    refine awp_keep [2, 4, 5, 8, 9, 13, 14] ?_
    simp only [keep_eqs, K_ops, Nat.reduceEqDiff, if_true, if_false]
    have hn1 : nats (R (i + 1)) = [(((T + (g0 + mo) % 4294967296) % 4294967296 : Nat) : Int), (a : Int), (b' : Int), (c : Int), ((d + T) % 4294967296 : Nat), (e : Int), (f : Int), (g : Int)] := by rw [hnext]; rfl
    have h6 : IntKind.i64.wrap ((i + 1 : Nat) : Int) = ((i + 1 : Nat) : Int) := n_i64 (by omega)
    refine awp_region [] ?_
    simp only [K_eqs, Nat.reduceLT, K_ops, Nat.reduceEqDiff, if_false, if_true, K_int, aint, n_addn, n_u32, aidxAddr, cav, Tryd.underlying25, tszs, Int.le_refl, Int.cast_ofNat_Int, Int.reduceLT, and_true, Int.toNat_zero, Nat.mul_one, Nat.add_zero, aload, List.contains_nil, Bool.false_eq_true, apart, isAggD, Tryd.underlying23, Int.reduceLE, Int.reduceToNat, Nat.zero_add, abuild, tzeros, zvs_Is, List.replicate_succ, List.replicate_zero, aparts, List.map_cons, List.map_nil, afill, spl, List.take_zero, acells, List.nil_append, List.length_cons, List.length_nil, Is_drop, List.drop_succ_cons, List.drop_zero, List.cons_append, List.take_succ_cons, Nat.reduceAdd, Nat.reduceLeDiff, Is_length, true_and, List.all_cons, oneC, Value.oneCell', List.all_nil, Bool.and_true, K_store, astore, List.getElem?_cons_succ, List.getElem?_cons_zero, List.set_cons_succ, List.set_cons_zero, K_nil, Bool.true_and, Is_getD, I, List.getD_cons_succ, List.getD_cons_zero, Nat.le_refl, List.drop_nil, Is_nil, List.append_nil]
    rw [show [AV.val (Value.int IntKind.u32 (((T + (g0 + mo) % 4294967296) % 4294967296 : Nat) : Int)), AV.val (Value.int IntKind.u32 (a : Int)), AV.val (Value.int IntKind.u32 (b' : Int)), AV.val (Value.int IntKind.u32 (c : Int)), AV.val (Value.int IntKind.u32 (((d + T) % 4294967296 : Nat) : Int)), AV.val (Value.int IntKind.u32 (e : Int)), AV.val (Value.int IntKind.u32 (f : Int)), AV.val (Value.int IntKind.u32 (g : Int))] = Is .u32 (nats (R (i + 1))) from by rw [hn1]; rfl]
    simp only [InBlock, Then]
    refine awp_keep [2, 4, 5, 13, 14] ?_
    simp only [keep_eqs, K_ops, Nat.reduceEqDiff, if_true, if_false]
    have h6 : IntKind.i64.wrap ((i + 1 : Nat) : Int) = ((i + 1 : Nat) : Int) := n_i64 (by omega)
    refine awp_region [] ?_
    simp only [K_eqs, K_ops, Nat.reduceEqDiff, if_true, if_false, cav, K_int, aint, n_add, h6, Nat.reduceLT, K_nil, Then, true_and]
    refine ⟨i + 1, by omega, by omega, .of_keep [2, 4, 5, 13, 14] rfl⟩
  · have he : i = 64 := by have := of_decide_eq_false h; omega
    subst he
    refine awp_exit ?_
    simp only [Then, InBlock, if_true]
    refine hK1 _ ?_
    clear hK1 K1
    refine awp_keep [2, 4, 5] ?_
    simp only [keep_eqs, K_ops, Nat.reduceEqDiff, if_true, if_false]
    have hV0 := mix_zero (hlen 64) (fun p => ((R 64).getD p 0 + hh.getD p 0) % 4294967296)
    generalize hA : (fun p => ((R 64).getD p 0 + hh.getD p 0) % 4294967296) = A at hV0 ⊢
    have hAV : ∀ p, A p = ((fun p => (R 64).getD p 0) p + hh.getD p 0) % 4294967296 := fun p => by rw [← hA]
    generalize hV : (fun p => (R 64).getD p 0) = V at hV0 hAV ⊢
    rw [show nats (R 64) = mix V A 0 from hV0]
    have ml : ∀ j, (mix V A j).length = 8 := mix_length V A
    have mt : (mix V A 8).take 8 = mix V A 8 := List.take_of_length_le (by rw [ml]; omega)
    have md : (mix V A 8).drop 8 = [] := List.drop_eq_nil_of_le (by rw [ml]; omega)
    have hget : ∀ j, (nats hh).getD j 0 = ((hh.getD j 0 : Nat) : Int) := fun j => by
      simp only [nats, List.getD_eq_getElem?_getD, List.getElem?_map]
      cases hh[j]? <;> rfl
    refine awp_seq_k fun K1 hK1 => ?_
    refine awp_seq_k fun K hK => awp_region [] ?_
    simp only [K_eqs, Nat.reduceLT, K_ops, cav, K_nil, Then, true_and]
    (repeat' apply And.intro) <;> try (first | exact True.intro | omega)
    refine hK _ ?_
    clear hK K
    refine awp_keep [2, 4, 5, 69] ?_
    simp only [keep_eqs, K_ops, Nat.reduceEqDiff, if_true, if_false]
    refine awp_block ?_
    refine awp_loop_from (fun j : Nat => ⟨82, [(2, .ptr 0 0), (4, .ptr 2 0), (5, .ptr 3 0), (69, .val (.int .i64 (j : Int)))], [.cells (Is .u32 (nats hh)), .cells (Bs b), .cells (Is .u32 z8), .cells (Is .u32 (mix V A j))]⟩)
      (fun j => j ≤ 8) (fun j => 8 - j) 0 (by omega) (.of_keep [2, 4, 5, 69] rfl) ?_
    intro j hj
    refine awp_seq_k fun K hK => awp_region [] ?_
    simp only [K_eqs, K_ops, Nat.reduceEqDiff, if_true, if_false, cav, K_int, aint, d_lt, Nat.reduceLT, K_nil, Then, true_and]
    (repeat' apply And.intro) <;> try (first | exact True.intro | omega)
    refine hK _ ?_
    clear hK K
    refine awp_seq ?_
    refine awp_cond rfl rfl (fun h => ?_) (fun h => ?_)
    · have hlt : j < 8 := by have := of_decide_eq_true h; omega
      refine awp_skip ?_
      simp only [Then]
      refine awp_keep [2, 4, 5, 69] ?_
      simp only [keep_eqs, K_ops, Nat.reduceEqDiff, if_true, if_false]
      refine awp_seq ?_
      refine awp_block ?_
      refine awp_seq_k fun K hK => awp_region [] ?_
      simp only [K_eqs, Nat.reduceLT, K_ops, Nat.reduceEqDiff, if_true, if_false, K_nil, Then, true_and]
      (repeat' apply And.intro) <;> try (first | exact True.intro | omega)
      refine hK _ ?_
      clear hK K
      refine awp_keep [2, 4, 5, 10, 69] ?_
      simp only [keep_eqs, K_ops, Nat.reduceEqDiff, if_true, if_false]
      have gm := mix_getD V A (Nat.le_refl j) hlt
      have ga := hAV j
      have gh := hget j
      have q8 : 0 < 8 - j := by omega
      have l8 : j ≤ 8 := by omega
      generalize hh.getD j 0 = x at ga gh
      refine awp_draw [] (by kernel_rfl) (by kernel_rfl) ?_
      simp only [K_eqs, Nat.reduceLT, K_ops, Nat.reduceEqDiff, if_false, if_true, aidxAddr, Tryd.underlying25, tszs, Int.cast_ofNat_Int, Int.toNat_natCast, Nat.mul_one, Nat.zero_add, aload, List.contains_nil, Bool.false_eq_true, apart, isAggD, Tryd.underlying23, K_store, astore, acells, spl, K_nil, true_and, List.getElem?_cons_succ, List.getElem?_cons_zero, Is_length, ml, Is_take, Is_drop, List.set_cons_succ, List.set_cons_zero, nl, hlt, Is_getD, I, gh, gm, K_int, aint, n_addn, n_u32, ← ga, List.all_cons, oneC, Value.oneCell', List.all_nil, Bool.and_true, List.length_cons, List.length_nil, Nat.reduceLeDiff, and_true]
      refine ⟨by omega, by omega, by omega, by omega, ?_⟩
      rw [Is_set (by rw [ml]; omega), mix_set]
      simp only [InBlock, Then]
      refine awp_keep [2, 4, 5, 69] ?_
      simp only [keep_eqs, K_ops, Nat.reduceEqDiff, if_true, if_false]
      have h6 : IntKind.i64.wrap ((j + 1 : Nat) : Int) = ((j + 1 : Nat) : Int) := n_i64 (by omega)
      refine awp_region [] ?_
      simp only [K_eqs, K_ops, Nat.reduceEqDiff, if_true, if_false, cav, K_int, aint, n_add, h6, Nat.reduceLT, K_nil, Then, true_and]
      exact ⟨j + 1, by omega, by omega, .of_keep [2, 4, 5, 69] rfl⟩
    · have he : j = 8 := by have := of_decide_eq_false h; omega
      subst he
      refine awp_exit ?_
      simp only [Then, InBlock, if_true]
      refine hK1 _ ?_
      clear hK1 K1
      refine awp_keep [4, 5] ?_
      simp only [keep_eqs, K_ops, Nat.reduceEqDiff, if_true, if_false]
      refine awp_seq_k fun K hK => awp_region [] ?_
      simp only [K_eqs, aload, K_ops, Nat.reduceEqDiff, if_true, if_false, List.contains_nil, Bool.false_eq_true, List.getElem?_cons_succ, List.getElem?_cons_zero, apart, isAggD, Tryd.underlying25, tszs, Nat.zero_add, Is_length, ml, Nat.le_refl, List.drop_zero, Is_take, mt, Nat.reduceLT, K_store, astore, acells, hz8l, spl, List.take_zero, List.nil_append, Is_drop, List.set_cons_succ, List.set_cons_zero, K_nil, Then, true_and, Is_one, and_true, zd, Is_nil, List.append_nil]
      (repeat' apply And.intro) <;> try (first | exact True.intro | omega)
      refine hK _ ?_
      clear hK K
      refine awp_ret ?_
      simp only [K_fin, ares, aress, ares1, aload, K_ops, Nat.reduceEqDiff, if_false, if_true, List.getElem?_cons_succ, List.getElem?_cons_zero, apart, isAggD, Tryd.underlying25, tszs, Nat.zero_add, Is_length, ml, Nat.le_refl, List.drop_zero, Is_take, mt, afin, noref, norefs_Is, and_true, true_and]
end Go.Proofs.YtjdlgbkpdfaloaaDoor
/- The walks of a digest. -/
namespace Go.Proofs.YtjdlgbkpdfaloaaDoor
open Go Go.V
set_option linter.unusedSimpArgs false
set_option linter.unusedVariables false

def start8 : List Nat := [1779033703, 3144134277, 1013904242, 2773480762, 1359893119, 2600822924, 528734635, 1541459225]
/-- A digest's cells. -/
def DC (h : List Nat) (r : List UInt8) (m : Nat) : List AV := Is .u32 (nats h) ++ (Bs r ++ [.val (.int .u64 (m : Int))])

theorem nats_length (h : List Nat) : (nats h).length = h.length := List.length_map _
theorem DC_length (h : List Nat) (r : List UInt8) (m : Nat) (hh : h.length = 8) (hr : r.length = 64) : (DC h r m).length = 73 := by
  simp only [DC, List.length_append, Is_length, Bs_length, nats_length, hh, hr]
  rfl
theorem DC_take73 (h : List Nat) (r : List UInt8) (m : Nat) (hh : h.length = 8) (hr : r.length = 64) : (DC h r m).take 73 = DC h r m := List.take_of_length_le (by rw [DC_length h r m hh hr]; exact Nat.le_refl _)
theorem DC_drop8 (h : List Nat) (r : List UInt8) (m : Nat) (hh : h.length = 8) : (DC h r m).drop 8 = Bs r ++ [.val (.int .u64 (m : Int))] := by
  have e : (Is .u32 (nats h)).length = 8 := by rw [Is_length, nats_length, hh]
  unfold DC
  rw [← e, List.drop_left]
theorem DC_take8 (h : List Nat) (r : List UInt8) (m : Nat) (hh : h.length = 8) : (DC h r m).take 8 = Is .u32 (nats h) := by
  have e : (Is .u32 (nats h)).length = 8 := by rw [Is_length, nats_length, hh]
  unfold DC
  rw [← e, List.take_left]
theorem DC_rest (h : List Nat) (r : List UInt8) (m : Nat) (hh : h.length = 8) (hr : r.length = 64) : ((DC h r m).drop 8).take 64 = Bs r := by
  rw [DC_drop8 h r m hh]
  have e : (Bs r).length = 64 := by rw [Bs_length, hr]
  rw [← e, List.take_left]
theorem DC_get72 (h : List Nat) (r : List UInt8) (m : Nat) (hh : h.length = 8) (hr : r.length = 64) (d : AV) : (DC h r m).getD 72 d = .val (.int .u64 (m : Int)) := by
  have e : (Bs r).length = 64 := by rw [Bs_length, hr]
  have : (DC h r m)[72]? = some (.val (.int .u64 (m : Int))) := by
    have h1 : ((DC h r m).drop 8)[64]? = (DC h r m)[72]? := by rw [List.getElem?_drop]
    rw [← h1, DC_drop8 h r m hh, List.getElem?_append_right (by omega), e]
    rfl
  rw [List.getD_eq_getElem?_getD, this]
  rfl
theorem DC_set72 (h : List Nat) (r : List UInt8) (m m' : Nat) (hh : h.length = 8) (hr : r.length = 64) : (DC h r m).set 72 (.val (.int .u64 (m' : Int))) = DC h r m' := by
  have e1 : (Is .u32 (nats h)).length = 8 := by rw [Is_length, nats_length, hh]
  have e : (Bs r).length = 64 := by rw [Bs_length, hr]
  unfold DC
  rw [List.set_append_right _ _ (by omega), e1, List.set_append_right _ _ (by omega), e]
  rfl
theorem DC_put8 (h h' : List Nat) (r : List UInt8) (m : Nat) (hh : h.length = 8) : Is .u32 (nats h') ++ (DC h r m).drop 8 = DC h' r m := by
  rw [DC_drop8 h r m hh]
  rfl
theorem DC_oneC (h : List Nat) (r : List UInt8) (m : Nat) : (DC h r m).all oneC = true := by
  have h1 : ∀ l : List Int, (Is .u32 l).all oneC = true := fun l => by
    rw [List.all_eq_true]
    intro x hx
    obtain ⟨z, _, rfl⟩ := List.mem_map.1 hx
    rfl
  have h2 : (Bs r).all oneC = true := by
    rw [List.all_eq_true]
    intro x hx
    obtain ⟨z, _, rfl⟩ := List.mem_map.1 hx
    rfl
  rw [DC, List.all_append, List.all_append, h1, h2]
  rfl
theorem Is_oneC (k : IntKind) (l : List Int) : (Is k l).all oneC = true := by
  rw [List.all_eq_true]
  intro x hx
  obtain ⟨z, _, rfl⟩ := List.mem_map.1 hx
  rfl
theorem DC_norefs (h : List Nat) (r : List UInt8) (m : Nat) : norefs (DC h r m) = true := by
  simp [DC, norefs_append, norefs_Is, norefs_Bs, norefs, noref]
theorem FinH_one_ptr {P : Program} {ts : List TypeId} {Q : AV → List AObj → Prop} {nt : Nat} {s : List (Nat × AV)} {os : List AObj} (x i off : Nat) {y0 y1 : AObj} (h : lk s x = .ptr i off) (h0 : os[0]? = some y0) (hi : os[i]? = some y1) (hne : i ≠ 0) (n0 : objOk y0 = true) (n1 : objOk y1 = true)
    (hq : Q (.ptr 1 off) [y0, y1]) : FinH P ts [.tmp x] 1 Q .ret ⟨nt, s, os⟩ := by
  have hidx : [0, i].idxOf i = 1 := by
    cases i with
    | zero => exact absurd rfl hne
    | succ i => simp [List.idxOf_cons]
  refine ⟨.inr rfl, [0, i], [y0, y1], _, by simp, fun j hj => ?_, fun a b ha hb e => ?_, rfl, fun j hj => ?_, fun o ho => ?_, .inr ⟨x, rfl, by simp [h, outv, hidx]⟩, hq⟩
  · have : j = 0 := by omega
    subst this
    rfl
  · simp only [List.length_cons, List.length_nil] at ha hb
    rcases (by omega : a = 0 ∨ a = 1) with rfl | rfl <;> rcases (by omega : b = 0 ∨ b = 1) with rfl | rfl
    · rfl
    · exact absurd e.symm hne
    · exact absurd e hne
    · rfl
  · simp only [List.length_cons, List.length_nil] at hj
    rcases (by omega : j = 0 ∨ j = 1) with rfl | rfl
    · exact h0
    · exact hi
  · simp only [List.mem_cons, List.not_mem_nil, or_false] at ho
    rcases ho with rfl | rfl
    · exact n0
    · exact n1

theorem wstart8_ok : ACalls Tryd.prog [] 13 [] [] (fun r os => os = [] ∧ r = .agg (Is .u32 (nats start8))) := by
  refine acalls_of_awp Tryd.func13 rfl rfl Tryd.ntmps13 (rts := #[25]) rfl Tryd.results13 (by simp) ?_
  simp only [argSlots, Nat.reduceAdd]
  refine awp_seq_k fun K hK => awp_region [] ?_
  simp only [K_eqs, aalloc, tzeros, List.length_nil, zvs_Is, List.replicate_succ, List.replicate_zero, List.nil_append, Nat.reduceLT, K_nil, Then, true_and, K_ops]
  (repeat' apply And.intro) <;> try (first | exact True.intro | omega)
  refine hK _ ?_
  clear hK K
  refine awp_seq_k fun K hK => awp_region [] ?_
  simp only [K_eqs]
  refine build_B (Is .u32 (nats start8)) Tryd.underlying25 (sz := 1) (z := zvs .u32 8) (by simp only [tszs]) (by simp only [tzeros]) (by kernel_rfl) ?_
  have hl : (nats start8).length = 8 := rfl
  simp only [Nat.reduceLT, K_store, astore, K_ops, reduceCtorEq, if_true, if_false, List.getElem?_cons_zero, tszs, acells, Is_one, Is_length, hl, Nat.zero_add, List.length_cons, List.length_nil, Nat.reduceAdd, Nat.le_refl, and_true, spl, List.take_zero, List.nil_append, Is_drop, List.drop_succ_cons, List.drop_nil, List.set_cons_zero, K_nil, Then, true_and]
  refine hK _ ?_
  rw [Is_nil, List.append_nil]
  have ht : (nats start8).take 8 = nats start8 := rfl
  refine awp_ret ?_
  simp only [K_fin, ares, aress, ares1, aload, K_ops, reduceCtorEq, if_true, if_false, List.getElem?_cons_zero, apart, isAggD, Tryd.underlying25, tszs, Nat.zero_add, Is_length, hl, Nat.le_refl, List.drop_zero, Is_take, ht, afin, noref, norefs_Is, and_true, true_and]

theorem new_ok : ACalls Tryd.prog [] 39 [] [] (fun r os => os = [.cells (DC start8 (List.replicate 64 0) 0)] ∧ r = .ptr 0 0) := by
  obtain ⟨fs, hu, hs⟩ : ∃ fs, Tryd.prog.underlying 66 = some (.struct fs) ∧ sfields Tryd.prog fs = some [(0, 8), (8, 64), (72, 1)] := ⟨_, Tryd.underlying66, by kernel_rfl⟩
  refine acallsH_of_awp Tryd.func39 rfl rfl Tryd.ntmps39 (rts := #[51]) rfl Tryd.results39 (by simp) ?_
  simp only [argSlots, Nat.reduceAdd]
  refine awp_seq_k fun K hK => awp_region [] ?_
  simp only [List.length_nil, List.replicate_succ, List.replicate_zero, K_eqs, Nat.reduceLT, K_ops, cav, K_nil, Then, true_and]
  (repeat' apply And.intro) <;> try (first | exact True.intro | omega)
  refine hK _ ?_
  clear hK K
  refine awp_seq_k fun K hK => awp_region [] ?_
  simp only [List.length_nil, List.replicate_succ, List.replicate_zero, K_call, Nat.reduceLT, Nat.reduceAdd, List.contains_nil, Bool.false_eq_true, K_ops, List.map_nil, if_false, aviews, true_and]
  refine andC_eq (by simp [norefs_Bs, norefs, noref, norefs_Is, flats_Is]) (wstart8_ok) (by simp [noref, norefs, norefs_Bs, flat, norefs_Is, flats_Is]) ?_
  have hl : (nats start8).length = 8 := rfl
  simp only [RestC_eqs, K_eqs, abuild, tzeros, hu, hs, List.map_cons, cav, List.map_nil, aparts, K_ops, reduceCtorEq, if_false, if_true, afill, List.getElem?_cons_zero, spl, List.take_zero, acells, List.nil_append, Is_length, hl, Nat.zero_add, List.drop_succ_cons, List.drop_zero, List.length_cons, List.length_nil, Nat.reduceAdd, Nat.reduceLeDiff, Is_one, and_true, Nat.reduceLT, abox, Nat.reduceEqDiff, K_nil, Then, true_and, List.all_append, List.all_cons, oneC, Value.oneCell', List.all_nil, Bool.and_true]
  refine hK _ ?_
  clear hK K
  refine awp_keep [0] ?_
  simp only [keep_eqs, K_ops, Nat.reduceEqDiff, if_true, if_false]
  refine awp_ret ?_
  exact FinH_ptr 0 0 0 rfl rfl (by kernel_rfl) ⟨rfl, rfl⟩

theorem len_ok (h : List Nat) (r : List UInt8) (m : Nat) (hh : h.length = 8) (hr : r.length = 64) : ACalls Tryd.prog [] 43 [.ptr 0 0] [.cells (DC h r m)] (fun v os => os = [.cells (DC h r m)] ∧ v = .val (.int .u64 (m : Int))) := by
  have hl := DC_length h r m hh hr
  have h72 := DC_get72 h r m hh hr
  have hn := DC_norefs h r m
  generalize DC h r m = D at hl h72 hn
  refine acallsH_of_awp Tryd.func43 rfl rfl Tryd.ntmps43 (rts := #[56]) rfl Tryd.results43 (by simp) ?_
  simp only [argSlots, Nat.reduceAdd]
  refine awp_seq_k fun K hK => awp_region [] ?_
  simp only [List.length_cons, List.length_nil, Nat.zero_add, K_eqs, Nat.reduceLT, K_ops, cav, K_nil, Then, true_and]
  (repeat' apply And.intro) <;> try (first | exact True.intro | omega)
  refine hK _ ?_
  clear hK K
  refine awp_seq_k fun K hK => awp_region [] ?_
  simp only [List.length_cons, List.length_nil, Nat.zero_add, K_eqs, Nat.reduceLT, K_ops, reduceCtorEq, if_true, if_false, anil, Nat.reduceEqDiff, afieldAddr, Tryd.underlying66, List.getElem?_toArray, List.getElem?_cons_succ, List.getElem?_cons_zero, tszs, ne_eq, not_false_eq_true, true_and, aload, List.contains_nil, Bool.false_eq_true, apart, isAggD, Tryd.underlying56, K_nil, Then, hl, h72]
  refine hK _ ?_
  clear hK K
  refine awp_keep [0, 2] ?_
  simp only [keep_eqs, K_ops, Nat.reduceEqDiff, if_true, if_false]
  refine awp_ret ?_
  exact FinH_one (.inr rfl) rfl (by simpa [objOk] using hn) rfl (by simp [lk, noref]) rfl ⟨rfl, rfl⟩

theorem clone_ok (h : List Nat) (r : List UInt8) (m : Nat) (hh : h.length = 8) (hr : r.length = 64) : ACalls Tryd.prog [] 42 [.ptr 0 0] [.cells (DC h r m)] (fun v os => os = [.cells (DC h r m), .cells (DC h r m)] ∧ v = .ptr 1 0) := by
  obtain ⟨fs, hu, hs⟩ : ∃ fs, Tryd.prog.underlying 66 = some (.struct fs) ∧ sfields Tryd.prog fs = some [(0, 8), (8, 64), (72, 1)] := ⟨_, Tryd.underlying66, by kernel_rfl⟩
  have hl := DC_length h r m hh hr
  have ht := DC_take73 h r m hh hr
  have ho := DC_oneC h r m
  have hn := DC_norefs h r m
  generalize DC h r m = D at hl ht ho hn
  refine acallsH_of_awp Tryd.func42 rfl rfl Tryd.ntmps42 (rts := #[51]) rfl Tryd.results42 (by simp) ?_
  simp only [argSlots, Nat.reduceAdd]
  refine awp_seq_k fun K hK => awp_region [] ?_
  simp only [List.length_cons, List.length_nil, Nat.zero_add, K_eqs, Nat.reduceLT, K_ops, cav, K_nil, Then, true_and]
  (repeat' apply And.intro) <;> try (first | exact True.intro | omega)
  refine hK _ ?_
  clear hK K
  refine awp_seq_k fun K hK => awp_region [] ?_
  simp only [List.length_cons, List.length_nil, Nat.zero_add, K_eqs, Nat.reduceLT, K_ops, reduceCtorEq, if_true, if_false, anil, Nat.reduceEqDiff, aload, List.contains_nil, Bool.false_eq_true, apart, isAggD, hu, tszs, List.drop_zero, aalloc, tzeros, List.map_cons, cav, List.map_nil, List.cons_append, List.nil_append, K_store, astore, acells, spl, K_nil, Then, true_and, List.getElem?_cons_succ, List.getElem?_cons_zero, Nat.reduceAdd, List.take_zero, List.set_cons_succ, List.set_cons_zero, hl, Nat.le_refl, ht, ho, and_true, List.drop_succ_cons, List.drop_nil, List.append_nil]
  refine hK _ ?_
  clear hK K
  refine awp_keep [0, 3] ?_
  simp only [keep_eqs, K_ops, Nat.reduceEqDiff, if_true, if_false]
  refine awp_seq_k fun K hK => awp_region [] ?_
  simp only [List.length_cons, List.length_nil, Nat.zero_add, K_eqs, Nat.reduceLT, K_ops, reduceCtorEq, if_true, if_false, K_nil, Then, true_and]
  (repeat' apply And.intro) <;> try (first | exact True.intro | omega)
  refine hK _ ?_
  clear hK K
  refine awp_keep [2] ?_
  simp only [keep_eqs, K_ops, Nat.reduceEqDiff, if_true, if_false]
  refine awp_ret ?_
  exact FinH_one_ptr 2 1 0 rfl rfl rfl (by omega) (by simpa [objOk] using hn) (by simpa [objOk] using hn) ⟨rfl, rfl⟩
end Go.Proofs.YtjdlgbkpdfaloaaDoor
/- The walk of a digest's Write. -/
namespace Go.Proofs.YtjdlgbkpdfaloaaDoor
open Go Go.V
set_option linter.unusedSimpArgs false
set_option linter.unusedVariables false

/-- What is asked of a block's words. -/
def COk (C : List Nat → List UInt8 → List Nat) : Prop := (∀ h b, words8 h → b.length = 64 → words8 (C h b)) ∧
  ∀ h b, words8 h → b.length = 64 → ACalls Tryd.prog GP 34 [.agg (Is .u32 (nats h)), .agg (Bs b)] [] (fun r os => os = [] ∧ r = .agg (Is .u32 (nats (C h b))))

theorem DC_copy (h : List Nat) (r b : List UInt8) (m a : Nat) (hh : h.length = 8) (hr : r.length = 64) (hab : a + b.length ≤ 64) : (DC h r m).take (8 + a) ++ Bs b ++ (DC h r m).drop (8 + a + b.length) = DC h (r.take a ++ b ++ r.drop (a + b.length)) m := by
  have e1 : (Is .u32 (nats h)).length = 8 := by rw [Is_length, nats_length, hh]
  have e2 : (DC h r m).take (8 + a) = Is .u32 (nats h) ++ Bs (r.take a) := by
    unfold DC
    rw [List.take_append, e1, Nat.add_sub_cancel_left, List.take_of_length_le (by omega), List.take_append_of_le_length (by rw [Bs_length]; omega), Bs_take]
  have e3 : (DC h r m).drop (8 + a + b.length) = Bs (r.drop (a + b.length)) ++ [.val (.int .u64 (m : Int))] := by
    rw [show 8 + a + b.length = 8 + (a + b.length) by omega, ← List.drop_drop, DC_drop8 h r m hh, List.drop_append_of_le_length (by rw [Bs_length]; omega), Bs_drop]
  rw [e2, e3]
  simp only [DC, Bs_append, List.append_assoc]

theorem write_ok {C : List Nat → List UInt8 → List Nat} (hC : COk C) (s : DS) (hs : DOk s) (b : List UInt8) (p : Perm) (hm : s.many + b.length ≤ 1000000000) :
    ACalls Tryd.prog GP 40 [.ptr 0 0, .sl b.length (Bs b) p] [.cells (DC s.h s.rest s.many)] (fun v os => os = [.cells (DC (runs C s b).h (runs C s b).rest (runs C s b).many)] ∧ v = .tup []) := by
  refine acallsH_of_awp Tryd.func40 rfl rfl Tryd.ntmps40 (rts := #[]) rfl Tryd.results40 (by simp) ?_
  simp only [argSlots, Nat.reduceAdd]
  refine awp_noperm 1 rfl ?_
  refine awp_keep [0, 1] ?_
  simp only [keep_eqs, K_ops, Nat.reduceEqDiff, if_true, if_false]
  refine awp_block ?_
  refine awp_loop_from (fun x : List UInt8 × DS => ⟨50, [(0, .ptr 0 0), (1, .sl x.1.length (Bs x.1) .no)], [.cells (DC x.2.h x.2.rest x.2.many)]⟩)
    (fun x => DOk x.2 ∧ x.2.many + x.1.length = s.many + b.length ∧ runs C x.2 x.1 = runs C s b) (fun x => x.1.length) (b, s) ⟨hs, rfl, rfl⟩ (.of_keep [0, 1] rfl) ?_
  rintro ⟨l, d⟩ ⟨hd, hmany, hrun⟩
  simp only at hd hmany hrun
  have hh := words8_length hd.1
  have hr := hd.2
  have hDl := DC_length d.h d.rest d.many hh hr
  have h72 := DC_get72 d.h d.rest d.many hh hr
  refine awp_seq_k fun K2 hK2 => ?_
  refine awp_seq_k fun K hK => awp_region [] ?_
  simp only [List.length_cons, List.length_nil, Nat.zero_add, K_eqs, Nat.reduceLT, K_ops, reduceCtorEq, if_true, if_false, abuiltin, List.map_cons, Nat.reduceEqDiff, List.map_nil, alen, Tryd.underlying27, cav, K_nil, Then, true_and, K_int, aint, d_gt]
  refine hK _ ?_
  clear hK K
  by_cases hl0 : l.length = 0
  · refine awp_condF (by simp only [K_ops, lk, hl0]; rfl) ?_
    refine awp_exit ?_
    simp only [Then, InBlock, if_true]
    have hl : l = [] := List.length_eq_zero_iff.1 hl0
    subst hl
    rw [runs_nil] at hrun
    subst hrun
    exact FinH_one (.inl rfl) rfl (by simpa [objOk] using DC_norefs _ _ _) rfl (by simp) rfl ⟨rfl, rfl⟩
  refine awp_condT (by simp only [K_ops, lk]; simp; omega) (awp_skip (hK2 _ ?_))
  clear hK2 K2
  refine awp_keep [0, 1] ?_
  simp only [keep_eqs, K_ops, Nat.reduceEqDiff, if_true, if_false]
  refine awp_block ?_
  refine awp_seq_k fun K hK => awp_region [] ?_
  have hat : d.many % 64 < 64 := Nat.mod_lt _ (by omega)
  have h64 : IntKind.i64.wrap ((d.many % 64 : Nat) : Int) = ((d.many % 64 : Nat) : Int) := n_i64 (by omega)
  simp only [List.length_cons, List.length_nil, Nat.zero_add, K_eqs, Nat.reduceLT, K_ops, reduceCtorEq, if_false, if_true, anil, Nat.reduceEqDiff, afieldAddr, Tryd.underlying66, List.getElem?_toArray, List.getElem?_cons_succ, List.getElem?_cons_zero, tszs, ne_eq, not_false_eq_true, true_and, aload, List.contains_nil, Bool.false_eq_true, apart, isAggD, Tryd.underlying56, cav, K_conv, Tryd.underlying3, aconvO, aview, ntok, aconv, Option.isSome_some, K_nil, Then, hDl, h72, K_int, aint, Int.reduceEq, and_true, n_tmod, h64]
  refine hK _ ?_
  clear hK K
  refine awp_keep [0, 1, 4] ?_
  simp only [keep_eqs, K_ops, Nat.reduceEqDiff, if_true, if_false]
  have e64 : ((64 : Int) - ((d.many % 64 : Nat) : Int)).toNat = 64 - d.many % 64 := by omega
  obtain ⟨n, hn⟩ : ∃ n, (if l.length ≤ 64 - d.many % 64 then l.length else 64 - d.many % 64) = n := ⟨_, rfl⟩
  have hn0 : 0 < n := by rw [← hn]; split <;> omega
  have hnl : n ≤ l.length := by rw [← hn]; split <;> omega
  have hn64 : d.many % 64 + n ≤ 64 := by rw [← hn]; split <;> omega
  have htl : (l.take n).length = n := by rw [List.length_take]; omega
  have hcopy := DC_copy d.h d.rest (l.take n) d.many (d.many % 64) hh hr (by omega)
  have hchunk := runs_chunk (C := C) (l.take n) d hr (by omega) (by omega)
  have hok1 := runs_ok hC.1 hd (l.take n)
  have hall : runs C (runs C d (l.take n)) (l.drop n) = runs C s b := by rw [← runs_append, List.take_append_drop, hrun]
  have hr1 : (d.rest.take (d.many % 64) ++ l.take n ++ d.rest.drop (d.many % 64 + (l.take n).length)).length = 64 := by
    simp only [List.length_append, List.length_take, List.length_drop]
    omega
  rw [htl] at hcopy hchunk hr1
  refine awp_seq_k fun K hK => awp_region [] ?_
  simp only [List.length_cons, List.length_nil, Nat.zero_add, K_eqs, Nat.reduceLT, K_ops, reduceCtorEq, if_false, if_true, anil, Nat.reduceEqDiff, afieldAddr, Tryd.underlying66, List.getElem?_toArray, List.getElem?_cons_succ, List.getElem?_cons_zero, tszs, ne_eq, not_false_eq_true, true_and, aslice, bopt, Option.map_some, Option.map_none, Tryd.underlying37, lowOf, highOf, Int.le_refl, not_true_eq_false, and_true, or_false, Int.toNat_natCast, sliceP, abuiltin, List.map_cons, List.map_nil, acopy, Tryd.underlying27, srcCells, Bs_length, Nat.min_def, spl, K_nil, Then, Int.cast_ofNat_Int, Nat.mul_one, e64, hn, hDl, Bs_take, Bs_one, hn0, htl, List.set_cons_zero]
  refine ⟨⟨by omega, by omega⟩, by omega, hK _ ?_⟩
  clear hK K
  rw [hcopy]
  generalize d.rest.take (d.many % 64) ++ l.take n ++ d.rest.drop (d.many % 64 + n) = r1 at hcopy hchunk hr1 ⊢
  clear hcopy
  have hDl1 := DC_length d.h r1 d.many hh hr1
  have h721 := DC_get72 d.h r1 d.many hh hr1
  have hset := DC_set72 d.h r1 d.many (d.many + n) hh hr1
  have hw1 : IntKind.u64.wrap (n : Int) = (n : Int) := by rw [n_u64, Nat.mod_eq_of_lt (by omega)]
  have hw2 : IntKind.u64.wrap ((d.many : Int) + (n : Int)) = ((d.many + n : Nat) : Int) := by rw [← Int.natCast_add, n_u64, Nat.mod_eq_of_lt (by omega)]
  have hput : (DC d.h r1 d.many).take 72 ++ [.val (.int .u64 ((d.many + n : Nat) : Int))] ++ (DC d.h r1 d.many).drop 73 = DC d.h r1 (d.many + n) := by
    rw [← hset, List.set_eq_take_append_cons_drop, if_pos (by omega)]
    simp
  refine awp_keep [0, 1, 4, 5] ?_
  simp only [keep_eqs, K_ops, Nat.reduceEqDiff, if_true, if_false]
  refine awp_seq_k fun K hK => awp_region [] ?_
  simp only [List.length_cons, List.length_nil, Nat.zero_add, K_eqs, Nat.reduceLT, K_ops, reduceCtorEq, if_false, if_true, anil, Nat.reduceEqDiff, afieldAddr, Tryd.underlying66, List.getElem?_toArray, List.getElem?_cons_succ, List.getElem?_cons_zero, tszs, ne_eq, not_false_eq_true, true_and, aload, List.contains_nil, Bool.false_eq_true, apart, isAggD, Tryd.underlying56, K_conv, aconvO, aview, noref, aconv, Tryd.underlying3, Option.isSome_some, hw1, and_true, K_store, astore, acells, spl, K_nil, Then, hDl1, List.set_cons_zero, h721, K_int, aint, hw2, List.all_cons, oneC, Value.oneCell', List.all_nil, Bool.and_true, Nat.reduceAdd, Nat.le_refl]
  rw [hput]
  refine hK _ ?_
  clear hK K hput hset hDl1 h721
  refine awp_keep [0, 1, 4, 5] ?_
  simp only [keep_eqs, K_ops, Nat.reduceEqDiff, if_true, if_false]
  refine awp_seq_k fun K hK => awp_region [] ?_
  simp only [List.length_cons, List.length_nil, Nat.zero_add, K_eqs, Nat.reduceLT, K_ops, reduceCtorEq, Nat.reduceEqDiff, if_false, if_true, aslice, bopt, Option.map_some, Option.map_none, Tryd.underlying27, tszs, Bs_length, Nat.mul_one, lowOf, highOf, Int.le_refl, ne_eq, not_true_eq_false, and_true, or_false, true_and, Int.toNat_natCast, Bs_drop, Bs_take, sliceP, K_nil, Then]
  refine ⟨by omega, hK _ ?_⟩
  clear hK K
  refine awp_keep [0, 1, 4, 5] ?_
  simp only [keep_eqs, K_ops, Nat.reduceEqDiff, if_true, if_false]
  refine awp_seq_k fun K hK => awp_region [] ?_
  have hw3 : IntKind.i64.wrap (((d.many % 64 : Nat) : Int) + (n : Int)) = ((d.many % 64 + n : Nat) : Int) := by rw [← Int.natCast_add]; exact n_i64 (by omega)
  have e5 : ((l.length : Int) - (n : Int)).toNat = l.length - n := by omega
  have e6 : (l.drop n).take (l.length - n) = l.drop n := List.take_of_length_le (by rw [List.length_drop]; exact Nat.le_refl _)
  have e7 : l.length - n = (l.drop n).length := by rw [List.length_drop]
  simp only [e5, e6, List.length_cons, List.length_nil, Nat.zero_add, K_eqs, Nat.reduceLT, K_ops, reduceCtorEq, Nat.reduceEqDiff, if_false, if_true, K_int, aint, hw3, cav, K_nil, Then, true_and]
  refine hK _ ?_
  clear hK K
  rw [e7]
  refine awp_keep [0, 1, 37] ?_
  simp only [keep_eqs, K_ops, Nat.reduceEqDiff, if_true, if_false]
  by_cases hfull : d.many % 64 + n = 64
  · rw [if_pos hfull] at hchunk
    refine awp_condT (by simp only [K_ops, lk, hfull]; rfl) ?_
    have hDl2 := DC_length d.h r1 (d.many + n) hh hr1
    have h8 := DC_take8 d.h r1 (d.many + n) hh
    have hrest := DC_rest d.h r1 (d.many + n) hh hr1
    have hcc := hC.2 d.h r1 hd.1 hr1
    have hh' := words8_length (hC.1 d.h r1 hd.1 hr1)
    have hput8 := DC_put8 d.h (C d.h r1) r1 (d.many + n) hh
    generalize C d.h r1 = h' at hcc hchunk hh' hput8
    have hnl8 : (nats h').length = 8 := by rw [nats_length, hh']
    refine awp_draw [] (by kernel_rfl) (by kernel_rfl) ?_
    simp only [List.length_drop, List.length_cons, List.length_nil, Nat.zero_add, K_eqs, Nat.reduceLT, K_ops, reduceCtorEq, if_false, if_true, anil, Nat.reduceEqDiff, afieldAddr, Tryd.underlying66, List.getElem?_toArray, List.getElem?_cons_zero, tszs, ne_eq, not_false_eq_true, Nat.add_zero, true_and, List.drop_zero, aload, List.contains_nil, Bool.false_eq_true, apart, isAggD, Tryd.underlying25, List.getElem?_cons_succ, Tryd.underlying37, K_call, Nat.reduceAdd, List.map_cons, List.map_nil, aviews, aview, ntok, List.headD_cons, List.tail_cons, hDl2, Nat.reduceLeDiff, hrest, noref, norefs_Bs, and_true, Bool.or_false, h8, norefs_Is]
    refine andC_eq trivial hcc (by simp [flat, flats_Is, noref, norefs_Is]) ?_
    simp only [RestC_eqs, K_eqs, anil, K_ops, Nat.reduceEqDiff, reduceCtorEq, if_false, if_true, Nat.reduceLT, afieldAddr, Tryd.underlying66, List.getElem?_toArray, List.getElem?_cons_zero, tszs, ne_eq, not_false_eq_true, Nat.add_zero, true_and, List.drop_zero, K_store, astore, acells, Is_one, Is_length, hnl8, and_true, spl, K_nil, Nat.zero_add, hDl2, Nat.reduceLeDiff, List.take_zero, List.nil_append, hput8, List.set_cons_zero]
    rw [e7]
    simp only [InBlock, Then]
    exact ⟨(l.drop n, runs C d (l.take n)), ⟨hok1, by simp only [runs_many, htl, List.length_drop]; omega, hall⟩, by simp only [List.length_drop]; omega, by rw [hchunk]; exact .of_keep [0, 1] rfl⟩
  · rw [if_neg hfull] at hchunk
    refine awp_condF (by simp only [K_ops, lk]; simp; omega) ?_
    refine awp_skip ?_
    simp only [InBlock, Then]
    exact ⟨(l.drop n, runs C d (l.take n)), ⟨hok1, by simp only [runs_many, htl, List.length_drop]; omega, hall⟩, by simp only [List.length_drop]; omega, by rw [hchunk]; exact .of_keep [0, 1] rfl⟩
end Go.Proofs.YtjdlgbkpdfaloaaDoor
/- The walks of a digest's Sum, and of the sum of parts. -/
namespace Go.Proofs.YtjdlgbkpdfaloaaDoor
open Go Go.V
set_option linter.unusedSimpArgs false
set_option linter.unusedVariables false

/-- A digest's sum. -/
def sumB (C : List Nat → List UInt8 → List Nat) (s : DS) : List UInt8 := (runs C s (padL s.many)).h.flatMap be4
theorem be4s_length (l : List Nat) : (l.flatMap be4).length = 4 * l.length := by
  induction l with
  | nil => rfl
  | cons x l ih => simp only [List.flatMap_cons, List.length_append, List.length_cons, ih]; simp [be4]; omega
theorem padL_len (n : Nat) : (n + (padL n).length) % 64 = 0 ∧ (padL n).length ≤ 72 := by
  simp only [padL, List.length_cons, List.length_append, List.length_replicate, be4, List.length_nil, padZ]
  omega

theorem flats_Bs (l : List UInt8) : flats (Bs l) = true := by
  induction l with
  | nil => rfl
  | cons c l ih => rw [show Bs (c :: l) = B c :: Bs l from rfl]; simp [flats, B, flat, ih]
theorem ares_cell {P : Program} {ty : TypeId} {nt : Nat} {s : List (Nat × AV)} {os : List AObj} {x r n : Nat} {cs : List AV} (hx : lk s x = .ptr r 0) (ho : os[r]? = some (.cells cs)) (hn : tsz P ty = some n) (hag : isAggD (P.underlying ty) = some true) (hl : cs.length = n) :
    ares P [ty] [.cell x ty] ⟨nt, s, os⟩ = some (((0 + n ≤ cs.length) ∧ noref (.agg cs) = true) ∧ True, .agg cs) := by
  have ht : (cs.drop 0).take n = cs := by rw [List.drop_zero]; exact List.take_of_length_le (by omega)
  simp only [ares, aress, ares1, hx, aload, ho, apart, hag, hn, ht, afin]
theorem nats_getD (h : List Nat) (i : Nat) (hi : i < h.length) : (nats h).getD i 0 = ((h.getD i 0 : Nat) : Int) := by
  simp [nats, List.getD_eq_getElem?_getD, hi]
theorem take_be4 (h : List Nat) (i : Nat) (hi : i < h.length) : (h.take (i + 1)).flatMap be4 = (h.take i).flatMap be4 ++ be4 (h.getD i 0) := by
  rw [List.take_add_one, List.getElem?_eq_getElem hi, List.flatMap_append, List.getD_eq_getElem?_getD, List.getElem?_eq_getElem hi]
  simp

theorem sum_dok {C : List Nat → List UInt8 → List Nat} (hC : COk C) (s : DS) (hs : DOk s) (hm : s.many ≤ 900000000) :
    ACalls Tryd.prog GP 41 [.ptr 0 0] [.cells (DC s.h s.rest s.many)] (fun v os => os = [.cells (DC s.h s.rest s.many)] ∧ v = .agg (Bs (sumB C s))) := by
  have hh := words8_length hs.1
  have hr := hs.2
  have hDl := DC_length s.h s.rest s.many hh hr
  have h72 := DC_get72 s.h s.rest s.many hh hr
  have hp := padL_len s.many
  have cC := (clone_ok s.h s.rest s.many hh hr).g (G := GP)
  have cW := write_ok hC s hs (padL s.many) .no (by omega)
  have cP := (pad_ok s.many (by omega)).g (G := GP)
  have hok := runs_ok hC.1 hs (padL s.many)
  have hn := DC_norefs s.h s.rest s.many
  unfold sumB
  generalize runs C s (padL s.many) = e at cW hok
  generalize padL s.many = pl at *
  have hh2 := words8_length hok.1
  have hDl2 := DC_length e.h e.rest e.many hh2 hok.2
  have h8 := DC_take8 e.h e.rest e.many hh2
  have hn2 := DC_norefs e.h e.rest e.many
  generalize DC s.h s.rest s.many = D at *
  generalize DC e.h e.rest e.many = D2 at *
  obtain ⟨z, hz, hzl⟩ : ∃ z : List UInt8, (zvs .u8 32).map cav = Bs z ∧ z.length = 32 := ⟨List.replicate 32 0, by simp [zvs, Bs, B, cav], by simp⟩
  refine acallsH_of_awp Tryd.func41 rfl rfl Tryd.ntmps41 (rts := #[47]) rfl Tryd.results41 (by simp) ?_
  simp only [argSlots, Nat.reduceAdd]
  refine awp_seq_k fun K hK => awp_region [] ?_
  simp only [List.length_cons, List.length_nil, Nat.zero_add, K_eqs, aalloc, tzeros, hz, List.cons_append, List.nil_append, Nat.reduceLT, K_nil, Then, true_and, K_ops]
  (repeat' apply And.intro) <;> try (first | exact True.intro | omega)
  refine hK _ ?_
  clear hK K
  refine awp_seq_k fun K hK => awp_region [1000008] ?_
  simp only [List.length_cons, List.length_nil, Nat.zero_add, K_eqs, Nat.reduceLT, K_ops, reduceCtorEq, if_true, if_false, K_call, Nat.reduceAdd, List.contains_cons, beq_self_eq_true, List.contains_nil, Bool.or_false, List.map_cons, Nat.reduceEqDiff, List.map_nil, Nat.reduceBEq, Bool.false_eq_true, aviews, aview, true_and]
  refine andH_one (v' := .ptr 2 0) 0 (.cells D) rfl (by simpa [objOk] using hn) (by simp [hviews, hview]) cC (by simp [objOk, hn]) (by simp [hres]) ?_
  simp only [List.set_cons_zero, List.cons_append, List.nil_append, RestH_eqs, K_eqs, Nat.reduceLT, K_ops, Nat.reduceEqDiff, reduceCtorEq, if_false, if_true, K_nil, Then, true_and]
  refine hK _ ?_
  clear hK K
  refine awp_keep [0, 2, 3] ?_
  simp only [keep_eqs, K_ops, Nat.reduceEqDiff, if_true, if_false]
  refine awp_seq_k fun K hK => awp_region [1000015] ?_
  simp only [List.length_cons, List.length_nil, Nat.zero_add, K_eqs, Nat.reduceLT, K_ops, reduceCtorEq, Nat.reduceEqDiff, if_true, if_false, anil, afieldAddr, Tryd.underlying66, List.getElem?_toArray, List.getElem?_cons_succ, List.getElem?_cons_zero, tszs, ne_eq, not_false_eq_true, true_and, aload, List.contains_cons, Nat.reduceBEq, List.contains_nil, Bool.or_false, Bool.false_eq_true, apart, isAggD, Tryd.underlying56, K_call, Nat.reduceAdd, List.map_cons, List.map_nil, aviews, aview, ntok, List.headD_cons, hDl, h72, noref, and_true]
  refine andC_eq (by simp [norefs_Bs, norefs, noref]) (cP) (by simp [noref, norefs, norefs_Bs, flat]) ?_
  simp only [RestC_eqs, K_call, Nat.reduceLT, Nat.reduceAdd, List.contains_cons, beq_self_eq_true, List.contains_nil, Bool.or_false, K_ops, List.map_cons, Nat.reduceEqDiff, reduceCtorEq, if_false, if_true, List.map_nil, Nat.reduceBEq, Bool.false_eq_true, aviews, aview, norefs_Bs, ntok, and_true, true_and]
  refine andH_one (v' := .tup []) 2 (.cells D) rfl (by simpa [objOk] using hn) (by simp [hviews, hview, norefs_Bs, ntok]) cW (by simp [objOk, hn2]) (by simp [hres, noref, norefs]) ?_
  simp only [List.set_cons_succ, List.set_cons_zero, List.append_nil, RestH_eqs, K_nil, Then]
  refine hK _ ?_
  clear hK K
  refine awp_keep [2, 3] ?_
  simp only [keep_eqs, K_ops, Nat.reduceEqDiff, if_true, if_false]
  refine awp_seq_k fun K hK => awp_region [] ?_
  simp only [List.length_cons, List.length_nil, Nat.zero_add, K_eqs, Nat.reduceLT, K_ops, cav, K_nil, Then, true_and]
  (repeat' apply And.intro) <;> try (first | exact True.intro | omega)
  refine hK _ ?_
  clear hK K
  refine awp_noperm 4 rfl ?_
  refine awp_keep [2, 3, 4] ?_
  simp only [keep_eqs, K_ops, Nat.reduceEqDiff, if_true, if_false]
  refine awp_seq_k fun K1 hK1 => ?_
  refine awp_seq_k fun K hK => awp_region [] ?_
  simp only [List.length_cons, List.length_nil, Nat.zero_add, K_eqs, Nat.reduceLT, K_ops, Nat.reduceEqDiff, if_false, if_true, anil, afieldAddr, Tryd.underlying66, List.getElem?_toArray, List.getElem?_cons_zero, tszs, ne_eq, reduceCtorEq, not_false_eq_true, Nat.add_zero, true_and, List.drop_zero, aload, List.contains_nil, Bool.false_eq_true, apart, isAggD, Tryd.underlying25, cav, K_nil, Then, List.getElem?_cons_succ, hDl2, Nat.reduceLeDiff, h8]
  refine hK _ ?_
  clear hK K
  refine awp_keep [2, 4, 19, 20] ?_
  simp only [keep_eqs, K_ops, Nat.reduceEqDiff, if_true, if_false]
  have hnl : (nats e.h).length = 8 := by rw [nats_length, hh2]
  refine awp_block ?_
  refine awp_loop_from (fun i : Nat => ⟨30, [(2, .ptr 1 0), (4, .sl ((e.h.take i).flatMap be4).length (Bs ((e.h.take i).flatMap be4)) .no), (19, .agg (Is .u32 (nats e.h))), (20, .val (.int .i64 (i : Int)))], [.cells D, .cells (Bs z), .cells D2]⟩)
    (fun i => i ≤ 8) (fun i => 8 - i) 0 (by omega) (.of_keep [2, 4, 19, 20] rfl) ?_
  intro i hi
  refine awp_seq_k fun K hK => awp_region [] ?_
  simp only [List.length_cons, List.length_nil, Nat.zero_add, K_eqs, K_ops, Nat.reduceEqDiff, if_true, if_false, cav, K_int, aint, d_lt, Nat.reduceLT, K_nil, Then, true_and]
  (repeat' apply And.intro) <;> try (first | exact True.intro | omega)
  refine hK _ ?_
  clear hK K
  refine awp_seq ?_
  refine awp_cond rfl rfl (fun h => ?_) (fun h => ?_)
  · have hlt : i < 8 := by have := of_decide_eq_true h; omega
    refine awp_skip ?_
    simp only [Then]
    refine awp_keep [2, 4, 19, 20] ?_
    simp only [keep_eqs, K_ops, Nat.reduceEqDiff, if_true, if_false]
    have hget := nats_getD e.h i (by omega)
    have htk := take_be4 e.h i (by omega)
    have hlen := be4s_length (e.h.take i)
    have hlen1 := be4s_length (e.h.take (i + 1))
    rw [List.length_take] at hlen hlen1
    have e1 : ((e.h.take i).flatMap be4).length + 4 = ((e.h.take (i + 1)).flatMap be4).length := by omega
    have cPut := (put_ok ((e.h.take i).flatMap be4) .no (e.h.getD i 0) (by omega)).g (G := GP)
    rw [← htk, e1] at cPut
    generalize (e.h.take i).flatMap be4 = A at cPut hlen e1 ⊢
    generalize e.h.getD i 0 = x at cPut hget
    refine awp_seq ?_
    refine awp_block ?_
    refine awp_seq_k fun K hK => awp_region [] ?_
    have hgI : (Is .u32 (nats e.h)).getD i .top = .val (.int .u32 (x : Int)) := by rw [Is_getD (by omega), hget]; rfl
    simp only [List.length_cons, List.length_nil, Nat.zero_add, K_eqs, aidx, K_ops, Nat.reduceEqDiff, if_true, if_false, Tryd.underlying25, tszs, apart, isAggD, Tryd.underlying23, Int.toNat_natCast, Nat.mul_one, Is_length, hnl, hgI, Int.cast_ofNat_Int, Nat.reduceLT, K_nil, Then, true_and]
    refine ⟨⟨⟨by omega, by omega⟩, by omega⟩, hK _ ?_⟩
    clear hK K
    refine awp_keep [2, 4, 6, 19, 20] ?_
    simp only [keep_eqs, K_ops, Nat.reduceEqDiff, if_true, if_false]
    refine awp_region [] ?_
    simp only [List.length_cons, List.length_nil, Nat.zero_add, K_eqs, Nat.reduceLT, K_ops, Nat.reduceEqDiff, if_false, if_true, K_call, Nat.reduceAdd, List.contains_nil, Bool.false_eq_true, List.map_cons, List.map_nil, aviews, aview, norefs_Bs, ntok, noref, and_true, Bool.or_false, true_and]
    refine andC_eq (by simp [norefs_Bs, norefs, noref]) (cPut) (by simp [noref, norefs, norefs_Bs, flat]) ?_
    simp only [RestC_eqs, K_eqs, Nat.reduceLT, K_ops, Nat.reduceEqDiff, if_false, if_true, K_nil, true_and]
    simp only [InBlock, Then]
    refine awp_keep [2, 4, 19, 20] ?_
    simp only [keep_eqs, K_ops, Nat.reduceEqDiff, if_true, if_false]
    have h6 : IntKind.i64.wrap ((i + 1 : Nat) : Int) = ((i + 1 : Nat) : Int) := n_i64 (by omega)
    refine awp_region [] ?_
    simp only [K_eqs, K_ops, Nat.reduceEqDiff, if_true, if_false, cav, K_int, aint, n_add, h6, Nat.reduceLT, K_nil, Then, true_and]
    refine ⟨i + 1, by omega, by omega, .of_keep [2, 4, 19, 20] rfl⟩
  · have he : i = 8 := by have := of_decide_eq_false h; omega
    subst he
    refine awp_exit ?_
    simp only [Then, InBlock, if_true]
    refine hK1 _ ?_
    clear hK1 K1
    have htk : e.h.take 8 = e.h := List.take_of_length_le (by omega)
    have hlen := be4s_length e.h
    rw [hh2] at hlen
    rw [htk]
    generalize e.h.flatMap be4 = A at hlen ⊢
    refine awp_keep [2, 4] ?_
    simp only [keep_eqs, K_ops, Nat.reduceEqDiff, if_true, if_false]
    have hA : A.length = 32 := hlen
    have ht32 : A.take 32 = A := List.take_of_length_le (by omega)
    have zd : z.drop 32 = [] := List.drop_eq_nil_of_le (by omega)
    refine awp_seq_k fun K hK => awp_region [] ?_
    simp only [hA, List.length_cons, List.length_nil, Nat.zero_add, K_eqs, Nat.reduceLT, K_ops, Nat.reduceEqDiff, if_true, if_false, aarrayAt, Tryd.underlying47, Bs_length, Nat.le_refl, and_true, aload, List.contains_nil, Bool.false_eq_true, apart, isAggD, tszs, List.drop_zero, K_store, astore, List.getElem?_cons_succ, List.getElem?_cons_zero, acells, hzl, spl, List.take_zero, List.nil_append, Bs_drop, List.set_cons_succ, List.set_cons_zero, K_nil, Then, true_and, Bs_take, ht32, Bs_one, zd, Bs_nil, List.append_nil]
    refine hK _ ?_
    clear hK K
    refine awp_keep [2] ?_
    simp only [keep_eqs, K_ops, Nat.reduceEqDiff, if_true, if_false]
    refine awp_ret ?_
    have hsz : tsz Tryd.prog 47 = some 32 := by simp only [tszs]
    exact FinH_one (.inr rfl) rfl (by simpa [objOk] using hn) (ares_cell rfl rfl hsz (by rw [Tryd.underlying47]; rfl) (by rw [Bs_length, hA])) ⟨⟨by rw [Bs_length, hA]; omega, by simp [noref, norefs_Bs]⟩, trivial⟩ (by simp [flat, flats_Bs]) ⟨rfl, rfl⟩

theorem sumB_length {C : List Nat → List UInt8 → List Nat} (hC : COk C) (s : DS) (hs : DOk s) : (sumB C s).length = 32 := by
  rw [sumB, be4s_length, words8_length (runs_ok hC.1 hs (padL s.many)).1]
end Go.Proofs.YtjdlgbkpdfaloaaDoor
/- The walk of the sum of parts. -/
namespace Go.Proofs.YtjdlgbkpdfaloaaDoor
open Go Go.V
set_option linter.unusedSimpArgs false
set_option linter.unusedVariables false

/-- Parts, as a row. -/
def PS (l : List (List UInt8)) : List AV := l.map fun b => .sl b.length (Bs b) .no
theorem PS_length (l : List (List UInt8)) : (PS l).length = l.length := List.length_map _
theorem PS_getD (l : List (List UInt8)) (i : Nat) (h : i < l.length) : (PS l).getD i .top = .sl (l.getD i []).length (Bs (l.getD i [])) .no := by
  simp [PS, List.getD_eq_getElem?_getD, List.getElem?_map, List.getElem?_eq_getElem h]
theorem norefs_PS (l : List (List UInt8)) : norefs (PS l) = true := by
  induction l with
  | nil => rfl
  | cons b l ih => rw [show PS (b :: l) = .sl b.length (Bs b) .no :: PS l from rfl]; simp [norefs, noref, norefs_Bs, ih]
theorem PS_oneC (l : List (List UInt8)) : (PS l).all oneC = true := by
  rw [List.all_eq_true]
  intro x hx
  obtain ⟨z, _, rfl⟩ := List.mem_map.1 hx
  rfl
theorem PS_append (a b : List (List UInt8)) : PS (a ++ b) = PS a ++ PS b := List.map_append
theorem PS_one (b : List UInt8) : PS [b] = [.sl b.length (Bs b) .no] := rfl

def start0 : DS := ⟨start8, List.replicate 64 0, 0⟩
theorem start0_ok : DOk start0 := ⟨⟨_, _, _, _, _, _, _, _, rfl, by omega, by omega, by omega, by omega, by omega, by omega, by omega, by omega⟩, rfl⟩
/-- The sum of bytes. -/
def shaB (C : List Nat → List UInt8 → List Nat) (l : List UInt8) : List UInt8 := sumB C (runs C start0 l)

theorem take_flat (l : List (List UInt8)) (i : Nat) (h : i < l.length) : (l.take (i + 1)).flatten = (l.take i).flatten ++ l.getD i [] := by
  rw [List.take_add_one, List.getElem?_eq_getElem h, List.flatten_append, List.getD_eq_getElem?_getD, List.getElem?_eq_getElem h]
  simp
theorem take_flat_le (l : List (List UInt8)) (i : Nat) : (l.take i).flatten.length ≤ l.flatten.length := by
  conv => rhs; rw [← List.take_append_drop i l, List.flatten_append, List.length_append]
  omega

theorem of_dok {C : List Nat → List UInt8 → List Nat} (hC : COk C) (l : List (List UInt8)) (p : Perm) (hl : l.flatten.length ≤ 900000000) (hl2 : l.length ≤ 900000000) :
    ACalls Tryd.prog GP 36 [.sl l.length (PS l) p] [] (fun v os => os = [] ∧ v = .agg (Bs (shaB C l.flatten))) := by
  have cN := new_ok.g (G := GP)
  rw [show DC start8 (List.replicate 64 0) 0 = DC start0.h start0.rest start0.many from rfl] at cN
  have hn0 := DC_norefs start0.h start0.rest start0.many
  obtain ⟨z, hz, hzl⟩ : ∃ z : List UInt8, (zvs .u8 32).map cav = Bs z ∧ z.length = 32 := ⟨List.replicate 32 0, by simp [zvs, Bs, B, cav], by simp⟩
  have hpl := PS_length l
  refine acalls_of_awp Tryd.func36 rfl rfl Tryd.ntmps36 (rts := #[47]) rfl Tryd.results36 (by simp) ?_
  simp only [argSlots, Nat.reduceAdd]
  refine awp_seq_k fun K hK => awp_region [] ?_
  simp only [K_eqs, aalloc, tzeros, List.length_nil, hz, List.nil_append, Nat.reduceLT, K_nil, Then, true_and, K_ops]
  (repeat' apply And.intro) <;> try (first | exact True.intro | omega)
  refine hK _ ?_
  clear hK K
  refine awp_seq_k fun K hK => awp_region [1000006] ?_
  simp only [K_call, Nat.reduceLT, Nat.reduceAdd, List.contains_cons, beq_self_eq_true, List.contains_nil, Bool.or_false, K_ops, List.map_nil, Nat.reduceBEq, Bool.false_eq_true, if_false, aviews, if_true, true_and]
  refine andH_ptr (by simp [hviews]) cN (by simpa [objOk] using hn0) ?_
  simp only [List.length_cons, List.length_nil, Nat.zero_add, List.cons_append, List.nil_append, RestH_eqs, K_eqs, Nat.reduceLT, K_ops, Nat.reduceEqDiff, reduceCtorEq, if_false, if_true, K_nil, Then, true_and]
  refine hK _ ?_
  clear hK K
  refine awp_keep [0, 2, 3] ?_
  simp only [keep_eqs, K_ops, Nat.reduceEqDiff, if_true, if_false]
  refine awp_seq_k fun K1 hK1 => ?_
  refine awp_seq_k fun K hK => awp_region [] ?_
  simp only [K_eqs, Nat.reduceLT, K_ops, reduceCtorEq, if_false, if_true, abuiltin, List.map_cons, Nat.reduceEqDiff, List.map_nil, alen, Tryd.underlying45, cav, K_nil, Then, true_and]
  (repeat' apply And.intro) <;> try (first | exact True.intro | omega)
  refine hK _ ?_
  clear hK K
  refine awp_keep [2, 3, 7, 8, 9] ?_
  simp only [keep_eqs, K_ops, Nat.reduceEqDiff, if_true, if_false]
  refine awp_block ?_
  refine awp_loop_from (fun i : Nat => ⟨19, [(2, .ptr 0 0), (3, .ptr 1 0), (7, .sl l.length (PS l) p), (8, .val (.int .i64 (l.length : Int))), (9, .val (.int .i64 (i : Int)))], [.cells (Bs z), .cells (DC (runs C start0 (l.take i).flatten).h (runs C start0 (l.take i).flatten).rest (runs C start0 (l.take i).flatten).many)]⟩)
    (fun i => i ≤ l.length) (fun i => l.length - i) 0 (by omega) (.of_keep [2, 3, 7, 8, 9] rfl) ?_
  intro i hi
  refine awp_seq_k fun K hK => awp_region [] ?_
  simp only [K_eqs, K_ops, Nat.reduceEqDiff, if_true, if_false, K_int, aint, d_ltn, Nat.reduceLT, K_nil, Then, true_and]
  (repeat' apply And.intro) <;> try (first | exact True.intro | omega)
  refine hK _ ?_
  clear hK K
  refine awp_seq ?_
  refine awp_cond rfl rfl (fun h => ?_) (fun h => ?_)
  · have hlt : i < l.length := of_decide_eq_true h
    refine awp_skip ?_
    simp only [Then]
    refine awp_keep [2, 3, 7, 8, 9] ?_
    simp only [keep_eqs, K_ops, Nat.reduceEqDiff, if_true, if_false]
    have hget := PS_getD l i hlt
    have hfl := take_flat l i hlt
    have hle := take_flat_le l i
    have hle1 := take_flat_le l (i + 1)
    have hrm := runs_many C start0 (l.take i).flatten
    have hflen : ((l.take (i + 1)).flatten).length = ((l.take i).flatten).length + (l.getD i []).length := by rw [hfl, List.length_append]
    have cW := write_ok hC (runs C start0 (l.take i).flatten) (runs_ok hC.1 start0_ok _) (l.getD i []) .no (by rw [hrm, show start0.many = 0 from rfl]; omega)
    rw [← runs_append, ← hfl] at cW
    have hn1 := DC_norefs (runs C start0 (l.take i).flatten).h (runs C start0 (l.take i).flatten).rest (runs C start0 (l.take i).flatten).many
    have hn2 := DC_norefs (runs C start0 (l.take (i + 1)).flatten).h (runs C start0 (l.take (i + 1)).flatten).rest (runs C start0 (l.take (i + 1)).flatten).many
    generalize l.getD i [] = b at cW hget hflen
    generalize DC (runs C start0 (l.take i).flatten).h (runs C start0 (l.take i).flatten).rest (runs C start0 (l.take i).flatten).many = D1 at *
    generalize hD2 : DC (runs C start0 (l.take (i + 1)).flatten).h (runs C start0 (l.take (i + 1)).flatten).rest (runs C start0 (l.take (i + 1)).flatten).many = D2 at *
    refine awp_seq ?_
    refine awp_block ?_
    refine awp_seq_k fun K hK => awp_region [] ?_
    simp only [K_eqs, aidxAddr, K_ops, Nat.reduceEqDiff, if_true, if_false, Tryd.underlying45, tszs, hpl, Nat.mul_one, Nat.reduceLT, and_true, true_and, Int.toNat_natCast, aload, List.contains_nil, Bool.false_eq_true, apart, isAggD, Tryd.underlying27, K_nil, Then, List.length_drop, drop_getD, Nat.add_zero, hget]
    refine ⟨by omega, by omega, hK _ ?_⟩
    clear hK K
    refine awp_keep [2, 3, 5, 7, 8, 9] ?_
    simp only [keep_eqs, K_ops, Nat.reduceEqDiff, if_true, if_false]
    refine awp_region [1000015] ?_
    simp only [K_eqs, Nat.reduceLT, K_ops, Nat.reduceEqDiff, if_false, if_true, K_call, Nat.reduceAdd, List.contains_cons, beq_self_eq_true, List.contains_nil, Bool.or_false, List.map_cons, List.map_nil, Nat.reduceBEq, Bool.false_eq_true, aviews, aview, norefs_Bs, ntok, and_true, true_and]
    refine andH_one (v' := .tup []) 1 (.cells D1) rfl (by simpa [objOk] using hn1) (by simp [hviews, hview, norefs_Bs, ntok]) cW (by simp [objOk, hn2]) (by simp [hres, noref, norefs]) ?_
    simp only [List.set_cons_succ, List.set_cons_zero, List.append_nil, RestH_eqs, K_nil]
    subst hD2
    simp only [InBlock, Then]
    refine awp_keep [2, 3, 7, 8, 9] ?_
    simp only [keep_eqs, K_ops, Nat.reduceEqDiff, if_true, if_false]
    have h6 : IntKind.i64.wrap ((i + 1 : Nat) : Int) = ((i + 1 : Nat) : Int) := n_i64 (by omega)
    refine awp_region [] ?_
    simp only [K_eqs, K_ops, Nat.reduceEqDiff, if_true, if_false, cav, K_int, aint, n_add, h6, Nat.reduceLT, K_nil, Then, true_and]
    refine ⟨i + 1, by omega, by omega, .of_keep [2, 3, 7, 8, 9] rfl⟩
  · have he : i = l.length := by have := of_decide_eq_false h; omega
    subst he
    refine awp_exit ?_
    simp only [Then, InBlock, if_true]
    refine hK1 _ ?_
    clear hK1 K1
    rw [List.take_length]
    have hrm := runs_many C start0 l.flatten
    have cS := sum_dok hC (runs C start0 l.flatten) (runs_ok hC.1 start0_ok _) (by rw [hrm, show start0.many = 0 from rfl]; omega)
    have hn1 := DC_norefs (runs C start0 l.flatten).h (runs C start0 l.flatten).rest (runs C start0 l.flatten).many
    have hsl : (sumB C (runs C start0 l.flatten)).length = 32 := sumB_length hC _ (runs_ok hC.1 start0_ok _)
    show awp _ _ _ _ (V.Fin _ _ _ fun v os => os = [] ∧ v = .agg (Bs (sumB C (runs C start0 l.flatten))))
    generalize DC (runs C start0 l.flatten).h (runs C start0 l.flatten).rest (runs C start0 l.flatten).many = D1 at *
    generalize sumB C (runs C start0 l.flatten) = S at *
    refine awp_keep [2, 3] ?_
    simp only [keep_eqs, K_ops, Nat.reduceEqDiff, if_true, if_false]
    have zd : z.drop 32 = [] := List.drop_eq_nil_of_le (by omega)
    refine awp_seq_k fun K hK => awp_region [1000018] ?_
    simp only [K_eqs, Nat.reduceLT, K_ops, Nat.reduceEqDiff, if_true, if_false, K_call, Nat.reduceAdd, List.contains_cons, beq_self_eq_true, List.contains_nil, Bool.or_false, List.map_cons, List.map_nil, Nat.reduceBEq, Bool.false_eq_true, aviews, aview, true_and]
    refine andH_one (v' := .agg (Bs S)) 1 (.cells D1) rfl (by simpa [objOk] using hn1) (by simp [hviews, hview]) cS (by simp [objOk, hn1]) (by simp [hres, noref, norefs_Bs]) ?_
    simp only [List.set_cons_succ, List.set_cons_zero, List.append_nil, RestH_eqs, K_store, astore, K_ops, Nat.reduceEqDiff, if_false, if_true, List.getElem?_cons_zero, tszs, acells, Bs_one, Bs_length, hsl, Nat.zero_add, hzl, Nat.le_refl, Nat.reduceLT, and_true, spl, List.take_zero, List.nil_append, Bs_drop, zd, Bs_nil, K_nil, Then, true_and]
    refine hK _ ?_
    clear hK K
    refine awp_keep [2] ?_
    simp only [keep_eqs, K_ops, Nat.reduceEqDiff, if_true, if_false]
    have ht32 : S.take 32 = S := List.take_of_length_le (by omega)
    refine awp_ret ?_
    simp only [K_fin, ares, aress, ares1, aload, K_ops, if_true, List.getElem?_cons_zero, apart, isAggD, Tryd.underlying47, tszs, Nat.zero_add, Bs_length, hsl, Nat.le_refl, List.drop_zero, Bs_take, ht32, afin, noref, norefs_Bs, and_true, true_and]
end Go.Proofs.YtjdlgbkpdfaloaaDoor
/- The sum of 'abc'. -/
namespace Go.Proofs.YtjdlgbkpdfaloaaDoor
open Go Go.V
set_option linter.unusedSimpArgs false
set_option linter.unusedVariables false

/-- The eight words behind a block. -/
def Cq (h : List Nat) (b : List UInt8) : List Nat := adds (rounds h Kn (word b) 64) h
theorem Cq_words (h : List Nat) (b : List UInt8) (hw : words8 h) : words8 (Cq h b) := by
  obtain ⟨a0, a1, a2, a3, a4, a5, a6, a7, rfl, _⟩ := hw
  obtain ⟨c0, c1, c2, c3, c4, c5, c6, c7, hr, _⟩ := rounds_words (s := [a0, a1, a2, a3, a4, a5, a6, a7]) ⟨_, _, _, _, _, _, _, _, rfl, ‹_›⟩ Kn (word b) 64
  unfold Cq
  rw [hr]
  generalize word b = W
  exact ⟨_, _, _, _, _, _, _, _, rfl, Nat.mod_lt _ (by omega), Nat.mod_lt _ (by omega), Nat.mod_lt _ (by omega), Nat.mod_lt _ (by omega), Nat.mod_lt _ (by omega), Nat.mod_lt _ (by omega), Nat.mod_lt _ (by omega), Nat.mod_lt _ (by omega)⟩
theorem Cq_ok : COk Cq := ⟨fun h b hw _ => Cq_words h b hw, fun h b hw hb => comp_ok h b hw hb⟩
def abcF : List Nat := [3128432319, 2399260650, 1094795486, 1571693091, 2953011619, 2518121116, 3021012833, 4060091821]
theorem Cq_abc : Cq start8 abcB = abcF := abc_sum

/-- What is to be shown of a block's words. -/
structure CAll (C : List Nat → List UInt8 → List Nat) : Prop where
  ok : COk C
  abc : C start8 abcB = abcF
theorem Cq_all : CAll Cq := ⟨Cq_ok, Cq_abc⟩

/-- The sum as the document has it: all bytes at once. -/
def refB (C : List Nat → List UInt8 → List Nat) (l : List UInt8) : List UInt8 := (blocks C start8 (l ++ padL l.length) ((l ++ padL l.length).length / 64)).flatMap be4
theorem shaB_ref (C : List Nat → List UInt8 → List Nat) (l : List UInt8) : shaB C l = refB C l := by
  have hm : (runs C start0 l).many = l.length := by rw [runs_many]; simp [start0]
  unfold shaB sumB refB
  rw [hm, ← runs_append, ← (runs_blocks (C := C) start8 (List.replicate 64 0) rfl (l ++ padL l.length)).1]
  rfl
def abcD : List UInt8 := [0xba, 0x78, 0x16, 0xbf, 0x8f, 0x01, 0xcf, 0xea, 0x41, 0x41, 0x40, 0xde, 0x5d, 0xae, 0x22, 0x23, 0xb0, 0x03, 0x61, 0xa3, 0x96, 0x17, 0x7a, 0x9c, 0xb4, 0x10, 0xff, 0x61, 0xf2, 0x00, 0x15, 0xad]
theorem sha_abc {C : List Nat → List UInt8 → List Nat} (hC : CAll C) : shaB C [97, 98, 99] = abcD := by
  have e : ([97, 98, 99] : List UInt8) ++ padL ([97, 98, 99] : List UInt8).length = abcB := by decide +kernel
  have e2 : abcB.length / 64 = 1 := by decide +kernel
  rw [shaB_ref, refB, e, e2]
  show (C start8 ((abcB.drop (64 * 0)).take 64)).flatMap be4 = _
  rw [show (abcB.drop (64 * 0)).take 64 = abcB by decide +kernel, hC.abc]
  decide +kernel

theorem dalive_ok {C : List Nat → List UInt8 → List Nat} (hC : CAll C) : ACalls Tryd.prog GP 35 [] [] (fun r os => os = [] ∧ r = .val (.bool true)) := by
  have cO := of_dok hC.ok [[97, 98, 99]] .full (by decide) (by decide)
  rw [show ([[97, 98, 99]] : List (List UInt8)).flatten = [97, 98, 99] from rfl, sha_abc hC, PS_one] at cO
  obtain ⟨z, hz, hzl⟩ : ∃ z : List UInt8, (zvs .u8 32).map cav = Bs z ∧ z.length = 32 := ⟨List.replicate 32 0, by simp [zvs, Bs, B, cav], by simp⟩
  have zd : z.drop 32 = [] := List.drop_eq_nil_of_le (by omega)
  have hdl : abcD.length = 32 := rfl
  have hd32 : abcD.take 32 = abcD := rfl
  refine acalls_of_awp Tryd.func35 rfl rfl Tryd.ntmps35 (rts := #[4]) rfl Tryd.results35 (by simp) ?_
  simp only [argSlots, Nat.reduceAdd]
  refine awp_seq_k fun K hK => awp_region [] ?_
  simp only [K_eqs, Nat.reduceLT, K_ops, cav, K_nil, Then, true_and]
  (repeat' apply And.intro) <;> try (first | exact True.intro | omega)
  refine hK _ ?_
  clear hK K
  refine awp_seq_k fun K hK => ?_
  have hb : match abuildOwn Tryd.prog 27 3 (aparts (ev GP [(0, AV.val (Value.bool false))]) #[(0, Operand.const (Value.int IntKind.u8 97)), (1, Operand.const (Value.int IntKind.u8 98)), (2, Operand.const (Value.int IntKind.u8 99))]) [] with
    | .ok C v os => C ∧ v = .osl 0 0 3 (some 3) ∧ os = [.cells [B 97, B 98, B 99]]
    | .bad => False := by
    have hz3 : zrep [Value.int IntKind.u8 0] 3 = [AV.val (.int .u8 0), AV.val (.int .u8 0), AV.val (.int .u8 0)] := rfl
    simp only [abuildOwn, Tryd.underlying27, tszs, tzeros, Nat.mul_one, hz3, aparts, List.map_cons, K_ops, cav, List.map_nil, afill, spl, List.take_zero, acells, List.nil_append, List.length_cons, List.length_nil, Nat.zero_add, List.drop_succ_cons, List.drop_zero, List.cons_append, List.take_succ_cons, Nat.reduceAdd, List.drop_nil, List.append_nil, Nat.le_refl, List.all_cons, oneC, Value.oneCell', List.all_nil, Bool.and_true, and_true, Nat.reduceLeDiff, B, UInt8.reduceToNat, Int.cast_ofNat_Int]
  obtain ⟨C', hb, hC'⟩ : ∃ C, abuildOwn Tryd.prog 27 3 (aparts (ev GP [(0, AV.val (Value.bool false))]) #[(0, Operand.const (Value.int IntKind.u8 97)), (1, Operand.const (Value.int IntKind.u8 98)), (2, Operand.const (Value.int IntKind.u8 99))]) [] = .ok C (.osl 0 0 3 (some 3)) [.cells [B 97, B 98, B 99]] ∧ C := by
    revert hb
    generalize abuildOwn Tryd.prog 27 3 (aparts (ev GP [(0, AV.val (Value.bool false))]) #[(0, Operand.const (Value.int IntKind.u8 97)), (1, Operand.const (Value.int IntKind.u8 98)), (2, Operand.const (Value.int IntKind.u8 99))]) [] = r
    cases r with
    | ok C v os =>
      rintro ⟨h1, rfl, rfl⟩
      exact ⟨C, rfl, h1⟩
    | bad => exact False.elim
  refine awp_region_conv [] (c := B 97) (cs := [B 98, B 99]) Tryd.underlying27 Tryd.underlying5 (by omega) (by omega) (by omega) hb hC' rfl ?_
  have hz1 : zrep [Value.slice none 0 0] 1 = [cav (.slice none 0 0)] := rfl
  have hbs : Bs [97, 98, 99] = [.val (.int .u8 97), .val (.int .u8 98), .val (.int .u8 99)] := rfl
  rw [hbs] at cO
  simp only [B, UInt8.reduceToNat, Int.cast_ofNat_Int, List.length_nil, List.nil_append, K_eqs, List.contains_nil, Bool.false_eq_true, abuildOwn, Tryd.underlying45, tszs, tzeros, Nat.mul_one, hz1, cav, aparts, List.map_cons, K_ops, Nat.reduceEqDiff, reduceCtorEq, if_false, if_true, List.map_nil, afill, spl, List.take_zero, acells, List.length_cons, Nat.zero_add, List.drop_succ_cons, List.drop_nil, List.append_nil, Nat.le_refl, List.all_cons, oneC, List.all_nil, Bool.and_true, and_true, Nat.reduceLeDiff, List.cons_append, abuildSlice, Nat.reduceLT, K_call, Nat.reduceAdd, aviews, aview, norefs, noref, ntok, Bool.or_false, true_and]
  refine andC_eq (by simp [norefs, noref]) cO (by simp [noref, norefs_Bs, flat, flats_Bs]) ?_
  have hZ : (Z 32).drop 32 = [] := List.drop_eq_nil_of_le (by rw [Z_length]; exact Nat.le_refl _)
  simp only [RestC_eqs, K_eqs, aalloc, tzeros, List.length_cons, List.length_nil, Nat.zero_add, zvs_u8, List.cons_append, List.nil_append, Nat.reduceLT, K_store, astore, K_ops, Nat.reduceEqDiff, reduceCtorEq, if_false, if_true, tszs, acells, Bs_one, Bs_length, hdl, and_true, spl, K_nil, Then, true_and, List.getElem?_cons_succ, List.getElem?_cons_zero, Z_length, Nat.le_refl, List.take_zero, Bs_drop, hZ, Bs_nil, List.append_nil, List.set_cons_succ, List.set_cons_zero]
  refine hK _ ?_
  clear hK K
  refine awp_keep [0, 1] ?_
  simp only [keep_eqs, K_ops, Nat.reduceEqDiff, if_true, if_false]
  have hlit : [AV.val (.int .u8 186), AV.val (.int .u8 120), AV.val (.int .u8 22), AV.val (.int .u8 191), AV.val (.int .u8 143), AV.val (.int .u8 1), AV.val (.int .u8 207), AV.val (.int .u8 234), AV.val (.int .u8 65), AV.val (.int .u8 65), AV.val (.int .u8 64), AV.val (.int .u8 222), AV.val (.int .u8 93), AV.val (.int .u8 174), AV.val (.int .u8 34), AV.val (.int .u8 35), AV.val (.int .u8 176), AV.val (.int .u8 3), AV.val (.int .u8 97), AV.val (.int .u8 163), AV.val (.int .u8 150), AV.val (.int .u8 23), AV.val (.int .u8 122), AV.val (.int .u8 156), AV.val (.int .u8 180), AV.val (.int .u8 16), AV.val (.int .u8 255), AV.val (.int .u8 97), AV.val (.int .u8 242), AV.val (.int .u8 0), AV.val (.int .u8 21), AV.val (.int .u8 173)] = Bs abcD := rfl
  refine awp_seq_k fun K hK => awp_region [] ?_
  simp only [K_eqs, aload, K_ops, reduceCtorEq, if_true, if_false, List.contains_nil, Bool.false_eq_true, List.getElem?_cons_succ, List.getElem?_cons_zero, apart, isAggD, Tryd.underlying47, tszs, Nat.zero_add, Bs_length, hdl, Nat.le_refl, List.drop_zero, Bs_take, hd32, Nat.reduceLT, abuild, tzeros, Nat.mul_one, zvs_u8, aparts, List.map_cons, cav, List.map_nil, afill, spl, List.take_zero, acells, List.nil_append, List.length_cons, List.length_nil, Bs_drop, List.cons_append, List.take_succ_cons, Nat.reduceAdd, List.drop_succ_cons, List.drop_drop, hlit, hZ, Bs_nil, List.append_nil, List.length_drop, Z_length, Nat.reduceSub, List.all_cons, oneC, Value.oneCell', List.all_nil, Bool.and_true, and_true, Nat.reduceLeDiff, Nat.reduceEqDiff, K_nil, Then, true_and, K_int, aagg, aggCmp, tgrds, aggEq_Bs, beq_self_eq_true]
  refine ⟨by kernel_rfl, hK _ ?_⟩
  clear hK K
  refine awp_keep [0] ?_
  simp only [keep_eqs, K_ops, Nat.reduceEqDiff, if_true, if_false]
  refine awp_ret ?_
  simp only [K_fin, ares, aress, ares1, afin, K_ops, if_true, noref, and_true, true_and]
end Go.Proofs.YtjdlgbkpdfaloaaDoor
/- The walks of the document's digest. -/
namespace Go.Proofs.YtjdlgbkpdfaloaaDoor
open Go Go.V
set_option linter.unusedSimpArgs false
set_option linter.unusedVariables false

/-- What is asked of the document's words of a block. -/
def RefC (C : List Nat → List UInt8 → List Nat) : Prop := ∀ h b, words8 h → b.length = 64 → ACalls Tryd.prog [] 33 [.sl 8 (Is .u32 (nats h)) .no, .sl 64 (Bs b) .no] [] (fun r os => os = [] ∧ r = .sl 8 (Is .u32 (nats (C h b))) .no)
theorem Cq_ref : RefC Cq := fun h b hw hb => refcomp_ok h b hw hb

set_option maxRecDepth 100000 in
theorem refstart8_ok : ACalls Tryd.prog [] 54 [] [] (fun r os => os = [] ∧ r = .sl 8 (Is .u32 (nats start8)) .full) := by
  refine acalls_of_awp Tryd.func54 rfl rfl Tryd.ntmps54 (rts := #[38]) rfl Tryd.results54 (by simp) ?_
  simp only [argSlots, Nat.reduceAdd]
  refine awp_seq_k fun K hK => awp_region [] ?_
  simp only [K_eqs, Nat.reduceLT, K_ops, cav, K_nil, Then, true_and]
  (repeat' apply And.intro) <;> try (first | exact True.intro | omega)
  refine hK _ ?_
  clear hK K
  refine awp_seq_k fun K hK => awp_region [] ?_
  simp only [K_eqs, List.contains_nil, Bool.false_eq_true, if_false]
  refine buildSlice_B (Is .u32 (nats start8)) Tryd.underlying38 (sz := 1) (z := [.int .u32 0]) (by simp only [tszs]) (by simp only [tzeros]) (by kernel_rfl) rfl (by omega) ?_
  simp only [Nat.reduceLT, K_ops, reduceCtorEq, if_false, if_true, K_nil, Then, true_and]
  refine hK _ ?_
  refine awp_ret ?_
  simp only [K_fin, ares, aress, ares1, afin, K_ops, reduceCtorEq, if_true, if_false, norefs_Is, ntok, and_true, true_and]

theorem blocks_words {C : List Nat → List UInt8 → List Nat} (hC : COk C) {h : List Nat} (hw : words8 h) (l : List UInt8) : ∀ n, 64 * n ≤ l.length → words8 (blocks C h l n)
  | 0, _ => hw
  | n + 1, hn => hC.1 _ _ (blocks_words hC hw l n (by omega)) (by rw [List.length_take, List.length_drop]; omega)

theorem words8_getD {h : List Nat} (hw : words8 h) (i : Nat) : h.getD i 0 < 4294967296 := by
  obtain ⟨a0, a1, a2, a3, a4, a5, a6, a7, rfl, h0, h1, h2, h3, h4, h5, h6, h7⟩ := hw
  rcases i with _ | _ | _ | _ | _ | _ | _ | _ | i <;> simp <;> omega

theorem refof_ok {C : List Nat → List UInt8 → List Nat} (hC : COk C) (hR : RefC C) (l : List UInt8) (p : Perm) (hl : l.length ≤ 900000000) :
    ACalls Tryd.prog GP 37 [.sl l.length (Bs l) p] [] (fun r os => os = [] ∧ r = .sl 32 (Bs (refB C l)) .no) := by
  have hp := padL_len l.length
  have cP := (refpad_ok l.length (by omega)).g (G := GP)
  have cS := refstart8_ok.g (G := GP)
  have hw1 : IntKind.u64.wrap (l.length : Int) = (l.length : Int) := by rw [n_u64, Nat.mod_eq_of_lt (by omega)]
  unfold refB
  refine acalls_of_awp Tryd.func37 rfl rfl Tryd.ntmps37 (rts := #[27]) rfl Tryd.results37 (by simp) ?_
  simp only [argSlots, Nat.reduceAdd]
  refine awp_seq_k fun K hK => awp_region [] ?_
  simp only [K_eqs, Nat.reduceLT, K_ops, cav, K_nil, Then, true_and]
  (repeat' apply And.intro) <;> try (first | exact True.intro | omega)
  refine hK _ ?_
  clear hK K
  refine awp_seq_k fun K hK => awp_region [] ?_
  simp only [K_eqs, List.contains_nil, Bool.false_eq_true, abuildOwn, Tryd.underlying27, tszs, tzeros, Nat.mul_one, zrep_byte, List.replicate_zero, Bs_nil, aparts, List.map_nil, afill, List.length_cons, List.length_nil, Nat.zero_add, Nat.reduceLeDiff, and_true, List.nil_append, abuildSlice, if_false, K_ops, Nat.reduceLT, reduceCtorEq, if_true, abuiltin, List.map_cons, Nat.reduceEqDiff, aappend, tbys, appSrc, srcCells, Bs_length, Bs_one, true_and, alen, K_conv, Tryd.underlying56, aconvO, aview, ntok, Tryd.underlying3, aconv, Option.isSome_some, K_call, Nat.reduceAdd, aviews, List.headD_cons, hw1, noref, Bool.or_false]
  refine ⟨⟨by omega, by omega⟩, ?_⟩
  refine andC_eq (by simp [norefs_Bs, norefs, noref]) (cP) (by simp [noref, norefs, norefs_Bs, flat]) ?_
  simp only [List.length_append, RestC_eqs, K_eqs, abuiltin, List.map_cons, K_ops, Nat.reduceEqDiff, reduceCtorEq, if_false, if_true, List.map_nil, aappend, Tryd.underlying27, tszs, tbys, tzeros, appSrc, srcCells, Bs_length, Nat.mul_one, List.getElem?_cons_zero, Nat.reduceLT, List.length_cons, List.length_nil, Nat.zero_add, Bs_one, and_true, true_and, ← Bs_append, List.set_cons_zero, K_nil, Then]
  refine ⟨⟨by omega, by omega⟩, hK _ ?_⟩
  clear hK K
  have hal : (l ++ padL l.length).length = l.length + (padL l.length).length := List.length_append
  generalize l ++ padL l.length = all at hal ⊢
  rw [← hal]
  refine awp_noperm 3 rfl ?_
  refine awp_keep [3] ?_
  simp only [keep_eqs, K_ops, Nat.reduceEqDiff, if_true, if_false]
  refine awp_seq_k fun K hK => awp_region [] ?_
  simp only [K_call, Nat.reduceLT, Nat.reduceAdd, List.contains_nil, Bool.false_eq_true, K_ops, List.map_nil, if_false, aviews, true_and]
  refine andC_eq trivial cS (by simp [noref, norefs_Is]) ?_
  simp only [RestC_eqs, K_eqs, Nat.reduceLT, K_ops, Nat.reduceEqDiff, if_false, if_true, K_nil, Then, true_and]
  refine hK _ ?_
  clear hK K
  refine awp_noperm 4 rfl ?_
  refine awp_keep [3, 4] ?_
  simp only [keep_eqs, K_ops, Nat.reduceEqDiff, if_true, if_false]
  refine awp_seq_k fun K1 hK1 => ?_
  refine awp_seq_k fun K hK => awp_region [] ?_
  simp only [K_eqs, Nat.reduceLT, K_ops, cav, K_nil, Then, true_and]
  (repeat' apply And.intro) <;> try (first | exact True.intro | omega)
  refine hK _ ?_
  clear hK K
  refine awp_keep [3, 4, 5] ?_
  simp only [keep_eqs, K_ops, Nat.reduceEqDiff, if_true, if_false]
  have h64 : 64 * (all.length / 64) = all.length := by omega
  refine awp_block ?_
  refine awp_loop_from (fun i : Nat => ⟨44, [(3, .sl all.length (Bs all) .no), (4, .sl 8 (Is .u32 (nats (blocks C start8 all i))) .no), (5, .val (.int .i64 ((64 * i : Nat) : Int)))], [.tok 1 all.length]⟩)
    (fun i => 64 * i ≤ all.length) (fun i => all.length / 64 - i) 0 (by omega) (.of_keep [3, 4, 5] rfl) ?_
  intro i hi
  have hwi := blocks_words hC start0_ok.1 all i hi
  change words8 (blocks C start8 all i) at hwi
  refine awp_seq_k fun K2 hK2 => ?_
  refine awp_seq_k fun K hK => awp_region [] ?_
  simp only [K_eqs, Nat.reduceLT, K_ops, Nat.reduceEqDiff, if_true, if_false, abuiltin, List.map_cons, List.map_nil, alen, Tryd.underlying27, K_nil, Then, true_and, K_int, aint, d_ltn]
  (repeat' apply And.intro) <;> try (first | exact True.intro | omega)
  refine hK _ ?_
  clear hK K
  refine awp_cond rfl rfl (fun h => ?_) (fun h => ?_)
  · have hlt : 64 * i < all.length := of_decide_eq_true h
    have hbl : ((all.drop (64 * i)).take 64).length = 64 := by rw [List.length_take, List.length_drop]; omega
    have cR := (hR (blocks C start8 all i) ((all.drop (64 * i)).take 64) hwi hbl).g (G := GP)
    refine awp_skip (hK2 _ ?_)
    clear hK2 K2
    refine awp_keep [3, 4, 5] ?_
    simp only [keep_eqs, K_ops, Nat.reduceEqDiff, if_true, if_false]
    refine awp_seq ?_
    refine awp_block ?_
    have w1 : IntKind.i64.wrap ((64 * i + 64 : Nat) : Int) = ((64 * i + 64 : Nat) : Int) := n_i64 (by omega)
    have e1 : (((64 * i + 64 : Nat) : Int) - ((64 * i : Nat) : Int)).toNat = 64 := by omega
    refine awp_region [] ?_
    simp only [K_eqs, Nat.reduceLT, K_ops, Nat.reduceEqDiff, if_false, if_true, cav, K_int, aint, n_add, w1, aslice, bopt, Option.map_some, Option.map_none, Tryd.underlying27, tszs, Bs_length, Nat.mul_one, lowOf, highOf, Int.le_refl, ne_eq, reduceCtorEq, not_false_eq_true, true_and, true_or, and_true, e1, Int.toNat_natCast, Bs_drop, Bs_take, sliceP, K_call, Nat.reduceAdd, List.contains_nil, Bool.false_eq_true, List.map_cons, List.map_nil, aviews, aview, ntok, List.tail_cons, List.headD_cons, norefs_Bs, Bool.or_false]
    refine ⟨by omega, ?_⟩
    refine andC_eq (by simp [norefs_Is, norefs_Bs]) cR (by simp [noref, norefs_Is]) ?_
    simp only [RestC_eqs, K_eqs, Nat.reduceLT, K_ops, Nat.reduceEqDiff, if_false, if_true, K_nil, true_and]
    simp only [InBlock, Then]
    refine awp_keep [3, 4, 5] ?_
    simp only [keep_eqs, K_ops, Nat.reduceEqDiff, if_true, if_false]
    refine awp_region [] ?_
    simp only [K_eqs, Nat.reduceLT, K_ops, Nat.reduceEqDiff, if_true, if_false, cav, K_int, aint, n_add, w1, K_nil, Then, true_and]
    exact ⟨i + 1, by omega, by omega, .of_keep [3, 4, 5] rfl⟩
  · have he : 64 * i = all.length := by have := of_decide_eq_false h; omega
    have hi' : i = all.length / 64 := by omega
    refine awp_exit ?_
    simp only [Then, InBlock, if_true]
    refine hK1 _ ?_
    clear hK1 K1 hK2 K2
    rw [← hi']
    have hh2 := words8_length hwi
    have hwi0 := hwi
    generalize blocks C start8 all i = h at hh2 hwi0 ⊢
    refine awp_keep [4] ?_
    simp only [keep_eqs, K_ops, Nat.reduceEqDiff, if_true, if_false]
    refine awp_seq_k fun K hK => awp_region [] ?_
    simp only [K_eqs, List.contains_nil, Bool.false_eq_true, abuildOwn, Tryd.underlying27, tszs, tzeros, Nat.mul_one, zrep_byte, List.replicate_zero, Bs_nil, aparts, List.map_nil, afill, List.length_cons, List.length_nil, Nat.zero_add, Nat.reduceLeDiff, and_true, List.cons_append, List.nil_append, abuildSlice, if_false, K_ops, Nat.reduceLT, Nat.reduceEqDiff, if_true, K_nil, Then, true_and]
    (repeat' apply And.intro) <;> try (first | exact True.intro | omega)
    refine hK _ ?_
    clear hK K
    refine awp_tok 1 6 rfl ?_
    refine awp_keep [4, 6] ?_
    simp only [keep_eqs, K_ops, Nat.reduceEqDiff, if_true, if_false]
    refine awp_seq_k fun K1 hK1 => ?_
    refine awp_seq_k fun K hK => awp_region [] ?_
    simp only [List.length_cons, List.length_nil, Nat.zero_add, List.cons_append, List.nil_append, K_eqs, Nat.reduceLT, K_ops, Nat.reduceEqDiff, if_false, if_true, abuiltin, List.map_cons, List.map_nil, alen, Tryd.underlying38, Int.cast_ofNat_Int, cav, K_nil, Then, true_and]
    (repeat' apply And.intro) <;> try (first | exact True.intro | omega)
    refine hK _ ?_
    clear hK K
    refine awp_keep [6, 32, 33, 34] ?_
    simp only [keep_eqs, K_ops, Nat.reduceEqDiff, if_true, if_false]
    have hnl : (nats h).length = 8 := by rw [nats_length, hh2]
    refine awp_block ?_
    refine awp_loop_from (fun i : Nat => ⟨44, [(6, .sl (4 * i) (Bs ((h.take i).flatMap be4)) (.tok 1)), (32, .sl 8 (Is .u32 (nats h)) .no), (33, .val (.int .i64 8)), (34, .val (.int .i64 (i : Int)))], [.tok 1 all.length, .tok 1 (4 * i)]⟩)
      (fun i => i ≤ 8) (fun i => 8 - i) 0 (by omega) (.of_keep [6, 32, 33, 34] rfl) ?_
    intro i hi
    refine awp_seq_k fun K hK => awp_region [] ?_
    simp only [K_eqs, K_ops, Nat.reduceEqDiff, if_true, if_false, K_int, aint, d_lt, Nat.reduceLT, K_nil, Then, true_and]
    (repeat' apply And.intro) <;> try (first | exact True.intro | omega)
    refine hK _ ?_
    clear hK K
    refine awp_seq ?_
    refine awp_cond rfl rfl (fun hq => ?_) (fun hq => ?_)
    · have hlt : i < 8 := by have := of_decide_eq_true hq; omega
      refine awp_skip ?_
      simp only [Then]
      refine awp_keep [6, 32, 33, 34] ?_
      simp only [keep_eqs, K_ops, Nat.reduceEqDiff, if_true, if_false]
      have hget := nats_getD h i (by omega)
      have htk := take_be4 h i (by omega)
      have hlen := be4s_length (h.take (i + 1))
      rw [List.length_take] at hlen
      have hxl : h.getD i 0 < 4294967296 := words8_getD hwi0 i
      have cB := (refbytes_ok (h.getD i 0) hxl).g (G := GP)
      refine awp_seq ?_
      refine awp_block ?_
      refine awp_seq_k fun K hK => awp_region [] ?_
      have hgI : (Is .u32 (nats h)).getD i .top = .val (.int .u32 ((h.getD i 0 : Nat) : Int)) := by rw [Is_getD (by omega), hget]; rfl
      generalize h.getD i 0 = x at *
      simp only [K_eqs, aidxAddr, K_ops, Nat.reduceEqDiff, if_true, if_false, Tryd.underlying38, tszs, Is_length, hnl, Nat.mul_one, Int.cast_ofNat_Int, Nat.reduceLT, and_true, true_and, Int.toNat_natCast, aload, List.contains_nil, Bool.false_eq_true, apart, isAggD, Tryd.underlying23, K_nil, Then, List.length_drop, drop_getD, Nat.add_zero, hgI]
      (repeat' apply And.intro) <;> try (first | exact True.intro | omega)
      refine hK _ ?_
      clear hK K
      refine awp_keep [6, 8, 32, 33, 34] ?_
      simp only [keep_eqs, K_ops, Nat.reduceEqDiff, if_true, if_false]
      refine awp_region [] ?_
      simp only [K_eqs, Nat.reduceLT, K_ops, Nat.reduceEqDiff, if_false, if_true, K_call, Nat.reduceAdd, List.contains_nil, Bool.false_eq_true, List.map_cons, List.map_nil, aviews, aview, noref, and_true, Bool.or_false, true_and]
      refine andC_eq trivial cB (by simp [noref, norefs_Bs]) ?_
      simp only [RestC_eqs, K_eqs, abuiltin, List.map_cons, K_ops, Nat.reduceEqDiff, if_false, if_true, List.map_nil, aappend, Tryd.underlying27, tszs, tbys, tzeros, appSrc, srcCells, Bs_length, Nat.mul_one, List.getElem?_cons_succ, List.getElem?_cons_zero, Nat.reduceLT, List.length_cons, List.length_nil, Nat.zero_add, Nat.reduceLeDiff, Bs_one, and_true, true_and, List.set_cons_succ, List.set_cons_zero, K_nil]
      have hlen0 := be4s_length (h.take i)
      rw [List.length_take] at hlen0
      refine ⟨⟨rfl, by omega, by omega, by omega⟩, ?_⟩
      rw [← Bs_append, ← htk, show 4 * i + 4 = 4 * (i + 1) by omega]
      simp only [InBlock, Then]
      refine awp_keep [6, 32, 33, 34] ?_
      simp only [keep_eqs, K_ops, Nat.reduceEqDiff, if_true, if_false]
      have h6 : IntKind.i64.wrap ((i + 1 : Nat) : Int) = ((i + 1 : Nat) : Int) := n_i64 (by omega)
      refine awp_region [] ?_
      simp only [K_eqs, K_ops, Nat.reduceEqDiff, if_true, if_false, cav, K_int, aint, n_add, h6, Nat.reduceLT, K_nil, Then, true_and]
      refine ⟨i + 1, by omega, by omega, .of_keep [6, 32, 33, 34] rfl⟩
    · have he : i = 8 := by have := of_decide_eq_false hq; omega
      subst he
      refine awp_exit ?_
      simp only [Then, InBlock, if_true]
      refine hK1 _ ?_
      clear hK1 K1
      have htk : h.take 8 = h := List.take_of_length_le (by omega)
      rw [htk]
      refine awp_noperm 6 rfl ?_
      refine awp_keep [6] ?_
      simp only [keep_eqs, K_ops, Nat.reduceEqDiff, if_true, if_false]
      refine awp_seq_k fun K hK => awp_region [] ?_
      simp only [Nat.reduceMul, K_eqs, Nat.reduceLT, K_ops, if_true, Nat.reduceEqDiff, if_false, K_nil, Then, true_and]
      (repeat' apply And.intro) <;> try (first | exact True.intro | omega)
      refine hK _ ?_
      clear hK K
      refine awp_keep [2] ?_
      simp only [keep_eqs, K_ops, Nat.reduceEqDiff, if_true, if_false]
      refine awp_ret ?_
      simp only [K_fin, ares, aress, ares1, afin, K_ops, if_true, norefs_Bs, ntok, and_true, true_and]
end Go.Proofs.YtjdlgbkpdfaloaaDoor
