/-
  The sizes and the zero values of the seat's types, as closed facts (printed by wip/tools/gentypes.py).
-/
import Derived.Test.YtjdlgbkpdfaloaaDoorProg
import Derived.Test.YtjdlgbkpdfaloaaDoorVm
import Derived.KernelRfl
namespace Go.Proofs.YtjdlgbkpdfaloaaDoor
open Go Go.V
theorem tszs : tsz Tryd.prog 2 = some 1 ∧
  tsz Tryd.prog 3 = some 1 ∧
  tsz Tryd.prog 4 = some 1 ∧
  tsz Tryd.prog 5 = some 1 ∧
  tsz Tryd.prog 6 = some 1 ∧
  tsz Tryd.prog 7 = some 4 ∧
  tsz Tryd.prog 8 = some 4 ∧
  tsz Tryd.prog 9 = some 1 ∧
  tsz Tryd.prog 10 = some 1 ∧
  tsz Tryd.prog 11 = some 1 ∧
  tsz Tryd.prog 12 = some 1 ∧
  tsz Tryd.prog 13 = some 2 ∧
  tsz Tryd.prog 14 = some 2 ∧
  tsz Tryd.prog 15 = some 1 ∧
  tsz Tryd.prog 16 = some 1 ∧
  tsz Tryd.prog 17 = some 1 ∧
  tsz Tryd.prog 18 = some 1 ∧
  tsz Tryd.prog 19 = some 1 ∧
  tsz Tryd.prog 21 = some 1 ∧
  tsz Tryd.prog 23 = some 1 ∧
  tsz Tryd.prog 25 = some 8 ∧
  tsz Tryd.prog 27 = some 1 ∧
  tsz Tryd.prog 33 = some 3 ∧
  tsz Tryd.prog 37 = some 64 ∧
  tsz Tryd.prog 38 = some 1 ∧
  tsz Tryd.prog 40 = some 64 ∧
  tsz Tryd.prog 45 = some 1 ∧
  tsz Tryd.prog 46 = some 32 ∧
  tsz Tryd.prog 47 = some 32 ∧
  tsz Tryd.prog 51 = some 1 ∧
  tsz Tryd.prog 56 = some 1 ∧
  tsz Tryd.prog 60 = some 1 ∧
  tsz Tryd.prog 61 = some 4 ∧
  tsz Tryd.prog 65 = some 73 ∧
  tsz Tryd.prog 66 = some 73 ∧
  tsz Tryd.prog 67 = some 1 ∧
  tsz Tryd.prog 72 = some 4 ∧
  tsz Tryd.prog 73 = some 4 ∧
  tsz Tryd.prog 74 = some 0 ∧
  tsz Tryd.prog 75 = some 0 ∧
  tsz Tryd.prog 76 = some 0 ∧
  tsz Tryd.prog 78 = some 1 ∧
  tsz Tryd.prog 79 = some 1 ∧
  tsz Tryd.prog 81 = some 1 ∧
  tsz Tryd.prog 82 = some 1 ∧
  tsz Tryd.prog 83 = some 1 ∧
  tsz Tryd.prog 84 = some 11 ∧
  tsz Tryd.prog 85 = some 11 := ⟨by kernel_rfl, by kernel_rfl, by kernel_rfl, by kernel_rfl, by kernel_rfl, by kernel_rfl, by kernel_rfl, by kernel_rfl, by kernel_rfl, by kernel_rfl, by kernel_rfl, by kernel_rfl, by kernel_rfl, by kernel_rfl, by kernel_rfl, by kernel_rfl, by kernel_rfl, by kernel_rfl, by kernel_rfl, by kernel_rfl, by kernel_rfl, by kernel_rfl, by kernel_rfl, by kernel_rfl, by kernel_rfl, by kernel_rfl, by kernel_rfl, by kernel_rfl, by kernel_rfl, by kernel_rfl, by kernel_rfl, by kernel_rfl, by kernel_rfl, by kernel_rfl, by kernel_rfl, by kernel_rfl, by kernel_rfl, by kernel_rfl, by kernel_rfl, by kernel_rfl, by kernel_rfl, by kernel_rfl, by kernel_rfl, by kernel_rfl, by kernel_rfl, by kernel_rfl, by kernel_rfl, by kernel_rfl⟩

theorem tbys : tby Tryd.prog 2 = some 8 ∧
  tby Tryd.prog 3 = some 8 ∧
  tby Tryd.prog 4 = some 1 ∧
  tby Tryd.prog 5 = some 1 ∧
  tby Tryd.prog 6 = some 1 ∧
  tby Tryd.prog 7 = some 24 ∧
  tby Tryd.prog 8 = some 24 ∧
  tby Tryd.prog 9 = some 16 ∧
  tby Tryd.prog 10 = some 16 ∧
  tby Tryd.prog 11 = some 16 ∧
  tby Tryd.prog 12 = some 8 ∧
  tby Tryd.prog 13 = some 24 ∧
  tby Tryd.prog 14 = some 24 ∧
  tby Tryd.prog 15 = some 8 ∧
  tby Tryd.prog 16 = some 8 ∧
  tby Tryd.prog 17 = some 8 ∧
  tby Tryd.prog 18 = some 8 ∧
  tby Tryd.prog 19 = some 8 ∧
  tby Tryd.prog 21 = some 4 ∧
  tby Tryd.prog 23 = some 4 ∧
  tby Tryd.prog 25 = some 32 ∧
  tby Tryd.prog 27 = some 24 ∧
  tby Tryd.prog 33 = some 12 ∧
  tby Tryd.prog 37 = some 64 ∧
  tby Tryd.prog 38 = some 24 ∧
  tby Tryd.prog 40 = some 256 ∧
  tby Tryd.prog 45 = some 24 ∧
  tby Tryd.prog 46 = some 32 ∧
  tby Tryd.prog 47 = some 32 ∧
  tby Tryd.prog 51 = some 8 ∧
  tby Tryd.prog 56 = some 8 ∧
  tby Tryd.prog 60 = some 8 ∧
  tby Tryd.prog 61 = some 4 ∧
  tby Tryd.prog 65 = some 104 ∧
  tby Tryd.prog 66 = some 104 ∧
  tby Tryd.prog 67 = some 24 ∧
  tby Tryd.prog 72 = some 40 ∧
  tby Tryd.prog 73 = some 40 ∧
  tby Tryd.prog 74 = some 0 ∧
  tby Tryd.prog 75 = some 0 ∧
  tby Tryd.prog 76 = some 0 ∧
  tby Tryd.prog 78 = some 1 ∧
  tby Tryd.prog 79 = some 1 ∧
  tby Tryd.prog 81 = some 8 ∧
  tby Tryd.prog 82 = some 4 ∧
  tby Tryd.prog 83 = some 4 ∧
  tby Tryd.prog 84 = some 48 ∧
  tby Tryd.prog 85 = some 48 := ⟨by kernel_rfl, by kernel_rfl, by kernel_rfl, by kernel_rfl, by kernel_rfl, by kernel_rfl, by kernel_rfl, by kernel_rfl, by kernel_rfl, by kernel_rfl, by kernel_rfl, by kernel_rfl, by kernel_rfl, by kernel_rfl, by kernel_rfl, by kernel_rfl, by kernel_rfl, by kernel_rfl, by kernel_rfl, by kernel_rfl, by kernel_rfl, by kernel_rfl, by kernel_rfl, by kernel_rfl, by kernel_rfl, by kernel_rfl, by kernel_rfl, by kernel_rfl, by kernel_rfl, by kernel_rfl, by kernel_rfl, by kernel_rfl, by kernel_rfl, by kernel_rfl, by kernel_rfl, by kernel_rfl, by kernel_rfl, by kernel_rfl, by kernel_rfl, by kernel_rfl, by kernel_rfl, by kernel_rfl, by kernel_rfl, by kernel_rfl, by kernel_rfl, by kernel_rfl, by kernel_rfl, by kernel_rfl⟩

theorem tzeros : tzero Tryd.prog 2 = some ([.int .i64 0]) ∧
  tzero Tryd.prog 3 = some ([.int .i64 0]) ∧
  tzero Tryd.prog 4 = some ([.bool false]) ∧
  tzero Tryd.prog 5 = some ([.int .u8 0]) ∧
  tzero Tryd.prog 6 = some ([.int .u8 0]) ∧
  tzero Tryd.prog 7 = some ([.int .i64 0, .int .i64 0, .bool false, .int .u8 0]) ∧
  tzero Tryd.prog 8 = some ([.int .i64 0, .int .i64 0, .bool false, .int .u8 0]) ∧
  tzero Tryd.prog 9 = some ([.string ⟨#[]⟩]) ∧
  tzero Tryd.prog 10 = some ([.string ⟨#[]⟩]) ∧
  tzero Tryd.prog 11 = some ([.string ⟨#[]⟩]) ∧
  tzero Tryd.prog 12 = some ([.int .u64 0]) ∧
  tzero Tryd.prog 13 = some ([.string ⟨#[]⟩, .int .u64 0]) ∧
  tzero Tryd.prog 14 = some ([.string ⟨#[]⟩, .int .u64 0]) ∧
  tzero Tryd.prog 15 = some ([.pointer none]) ∧
  tzero Tryd.prog 16 = some ([.pointer none]) ∧
  tzero Tryd.prog 17 = some ([.pointer none]) ∧
  tzero Tryd.prog 18 = some ([.pointer none]) ∧
  tzero Tryd.prog 19 = some ([.pointer none]) ∧
  tzero Tryd.prog 21 = some ([.int .i32 0]) ∧
  tzero Tryd.prog 23 = some ([.int .u32 0]) ∧
  tzero Tryd.prog 25 = some (zvs .u32 8) ∧
  tzero Tryd.prog 27 = some ([.slice none 0 0]) ∧
  tzero Tryd.prog 33 = some ([.int .u32 0, .int .u32 0, .int .u32 0]) ∧
  tzero Tryd.prog 37 = some (zvs .u8 64) ∧
  tzero Tryd.prog 38 = some ([.slice none 0 0]) ∧
  tzero Tryd.prog 40 = some (zvs .u32 64) ∧
  tzero Tryd.prog 45 = some ([.slice none 0 0]) ∧
  tzero Tryd.prog 46 = some (zvs .u8 32) ∧
  tzero Tryd.prog 47 = some (zvs .u8 32) ∧
  tzero Tryd.prog 51 = some ([.pointer none]) ∧
  tzero Tryd.prog 56 = some ([.int .u64 0]) ∧
  tzero Tryd.prog 60 = some ([.int .u64 0]) ∧
  tzero Tryd.prog 61 = some ([.int .u8 0, .int .u8 0, .int .u8 0, .int .u8 0]) ∧
  tzero Tryd.prog 65 = some ([.int .u32 0, .int .u32 0, .int .u32 0, .int .u32 0, .int .u32 0, .int .u32 0, .int .u32 0, .int .u32 0, .int .u8 0, .int .u8 0, .int .u8 0, .int .u8 0, .int .u8 0, .int .u8 0, .int .u8 0, .int .u8 0, .int .u8 0, .int .u8 0, .int .u8 0, .int .u8 0, .int .u8 0, .int .u8 0, .int .u8 0, .int .u8 0, .int .u8 0, .int .u8 0, .int .u8 0, .int .u8 0, .int .u8 0, .int .u8 0, .int .u8 0, .int .u8 0, .int .u8 0, .int .u8 0, .int .u8 0, .int .u8 0, .int .u8 0, .int .u8 0, .int .u8 0, .int .u8 0, .int .u8 0, .int .u8 0, .int .u8 0, .int .u8 0, .int .u8 0, .int .u8 0, .int .u8 0, .int .u8 0, .int .u8 0, .int .u8 0, .int .u8 0, .int .u8 0, .int .u8 0, .int .u8 0, .int .u8 0, .int .u8 0, .int .u8 0, .int .u8 0, .int .u8 0, .int .u8 0, .int .u8 0, .int .u8 0, .int .u8 0, .int .u8 0, .int .u8 0, .int .u8 0, .int .u8 0, .int .u8 0, .int .u8 0, .int .u8 0, .int .u8 0, .int .u8 0, .int .u64 0]) ∧
  tzero Tryd.prog 66 = some ([.int .u32 0, .int .u32 0, .int .u32 0, .int .u32 0, .int .u32 0, .int .u32 0, .int .u32 0, .int .u32 0, .int .u8 0, .int .u8 0, .int .u8 0, .int .u8 0, .int .u8 0, .int .u8 0, .int .u8 0, .int .u8 0, .int .u8 0, .int .u8 0, .int .u8 0, .int .u8 0, .int .u8 0, .int .u8 0, .int .u8 0, .int .u8 0, .int .u8 0, .int .u8 0, .int .u8 0, .int .u8 0, .int .u8 0, .int .u8 0, .int .u8 0, .int .u8 0, .int .u8 0, .int .u8 0, .int .u8 0, .int .u8 0, .int .u8 0, .int .u8 0, .int .u8 0, .int .u8 0, .int .u8 0, .int .u8 0, .int .u8 0, .int .u8 0, .int .u8 0, .int .u8 0, .int .u8 0, .int .u8 0, .int .u8 0, .int .u8 0, .int .u8 0, .int .u8 0, .int .u8 0, .int .u8 0, .int .u8 0, .int .u8 0, .int .u8 0, .int .u8 0, .int .u8 0, .int .u8 0, .int .u8 0, .int .u8 0, .int .u8 0, .int .u8 0, .int .u8 0, .int .u8 0, .int .u8 0, .int .u8 0, .int .u8 0, .int .u8 0, .int .u8 0, .int .u8 0, .int .u64 0]) ∧
  tzero Tryd.prog 67 = some ([.slice none 0 0]) ∧
  tzero Tryd.prog 72 = some ([.pointer none, .pointer none, .pointer none, .string ⟨#[]⟩]) ∧
  tzero Tryd.prog 73 = some ([.pointer none, .pointer none, .pointer none, .string ⟨#[]⟩]) ∧
  tzero Tryd.prog 74 = some ([]) ∧
  tzero Tryd.prog 75 = some ([]) ∧
  tzero Tryd.prog 76 = some ([]) ∧
  tzero Tryd.prog 78 = some ([.int .u8 0]) ∧
  tzero Tryd.prog 79 = some ([.int .u8 0]) ∧
  tzero Tryd.prog 81 = some ([.pointer none]) ∧
  tzero Tryd.prog 82 = some ([.int .i32 0]) ∧
  tzero Tryd.prog 83 = some ([.int .i32 0]) ∧
  tzero Tryd.prog 84 = some ([.int .u64 0, .int .u64 0, .int .u32 0, .int .u8 0, .int .u8 0, .int .u8 0, .int .u8 0, .nilFunc, .pointer none, .int .i32 0, .int .i32 0]) ∧
  tzero Tryd.prog 85 = some ([.int .u64 0, .int .u64 0, .int .u32 0, .int .u8 0, .int .u8 0, .int .u8 0, .int .u8 0, .nilFunc, .pointer none, .int .i32 0, .int .i32 0]) := ⟨by kernel_rfl, by kernel_rfl, by kernel_rfl, by kernel_rfl, by kernel_rfl, by kernel_rfl, by kernel_rfl, by kernel_rfl, by kernel_rfl, by kernel_rfl, by kernel_rfl, by kernel_rfl, by kernel_rfl, by kernel_rfl, by kernel_rfl, by kernel_rfl, by kernel_rfl, by kernel_rfl, by kernel_rfl, by kernel_rfl, by kernel_rfl, by kernel_rfl, by kernel_rfl, by kernel_rfl, by kernel_rfl, by kernel_rfl, by kernel_rfl, by kernel_rfl, by kernel_rfl, by kernel_rfl, by kernel_rfl, by kernel_rfl, by kernel_rfl, by kernel_rfl, by kernel_rfl, by kernel_rfl, by kernel_rfl, by kernel_rfl, by kernel_rfl, by kernel_rfl, by kernel_rfl, by kernel_rfl, by kernel_rfl, by kernel_rfl, by kernel_rfl, by kernel_rfl, by kernel_rfl, by kernel_rfl⟩

theorem tgrds : Tryd.prog.eqGuardType Tryd.prog.depth 47 = false ∧
  Tryd.prog.eqGuardType Tryd.prog.depth 46 = false := ⟨by kernel_rfl, by kernel_rfl⟩

theorem tstds : Tryd.prog.stoodInHeld 47 = false ∧
  Tryd.prog.stoodInHeld 46 = false := ⟨by kernel_rfl, by kernel_rfl⟩


end Go.Proofs.YtjdlgbkpdfaloaaDoor
