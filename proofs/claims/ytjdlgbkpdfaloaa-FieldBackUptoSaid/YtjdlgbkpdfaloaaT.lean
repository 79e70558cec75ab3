/-
  The sizes and the zero values of the seat's types, as closed facts (printed by wip/tools/gentypes.py).
-/
import Derived.Test.YtjdlgbkpdfaloaaProg
import Derived.Test.YtjdlgbkpdfaloaaVm
import Derived.KernelRfl
namespace Go.Proofs.Ytjdlgbkpdfaloaa
open Go Go.V
theorem tszs : tsz Try.prog 2 = some 1 ∧
  tsz Try.prog 3 = some 1 ∧
  tsz Try.prog 4 = some 1 ∧
  tsz Try.prog 5 = some 1 ∧
  tsz Try.prog 6 = some 1 ∧
  tsz Try.prog 7 = some 4 ∧
  tsz Try.prog 8 = some 4 ∧
  tsz Try.prog 9 = some 1 ∧
  tsz Try.prog 10 = some 1 ∧
  tsz Try.prog 11 = some 1 ∧
  tsz Try.prog 12 = some 1 ∧
  tsz Try.prog 13 = some 2 ∧
  tsz Try.prog 14 = some 2 ∧
  tsz Try.prog 15 = some 1 ∧
  tsz Try.prog 16 = some 1 ∧
  tsz Try.prog 17 = some 1 ∧
  tsz Try.prog 18 = some 1 ∧
  tsz Try.prog 19 = some 1 ∧
  tsz Try.prog 21 = some 1 ∧
  tsz Try.prog 22 = some 1 ∧
  tsz Try.prog 24 = some 1 ∧
  tsz Try.prog 27 = some 1 ∧
  tsz Try.prog 29 = some 1 ∧
  tsz Try.prog 31 = some 1 ∧
  tsz Try.prog 34 = some 32 ∧
  tsz Try.prog 35 = some 32 ∧
  tsz Try.prog 44 = some 64 ∧
  tsz Try.prog 45 = some 64 ∧
  tsz Try.prog 52 = some 1 ∧
  tsz Try.prog 54 = some 2 ∧
  tsz Try.prog 55 = some 2 ∧
  tsz Try.prog 58 = some 2 ∧
  tsz Try.prog 61 = some 1 ∧
  tsz Try.prog 74 = some 1 ∧
  tsz Try.prog 85 = some 1 ∧
  tsz Try.prog 89 = some 4 ∧
  tsz Try.prog 91 = some 4 ∧
  tsz Try.prog 92 = some 4 ∧
  tsz Try.prog 93 = some 0 ∧
  tsz Try.prog 94 = some 0 ∧
  tsz Try.prog 95 = some 0 ∧
  tsz Try.prog 97 = some 1 ∧
  tsz Try.prog 98 = some 1 ∧
  tsz Try.prog 100 = some 1 ∧
  tsz Try.prog 101 = some 1 ∧
  tsz Try.prog 102 = some 1 ∧
  tsz Try.prog 103 = some 11 ∧
  tsz Try.prog 104 = some 11 := ⟨by kernel_rfl, by kernel_rfl, by kernel_rfl, by kernel_rfl, by kernel_rfl, by kernel_rfl, by kernel_rfl, by kernel_rfl, by kernel_rfl, by kernel_rfl, by kernel_rfl, by kernel_rfl, by kernel_rfl, by kernel_rfl, by kernel_rfl, by kernel_rfl, by kernel_rfl, by kernel_rfl, by kernel_rfl, by kernel_rfl, by kernel_rfl, by kernel_rfl, by kernel_rfl, by kernel_rfl, by kernel_rfl, by kernel_rfl, by kernel_rfl, by kernel_rfl, by kernel_rfl, by kernel_rfl, by kernel_rfl, by kernel_rfl, by kernel_rfl, by kernel_rfl, by kernel_rfl, by kernel_rfl, by kernel_rfl, by kernel_rfl, by kernel_rfl, by kernel_rfl, by kernel_rfl, by kernel_rfl, by kernel_rfl, by kernel_rfl, by kernel_rfl, by kernel_rfl, by kernel_rfl, by kernel_rfl⟩

theorem tbys : tby Try.prog 2 = some 8 ∧
  tby Try.prog 3 = some 8 ∧
  tby Try.prog 4 = some 1 ∧
  tby Try.prog 5 = some 1 ∧
  tby Try.prog 6 = some 1 ∧
  tby Try.prog 7 = some 24 ∧
  tby Try.prog 8 = some 24 ∧
  tby Try.prog 9 = some 16 ∧
  tby Try.prog 10 = some 16 ∧
  tby Try.prog 11 = some 16 ∧
  tby Try.prog 12 = some 8 ∧
  tby Try.prog 13 = some 24 ∧
  tby Try.prog 14 = some 24 ∧
  tby Try.prog 15 = some 8 ∧
  tby Try.prog 16 = some 8 ∧
  tby Try.prog 17 = some 8 ∧
  tby Try.prog 18 = some 8 ∧
  tby Try.prog 19 = some 8 ∧
  tby Try.prog 21 = some 4 ∧
  tby Try.prog 22 = some 8 ∧
  tby Try.prog 24 = some 24 ∧
  tby Try.prog 27 = some 24 ∧
  tby Try.prog 29 = some 4 ∧
  tby Try.prog 31 = some 2 ∧
  tby Try.prog 34 = some 32 ∧
  tby Try.prog 35 = some 32 ∧
  tby Try.prog 44 = some 64 ∧
  tby Try.prog 45 = some 256 ∧
  tby Try.prog 52 = some 24 ∧
  tby Try.prog 54 = some 24 ∧
  tby Try.prog 55 = some 24 ∧
  tby Try.prog 58 = some 24 ∧
  tby Try.prog 61 = some 24 ∧
  tby Try.prog 74 = some 8 ∧
  tby Try.prog 85 = some 24 ∧
  tby Try.prog 89 = some 4 ∧
  tby Try.prog 91 = some 40 ∧
  tby Try.prog 92 = some 40 ∧
  tby Try.prog 93 = some 0 ∧
  tby Try.prog 94 = some 0 ∧
  tby Try.prog 95 = some 0 ∧
  tby Try.prog 97 = some 1 ∧
  tby Try.prog 98 = some 1 ∧
  tby Try.prog 100 = some 8 ∧
  tby Try.prog 101 = some 4 ∧
  tby Try.prog 102 = some 4 ∧
  tby Try.prog 103 = some 48 ∧
  tby Try.prog 104 = some 48 := ⟨by kernel_rfl, by kernel_rfl, by kernel_rfl, by kernel_rfl, by kernel_rfl, by kernel_rfl, by kernel_rfl, by kernel_rfl, by kernel_rfl, by kernel_rfl, by kernel_rfl, by kernel_rfl, by kernel_rfl, by kernel_rfl, by kernel_rfl, by kernel_rfl, by kernel_rfl, by kernel_rfl, by kernel_rfl, by kernel_rfl, by kernel_rfl, by kernel_rfl, by kernel_rfl, by kernel_rfl, by kernel_rfl, by kernel_rfl, by kernel_rfl, by kernel_rfl, by kernel_rfl, by kernel_rfl, by kernel_rfl, by kernel_rfl, by kernel_rfl, by kernel_rfl, by kernel_rfl, by kernel_rfl, by kernel_rfl, by kernel_rfl, by kernel_rfl, by kernel_rfl, by kernel_rfl, by kernel_rfl, by kernel_rfl, by kernel_rfl, by kernel_rfl, by kernel_rfl, by kernel_rfl, by kernel_rfl⟩

theorem tzeros : tzero Try.prog 2 = some ([.int .i64 0]) ∧
  tzero Try.prog 3 = some ([.int .i64 0]) ∧
  tzero Try.prog 4 = some ([.bool false]) ∧
  tzero Try.prog 5 = some ([.int .u8 0]) ∧
  tzero Try.prog 6 = some ([.int .u8 0]) ∧
  tzero Try.prog 7 = some ([.int .i64 0, .int .i64 0, .bool false, .int .u8 0]) ∧
  tzero Try.prog 8 = some ([.int .i64 0, .int .i64 0, .bool false, .int .u8 0]) ∧
  tzero Try.prog 9 = some ([.string ⟨#[]⟩]) ∧
  tzero Try.prog 10 = some ([.string ⟨#[]⟩]) ∧
  tzero Try.prog 11 = some ([.string ⟨#[]⟩]) ∧
  tzero Try.prog 12 = some ([.int .u64 0]) ∧
  tzero Try.prog 13 = some ([.string ⟨#[]⟩, .int .u64 0]) ∧
  tzero Try.prog 14 = some ([.string ⟨#[]⟩, .int .u64 0]) ∧
  tzero Try.prog 15 = some ([.pointer none]) ∧
  tzero Try.prog 16 = some ([.pointer none]) ∧
  tzero Try.prog 17 = some ([.pointer none]) ∧
  tzero Try.prog 18 = some ([.pointer none]) ∧
  tzero Try.prog 19 = some ([.pointer none]) ∧
  tzero Try.prog 21 = some ([.int .i32 0]) ∧
  tzero Try.prog 22 = some ([.int .u64 0]) ∧
  tzero Try.prog 24 = some ([.slice none 0 0]) ∧
  tzero Try.prog 27 = some ([.slice none 0 0]) ∧
  tzero Try.prog 29 = some ([.int .u32 0]) ∧
  tzero Try.prog 31 = some ([.int .u16 0]) ∧
  tzero Try.prog 34 = some (zvs .u8 32) ∧
  tzero Try.prog 35 = some (zvs .u8 32) ∧
  tzero Try.prog 44 = some (zvs .u8 64) ∧
  tzero Try.prog 45 = some (zvs .u32 64) ∧
  tzero Try.prog 52 = some ([.slice none 0 0]) ∧
  tzero Try.prog 54 = some ([.int .u8 0, .string ⟨#[]⟩]) ∧
  tzero Try.prog 55 = some ([.int .u8 0, .string ⟨#[]⟩]) ∧
  tzero Try.prog 58 = some ([.int .u8 0, .string ⟨#[]⟩]) ∧
  tzero Try.prog 61 = some ([.slice none 0 0]) ∧
  tzero Try.prog 74 = some ([.int .u64 0]) ∧
  tzero Try.prog 85 = some ([.slice none 0 0]) ∧
  tzero Try.prog 89 = some ([.int .u8 0, .int .u8 0, .int .u8 0, .int .u8 0]) ∧
  tzero Try.prog 91 = some ([.pointer none, .pointer none, .pointer none, .string ⟨#[]⟩]) ∧
  tzero Try.prog 92 = some ([.pointer none, .pointer none, .pointer none, .string ⟨#[]⟩]) ∧
  tzero Try.prog 93 = some ([]) ∧
  tzero Try.prog 94 = some ([]) ∧
  tzero Try.prog 95 = some ([]) ∧
  tzero Try.prog 97 = some ([.int .u8 0]) ∧
  tzero Try.prog 98 = some ([.int .u8 0]) ∧
  tzero Try.prog 100 = some ([.pointer none]) ∧
  tzero Try.prog 101 = some ([.int .i32 0]) ∧
  tzero Try.prog 102 = some ([.int .i32 0]) ∧
  tzero Try.prog 103 = some ([.int .u64 0, .int .u64 0, .int .u32 0, .int .u8 0, .int .u8 0, .int .u8 0, .int .u8 0, .nilFunc, .pointer none, .int .i32 0, .int .i32 0]) ∧
  tzero Try.prog 104 = some ([.int .u64 0, .int .u64 0, .int .u32 0, .int .u8 0, .int .u8 0, .int .u8 0, .int .u8 0, .nilFunc, .pointer none, .int .i32 0, .int .i32 0]) := ⟨by kernel_rfl, by kernel_rfl, by kernel_rfl, by kernel_rfl, by kernel_rfl, by kernel_rfl, by kernel_rfl, by kernel_rfl, by kernel_rfl, by kernel_rfl, by kernel_rfl, by kernel_rfl, by kernel_rfl, by kernel_rfl, by kernel_rfl, by kernel_rfl, by kernel_rfl, by kernel_rfl, by kernel_rfl, by kernel_rfl, by kernel_rfl, by kernel_rfl, by kernel_rfl, by kernel_rfl, by kernel_rfl, by kernel_rfl, by kernel_rfl, by kernel_rfl, by kernel_rfl, by kernel_rfl, by kernel_rfl, by kernel_rfl, by kernel_rfl, by kernel_rfl, by kernel_rfl, by kernel_rfl, by kernel_rfl, by kernel_rfl, by kernel_rfl, by kernel_rfl, by kernel_rfl, by kernel_rfl, by kernel_rfl, by kernel_rfl, by kernel_rfl, by kernel_rfl, by kernel_rfl, by kernel_rfl⟩

theorem tgrds : Try.prog.eqGuardType Try.prog.depth 35 = false ∧
  Try.prog.eqGuardType Try.prog.depth 54 = false ∧
  Try.prog.eqGuardType Try.prog.depth 55 = false ∧
  Try.prog.eqGuardType Try.prog.depth 58 = false := ⟨by kernel_rfl, by kernel_rfl, by kernel_rfl, by kernel_rfl⟩

theorem tstds : Try.prog.stoodInHeld 35 = false ∧
  Try.prog.stoodInHeld 54 = false ∧
  Try.prog.stoodInHeld 55 = false ∧
  Try.prog.stoodInHeld 58 = false := ⟨by kernel_rfl, by kernel_rfl, by kernel_rfl, by kernel_rfl⟩


end Go.Proofs.Ytjdlgbkpdfaloaa
