/-
  Texts of one proof, merged: T, Wa, Dp, Wl, Wm, Wn, Wo, Db, Wp, Df, Dd, Dg, Dh, Ea, Eb, Hb, Ec, Ed, Ga, We, Wr, Ws, Wt, Gb, Gc, Wb, Wc, Wd, Xa, Xb, Xc, Gd.
-/
import Derived.Test.YtefdnmeopbkflaaGreatDoorBMi2
import Derived.Test.YtefdnmeopbkflaaGreatDoorProg
import Derived.KernelRfl
import Derived.Laws.BitsLemmas
import Derived.WalkKit
import Derived.Lib.Walk
import Derived.Lib.Strings
import Derived.Lib.Bytealg
import Derived.Laws.Externs
set_option linter.unusedSimpArgs false
set_option linter.unusedVariables false
namespace Go.Proofs.YtefdnmeopbkflaaGreatDoor
open Go Go.V
theorem tszs : tsz Tryz.prog 2 = some 1 ∧
  tsz Tryz.prog 3 = some 1 ∧
  tsz Tryz.prog 4 = some 1 ∧
  tsz Tryz.prog 5 = some 1 ∧
  tsz Tryz.prog 6 = some 1 ∧
  tsz Tryz.prog 7 = some 4 ∧
  tsz Tryz.prog 8 = some 4 ∧
  tsz Tryz.prog 9 = some 1 ∧
  tsz Tryz.prog 10 = some 1 ∧
  tsz Tryz.prog 11 = some 1 ∧
  tsz Tryz.prog 12 = some 1 ∧
  tsz Tryz.prog 13 = some 2 ∧
  tsz Tryz.prog 14 = some 2 ∧
  tsz Tryz.prog 15 = some 1 ∧
  tsz Tryz.prog 16 = some 1 ∧
  tsz Tryz.prog 17 = some 1 ∧
  tsz Tryz.prog 18 = some 1 ∧
  tsz Tryz.prog 19 = some 1 ∧
  tsz Tryz.prog 21 = some 1 ∧
  tsz Tryz.prog 22 = some 32 ∧
  tsz Tryz.prog 23 = some 32 ∧
  tsz Tryz.prog 24 = some 16 ∧
  tsz Tryz.prog 25 = some 17 ∧
  tsz Tryz.prog 26 = some 17 ∧
  tsz Tryz.prog 27 = some 1 ∧
  tsz Tryz.prog 28 = some 20 ∧
  tsz Tryz.prog 29 = some 20 ∧
  tsz Tryz.prog 30 = some 1 ∧
  tsz Tryz.prog 31 = some 22 ∧
  tsz Tryz.prog 32 = some 22 ∧
  tsz Tryz.prog 35 = some 1 ∧
  tsz Tryz.prog 37 = some 1 ∧
  tsz Tryz.prog 38 = some 1 ∧
  tsz Tryz.prog 39 = some 4 ∧
  tsz Tryz.prog 40 = some 4 ∧
  tsz Tryz.prog 42 = some 96 ∧
  tsz Tryz.prog 43 = some 1 ∧
  tsz Tryz.prog 44 = some 1 ∧
  tsz Tryz.prog 45 = some 129 ∧
  tsz Tryz.prog 46 = some 129 ∧
  tsz Tryz.prog 47 = some 3 ∧
  tsz Tryz.prog 48 = some 3 ∧
  tsz Tryz.prog 50 = some 1 ∧
  tsz Tryz.prog 54 = some 1 ∧
  tsz Tryz.prog 57 = some 1 ∧
  tsz Tryz.prog 58 = some 35 ∧
  tsz Tryz.prog 59 = some 35 ∧
  tsz Tryz.prog 60 = some 1 ∧
  tsz Tryz.prog 61 = some 130 ∧
  tsz Tryz.prog 62 = some 130 ∧
  tsz Tryz.prog 63 = some 133 ∧
  tsz Tryz.prog 64 = some 133 ∧
  tsz Tryz.prog 65 = some 1 ∧
  tsz Tryz.prog 66 = some 36 ∧
  tsz Tryz.prog 67 = some 36 ∧
  tsz Tryz.prog 68 = some 1 ∧
  tsz Tryz.prog 69 = some 37 ∧
  tsz Tryz.prog 70 = some 37 ∧
  tsz Tryz.prog 73 = some 5 ∧
  tsz Tryz.prog 74 = some 5 ∧
  tsz Tryz.prog 77 = some 74 ∧
  tsz Tryz.prog 78 = some 18 ∧
  tsz Tryz.prog 79 = some 18 ∧
  tsz Tryz.prog 80 = some 23 ∧
  tsz Tryz.prog 81 = some 23 ∧
  tsz Tryz.prog 103 = some 1 ∧
  tsz Tryz.prog 105 = some 3 ∧
  tsz Tryz.prog 106 = some 3 ∧
  tsz Tryz.prog 107 = some 2 ∧
  tsz Tryz.prog 108 = some 2 ∧
  tsz Tryz.prog 111 = some 1 ∧
  tsz Tryz.prog 112 = some 1 ∧
  tsz Tryz.prog 113 = some 1 ∧
  tsz Tryz.prog 123 = some 2 ∧
  tsz Tryz.prog 124 = some 2 ∧
  tsz Tryz.prog 129 = some 1 ∧
  tsz Tryz.prog 145 = some 1 ∧
  tsz Tryz.prog 146 = some 1 ∧
  tsz Tryz.prog 147 = some 1 ∧
  tsz Tryz.prog 148 = some 1 ∧
  tsz Tryz.prog 150 = some 37 ∧
  tsz Tryz.prog 151 = some 37 ∧
  tsz Tryz.prog 152 = some 1 ∧
  tsz Tryz.prog 153 = some 39 ∧
  tsz Tryz.prog 154 = some 39 ∧
  tsz Tryz.prog 160 = some 1 ∧
  tsz Tryz.prog 162 = some 1 ∧
  tsz Tryz.prog 163 = some 3 ∧
  tsz Tryz.prog 164 = some 3 ∧
  tsz Tryz.prog 173 = some 130 ∧
  tsz Tryz.prog 186 = some 1 ∧
  tsz Tryz.prog 190 = some 35 ∧
  tsz Tryz.prog 191 = some 35 ∧
  tsz Tryz.prog 206 = some 1 ∧
  tsz Tryz.prog 228 = some 1 ∧
  tsz Tryz.prog 249 = some 1 ∧
  tsz Tryz.prog 250 = some 2 ∧
  tsz Tryz.prog 251 = some 2 ∧
  tsz Tryz.prog 269 = some 1 ∧
  tsz Tryz.prog 271 = some 1 ∧
  tsz Tryz.prog 272 = some 8 ∧
  tsz Tryz.prog 273 = some 1 ∧
  tsz Tryz.prog 279 = some 1 ∧
  tsz Tryz.prog 293 = some 24 ∧
  tsz Tryz.prog 297 = some 1 ∧
  tsz Tryz.prog 298 = some 2 ∧
  tsz Tryz.prog 299 = some 2 ∧
  tsz Tryz.prog 310 = some 1 ∧
  tsz Tryz.prog 312 = some 1 ∧
  tsz Tryz.prog 318 = some 1 ∧
  tsz Tryz.prog 319 = some 1 ∧
  tsz Tryz.prog 330 = some 20 ∧
  tsz Tryz.prog 331 = some 65 ∧
  tsz Tryz.prog 334 = some 1 ∧
  tsz Tryz.prog 336 = some 64 ∧
  tsz Tryz.prog 342 = some 3 ∧
  tsz Tryz.prog 343 = some 3 ∧
  tsz Tryz.prog 346 = some 1 ∧
  tsz Tryz.prog 348 = some 2 ∧
  tsz Tryz.prog 349 = some 2 ∧
  tsz Tryz.prog 355 = some 1 ∧
  tsz Tryz.prog 356 = some 1 ∧
  tsz Tryz.prog 357 = some 1 ∧
  tsz Tryz.prog 362 = some 8 ∧
  tsz Tryz.prog 363 = some 73 ∧
  tsz Tryz.prog 364 = some 73 ∧
  tsz Tryz.prog 366 = some 256 ∧
  tsz Tryz.prog 367 = some 2 ∧
  tsz Tryz.prog 368 = some 2 ∧
  tsz Tryz.prog 369 = some 32 ∧
  tsz Tryz.prog 371 = some 64 ∧
  tsz Tryz.prog 378 = some 4 ∧
  tsz Tryz.prog 379 = some 4 ∧
  tsz Tryz.prog 380 = some 4 ∧
  tsz Tryz.prog 381 = some 0 ∧
  tsz Tryz.prog 382 = some 0 ∧
  tsz Tryz.prog 383 = some 0 ∧
  tsz Tryz.prog 385 = some 1 ∧
  tsz Tryz.prog 386 = some 1 ∧
  tsz Tryz.prog 388 = some 1 ∧
  tsz Tryz.prog 389 = some 1 ∧
  tsz Tryz.prog 390 = some 11 ∧
  tsz Tryz.prog 391 = some 11 := ⟨by kernel_rfl, by kernel_rfl, by kernel_rfl, by kernel_rfl, by kernel_rfl, by kernel_rfl, by kernel_rfl, by kernel_rfl, by kernel_rfl, by kernel_rfl, by kernel_rfl, by kernel_rfl, by kernel_rfl, by kernel_rfl, by kernel_rfl, by kernel_rfl, by kernel_rfl, by kernel_rfl, by kernel_rfl, by kernel_rfl, by kernel_rfl, by kernel_rfl, by kernel_rfl, by kernel_rfl, by kernel_rfl, by kernel_rfl, by kernel_rfl, by kernel_rfl, by kernel_rfl, by kernel_rfl, by kernel_rfl, by kernel_rfl, by kernel_rfl, by kernel_rfl, by kernel_rfl, by kernel_rfl, by kernel_rfl, by kernel_rfl, by kernel_rfl, by kernel_rfl, by kernel_rfl, by kernel_rfl, by kernel_rfl, by kernel_rfl, by kernel_rfl, by kernel_rfl, by kernel_rfl, by kernel_rfl, by kernel_rfl, by kernel_rfl, by kernel_rfl, by kernel_rfl, by kernel_rfl, by kernel_rfl, by kernel_rfl, by kernel_rfl, by kernel_rfl, by kernel_rfl, by kernel_rfl, by kernel_rfl, by kernel_rfl, by kernel_rfl, by kernel_rfl, by kernel_rfl, by kernel_rfl, by kernel_rfl, by kernel_rfl, by kernel_rfl, by kernel_rfl, by kernel_rfl, by kernel_rfl, by kernel_rfl, by kernel_rfl, by kernel_rfl, by kernel_rfl, by kernel_rfl, by kernel_rfl, by kernel_rfl, by kernel_rfl, by kernel_rfl, by kernel_rfl, by kernel_rfl, by kernel_rfl, by kernel_rfl, by kernel_rfl, by kernel_rfl, by kernel_rfl, by kernel_rfl, by kernel_rfl, by kernel_rfl, by kernel_rfl, by kernel_rfl, by kernel_rfl, by kernel_rfl, by kernel_rfl, by kernel_rfl, by kernel_rfl, by kernel_rfl, by kernel_rfl, by kernel_rfl, by kernel_rfl, by kernel_rfl, by kernel_rfl, by kernel_rfl, by kernel_rfl, by kernel_rfl, by kernel_rfl, by kernel_rfl, by kernel_rfl, by kernel_rfl, by kernel_rfl, by kernel_rfl, by kernel_rfl, by kernel_rfl, by kernel_rfl, by kernel_rfl, by kernel_rfl, by kernel_rfl, by kernel_rfl, by kernel_rfl, by kernel_rfl, by kernel_rfl, by kernel_rfl, by kernel_rfl, by kernel_rfl, by kernel_rfl, by kernel_rfl, by kernel_rfl, by kernel_rfl, by kernel_rfl, by kernel_rfl, by kernel_rfl, by kernel_rfl, by kernel_rfl, by kernel_rfl, by kernel_rfl, by kernel_rfl, by kernel_rfl, by kernel_rfl, by kernel_rfl, by kernel_rfl, by kernel_rfl, by kernel_rfl⟩

theorem tbys : tby Tryz.prog 2 = some 8 ∧
  tby Tryz.prog 3 = some 8 ∧
  tby Tryz.prog 4 = some 1 ∧
  tby Tryz.prog 5 = some 1 ∧
  tby Tryz.prog 6 = some 1 ∧
  tby Tryz.prog 7 = some 24 ∧
  tby Tryz.prog 8 = some 24 ∧
  tby Tryz.prog 9 = some 16 ∧
  tby Tryz.prog 10 = some 16 ∧
  tby Tryz.prog 11 = some 16 ∧
  tby Tryz.prog 12 = some 8 ∧
  tby Tryz.prog 13 = some 24 ∧
  tby Tryz.prog 14 = some 24 ∧
  tby Tryz.prog 15 = some 8 ∧
  tby Tryz.prog 16 = some 8 ∧
  tby Tryz.prog 17 = some 8 ∧
  tby Tryz.prog 18 = some 8 ∧
  tby Tryz.prog 19 = some 8 ∧
  tby Tryz.prog 21 = some 4 ∧
  tby Tryz.prog 22 = some 32 ∧
  tby Tryz.prog 23 = some 32 ∧
  tby Tryz.prog 24 = some 16 ∧
  tby Tryz.prog 25 = some 17 ∧
  tby Tryz.prog 26 = some 17 ∧
  tby Tryz.prog 27 = some 8 ∧
  tby Tryz.prog 28 = some 64 ∧
  tby Tryz.prog 29 = some 64 ∧
  tby Tryz.prog 30 = some 8 ∧
  tby Tryz.prog 31 = some 80 ∧
  tby Tryz.prog 32 = some 80 ∧
  tby Tryz.prog 35 = some 8 ∧
  tby Tryz.prog 37 = some 8 ∧
  tby Tryz.prog 38 = some 8 ∧
  tby Tryz.prog 39 = some 32 ∧
  tby Tryz.prog 40 = some 32 ∧
  tby Tryz.prog 42 = some 96 ∧
  tby Tryz.prog 43 = some 24 ∧
  tby Tryz.prog 44 = some 24 ∧
  tby Tryz.prog 45 = some 296 ∧
  tby Tryz.prog 46 = some 296 ∧
  tby Tryz.prog 47 = some 24 ∧
  tby Tryz.prog 48 = some 24 ∧
  tby Tryz.prog 50 = some 8 ∧
  tby Tryz.prog 54 = some 24 ∧
  tby Tryz.prog 57 = some 24 ∧
  tby Tryz.prog 58 = some 80 ∧
  tby Tryz.prog 59 = some 80 ∧
  tby Tryz.prog 60 = some 8 ∧
  tby Tryz.prog 61 = some 152 ∧
  tby Tryz.prog 62 = some 152 ∧
  tby Tryz.prog 63 = some 200 ∧
  tby Tryz.prog 64 = some 200 ∧
  tby Tryz.prog 65 = some 24 ∧
  tby Tryz.prog 66 = some 88 ∧
  tby Tryz.prog 67 = some 88 ∧
  tby Tryz.prog 68 = some 24 ∧
  tby Tryz.prog 69 = some 112 ∧
  tby Tryz.prog 70 = some 112 ∧
  tby Tryz.prog 73 = some 64 ∧
  tby Tryz.prog 74 = some 64 ∧
  tby Tryz.prog 77 = some 224 ∧
  tby Tryz.prog 78 = some 32 ∧
  tby Tryz.prog 79 = some 32 ∧
  tby Tryz.prog 80 = some 96 ∧
  tby Tryz.prog 81 = some 96 ∧
  tby Tryz.prog 103 = some 8 ∧
  tby Tryz.prog 105 = some 24 ∧
  tby Tryz.prog 106 = some 24 ∧
  tby Tryz.prog 107 = some 16 ∧
  tby Tryz.prog 108 = some 16 ∧
  tby Tryz.prog 111 = some 24 ∧
  tby Tryz.prog 112 = some 24 ∧
  tby Tryz.prog 113 = some 24 ∧
  tby Tryz.prog 123 = some 24 ∧
  tby Tryz.prog 124 = some 24 ∧
  tby Tryz.prog 129 = some 8 ∧
  tby Tryz.prog 145 = some 24 ∧
  tby Tryz.prog 146 = some 8 ∧
  tby Tryz.prog 147 = some 24 ∧
  tby Tryz.prog 148 = some 24 ∧
  tby Tryz.prog 150 = some 112 ∧
  tby Tryz.prog 151 = some 112 ∧
  tby Tryz.prog 152 = some 24 ∧
  tby Tryz.prog 153 = some 160 ∧
  tby Tryz.prog 154 = some 160 ∧
  tby Tryz.prog 160 = some 8 ∧
  tby Tryz.prog 162 = some 8 ∧
  tby Tryz.prog 163 = some 24 ∧
  tby Tryz.prog 164 = some 24 ∧
  tby Tryz.prog 173 = some 152 ∧
  tby Tryz.prog 186 = some 24 ∧
  tby Tryz.prog 190 = some 56 ∧
  tby Tryz.prog 191 = some 56 ∧
  tby Tryz.prog 206 = some 16 ∧
  tby Tryz.prog 228 = some 24 ∧
  tby Tryz.prog 249 = some 8 ∧
  tby Tryz.prog 250 = some 32 ∧
  tby Tryz.prog 251 = some 32 ∧
  tby Tryz.prog 269 = some 8 ∧
  tby Tryz.prog 271 = some 2 ∧
  tby Tryz.prog 272 = some 16 ∧
  tby Tryz.prog 273 = some 24 ∧
  tby Tryz.prog 279 = some 4 ∧
  tby Tryz.prog 293 = some 24 ∧
  tby Tryz.prog 297 = some 8 ∧
  tby Tryz.prog 298 = some 32 ∧
  tby Tryz.prog 299 = some 32 ∧
  tby Tryz.prog 310 = some 8 ∧
  tby Tryz.prog 312 = some 8 ∧
  tby Tryz.prog 318 = some 24 ∧
  tby Tryz.prog 319 = some 8 ∧
  tby Tryz.prog 330 = some 160 ∧
  tby Tryz.prog 331 = some 65 ∧
  tby Tryz.prog 334 = some 8 ∧
  tby Tryz.prog 336 = some 64 ∧
  tby Tryz.prog 342 = some 48 ∧
  tby Tryz.prog 343 = some 48 ∧
  tby Tryz.prog 346 = some 8 ∧
  tby Tryz.prog 348 = some 16 ∧
  tby Tryz.prog 349 = some 16 ∧
  tby Tryz.prog 355 = some 8 ∧
  tby Tryz.prog 356 = some 16 ∧
  tby Tryz.prog 357 = some 16 ∧
  tby Tryz.prog 362 = some 32 ∧
  tby Tryz.prog 363 = some 104 ∧
  tby Tryz.prog 364 = some 104 ∧
  tby Tryz.prog 366 = some 256 ∧
  tby Tryz.prog 367 = some 2 ∧
  tby Tryz.prog 368 = some 2 ∧
  tby Tryz.prog 369 = some 32 ∧
  tby Tryz.prog 371 = some 256 ∧
  tby Tryz.prog 378 = some 4 ∧
  tby Tryz.prog 379 = some 40 ∧
  tby Tryz.prog 380 = some 40 ∧
  tby Tryz.prog 381 = some 0 ∧
  tby Tryz.prog 382 = some 0 ∧
  tby Tryz.prog 383 = some 0 ∧
  tby Tryz.prog 385 = some 1 ∧
  tby Tryz.prog 386 = some 1 ∧
  tby Tryz.prog 388 = some 4 ∧
  tby Tryz.prog 389 = some 4 ∧
  tby Tryz.prog 390 = some 48 ∧
  tby Tryz.prog 391 = some 48 := ⟨by kernel_rfl, by kernel_rfl, by kernel_rfl, by kernel_rfl, by kernel_rfl, by kernel_rfl, by kernel_rfl, by kernel_rfl, by kernel_rfl, by kernel_rfl, by kernel_rfl, by kernel_rfl, by kernel_rfl, by kernel_rfl, by kernel_rfl, by kernel_rfl, by kernel_rfl, by kernel_rfl, by kernel_rfl, by kernel_rfl, by kernel_rfl, by kernel_rfl, by kernel_rfl, by kernel_rfl, by kernel_rfl, by kernel_rfl, by kernel_rfl, by kernel_rfl, by kernel_rfl, by kernel_rfl, by kernel_rfl, by kernel_rfl, by kernel_rfl, by kernel_rfl, by kernel_rfl, by kernel_rfl, by kernel_rfl, by kernel_rfl, by kernel_rfl, by kernel_rfl, by kernel_rfl, by kernel_rfl, by kernel_rfl, by kernel_rfl, by kernel_rfl, by kernel_rfl, by kernel_rfl, by kernel_rfl, by kernel_rfl, by kernel_rfl, by kernel_rfl, by kernel_rfl, by kernel_rfl, by kernel_rfl, by kernel_rfl, by kernel_rfl, by kernel_rfl, by kernel_rfl, by kernel_rfl, by kernel_rfl, by kernel_rfl, by kernel_rfl, by kernel_rfl, by kernel_rfl, by kernel_rfl, by kernel_rfl, by kernel_rfl, by kernel_rfl, by kernel_rfl, by kernel_rfl, by kernel_rfl, by kernel_rfl, by kernel_rfl, by kernel_rfl, by kernel_rfl, by kernel_rfl, by kernel_rfl, by kernel_rfl, by kernel_rfl, by kernel_rfl, by kernel_rfl, by kernel_rfl, by kernel_rfl, by kernel_rfl, by kernel_rfl, by kernel_rfl, by kernel_rfl, by kernel_rfl, by kernel_rfl, by kernel_rfl, by kernel_rfl, by kernel_rfl, by kernel_rfl, by kernel_rfl, by kernel_rfl, by kernel_rfl, by kernel_rfl, by kernel_rfl, by kernel_rfl, by kernel_rfl, by kernel_rfl, by kernel_rfl, by kernel_rfl, by kernel_rfl, by kernel_rfl, by kernel_rfl, by kernel_rfl, by kernel_rfl, by kernel_rfl, by kernel_rfl, by kernel_rfl, by kernel_rfl, by kernel_rfl, by kernel_rfl, by kernel_rfl, by kernel_rfl, by kernel_rfl, by kernel_rfl, by kernel_rfl, by kernel_rfl, by kernel_rfl, by kernel_rfl, by kernel_rfl, by kernel_rfl, by kernel_rfl, by kernel_rfl, by kernel_rfl, by kernel_rfl, by kernel_rfl, by kernel_rfl, by kernel_rfl, by kernel_rfl, by kernel_rfl, by kernel_rfl, by kernel_rfl, by kernel_rfl, by kernel_rfl, by kernel_rfl, by kernel_rfl, by kernel_rfl, by kernel_rfl, by kernel_rfl, by kernel_rfl⟩

theorem tzeros : tzero Tryz.prog 2 = some ([.int .i64 0]) ∧
  tzero Tryz.prog 3 = some ([.int .i64 0]) ∧
  tzero Tryz.prog 4 = some ([.bool false]) ∧
  tzero Tryz.prog 5 = some ([.int .u8 0]) ∧
  tzero Tryz.prog 6 = some ([.int .u8 0]) ∧
  tzero Tryz.prog 7 = some ([.int .i64 0, .int .i64 0, .bool false, .int .u8 0]) ∧
  tzero Tryz.prog 8 = some ([.int .i64 0, .int .i64 0, .bool false, .int .u8 0]) ∧
  tzero Tryz.prog 9 = some ([.string ⟨#[]⟩]) ∧
  tzero Tryz.prog 10 = some ([.string ⟨#[]⟩]) ∧
  tzero Tryz.prog 11 = some ([.string ⟨#[]⟩]) ∧
  tzero Tryz.prog 12 = some ([.int .u64 0]) ∧
  tzero Tryz.prog 13 = some ([.string ⟨#[]⟩, .int .u64 0]) ∧
  tzero Tryz.prog 14 = some ([.string ⟨#[]⟩, .int .u64 0]) ∧
  tzero Tryz.prog 15 = some ([.pointer none]) ∧
  tzero Tryz.prog 16 = some ([.pointer none]) ∧
  tzero Tryz.prog 17 = some ([.pointer none]) ∧
  tzero Tryz.prog 18 = some ([.pointer none]) ∧
  tzero Tryz.prog 19 = some ([.pointer none]) ∧
  tzero Tryz.prog 21 = some ([.int .i32 0]) ∧
  tzero Tryz.prog 22 = some (zvs .u8 32) ∧
  tzero Tryz.prog 23 = some (zvs .u8 32) ∧
  tzero Tryz.prog 24 = some (zvs .u8 16) ∧
  tzero Tryz.prog 25 = some ([.bool false, .int .u8 0, .int .u8 0, .int .u8 0, .int .u8 0, .int .u8 0, .int .u8 0, .int .u8 0, .int .u8 0, .int .u8 0, .int .u8 0, .int .u8 0, .int .u8 0, .int .u8 0, .int .u8 0, .int .u8 0, .int .u8 0]) ∧
  tzero Tryz.prog 26 = some ([.bool false, .int .u8 0, .int .u8 0, .int .u8 0, .int .u8 0, .int .u8 0, .int .u8 0, .int .u8 0, .int .u8 0, .int .u8 0, .int .u8 0, .int .u8 0, .int .u8 0, .int .u8 0, .int .u8 0, .int .u8 0, .int .u8 0]) ∧
  tzero Tryz.prog 27 = some ([.float .f64 0]) ∧
  tzero Tryz.prog 28 = some ([.string ⟨#[]⟩, .string ⟨#[]⟩, .bool false, .int .u8 0, .int .u8 0, .int .u8 0, .int .u8 0, .int .u8 0, .int .u8 0, .int .u8 0, .int .u8 0, .int .u8 0, .int .u8 0, .int .u8 0, .int .u8 0, .int .u8 0, .int .u8 0, .int .u8 0, .int .u8 0, .float .f64 0]) ∧
  tzero Tryz.prog 29 = some ([.string ⟨#[]⟩, .string ⟨#[]⟩, .bool false, .int .u8 0, .int .u8 0, .int .u8 0, .int .u8 0, .int .u8 0, .int .u8 0, .int .u8 0, .int .u8 0, .int .u8 0, .int .u8 0, .int .u8 0, .int .u8 0, .int .u8 0, .int .u8 0, .int .u8 0, .int .u8 0, .float .f64 0]) ∧
  tzero Tryz.prog 30 = some ([.int .u64 0]) ∧
  tzero Tryz.prog 31 = some ([.string ⟨#[]⟩, .string ⟨#[]⟩, .bool false, .int .u8 0, .int .u8 0, .int .u8 0, .int .u8 0, .int .u8 0, .int .u8 0, .int .u8 0, .int .u8 0, .int .u8 0, .int .u8 0, .int .u8 0, .int .u8 0, .int .u8 0, .int .u8 0, .int .u8 0, .int .u8 0, .float .f64 0, .int .u64 0, .int .u64 0]) ∧
  tzero Tryz.prog 32 = some ([.string ⟨#[]⟩, .string ⟨#[]⟩, .bool false, .int .u8 0, .int .u8 0, .int .u8 0, .int .u8 0, .int .u8 0, .int .u8 0, .int .u8 0, .int .u8 0, .int .u8 0, .int .u8 0, .int .u8 0, .int .u8 0, .int .u8 0, .int .u8 0, .int .u8 0, .int .u8 0, .float .f64 0, .int .u64 0, .int .u64 0]) ∧
  tzero Tryz.prog 35 = some ([.pointer none]) ∧
  tzero Tryz.prog 37 = some ([.int .i64 0]) ∧
  tzero Tryz.prog 38 = some ([.int .i64 0]) ∧
  tzero Tryz.prog 39 = some ([.int .i64 0, .int .i64 0, .int .u64 0, .int .i64 0]) ∧
  tzero Tryz.prog 40 = some ([.int .i64 0, .int .i64 0, .int .u64 0, .int .i64 0]) ∧
  tzero Tryz.prog 42 = some (zvs .u8 96) ∧
  tzero Tryz.prog 43 = some ([.slice none 0 0]) ∧
  tzero Tryz.prog 44 = some ([.slice none 0 0]) ∧
  tzero Tryz.prog 45 = some ([.int .i64 0, .int .u64 0, .int .u64 0, .int .u64 0, .int .u64 0, .int .u8 0, .int .u8 0, .int .u8 0, .int .u8 0, .int .u8 0, .int .u8 0, .int .u8 0, .int .u8 0, .int .u8 0, .int .u8 0, .int .u8 0, .int .u8 0, .int .u8 0, .int .u8 0, .int .u8 0, .int .u8 0, .int .u8 0, .int .u8 0, .int .u8 0, .int .u8 0, .int .u8 0, .int .u8 0, .int .u8 0, .int .u8 0, .int .u8 0, .int .u8 0, .int .u8 0, .int .u8 0, .int .u8 0, .int .u8 0, .int .u8 0, .int .u8 0, .int .u8 0, .int .u8 0, .int .u8 0, .int .u8 0, .int .u8 0, .int .u8 0, .int .u8 0, .int .u8 0, .int .u8 0, .int .u8 0, .int .u8 0, .int .u8 0, .int .u8 0, .int .u8 0, .int .u8 0, .int .u8 0, .int .u8 0, .int .u8 0, .int .u8 0, .int .u8 0, .int .u8 0, .int .u8 0, .int .u8 0, .int .u8 0, .int .u8 0, .int .u8 0, .int .u8 0, .int .u8 0, .int .u8 0, .int .u8 0, .int .u8 0, .int .u8 0, .int .u8 0, .int .u8 0, .int .u8 0, .int .u8 0, .int .u8 0, .int .u8 0, .int .u8 0, .int .u8 0, .int .u8 0, .int .u8 0, .int .u8 0, .int .u8 0, .int .u8 0, .int .u8 0, .int .u8 0, .int .u8 0, .int .u8 0, .int .u8 0, .int .u8 0, .int .u8 0, .int .u8 0, .int .u8 0, .int .u8 0, .int .u8 0, .int .u8 0, .int .u8 0, .int .u8 0, .int .u8 0, .int .u8 0, .int .u8 0, .int .u8 0, .int .u8 0, .string ⟨#[]⟩, .slice none 0 0, .string ⟨#[]⟩, .int .i64 0, .slice none 0 0, .string ⟨#[]⟩, .string ⟨#[]⟩, .bool false, .int .u8 0, .int .u8 0, .int .u8 0, .int .u8 0, .int .u8 0, .int .u8 0, .int .u8 0, .int .u8 0, .int .u8 0, .int .u8 0, .int .u8 0, .int .u8 0, .int .u8 0, .int .u8 0, .int .u8 0, .int .u8 0, .float .f64 0, .bool false, .bool false, .bool false]) ∧
  tzero Tryz.prog 46 = some ([.int .i64 0, .int .u64 0, .int .u64 0, .int .u64 0, .int .u64 0, .int .u8 0, .int .u8 0, .int .u8 0, .int .u8 0, .int .u8 0, .int .u8 0, .int .u8 0, .int .u8 0, .int .u8 0, .int .u8 0, .int .u8 0, .int .u8 0, .int .u8 0, .int .u8 0, .int .u8 0, .int .u8 0, .int .u8 0, .int .u8 0, .int .u8 0, .int .u8 0, .int .u8 0, .int .u8 0, .int .u8 0, .int .u8 0, .int .u8 0, .int .u8 0, .int .u8 0, .int .u8 0, .int .u8 0, .int .u8 0, .int .u8 0, .int .u8 0, .int .u8 0, .int .u8 0, .int .u8 0, .int .u8 0, .int .u8 0, .int .u8 0, .int .u8 0, .int .u8 0, .int .u8 0, .int .u8 0, .int .u8 0, .int .u8 0, .int .u8 0, .int .u8 0, .int .u8 0, .int .u8 0, .int .u8 0, .int .u8 0, .int .u8 0, .int .u8 0, .int .u8 0, .int .u8 0, .int .u8 0, .int .u8 0, .int .u8 0, .int .u8 0, .int .u8 0, .int .u8 0, .int .u8 0, .int .u8 0, .int .u8 0, .int .u8 0, .int .u8 0, .int .u8 0, .int .u8 0, .int .u8 0, .int .u8 0, .int .u8 0, .int .u8 0, .int .u8 0, .int .u8 0, .int .u8 0, .int .u8 0, .int .u8 0, .int .u8 0, .int .u8 0, .int .u8 0, .int .u8 0, .int .u8 0, .int .u8 0, .int .u8 0, .int .u8 0, .int .u8 0, .int .u8 0, .int .u8 0, .int .u8 0, .int .u8 0, .int .u8 0, .int .u8 0, .int .u8 0, .int .u8 0, .int .u8 0, .int .u8 0, .int .u8 0, .string ⟨#[]⟩, .slice none 0 0, .string ⟨#[]⟩, .int .i64 0, .slice none 0 0, .string ⟨#[]⟩, .string ⟨#[]⟩, .bool false, .int .u8 0, .int .u8 0, .int .u8 0, .int .u8 0, .int .u8 0, .int .u8 0, .int .u8 0, .int .u8 0, .int .u8 0, .int .u8 0, .int .u8 0, .int .u8 0, .int .u8 0, .int .u8 0, .int .u8 0, .int .u8 0, .float .f64 0, .bool false, .bool false, .bool false]) ∧
  tzero Tryz.prog 47 = some ([.string ⟨#[]⟩, .bool false, .bool false]) ∧
  tzero Tryz.prog 48 = some ([.string ⟨#[]⟩, .bool false, .bool false]) ∧
  tzero Tryz.prog 50 = some ([.pointer none]) ∧
  tzero Tryz.prog 54 = some ([.slice none 0 0]) ∧
  tzero Tryz.prog 57 = some ([.slice none 0 0]) ∧
  tzero Tryz.prog 58 = some ([.int .u8 0, .int .u8 0, .int .u8 0, .int .u8 0, .int .u8 0, .int .u8 0, .int .u8 0, .int .u8 0, .int .u8 0, .int .u8 0, .int .u8 0, .int .u8 0, .int .u8 0, .int .u8 0, .int .u8 0, .int .u8 0, .int .u8 0, .int .u8 0, .int .u8 0, .int .u8 0, .int .u8 0, .int .u8 0, .int .u8 0, .int .u8 0, .int .u8 0, .int .u8 0, .int .u8 0, .int .u8 0, .int .u8 0, .int .u8 0, .int .u8 0, .int .u8 0, .string ⟨#[]⟩, .slice none 0 0, .bool false]) ∧
  tzero Tryz.prog 59 = some ([.int .u8 0, .int .u8 0, .int .u8 0, .int .u8 0, .int .u8 0, .int .u8 0, .int .u8 0, .int .u8 0, .int .u8 0, .int .u8 0, .int .u8 0, .int .u8 0, .int .u8 0, .int .u8 0, .int .u8 0, .int .u8 0, .int .u8 0, .int .u8 0, .int .u8 0, .int .u8 0, .int .u8 0, .int .u8 0, .int .u8 0, .int .u8 0, .int .u8 0, .int .u8 0, .int .u8 0, .int .u8 0, .int .u8 0, .int .u8 0, .int .u8 0, .int .u8 0, .string ⟨#[]⟩, .slice none 0 0, .bool false]) ∧
  tzero Tryz.prog 60 = some ([.map none]) ∧
  tzero Tryz.prog 61 = some ([.int .u64 0, .int .u8 0, .int .u8 0, .int .u8 0, .int .u8 0, .int .u8 0, .int .u8 0, .int .u8 0, .int .u8 0, .int .u8 0, .int .u8 0, .int .u8 0, .int .u8 0, .int .u8 0, .int .u8 0, .int .u8 0, .int .u8 0, .int .u8 0, .int .u8 0, .int .u8 0, .int .u8 0, .int .u8 0, .int .u8 0, .int .u8 0, .int .u8 0, .int .u8 0, .int .u8 0, .int .u8 0, .int .u8 0, .int .u8 0, .int .u8 0, .int .u8 0, .int .u8 0, .int .u8 0, .int .u8 0, .int .u8 0, .int .u8 0, .int .u8 0, .int .u8 0, .int .u8 0, .int .u8 0, .int .u8 0, .int .u8 0, .int .u8 0, .int .u8 0, .int .u8 0, .int .u8 0, .int .u8 0, .int .u8 0, .int .u8 0, .int .u8 0, .int .u8 0, .int .u8 0, .int .u8 0, .int .u8 0, .int .u8 0, .int .u8 0, .int .u8 0, .int .u8 0, .int .u8 0, .int .u8 0, .int .u8 0, .int .u8 0, .int .u8 0, .int .u8 0, .string ⟨#[]⟩, .int .u8 0, .int .u8 0, .int .u8 0, .int .u8 0, .int .u8 0, .int .u8 0, .int .u8 0, .int .u8 0, .int .u8 0, .int .u8 0, .int .u8 0, .int .u8 0, .int .u8 0, .int .u8 0, .int .u8 0, .int .u8 0, .int .u8 0, .int .u8 0, .int .u8 0, .int .u8 0, .int .u8 0, .int .u8 0, .int .u8 0, .int .u8 0, .int .u8 0, .int .u8 0, .int .u8 0, .int .u8 0, .int .u8 0, .int .u8 0, .int .u8 0, .int .u8 0, .int .u8 0, .int .u8 0, .int .u8 0, .int .u8 0, .int .u8 0, .int .u8 0, .int .u8 0, .int .u8 0, .int .u8 0, .int .u8 0, .int .u8 0, .int .u8 0, .int .u8 0, .int .u8 0, .int .u8 0, .int .u8 0, .int .u8 0, .int .u8 0, .int .u8 0, .int .u8 0, .int .u8 0, .int .u8 0, .int .u8 0, .int .u8 0, .int .u8 0, .int .u8 0, .int .u8 0, .int .u8 0, .int .u8 0, .int .u8 0, .int .u8 0, .int .u8 0]) ∧
  tzero Tryz.prog 62 = some ([.int .u64 0, .int .u8 0, .int .u8 0, .int .u8 0, .int .u8 0, .int .u8 0, .int .u8 0, .int .u8 0, .int .u8 0, .int .u8 0, .int .u8 0, .int .u8 0, .int .u8 0, .int .u8 0, .int .u8 0, .int .u8 0, .int .u8 0, .int .u8 0, .int .u8 0, .int .u8 0, .int .u8 0, .int .u8 0, .int .u8 0, .int .u8 0, .int .u8 0, .int .u8 0, .int .u8 0, .int .u8 0, .int .u8 0, .int .u8 0, .int .u8 0, .int .u8 0, .int .u8 0, .int .u8 0, .int .u8 0, .int .u8 0, .int .u8 0, .int .u8 0, .int .u8 0, .int .u8 0, .int .u8 0, .int .u8 0, .int .u8 0, .int .u8 0, .int .u8 0, .int .u8 0, .int .u8 0, .int .u8 0, .int .u8 0, .int .u8 0, .int .u8 0, .int .u8 0, .int .u8 0, .int .u8 0, .int .u8 0, .int .u8 0, .int .u8 0, .int .u8 0, .int .u8 0, .int .u8 0, .int .u8 0, .int .u8 0, .int .u8 0, .int .u8 0, .int .u8 0, .string ⟨#[]⟩, .int .u8 0, .int .u8 0, .int .u8 0, .int .u8 0, .int .u8 0, .int .u8 0, .int .u8 0, .int .u8 0, .int .u8 0, .int .u8 0, .int .u8 0, .int .u8 0, .int .u8 0, .int .u8 0, .int .u8 0, .int .u8 0, .int .u8 0, .int .u8 0, .int .u8 0, .int .u8 0, .int .u8 0, .int .u8 0, .int .u8 0, .int .u8 0, .int .u8 0, .int .u8 0, .int .u8 0, .int .u8 0, .int .u8 0, .int .u8 0, .int .u8 0, .int .u8 0, .int .u8 0, .int .u8 0, .int .u8 0, .int .u8 0, .int .u8 0, .int .u8 0, .int .u8 0, .int .u8 0, .int .u8 0, .int .u8 0, .int .u8 0, .int .u8 0, .int .u8 0, .int .u8 0, .int .u8 0, .int .u8 0, .int .u8 0, .int .u8 0, .int .u8 0, .int .u8 0, .int .u8 0, .int .u8 0, .int .u8 0, .int .u8 0, .int .u8 0, .int .u8 0, .int .u8 0, .int .u8 0, .int .u8 0, .int .u8 0, .int .u8 0, .int .u8 0]) ∧
  tzero Tryz.prog 63 = some ([.bool false, .string ⟨#[]⟩, .int .u64 0, .int .u8 0, .int .u8 0, .int .u8 0, .int .u8 0, .int .u8 0, .int .u8 0, .int .u8 0, .int .u8 0, .int .u8 0, .int .u8 0, .int .u8 0, .int .u8 0, .int .u8 0, .int .u8 0, .int .u8 0, .int .u8 0, .int .u8 0, .int .u8 0, .int .u8 0, .int .u8 0, .int .u8 0, .int .u8 0, .int .u8 0, .int .u8 0, .int .u8 0, .int .u8 0, .int .u8 0, .int .u8 0, .int .u8 0, .int .u8 0, .int .u8 0, .int .u8 0, .int .u8 0, .int .u8 0, .int .u8 0, .int .u8 0, .int .u8 0, .int .u8 0, .int .u8 0, .int .u8 0, .int .u8 0, .int .u8 0, .int .u8 0, .int .u8 0, .int .u8 0, .int .u8 0, .int .u8 0, .int .u8 0, .int .u8 0, .int .u8 0, .int .u8 0, .int .u8 0, .int .u8 0, .int .u8 0, .int .u8 0, .int .u8 0, .int .u8 0, .int .u8 0, .int .u8 0, .int .u8 0, .int .u8 0, .int .u8 0, .int .u8 0, .int .u8 0, .string ⟨#[]⟩, .int .u8 0, .int .u8 0, .int .u8 0, .int .u8 0, .int .u8 0, .int .u8 0, .int .u8 0, .int .u8 0, .int .u8 0, .int .u8 0, .int .u8 0, .int .u8 0, .int .u8 0, .int .u8 0, .int .u8 0, .int .u8 0, .int .u8 0, .int .u8 0, .int .u8 0, .int .u8 0, .int .u8 0, .int .u8 0, .int .u8 0, .int .u8 0, .int .u8 0, .int .u8 0, .int .u8 0, .int .u8 0, .int .u8 0, .int .u8 0, .int .u8 0, .int .u8 0, .int .u8 0, .int .u8 0, .int .u8 0, .int .u8 0, .int .u8 0, .int .u8 0, .int .u8 0, .int .u8 0, .int .u8 0, .int .u8 0, .int .u8 0, .int .u8 0, .int .u8 0, .int .u8 0, .int .u8 0, .int .u8 0, .int .u8 0, .int .u8 0, .int .u8 0, .int .u8 0, .int .u8 0, .int .u8 0, .int .u8 0, .int .u8 0, .int .u8 0, .int .u8 0, .int .u8 0, .int .u8 0, .int .u8 0, .int .u8 0, .int .u8 0, .int .u8 0, .slice none 0 0]) ∧
  tzero Tryz.prog 64 = some ([.bool false, .string ⟨#[]⟩, .int .u64 0, .int .u8 0, .int .u8 0, .int .u8 0, .int .u8 0, .int .u8 0, .int .u8 0, .int .u8 0, .int .u8 0, .int .u8 0, .int .u8 0, .int .u8 0, .int .u8 0, .int .u8 0, .int .u8 0, .int .u8 0, .int .u8 0, .int .u8 0, .int .u8 0, .int .u8 0, .int .u8 0, .int .u8 0, .int .u8 0, .int .u8 0, .int .u8 0, .int .u8 0, .int .u8 0, .int .u8 0, .int .u8 0, .int .u8 0, .int .u8 0, .int .u8 0, .int .u8 0, .int .u8 0, .int .u8 0, .int .u8 0, .int .u8 0, .int .u8 0, .int .u8 0, .int .u8 0, .int .u8 0, .int .u8 0, .int .u8 0, .int .u8 0, .int .u8 0, .int .u8 0, .int .u8 0, .int .u8 0, .int .u8 0, .int .u8 0, .int .u8 0, .int .u8 0, .int .u8 0, .int .u8 0, .int .u8 0, .int .u8 0, .int .u8 0, .int .u8 0, .int .u8 0, .int .u8 0, .int .u8 0, .int .u8 0, .int .u8 0, .int .u8 0, .int .u8 0, .string ⟨#[]⟩, .int .u8 0, .int .u8 0, .int .u8 0, .int .u8 0, .int .u8 0, .int .u8 0, .int .u8 0, .int .u8 0, .int .u8 0, .int .u8 0, .int .u8 0, .int .u8 0, .int .u8 0, .int .u8 0, .int .u8 0, .int .u8 0, .int .u8 0, .int .u8 0, .int .u8 0, .int .u8 0, .int .u8 0, .int .u8 0, .int .u8 0, .int .u8 0, .int .u8 0, .int .u8 0, .int .u8 0, .int .u8 0, .int .u8 0, .int .u8 0, .int .u8 0, .int .u8 0, .int .u8 0, .int .u8 0, .int .u8 0, .int .u8 0, .int .u8 0, .int .u8 0, .int .u8 0, .int .u8 0, .int .u8 0, .int .u8 0, .int .u8 0, .int .u8 0, .int .u8 0, .int .u8 0, .int .u8 0, .int .u8 0, .int .u8 0, .int .u8 0, .int .u8 0, .int .u8 0, .int .u8 0, .int .u8 0, .int .u8 0, .int .u8 0, .int .u8 0, .int .u8 0, .int .u8 0, .int .u8 0, .int .u8 0, .int .u8 0, .int .u8 0, .int .u8 0, .slice none 0 0]) ∧
  tzero Tryz.prog 65 = some ([.slice none 0 0]) ∧
  tzero Tryz.prog 66 = some ([.int .u64 0, .string ⟨#[]⟩, .slice none 0 0, .bool false, .int .u8 0, .int .u8 0, .int .u8 0, .int .u8 0, .int .u8 0, .int .u8 0, .int .u8 0, .int .u8 0, .int .u8 0, .int .u8 0, .int .u8 0, .int .u8 0, .int .u8 0, .int .u8 0, .int .u8 0, .int .u8 0, .int .u8 0, .int .u8 0, .int .u8 0, .int .u8 0, .int .u8 0, .int .u8 0, .int .u8 0, .int .u8 0, .int .u8 0, .int .u8 0, .int .u8 0, .int .u8 0, .int .u8 0, .int .u8 0, .int .u8 0, .int .u8 0]) ∧
  tzero Tryz.prog 67 = some ([.int .u64 0, .string ⟨#[]⟩, .slice none 0 0, .bool false, .int .u8 0, .int .u8 0, .int .u8 0, .int .u8 0, .int .u8 0, .int .u8 0, .int .u8 0, .int .u8 0, .int .u8 0, .int .u8 0, .int .u8 0, .int .u8 0, .int .u8 0, .int .u8 0, .int .u8 0, .int .u8 0, .int .u8 0, .int .u8 0, .int .u8 0, .int .u8 0, .int .u8 0, .int .u8 0, .int .u8 0, .int .u8 0, .int .u8 0, .int .u8 0, .int .u8 0, .int .u8 0, .int .u8 0, .int .u8 0, .int .u8 0, .int .u8 0]) ∧
  tzero Tryz.prog 68 = some ([.slice none 0 0]) ∧
  tzero Tryz.prog 69 = some ([.int .u64 0, .string ⟨#[]⟩, .slice none 0 0, .bool false, .int .u8 0, .int .u8 0, .int .u8 0, .int .u8 0, .int .u8 0, .int .u8 0, .int .u8 0, .int .u8 0, .int .u8 0, .int .u8 0, .int .u8 0, .int .u8 0, .int .u8 0, .int .u8 0, .int .u8 0, .int .u8 0, .int .u8 0, .int .u8 0, .int .u8 0, .int .u8 0, .int .u8 0, .int .u8 0, .int .u8 0, .int .u8 0, .int .u8 0, .int .u8 0, .int .u8 0, .int .u8 0, .int .u8 0, .int .u8 0, .int .u8 0, .int .u8 0, .slice none 0 0]) ∧
  tzero Tryz.prog 70 = some ([.int .u64 0, .string ⟨#[]⟩, .slice none 0 0, .bool false, .int .u8 0, .int .u8 0, .int .u8 0, .int .u8 0, .int .u8 0, .int .u8 0, .int .u8 0, .int .u8 0, .int .u8 0, .int .u8 0, .int .u8 0, .int .u8 0, .int .u8 0, .int .u8 0, .int .u8 0, .int .u8 0, .int .u8 0, .int .u8 0, .int .u8 0, .int .u8 0, .int .u8 0, .int .u8 0, .int .u8 0, .int .u8 0, .int .u8 0, .int .u8 0, .int .u8 0, .int .u8 0, .int .u8 0, .int .u8 0, .int .u8 0, .int .u8 0, .slice none 0 0]) ∧
  tzero Tryz.prog 73 = some ([.bool false, .string ⟨#[]⟩, .int .u64 0, .string ⟨#[]⟩, .string ⟨#[]⟩]) ∧
  tzero Tryz.prog 74 = some ([.bool false, .string ⟨#[]⟩, .int .u64 0, .string ⟨#[]⟩, .string ⟨#[]⟩]) ∧
  tzero Tryz.prog 77 = some ([.int .u64 0, .string ⟨#[]⟩, .slice none 0 0, .bool false, .int .u8 0, .int .u8 0, .int .u8 0, .int .u8 0, .int .u8 0, .int .u8 0, .int .u8 0, .int .u8 0, .int .u8 0, .int .u8 0, .int .u8 0, .int .u8 0, .int .u8 0, .int .u8 0, .int .u8 0, .int .u8 0, .int .u8 0, .int .u8 0, .int .u8 0, .int .u8 0, .int .u8 0, .int .u8 0, .int .u8 0, .int .u8 0, .int .u8 0, .int .u8 0, .int .u8 0, .int .u8 0, .int .u8 0, .int .u8 0, .int .u8 0, .int .u8 0, .slice none 0 0, .int .u64 0, .string ⟨#[]⟩, .slice none 0 0, .bool false, .int .u8 0, .int .u8 0, .int .u8 0, .int .u8 0, .int .u8 0, .int .u8 0, .int .u8 0, .int .u8 0, .int .u8 0, .int .u8 0, .int .u8 0, .int .u8 0, .int .u8 0, .int .u8 0, .int .u8 0, .int .u8 0, .int .u8 0, .int .u8 0, .int .u8 0, .int .u8 0, .int .u8 0, .int .u8 0, .int .u8 0, .int .u8 0, .int .u8 0, .int .u8 0, .int .u8 0, .int .u8 0, .int .u8 0, .int .u8 0, .int .u8 0, .int .u8 0, .slice none 0 0]) ∧
  tzero Tryz.prog 78 = some ([.bool false, .int .u8 0, .int .u8 0, .int .u8 0, .int .u8 0, .int .u8 0, .int .u8 0, .int .u8 0, .int .u8 0, .int .u8 0, .int .u8 0, .int .u8 0, .int .u8 0, .int .u8 0, .int .u8 0, .int .u8 0, .int .u8 0, .int .i64 0]) ∧
  tzero Tryz.prog 79 = some ([.bool false, .int .u8 0, .int .u8 0, .int .u8 0, .int .u8 0, .int .u8 0, .int .u8 0, .int .u8 0, .int .u8 0, .int .u8 0, .int .u8 0, .int .u8 0, .int .u8 0, .int .u8 0, .int .u8 0, .int .u8 0, .int .u8 0, .int .i64 0]) ∧
  tzero Tryz.prog 80 = some ([.int .i64 0, .int .u64 0, .slice none 0 0, .string ⟨#[]⟩, .bool false, .int .u8 0, .int .u8 0, .int .u8 0, .int .u8 0, .int .u8 0, .int .u8 0, .int .u8 0, .int .u8 0, .int .u8 0, .int .u8 0, .int .u8 0, .int .u8 0, .int .u8 0, .int .u8 0, .int .u8 0, .int .u8 0, .int .i64 0, .float .f64 0]) ∧
  tzero Tryz.prog 81 = some ([.int .i64 0, .int .u64 0, .slice none 0 0, .string ⟨#[]⟩, .bool false, .int .u8 0, .int .u8 0, .int .u8 0, .int .u8 0, .int .u8 0, .int .u8 0, .int .u8 0, .int .u8 0, .int .u8 0, .int .u8 0, .int .u8 0, .int .u8 0, .int .u8 0, .int .u8 0, .int .u8 0, .int .u8 0, .int .i64 0, .float .f64 0]) ∧
  tzero Tryz.prog 103 = some ([.pointer none]) ∧
  tzero Tryz.prog 105 = some ([.int .u64 0, .pointer none, .pointer none]) ∧
  tzero Tryz.prog 106 = some ([.int .u64 0, .pointer none, .pointer none]) ∧
  tzero Tryz.prog 107 = some ([.int .i64 0, .int .i64 0]) ∧
  tzero Tryz.prog 108 = some ([.int .i64 0, .int .i64 0]) ∧
  tzero Tryz.prog 111 = some ([.slice none 0 0]) ∧
  tzero Tryz.prog 112 = some ([.slice none 0 0]) ∧
  tzero Tryz.prog 113 = some ([.slice none 0 0]) ∧
  tzero Tryz.prog 123 = some ([.int .u8 0, .string ⟨#[]⟩]) ∧
  tzero Tryz.prog 124 = some ([.int .u8 0, .string ⟨#[]⟩]) ∧
  tzero Tryz.prog 129 = some ([.pointer none]) ∧
  tzero Tryz.prog 145 = some ([.slice none 0 0]) ∧
  tzero Tryz.prog 146 = some ([.pointer none]) ∧
  tzero Tryz.prog 147 = some ([.slice none 0 0]) ∧
  tzero Tryz.prog 148 = some ([.slice none 0 0]) ∧
  tzero Tryz.prog 150 = some ([.int .u64 0, .string ⟨#[]⟩, .slice none 0 0, .bool false, .int .u8 0, .int .u8 0, .int .u8 0, .int .u8 0, .int .u8 0, .int .u8 0, .int .u8 0, .int .u8 0, .int .u8 0, .int .u8 0, .int .u8 0, .int .u8 0, .int .u8 0, .int .u8 0, .int .u8 0, .int .u8 0, .int .u8 0, .int .u8 0, .int .u8 0, .int .u8 0, .int .u8 0, .int .u8 0, .int .u8 0, .int .u8 0, .int .u8 0, .int .u8 0, .int .u8 0, .int .u8 0, .int .u8 0, .int .u8 0, .int .u8 0, .int .u8 0, .slice none 0 0]) ∧
  tzero Tryz.prog 151 = some ([.int .u64 0, .string ⟨#[]⟩, .slice none 0 0, .bool false, .int .u8 0, .int .u8 0, .int .u8 0, .int .u8 0, .int .u8 0, .int .u8 0, .int .u8 0, .int .u8 0, .int .u8 0, .int .u8 0, .int .u8 0, .int .u8 0, .int .u8 0, .int .u8 0, .int .u8 0, .int .u8 0, .int .u8 0, .int .u8 0, .int .u8 0, .int .u8 0, .int .u8 0, .int .u8 0, .int .u8 0, .int .u8 0, .int .u8 0, .int .u8 0, .int .u8 0, .int .u8 0, .int .u8 0, .int .u8 0, .int .u8 0, .int .u8 0, .slice none 0 0]) ∧
  tzero Tryz.prog 152 = some ([.slice none 0 0]) ∧
  tzero Tryz.prog 153 = some ([.int .u64 0, .string ⟨#[]⟩, .slice none 0 0, .bool false, .int .u8 0, .int .u8 0, .int .u8 0, .int .u8 0, .int .u8 0, .int .u8 0, .int .u8 0, .int .u8 0, .int .u8 0, .int .u8 0, .int .u8 0, .int .u8 0, .int .u8 0, .int .u8 0, .int .u8 0, .int .u8 0, .int .u8 0, .int .u8 0, .int .u8 0, .int .u8 0, .int .u8 0, .int .u8 0, .int .u8 0, .int .u8 0, .int .u8 0, .int .u8 0, .int .u8 0, .int .u8 0, .int .u8 0, .int .u8 0, .int .u8 0, .int .u8 0, .slice none 0 0, .slice none 0 0, .slice none 0 0]) ∧
  tzero Tryz.prog 154 = some ([.int .u64 0, .string ⟨#[]⟩, .slice none 0 0, .bool false, .int .u8 0, .int .u8 0, .int .u8 0, .int .u8 0, .int .u8 0, .int .u8 0, .int .u8 0, .int .u8 0, .int .u8 0, .int .u8 0, .int .u8 0, .int .u8 0, .int .u8 0, .int .u8 0, .int .u8 0, .int .u8 0, .int .u8 0, .int .u8 0, .int .u8 0, .int .u8 0, .int .u8 0, .int .u8 0, .int .u8 0, .int .u8 0, .int .u8 0, .int .u8 0, .int .u8 0, .int .u8 0, .int .u8 0, .int .u8 0, .int .u8 0, .int .u8 0, .slice none 0 0, .slice none 0 0, .slice none 0 0]) ∧
  tzero Tryz.prog 160 = some ([.int .u64 0]) ∧
  tzero Tryz.prog 162 = some ([.map none]) ∧
  tzero Tryz.prog 163 = some ([.int .i64 0, .int .u64 0, .map none]) ∧
  tzero Tryz.prog 164 = some ([.int .i64 0, .int .u64 0, .map none]) ∧
  tzero Tryz.prog 173 = some ([.int .u64 0, .int .u8 0, .int .u8 0, .int .u8 0, .int .u8 0, .int .u8 0, .int .u8 0, .int .u8 0, .int .u8 0, .int .u8 0, .int .u8 0, .int .u8 0, .int .u8 0, .int .u8 0, .int .u8 0, .int .u8 0, .int .u8 0, .int .u8 0, .int .u8 0, .int .u8 0, .int .u8 0, .int .u8 0, .int .u8 0, .int .u8 0, .int .u8 0, .int .u8 0, .int .u8 0, .int .u8 0, .int .u8 0, .int .u8 0, .int .u8 0, .int .u8 0, .int .u8 0, .int .u8 0, .int .u8 0, .int .u8 0, .int .u8 0, .int .u8 0, .int .u8 0, .int .u8 0, .int .u8 0, .int .u8 0, .int .u8 0, .int .u8 0, .int .u8 0, .int .u8 0, .int .u8 0, .int .u8 0, .int .u8 0, .int .u8 0, .int .u8 0, .int .u8 0, .int .u8 0, .int .u8 0, .int .u8 0, .int .u8 0, .int .u8 0, .int .u8 0, .int .u8 0, .int .u8 0, .int .u8 0, .int .u8 0, .int .u8 0, .int .u8 0, .int .u8 0, .string ⟨#[]⟩, .int .u8 0, .int .u8 0, .int .u8 0, .int .u8 0, .int .u8 0, .int .u8 0, .int .u8 0, .int .u8 0, .int .u8 0, .int .u8 0, .int .u8 0, .int .u8 0, .int .u8 0, .int .u8 0, .int .u8 0, .int .u8 0, .int .u8 0, .int .u8 0, .int .u8 0, .int .u8 0, .int .u8 0, .int .u8 0, .int .u8 0, .int .u8 0, .int .u8 0, .int .u8 0, .int .u8 0, .int .u8 0, .int .u8 0, .int .u8 0, .int .u8 0, .int .u8 0, .int .u8 0, .int .u8 0, .int .u8 0, .int .u8 0, .int .u8 0, .int .u8 0, .int .u8 0, .int .u8 0, .int .u8 0, .int .u8 0, .int .u8 0, .int .u8 0, .int .u8 0, .int .u8 0, .int .u8 0, .int .u8 0, .int .u8 0, .int .u8 0, .int .u8 0, .int .u8 0, .int .u8 0, .int .u8 0, .int .u8 0, .int .u8 0, .int .u8 0, .int .u8 0, .int .u8 0, .int .u8 0, .int .u8 0, .int .u8 0, .int .u8 0, .int .u8 0]) ∧
  tzero Tryz.prog 186 = some ([.slice none 0 0]) ∧
  tzero Tryz.prog 190 = some ([.int .i64 0, .int .u8 0, .int .u8 0, .int .u8 0, .int .u8 0, .int .u8 0, .int .u8 0, .int .u8 0, .int .u8 0, .int .u8 0, .int .u8 0, .int .u8 0, .int .u8 0, .int .u8 0, .int .u8 0, .int .u8 0, .int .u8 0, .int .u8 0, .int .u8 0, .int .u8 0, .int .u8 0, .int .u8 0, .int .u8 0, .int .u8 0, .int .u8 0, .int .u8 0, .int .u8 0, .int .u8 0, .int .u8 0, .int .u8 0, .int .u8 0, .int .u8 0, .int .u8 0, .int .u64 0, .bool false]) ∧
  tzero Tryz.prog 191 = some ([.int .i64 0, .int .u8 0, .int .u8 0, .int .u8 0, .int .u8 0, .int .u8 0, .int .u8 0, .int .u8 0, .int .u8 0, .int .u8 0, .int .u8 0, .int .u8 0, .int .u8 0, .int .u8 0, .int .u8 0, .int .u8 0, .int .u8 0, .int .u8 0, .int .u8 0, .int .u8 0, .int .u8 0, .int .u8 0, .int .u8 0, .int .u8 0, .int .u8 0, .int .u8 0, .int .u8 0, .int .u8 0, .int .u8 0, .int .u8 0, .int .u8 0, .int .u8 0, .int .u8 0, .int .u64 0, .bool false]) ∧
  tzero Tryz.prog 206 = some ([.nilIface]) ∧
  tzero Tryz.prog 228 = some ([.slice none 0 0]) ∧
  tzero Tryz.prog 249 = some ([.pointer none]) ∧
  tzero Tryz.prog 250 = some ([.slice none 0 0, .bool false]) ∧
  tzero Tryz.prog 251 = some ([.slice none 0 0, .bool false]) ∧
  tzero Tryz.prog 269 = some ([.nilFunc]) ∧
  tzero Tryz.prog 271 = some ([.int .u16 0]) ∧
  tzero Tryz.prog 272 = some (zvs .u16 8) ∧
  tzero Tryz.prog 273 = some ([.slice none 0 0]) ∧
  tzero Tryz.prog 279 = some ([.int .u32 0]) ∧
  tzero Tryz.prog 293 = some (zvs .u8 24) ∧
  tzero Tryz.prog 297 = some ([.pointer none]) ∧
  tzero Tryz.prog 298 = some ([.pointer none, .slice none 0 0]) ∧
  tzero Tryz.prog 299 = some ([.pointer none, .slice none 0 0]) ∧
  tzero Tryz.prog 310 = some ([.int .i64 0]) ∧
  tzero Tryz.prog 312 = some ([.pointer none]) ∧
  tzero Tryz.prog 318 = some ([.slice none 0 0]) ∧
  tzero Tryz.prog 319 = some ([.pointer none]) ∧
  tzero Tryz.prog 330 = some (zvs .u64 20) ∧
  tzero Tryz.prog 331 = some (zvs .u8 65) ∧
  tzero Tryz.prog 334 = some ([.pointer none]) ∧
  tzero Tryz.prog 336 = some (zvs .u8 64) ∧
  tzero Tryz.prog 342 = some ([.string ⟨#[]⟩, .string ⟨#[]⟩, .nilIface]) ∧
  tzero Tryz.prog 343 = some ([.string ⟨#[]⟩, .string ⟨#[]⟩, .nilIface]) ∧
  tzero Tryz.prog 346 = some ([.pointer none]) ∧
  tzero Tryz.prog 348 = some ([.pointer none, .pointer none]) ∧
  tzero Tryz.prog 349 = some ([.pointer none, .pointer none]) ∧
  tzero Tryz.prog 355 = some ([.pointer none]) ∧
  tzero Tryz.prog 356 = some ([.string ⟨#[]⟩]) ∧
  tzero Tryz.prog 357 = some ([.string ⟨#[]⟩]) ∧
  tzero Tryz.prog 362 = some (zvs .u32 8) ∧
  tzero Tryz.prog 363 = some ([.int .u32 0, .int .u32 0, .int .u32 0, .int .u32 0, .int .u32 0, .int .u32 0, .int .u32 0, .int .u32 0, .int .u8 0, .int .u8 0, .int .u8 0, .int .u8 0, .int .u8 0, .int .u8 0, .int .u8 0, .int .u8 0, .int .u8 0, .int .u8 0, .int .u8 0, .int .u8 0, .int .u8 0, .int .u8 0, .int .u8 0, .int .u8 0, .int .u8 0, .int .u8 0, .int .u8 0, .int .u8 0, .int .u8 0, .int .u8 0, .int .u8 0, .int .u8 0, .int .u8 0, .int .u8 0, .int .u8 0, .int .u8 0, .int .u8 0, .int .u8 0, .int .u8 0, .int .u8 0, .int .u8 0, .int .u8 0, .int .u8 0, .int .u8 0, .int .u8 0, .int .u8 0, .int .u8 0, .int .u8 0, .int .u8 0, .int .u8 0, .int .u8 0, .int .u8 0, .int .u8 0, .int .u8 0, .int .u8 0, .int .u8 0, .int .u8 0, .int .u8 0, .int .u8 0, .int .u8 0, .int .u8 0, .int .u8 0, .int .u8 0, .int .u8 0, .int .u8 0, .int .u8 0, .int .u8 0, .int .u8 0, .int .u8 0, .int .u8 0, .int .u8 0, .int .u8 0, .int .u64 0]) ∧
  tzero Tryz.prog 364 = some ([.int .u32 0, .int .u32 0, .int .u32 0, .int .u32 0, .int .u32 0, .int .u32 0, .int .u32 0, .int .u32 0, .int .u8 0, .int .u8 0, .int .u8 0, .int .u8 0, .int .u8 0, .int .u8 0, .int .u8 0, .int .u8 0, .int .u8 0, .int .u8 0, .int .u8 0, .int .u8 0, .int .u8 0, .int .u8 0, .int .u8 0, .int .u8 0, .int .u8 0, .int .u8 0, .int .u8 0, .int .u8 0, .int .u8 0, .int .u8 0, .int .u8 0, .int .u8 0, .int .u8 0, .int .u8 0, .int .u8 0, .int .u8 0, .int .u8 0, .int .u8 0, .int .u8 0, .int .u8 0, .int .u8 0, .int .u8 0, .int .u8 0, .int .u8 0, .int .u8 0, .int .u8 0, .int .u8 0, .int .u8 0, .int .u8 0, .int .u8 0, .int .u8 0, .int .u8 0, .int .u8 0, .int .u8 0, .int .u8 0, .int .u8 0, .int .u8 0, .int .u8 0, .int .u8 0, .int .u8 0, .int .u8 0, .int .u8 0, .int .u8 0, .int .u8 0, .int .u8 0, .int .u8 0, .int .u8 0, .int .u8 0, .int .u8 0, .int .u8 0, .int .u8 0, .int .u8 0, .int .u64 0]) ∧
  tzero Tryz.prog 366 = some (zvs .u8 256) ∧
  tzero Tryz.prog 367 = some ([.int .u8 0, .int .u8 0]) ∧
  tzero Tryz.prog 368 = some ([.int .u8 0, .int .u8 0]) ∧
  tzero Tryz.prog 369 = some (zvs .u8 32) ∧
  tzero Tryz.prog 371 = some (zvs .u32 64) ∧
  tzero Tryz.prog 378 = some ([.int .u8 0, .int .u8 0, .int .u8 0, .int .u8 0]) ∧
  tzero Tryz.prog 379 = some ([.pointer none, .pointer none, .pointer none, .string ⟨#[]⟩]) ∧
  tzero Tryz.prog 380 = some ([.pointer none, .pointer none, .pointer none, .string ⟨#[]⟩]) ∧
  tzero Tryz.prog 381 = some ([]) ∧
  tzero Tryz.prog 382 = some ([]) ∧
  tzero Tryz.prog 383 = some ([]) ∧
  tzero Tryz.prog 385 = some ([.int .u8 0]) ∧
  tzero Tryz.prog 386 = some ([.int .u8 0]) ∧
  tzero Tryz.prog 388 = some ([.int .i32 0]) ∧
  tzero Tryz.prog 389 = some ([.int .i32 0]) ∧
  tzero Tryz.prog 390 = some ([.int .u64 0, .int .u64 0, .int .u32 0, .int .u8 0, .int .u8 0, .int .u8 0, .int .u8 0, .nilFunc, .pointer none, .int .i32 0, .int .i32 0]) ∧
  tzero Tryz.prog 391 = some ([.int .u64 0, .int .u64 0, .int .u32 0, .int .u8 0, .int .u8 0, .int .u8 0, .int .u8 0, .nilFunc, .pointer none, .int .i32 0, .int .i32 0]) := ⟨by kernel_rfl, by kernel_rfl, by kernel_rfl, by kernel_rfl, by kernel_rfl, by kernel_rfl, by kernel_rfl, by kernel_rfl, by kernel_rfl, by kernel_rfl, by kernel_rfl, by kernel_rfl, by kernel_rfl, by kernel_rfl, by kernel_rfl, by kernel_rfl, by kernel_rfl, by kernel_rfl, by kernel_rfl, by kernel_rfl, by kernel_rfl, by kernel_rfl, by kernel_rfl, by kernel_rfl, by kernel_rfl, by kernel_rfl, by kernel_rfl, by kernel_rfl, by kernel_rfl, by kernel_rfl, by kernel_rfl, by kernel_rfl, by kernel_rfl, by kernel_rfl, by kernel_rfl, by kernel_rfl, by kernel_rfl, by kernel_rfl, by kernel_rfl, by kernel_rfl, by kernel_rfl, by kernel_rfl, by kernel_rfl, by kernel_rfl, by kernel_rfl, by kernel_rfl, by kernel_rfl, by kernel_rfl, by kernel_rfl, by kernel_rfl, by kernel_rfl, by kernel_rfl, by kernel_rfl, by kernel_rfl, by kernel_rfl, by kernel_rfl, by kernel_rfl, by kernel_rfl, by kernel_rfl, by kernel_rfl, by kernel_rfl, by kernel_rfl, by kernel_rfl, by kernel_rfl, by kernel_rfl, by kernel_rfl, by kernel_rfl, by kernel_rfl, by kernel_rfl, by kernel_rfl, by kernel_rfl, by kernel_rfl, by kernel_rfl, by kernel_rfl, by kernel_rfl, by kernel_rfl, by kernel_rfl, by kernel_rfl, by kernel_rfl, by kernel_rfl, by kernel_rfl, by kernel_rfl, by kernel_rfl, by kernel_rfl, by kernel_rfl, by kernel_rfl, by kernel_rfl, by kernel_rfl, by kernel_rfl, by kernel_rfl, by kernel_rfl, by kernel_rfl, by kernel_rfl, by kernel_rfl, by kernel_rfl, by kernel_rfl, by kernel_rfl, by kernel_rfl, by kernel_rfl, by kernel_rfl, by kernel_rfl, by kernel_rfl, by kernel_rfl, by kernel_rfl, by kernel_rfl, by kernel_rfl, by kernel_rfl, by kernel_rfl, by kernel_rfl, by kernel_rfl, by kernel_rfl, by kernel_rfl, by kernel_rfl, by kernel_rfl, by kernel_rfl, by kernel_rfl, by kernel_rfl, by kernel_rfl, by kernel_rfl, by kernel_rfl, by kernel_rfl, by kernel_rfl, by kernel_rfl, by kernel_rfl, by kernel_rfl, by kernel_rfl, by kernel_rfl, by kernel_rfl, by kernel_rfl, by kernel_rfl, by kernel_rfl, by kernel_rfl, by kernel_rfl, by kernel_rfl, by kernel_rfl, by kernel_rfl, by kernel_rfl, by kernel_rfl, by kernel_rfl, by kernel_rfl, by kernel_rfl, by kernel_rfl, by kernel_rfl⟩

theorem tgrds : Tryz.prog.eqGuardType Tryz.prog.depth 23 = false ∧
  Tryz.prog.eqGuardType Tryz.prog.depth 22 = false ∧
  Tryz.prog.eqGuardType Tryz.prog.depth 74 = false ∧
  Tryz.prog.eqGuardType Tryz.prog.depth 73 = false ∧
  Tryz.prog.eqGuardType Tryz.prog.depth 24 = false ∧
  Tryz.prog.eqGuardType Tryz.prog.depth 79 = false ∧
  Tryz.prog.eqGuardType Tryz.prog.depth 26 = false := ⟨by kernel_rfl, by kernel_rfl, by kernel_rfl, by kernel_rfl, by kernel_rfl, by kernel_rfl, by kernel_rfl⟩

theorem tstds : Tryz.prog.stoodInHeld 23 = false ∧
  Tryz.prog.stoodInHeld 22 = false ∧
  Tryz.prog.stoodInHeld 74 = false ∧
  Tryz.prog.stoodInHeld 73 = false ∧
  Tryz.prog.stoodInHeld 24 = false ∧
  Tryz.prog.stoodInHeld 79 = false ∧
  Tryz.prog.stoodInHeld 26 = false := ⟨by kernel_rfl, by kernel_rfl, by kernel_rfl, by kernel_rfl, by kernel_rfl, by kernel_rfl, by kernel_rfl⟩

theorem tsfs : sfT Tryz.prog 7 = some [(0, 1), (1, 1), (2, 1), (3, 1)] ∧
  sfT Tryz.prog 8 = some [(0, 1), (1, 1), (2, 1), (3, 1)] ∧
  sfT Tryz.prog 13 = some [(0, 1), (1, 1)] ∧
  sfT Tryz.prog 14 = some [(0, 1), (1, 1)] ∧
  sfT Tryz.prog 18 = some [(0, 1)] ∧
  sfT Tryz.prog 19 = some [(0, 1)] ∧
  sfT Tryz.prog 25 = some [(0, 1), (1, 16)] ∧
  sfT Tryz.prog 26 = some [(0, 1), (1, 16)] ∧
  sfT Tryz.prog 28 = some [(0, 1), (1, 1), (2, 17), (19, 1)] ∧
  sfT Tryz.prog 29 = some [(0, 1), (1, 1), (2, 17), (19, 1)] ∧
  sfT Tryz.prog 31 = some [(0, 20), (20, 1), (21, 1)] ∧
  sfT Tryz.prog 32 = some [(0, 20), (20, 1), (21, 1)] ∧
  sfT Tryz.prog 39 = some [(0, 1), (1, 1), (2, 1), (3, 1)] ∧
  sfT Tryz.prog 40 = some [(0, 1), (1, 1), (2, 1), (3, 1)] ∧
  sfT Tryz.prog 45 = some [(0, 1), (1, 1), (2, 1), (3, 1), (4, 1), (5, 96), (101, 1), (102, 1), (103, 1), (104, 1), (105, 1), (106, 20), (126, 1), (127, 1), (128, 1)] ∧
  sfT Tryz.prog 46 = some [(0, 1), (1, 1), (2, 1), (3, 1), (4, 1), (5, 96), (101, 1), (102, 1), (103, 1), (104, 1), (105, 1), (106, 20), (126, 1), (127, 1), (128, 1)] ∧
  sfT Tryz.prog 47 = some [(0, 1), (1, 1), (2, 1)] ∧
  sfT Tryz.prog 48 = some [(0, 1), (1, 1), (2, 1)] ∧
  sfT Tryz.prog 58 = some [(0, 32), (32, 1), (33, 1), (34, 1)] ∧
  sfT Tryz.prog 59 = some [(0, 32), (32, 1), (33, 1), (34, 1)] ∧
  sfT Tryz.prog 61 = some [(0, 1), (1, 32), (33, 32), (65, 1), (66, 32), (98, 32)] ∧
  sfT Tryz.prog 62 = some [(0, 1), (1, 32), (33, 32), (65, 1), (66, 32), (98, 32)] ∧
  sfT Tryz.prog 63 = some [(0, 1), (1, 1), (2, 130), (132, 1)] ∧
  sfT Tryz.prog 64 = some [(0, 1), (1, 1), (2, 130), (132, 1)] ∧
  sfT Tryz.prog 66 = some [(0, 1), (1, 1), (2, 1), (3, 1), (4, 32)] ∧
  sfT Tryz.prog 67 = some [(0, 1), (1, 1), (2, 1), (3, 1), (4, 32)] ∧
  sfT Tryz.prog 69 = some [(0, 36), (36, 1)] ∧
  sfT Tryz.prog 70 = some [(0, 36), (36, 1)] ∧
  sfT Tryz.prog 73 = some [(0, 1), (1, 1), (2, 1), (3, 1), (4, 1)] ∧
  sfT Tryz.prog 74 = some [(0, 1), (1, 1), (2, 1), (3, 1), (4, 1)] ∧
  sfT Tryz.prog 78 = some [(0, 17), (17, 1)] ∧
  sfT Tryz.prog 79 = some [(0, 17), (17, 1)] ∧
  sfT Tryz.prog 80 = some [(0, 1), (1, 1), (2, 1), (3, 1), (4, 18), (22, 1)] ∧
  sfT Tryz.prog 81 = some [(0, 1), (1, 1), (2, 1), (3, 1), (4, 18), (22, 1)] ∧
  sfT Tryz.prog 105 = some [(0, 1), (1, 1), (2, 1)] ∧
  sfT Tryz.prog 106 = some [(0, 1), (1, 1), (2, 1)] ∧
  sfT Tryz.prog 107 = some [(0, 1), (1, 1)] ∧
  sfT Tryz.prog 108 = some [(0, 1), (1, 1)] ∧
  sfT Tryz.prog 112 = some [(0, 1)] ∧
  sfT Tryz.prog 113 = some [(0, 1)] ∧
  sfT Tryz.prog 123 = some [(0, 1), (1, 1)] ∧
  sfT Tryz.prog 124 = some [(0, 1), (1, 1)] ∧
  sfT Tryz.prog 150 = some [(0, 36), (36, 1)] ∧
  sfT Tryz.prog 151 = some [(0, 36), (36, 1)] ∧
  sfT Tryz.prog 153 = some [(0, 37), (37, 1), (38, 1)] ∧
  sfT Tryz.prog 154 = some [(0, 37), (37, 1), (38, 1)] ∧
  sfT Tryz.prog 163 = some [(0, 1), (1, 1), (2, 1)] ∧
  sfT Tryz.prog 164 = some [(0, 1), (1, 1), (2, 1)] ∧
  sfT Tryz.prog 173 = some [(0, 1), (1, 32), (33, 32), (65, 1), (66, 32), (98, 32)] ∧
  sfT Tryz.prog 190 = some [(0, 1), (1, 32), (33, 1), (34, 1)] ∧
  sfT Tryz.prog 191 = some [(0, 1), (1, 32), (33, 1), (34, 1)] ∧
  sfT Tryz.prog 250 = some [(0, 1), (1, 1)] ∧
  sfT Tryz.prog 251 = some [(0, 1), (1, 1)] ∧
  sfT Tryz.prog 298 = some [(0, 1), (1, 1)] ∧
  sfT Tryz.prog 299 = some [(0, 1), (1, 1)] ∧
  sfT Tryz.prog 342 = some [(0, 1), (1, 1), (2, 1)] ∧
  sfT Tryz.prog 343 = some [(0, 1), (1, 1), (2, 1)] ∧
  sfT Tryz.prog 348 = some [(0, 1), (1, 1)] ∧
  sfT Tryz.prog 349 = some [(0, 1), (1, 1)] ∧
  sfT Tryz.prog 356 = some [(0, 1)] ∧
  sfT Tryz.prog 357 = some [(0, 1)] ∧
  sfT Tryz.prog 363 = some [(0, 8), (8, 64), (72, 1)] ∧
  sfT Tryz.prog 364 = some [(0, 8), (8, 64), (72, 1)] ∧
  sfT Tryz.prog 367 = some [(0, 1), (1, 1)] ∧
  sfT Tryz.prog 368 = some [(0, 1), (1, 1)] ∧
  sfT Tryz.prog 379 = some [(0, 1), (1, 1), (2, 1), (3, 1)] ∧
  sfT Tryz.prog 380 = some [(0, 1), (1, 1), (2, 1), (3, 1)] ∧
  sfT Tryz.prog 382 = some [(0, 0)] ∧
  sfT Tryz.prog 383 = some [(0, 0)] := ⟨by kernel_rfl, by kernel_rfl, by kernel_rfl, by kernel_rfl, by kernel_rfl, by kernel_rfl, by kernel_rfl, by kernel_rfl, by kernel_rfl, by kernel_rfl, by kernel_rfl, by kernel_rfl, by kernel_rfl, by kernel_rfl, by kernel_rfl, by kernel_rfl, by kernel_rfl, by kernel_rfl, by kernel_rfl, by kernel_rfl, by kernel_rfl, by kernel_rfl, by kernel_rfl, by kernel_rfl, by kernel_rfl, by kernel_rfl, by kernel_rfl, by kernel_rfl, by kernel_rfl, by kernel_rfl, by kernel_rfl, by kernel_rfl, by kernel_rfl, by kernel_rfl, by kernel_rfl, by kernel_rfl, by kernel_rfl, by kernel_rfl, by kernel_rfl, by kernel_rfl, by kernel_rfl, by kernel_rfl, by kernel_rfl, by kernel_rfl, by kernel_rfl, by kernel_rfl, by kernel_rfl, by kernel_rfl, by kernel_rfl, by kernel_rfl, by kernel_rfl, by kernel_rfl, by kernel_rfl, by kernel_rfl, by kernel_rfl, by kernel_rfl, by kernel_rfl, by kernel_rfl, by kernel_rfl, by kernel_rfl, by kernel_rfl, by kernel_rfl, by kernel_rfl, by kernel_rfl, by kernel_rfl, by kernel_rfl, by kernel_rfl, by kernel_rfl, by kernel_rfl⟩


end Go.Proofs.YtefdnmeopbkflaaGreatDoor
namespace Go.Proofs.YtefdnmeopbkflaaGreatDoor
open Go Go.V
set_option linter.unusedSimpArgs false
theorem clip_ok (l : List UInt8) (p : Perm) : ACalls Tryz.prog G0 171 [.sl l.length (Bs l) p] [] (fun r os => os = [] ∧ r = .sl l.length (Bs l) .full) := by
  refine acalls_of_awp Tryz.func171 rfl rfl Tryz.ntmps171 (rts := #[54]) rfl Tryz.results171 (by simp) ?_
  simp only [argSlots, Nat.reduceAdd]
  refine awp_seq_k fun K hK => awp_region [] ?_
  simp only [qq, K_eqs, Nat.reduceLT, K_ops, cav, K_nil, Then]
  (repeat' apply And.intro) <;> try (first | exact True.intro | omega)
  refine hK _ ?_
  clear hK K
  refine awp_seq_k fun K hK => awp_region [] ?_
  simp only [qq, K_eqs, Nat.reduceLT, K_ops, reduceCtorEq, abuiltin, Nat.reduceEqDiff, amaplen, alen, Tryz.underlying54, aslice, bopt, Option.map_none, Option.map_some, tszs, Bs_length, Nat.mul_one, lowOf, highOf, ne_eq, Bs_drop, Bs_take, sliceP, K_nil, Then, Int.le_refl, or_true, Int.sub_zero, Int.toNat_natCast, Int.toNat_zero, List.take_of_length_le]
  (repeat' apply And.intro) <;> try (first | exact True.intro | omega)
  refine hK _ ?_
  clear hK K
  refine awp_ret ?_
  simp only [qq, K_fin, ares, aress, ares1, afin, K_ops, Nat.reduceEqDiff, reduceCtorEq, norefs_Bs, ntok]

def be4 (x : Nat) : List UInt8 := [UInt8.ofNat (x / 16777216), UInt8.ofNat (x / 65536), UInt8.ofNat (x / 256), UInt8.ofNat x]

theorem u8_wrap (n : Nat) : IntKind.u8.wrap (n : Int) = ((UInt8.ofNat n).toNat : Int) := by
  rw [IntKind.wrap_u8]
  simp
theorem fdiv_pow (a k : Nat) : Int.fdiv (a : Int) (2 ^ k) = ((a / 2 ^ k : Nat) : Int) := by
  rw [Int.fdiv_eq_ediv_of_nonneg _ (by exact Int.le_of_lt (Int.pow_pos (by omega)))]
  rw [show (2 : Int) ^ k = ((2 ^ k : Nat) : Int) from by simp]
  rfl
theorem B_eq (b : UInt8) : AV.val (.int .u8 (b.toNat : Int)) = B b := rfl
theorem Bs_cons (b : UInt8) (l : List UInt8) : B b :: Bs l = Bs (b :: l) := rfl

theorem put_ok (l : List UInt8) (p : Perm) (x : Nat) (hl : l.length ≤ 70368744177664) : ACalls Tryz.prog G0 198 [.sl l.length (Bs l) p, .val (.int .u32 (x : Int))] [] (fun r os => os = [] ∧ r = .sl (l.length + 4) (Bs (l ++ be4 x)) .no) := by
  refine acalls_of_awp Tryz.func198 rfl rfl Tryz.ntmps198 (rts := #[54]) rfl Tryz.results198 (by simp) ?_
  simp only [argSlots, Nat.reduceAdd]
  refine awp_seq_k fun K hK => awp_region [] ?_
  simp only [qq, K_eqs, Nat.reduceLT, K_ops, cav, K_nil, Then]
  (repeat' apply And.intro) <;> try (first | exact True.intro | omega)
  refine hK _ ?_
  clear hK K
  refine awp_seq_k fun K hK => awp_region [] ?_
  simp only [qq, K_eqs, Nat.reduceLT, K_ops, reduceCtorEq, K_call, Nat.reduceAdd, Nat.reduceEqDiff, K_clo, aviews, aview, norefs_Bs, ntok]
  refine andC_eq trivial (clip_ok l _) (by simp [noref, norefs_Bs]) ?_
  simp only [qq, RestC_eqs, K_eqs, Nat.reduceLT, K_ops, Nat.reduceEqDiff, reduceCtorEq, cav, K_binC, K_int, aint, Int.reduceLE, Int.reduceToNat, IntKind.bits, Nat.min_def, Nat.reduceLeDiff, fdiv_pow, K_conv, Tryz.underlying5, aconvO, aview, noref, aconv, Tryz.underlying279, Option.isSome_some, u8_wrap, abuildOwn, Tryz.underlying54, tszs, tzeros, Nat.mul_one, zrep_byte, List.replicate_succ, List.replicate_zero, aparts, afill, spl, acells, Bs_drop, Nat.reduceAdd, List.drop_nil, Bs_nil, Bs_length, List.all_cons, oneC, Value.oneCell', List.all_nil, abuildSlice, abuiltin, aappend, tbys, appSrc, srcCells, K_nil, Then]
  refine ⟨by omega, hK _ ?_⟩
  refine awp_keep [4] ?_
  simp only [keep_eqs, K_ops, Nat.reduceEqDiff, if_true, if_false]
  simp only [B_eq, ← Bs_nil, Bs_cons, ← Bs_append]
  refine awp_ret ?_
  simp only [qq, Then, InBlock, K_fin, ares, aress, ares1, afin, ntok, noref, eq_self, K_ops, Nat.reduceEqDiff, List.headD_cons, List.tail_cons, norefs_Bs]
  simp [be4]

def padZ (n : Nat) : Nat := (119 - n % 64) % 64
def padL (n : Nat) : List UInt8 := 128 :: (List.replicate (padZ n) 0 ++ be4 (n / 536870912 % 4294967296) ++ be4 (n * 8 % 4294967296))

theorem u64_wrap (n : Nat) : IntKind.u64.wrap (n : Int) = ((n % 18446744073709551616 : Nat) : Int) := by
  simp [IntKind.wrap, IntKind.bits, IntKind.signed]
theorem u32_wrap (n : Nat) : IntKind.u32.wrap (n : Int) = ((n % 4294967296 : Nat) : Int) := by
  simp [IntKind.wrap, IntKind.bits, IntKind.signed]

theorem tmod_nat (a b : Nat) : Int.tmod (a : Int) (b : Int) = ((a % b : Nat) : Int) := rfl
theorem pad_test (n k : Nat) (hk : k ≤ padZ n) : ((IntKind.u64.wrap (IntKind.u64.wrap ((n : Int) + IntKind.u64.wrap ((1 + k : Nat) : Int)) + 8)).tmod 64 != 0) = decide (k < padZ n) := by
  have e1 : IntKind.u64.wrap ((1 + k : Nat) : Int) = ((1 + k : Nat) : Int) := by
    rw [u64_wrap]
    unfold padZ at hk
    omega
  rw [e1, show (n : Int) + ((1 + k : Nat) : Int) = ((n + (1 + k) : Nat) : Int) from by omega, u64_wrap, show (((n + (1 + k)) % 18446744073709551616 : Nat) : Int) + 8 = (((n + (1 + k)) % 18446744073709551616 + 8 : Nat) : Int) from by omega, u64_wrap]
  rw [show ((64 : Int)) = ((64 : Nat) : Int) from rfl, tmod_nat]
  unfold padZ at *
  rw [Bool.eq_iff_iff]
  simp only [bne_iff_ne, ne_eq, decide_eq_true_eq]
  omega

theorem pad_ok (n : Nat) (hn : n < 18446744073709551616) : ACalls Tryz.prog G0 294 [.val (.int .u64 (n : Int))] [] (fun r os => os = [] ∧ r = .sl (padL n).length (Bs (padL n)) .no) := by
  have hz : padZ n < 64 := by unfold padZ; omega
  refine acalls_of_awp Tryz.func294 rfl rfl Tryz.ntmps294 (rts := #[54]) rfl Tryz.results294 (by simp) ?_
  simp only [argSlots, Nat.reduceAdd]
  refine awp_seq_k fun K hK => awp_region [] ?_
  simp only [qq, K_eqs, Nat.reduceLT, K_ops, cav, K_nil, Then]
  (repeat' apply And.intro) <;> try (first | exact True.intro | omega)
  refine hK _ ?_
  clear hK K
  refine awp_seq_k fun K hK => awp_region [] ?_
  simp only [qq, K_eqs, abuildOwn, Tryz.underlying54, tszs, tzeros, Nat.mul_one, zrep_byte, List.replicate_succ, List.replicate_zero, aparts, K_ops, cav, afill, spl, acells, Bs_drop, List.drop_nil, Bs_nil, Bs_length, List.all_cons, oneC, Value.oneCell', List.all_nil, Nat.reduceLeDiff, abuildSlice, Nat.reduceLT, Nat.reduceEqDiff, reduceCtorEq, K_nil, Then]
  (repeat' apply And.intro) <;> try (first | exact True.intro | omega)
  refine hK _ ?_
  clear hK K
  refine awp_keep [0, 3] ?_
  simp only [keep_eqs, K_ops, Nat.reduceEqDiff, if_true, if_false]
  refine awp_seq_k fun K hK => ?_
  refine awp_block ?_
  refine awp_tok 1 3 rfl ?_
  refine awp_loop_from (fun k => ⟨26, [(0, .val (.int .u64 (n : Int))), (3, .sl (1 + k) (Bs (128 :: List.replicate k 0)) (.tok 0))], [.tok 1 (1 + k)]⟩) (fun k => k ≤ padZ n) (fun k => padZ n - k) 0 (Nat.zero_le _) (.of_keep [0, 3] (by exact rfl)) ?_
  intro k hk
  refine awp_seq (awp_seq ?_)
  refine awp_region [] ?_
  simp only [qq, K_eqs, Nat.reduceLT, K_ops, reduceCtorEq, Nat.reduceEqDiff, abuiltin, amaplen, alen, Tryz.underlying54, K_conv, Tryz.underlying30, aconvO, aview, ntok, Tryz.underlying3, aconv, Option.isSome_some, K_binC, cav, K_nil, Then, K_int, aint, ne_eq, Int.reduceEq, pad_test n k hk]
  (repeat' apply And.intro) <;> try (first | exact True.intro | omega)
  refine awp_cond rfl rfl (fun h => ?_) (fun h => ?_)
  · have hlt : k < padZ n := by simpa using h
    refine awp_skip ?_
    simp only [Then]
    refine awp_keep [0, 3] ?_
    simp only [keep_eqs, K_ops, Nat.reduceEqDiff, if_true, if_false]
    refine awp_block ?_
    refine awp_region [] ?_
    simp only [qq, K_eqs, Nat.reduceLT, K_ops, reduceCtorEq, abuildOwn, Tryz.underlying54, tszs, tzeros, Nat.mul_one, zrep_byte, List.replicate_succ, List.replicate_zero, aparts, cav, afill, spl, acells, Bs_drop, List.drop_nil, Bs_nil, Bs_length, List.all_cons, oneC, Value.oneCell', List.all_nil, Nat.reduceLeDiff, abuildSlice, abuiltin, Nat.reduceEqDiff, aappend, tbys, appSrc, srcCells, K_nil]
    (repeat' apply And.intro) <;> try (first | exact True.intro | omega)
    all_goals try (simp; omega)
    simp only [InBlock]
    refine ⟨k + 1, by omega, by omega, ?_⟩
    have e : Bs (128 :: List.replicate k 0) ++ [AV.val (Value.int IntKind.u8 0)] = Bs (128 :: List.replicate (k + 1) 0) := by
      rw [List.replicate_succ', ← List.cons_append, Bs_append]
      rfl
    rw [e]
    exact .of_keep [0, 3] rfl
  · have hge : k = padZ n := by
      have : ¬ k < padZ n := by simpa using h
      omega
    subst hge
    refine awp_exit ?_
    simp only [Then, InBlock, if_true]
    refine hK _ ?_
    clear hK K
    refine awp_keep [0, 3] ?_
    simp only [keep_eqs, K_ops, Nat.reduceEqDiff, if_true, if_false]
    refine awp_seq_k fun K hK => awp_region [] ?_
    simp only [qq, K_eqs, Nat.reduceLT, K_ops, reduceCtorEq, Nat.reduceEqDiff, cav, K_binC, K_int, aint, Int.reduceLE, Int.reduceToNat, IntKind.bits, Nat.min_def, Nat.reduceLeDiff, fdiv_pow, K_conv, Tryz.underlying279, aconvO, aview, noref, aconv, Tryz.underlying30, Option.isSome_some, u32_wrap, K_call, Nat.reduceAdd, K_clo, aviews, norefs_Bs, ntok]
    rw [show 1 + padZ n = (128 :: List.replicate (padZ n) (0 : UInt8)).length from by simp; omega]
    refine andC_eq (by simp [norefs_Bs, norefs, noref]) (put_ok _ _ _ (by simp; omega)) (by simp [noref, norefs, norefs_Bs, flat]) ?_
    simp only [qq, RestC_eqs, K_eqs, Nat.reduceLT, K_ops, Nat.reduceEqDiff, reduceCtorEq, K_nil, Then]
    (repeat' apply And.intro) <;> try (first | exact True.intro | omega)
    refine hK _ ?_
    clear hK K
    refine awp_keep [0, 3] ?_
    simp only [keep_eqs, K_ops, Nat.reduceEqDiff, if_true, if_false]
    refine awp_seq_k fun K hK => awp_region [] ?_
    simp only [qq, K_eqs, Nat.reduceLT, K_ops, reduceCtorEq, Nat.reduceEqDiff, cav, K_binC, K_int, aint, Int.reduceLE, Int.reduceToNat, IntKind.bits, Nat.min_def, Nat.reduceLeDiff, K_conv, Tryz.underlying279, aconvO, aview, noref, aconv, Tryz.underlying30, Option.isSome_some, K_call, Nat.reduceAdd, K_clo, aviews, norefs_Bs, ntok]
    rw [show ((n : Int) * 2 ^ 3) = ((n * 8 : Nat) : Int) from by omega, u64_wrap, u32_wrap]
    rw [show (List.replicate (padZ n) (0 : UInt8)).length + 1 + 4 = (128 :: (List.replicate (padZ n) 0 ++ be4 (n / 2 ^ 29 % 4294967296))).length from by simp [be4]]
    refine andC_eq (by simp [norefs_Bs, norefs, noref]) (put_ok _ _ _ (by simp [be4]; omega)) (by simp [noref, norefs, norefs_Bs, flat]) ?_
    simp only [qq, RestC_eqs, K_eqs, Nat.reduceLT, K_ops, Nat.reduceEqDiff, reduceCtorEq, K_nil, Then]
    (repeat' apply And.intro) <;> try (first | exact True.intro | omega)
    refine hK _ ?_
    clear hK K
    refine awp_keep [2] ?_
    simp only [keep_eqs, K_ops, Nat.reduceEqDiff, if_true, if_false]
    refine awp_ret ?_
    simp only [qq, Then, InBlock, K_fin, ares, aress, ares1, afin, ntok, noref, eq_self, K_ops, Nat.reduceEqDiff, List.headD_cons, List.tail_cons, norefs_Bs]
    have e1 : n * 8 % 18446744073709551616 % 4294967296 = n * 8 % 4294967296 := by omega
    have e2 : n / 2 ^ 29 % 4294967296 = n / 536870912 % 4294967296 := rfl
    rw [e1, e2]
    simp only [padL]
    congr 1
    simp [be4]

def be8 (x : Nat) (j : Nat) : List UInt8 := (List.range j).map fun i => UInt8.ofNat (x / 2 ^ (8 * (7 - i)))

theorem be8_length (x j : Nat) : (be8 x j).length = j := by simp [be8]

theorem ofNat8 {a b : Nat} (h : a % 256 = b % 256) : UInt8.ofNat a = UInt8.ofNat b := by
  apply UInt8.toNat_inj.1
  simpa using h

theorem i64_wrap {n : Int} (h0 : -9223372036854775808 ≤ n) (h1 : n ≤ 9223372036854775807) : IntKind.i64.wrap n = n := by
  simp [IntKind.wrap, IntKind.bits, IntKind.signed]
  omega

end Go.Proofs.YtefdnmeopbkflaaGreatDoor
namespace Go.Proofs.YtefdnmeopbkflaaGreatDoor
open Go Go.V
set_option linter.unusedSimpArgs false
set_option linter.unusedVariables false
set_option maxRecDepth 20000

class Gv where
  most : Int
  synT : TypeId
  synP : Value
  rngT : TypeId
  rngP : Value

def tabP : List Int := [1, 10, 100, 1000, 10000, 100000, 1000000, 10000000, 100000000, 1000000000, 10000000000, 100000000000, 1000000000000, 10000000000000, 100000000000000, 1000000000000000, 10000000000000000, 100000000000000000, 1000000000000000000, 10000000000000000000]
def tabB : List Int := [0, 1, 56, 2, 57, 49, 28, 3, 61, 58, 42, 50, 38, 29, 17, 4, 62, 47, 59, 36, 45, 43, 51, 22, 53, 39, 33, 30, 24, 18, 12, 5, 63, 55, 48, 27, 60, 41, 37, 16, 46, 35, 44, 21, 52, 32, 23, 11, 54, 26, 40, 15, 34, 20, 31, 10, 25, 14, 19, 9, 13, 8, 7, 6]

def GP [Gv] : Gl := ⟨[(9, Is .u32 tabW), (5, [.val (.int .i64 Gv.most)]), (3, [.val (.iface Gv.synT Gv.synP)]), (4, [.val (.iface Gv.rngT Gv.rngP)]), (1, Is .u64 tabP), (2, Is .u8 tabB)], []⟩
theorem gp0 [Gv] : gav GP 9 = .cptr (Is .u32 tabW) := rfl
theorem wprime_ok [Gv] (i : Int) : ACalls Tryz.prog GP 301 [.val (.int .i64 i)] [] (fun r os => os = [] ∧ r = .val (.int .u32 (if 0 ≤ i ∧ i < 64 then tabW.getD i.toNat 0 else 0))) := by
  refine acalls_of_awp Tryz.func301 rfl rfl Tryz.ntmps301 (rts := #[279]) rfl Tryz.results301 (by simp) ?_
  simp only [argSlots, Nat.reduceAdd]
  refine awp_seq_k fun K hK => awp_region [] ?_
  simp only [qq, K_eqs, Nat.reduceLT, K_ops, cav, K_nil, Then]
  (repeat' apply And.intro) <;> try (first | exact True.intro | omega)
  refine hK _ ?_
  clear hK K
  refine awp_seq_k fun K1 hK1 => ?_
  refine awp_seq_k fun K hK => ?_
  have next : ∀ (t : Bool) (s : St), t = decide (¬ (0 ≤ i ∧ i < 64)) → Weak GP s ⟨12, [(8, .val (.bool t)), (0, .val (.int .i64 i))], []⟩ → K s := by
    intro t s ht hw
    refine hK s (awp_weak hw ?_)
    clear hw hK K
    refine awp_cond rfl rfl (fun h => ?_) (fun h => ?_)
    · have hn : ¬ (0 ≤ i ∧ i < 64) := of_decide_eq_true (ht.symm.trans h)
      refine awp_keep [0] ?_
      simp only [keep_eqs, K_ops, Nat.reduceEqDiff, if_true, if_false]
      refine awp_seq_k fun K hK => awp_region [] ?_
      simp only [qq, K_eqs, Nat.reduceLT, K_ops, cav, K_nil, Then]
      (repeat' apply And.intro) <;> try (first | exact True.intro | omega)
      refine hK _ ?_
      clear hK K
      refine awp_keep [2] ?_
      simp only [keep_eqs, K_ops, Nat.reduceEqDiff, if_true, if_false]
      refine awp_ret ?_
      simp only [qq, Then, InBlock, K_fin, ares, aress, ares1, afin, ntok, noref, eq_self, K_ops, Nat.reduceEqDiff, List.headD_cons, List.tail_cons]
      rw [if_neg hn]
    · have hn : 0 ≤ i ∧ i < 64 := by
        have := of_decide_eq_false (ht.symm.trans h)
        omega
      refine awp_skip (hK1 _ ?_)
      clear hK1 K1
      obtain ⟨j, rfl⟩ : ∃ j : Nat, i = j := ⟨i.toNat, by omega⟩
      have hl : tabW.length = 64 := rfl
      have hj : j < 64 := by omega
      have hj2 : 0 < 64 - j := by omega
      have hj3 : j ≤ 64 := by omega
      refine awp_keep [0] ?_
      simp only [keep_eqs, K_ops, Nat.reduceEqDiff, if_true, if_false]
      refine awp_seq_k fun K hK => awp_region [] ?_
      simp only [qq, Int.toNat_natCast, K_eqs, Nat.reduceLT, K_ops, aidxAddr, reduceCtorEq, Tryz.underlying371, gp0, tszs, Int.cast_ofNat_Int, Nat.mul_one, Is_length, hl, hj3, Is_drop, aload, Nat.reduceEqDiff, apart, isAggD, Tryz.underlying279, K_nil, Then, List.length_drop, hj2, Is_getD, drop_getD, I_un]
      refine ⟨⟨by omega, by omega⟩, hK _ ?_⟩
      refine awp_keep [2] ?_
      simp only [keep_eqs, K_ops, Nat.reduceEqDiff, if_true, if_false]
      refine awp_ret ?_
      simp only [qq, Then, InBlock, K_fin, ares, aress, ares1, afin, ntok, noref, eq_self, K_ops, Nat.reduceEqDiff, List.headD_cons, List.tail_cons]
      rw [if_pos hn, Int.toNat_natCast]
  by_cases h0 : i < 0
  · have h0' : decide (i < 0) = true := by simpa using h0
    refine awp_region [] ?_
    simp only [qq, K_eqs, Nat.reduceLT, K_ops, reduceCtorEq, Nat.reduceEqDiff, cav, K_binC, K_int, aint, h0', gval, gslot, Option.bind_some, gdec_eqs, K_gF, gok, apick, K_nil, Then]
    (repeat' apply And.intro) <;> try (first | exact True.intro | omega)
    refine next _ _ ?_ (.of_keep [8, 0] (by exact rfl))
    simp
    omega
  · have h0' : decide (i < 0) = false := by simpa using h0
    refine awp_region [] ?_
    simp only [qq, K_eqs, Nat.reduceLT, K_ops, reduceCtorEq, Nat.reduceEqDiff, cav, K_binC, K_int, aint, h0', gval, gslot, Option.bind_some, gdec_eqs, Bool.not_false, K_gT, gok, apick, K_nil, Then]
    (repeat' apply And.intro) <;> try (first | exact True.intro | omega)
    refine next _ _ ?_ (.of_keep [8, 0] (by exact rfl))
    rw [Bool.eq_iff_iff]
    simp
    omega
theorem u64_of (n : Int) : ∃ m : Nat, IntKind.u64.wrap n = (m : Int) ∧ m % 32 = (n % 32).toNat := by
  refine ⟨(n % 18446744073709551616).toNat, ?_, by omega⟩
  simp [IntKind.wrap, IntKind.signed, IntKind.bits]
  omega

theorem rot_ok (x : Nat) (n : Int) (hx : x < 4294967296) : ACalls Tryz.prog G0 306 [.val (.int .u32 (x : Int)), .val (.int .i64 n)] [] (fun r os => os = [] ∧ r = .val (.int .u32 (rotl x (n % 32).toNat : Int))) := by
  obtain ⟨m, hm, hm32⟩ := u64_of n
  generalize hk : (n % 32).toNat = k at hm32
  have hk32 : k < 32 := by omega
  have ha : bits BinOp.and IntKind.u64 (m : Int) 31 = (k : Int) := by
    have h := n_and64 m 31
    rw [show m &&& 31 = m % 32 from Nat.and_two_pow_sub_one_eq_mod m 5, hm32, Nat.mod_eq_of_lt (by omega)] at h
    exact h
  have hw : IntKind.u64.wrap (32 - (k : Int)) = ((32 - k : Nat) : Int) := by
    rw [show (32 : Int) - (k : Int) = ((32 - k : Nat) : Int) by omega, n_u64, Nat.mod_eq_of_lt (by omega)]
  have e1 : (if k ≤ 32 then k else 32) = k := if_pos (by omega)
  have e2 : (if 32 - k ≤ 32 then 32 - k else 32) = 32 - k := if_pos (by omega)
  refine acalls_of_awp Tryz.func306 rfl rfl Tryz.ntmps306 (rts := #[279]) rfl Tryz.results306 (by simp) ?_
  simp only [argSlots, Nat.reduceAdd]
  refine awp_seq_k fun K hK => awp_region [] ?_
  simp only [qq, K_eqs, Nat.reduceLT, K_ops, cav, K_nil, Then]
  (repeat' apply And.intro) <;> try (first | exact True.intro | omega)
  refine hK _ ?_
  clear hK K
  refine awp_seq_k fun K hK => awp_region [] ?_
  simp only [qq, K_eqs, Nat.reduceLT, K_ops, Nat.reduceEqDiff, reduceCtorEq, K_conv, Tryz.underlying160, aconvO, aview, noref, aconv, Tryz.underlying3, Option.isSome_some, hm, cav, K_binC, K_int, aint, ha, K_nil, Then]
  (repeat' apply And.intro) <;> try (first | exact True.intro | omega)
  refine hK _ ?_
  clear hK K
  refine awp_seq_k fun K hK => awp_region [] ?_
  simp only [qq, K_eqs, Nat.reduceLT, K_ops, reduceCtorEq, Nat.reduceEqDiff, K_binC, K_int, aint, Int.toNat_natCast, IntKind.bits, Nat.min_def, e1, n_shl, n_u32, cav, hw, e2, n_fdiv, n_or32, K_nil, Then]
  (repeat' apply And.intro) <;> try (first | exact True.intro | omega)
  refine hK _ ?_
  clear hK K
  have hr : rotl x k % 4294967296 = rotl x k := Nat.mod_eq_of_lt (rotl_lt hx hk32)
  rw [show (x * 2 ^ k % 4294967296 ||| x / 2 ^ (32 - k)) = rotl x k from rfl, hr]
  refine awp_ret ?_
  simp only [qq, K_fin, ares, aress, ares1, afin, K_ops, Nat.reduceEqDiff, reduceCtorEq, noref]

theorem tmod32 (n : Int) : -32 < n.tmod 32 ∧ n.tmod 32 < 32 ∧ (n.tmod 32) % 32 = n % 32 := by
  have h := Int.tmod_def n 32
  refine ⟨?_, Int.tmod_lt_of_pos n (by omega), by omega⟩
  by_cases hn : 0 ≤ n
  · have := Int.tmod_nonneg 32 hn; omega
  · have h1 := Int.neg_tmod (-n) 32
    rw [Int.neg_neg] at h1
    have h2 := Int.tmod_lt_of_pos (-n) (show (0 : Int) < 32 by omega)
    omega

theorem turn_ok (x : Nat) (n : Int) (hx : x < 4294967296) : ACalls Tryz.prog G0 305 [.val (.int .u32 (x : Int)), .val (.int .i64 n)] [] (fun r os => os = [] ∧ r = .val (.int .u32 (turn x n : Int))) := by
  obtain ⟨h1, h2, h3⟩ := tmod32 n
  have hw : IntKind.i64.wrap (0 - n.tmod 32) = -(n.tmod 32) := by rw [i64_wrap (by omega) (by omega)]; omega
  have hr := rot_ok x (-(n.tmod 32)) hx
  rw [show (-(n.tmod 32)) % 32 = (-n) % 32 by omega] at hr
  refine acalls_of_awp Tryz.func305 rfl rfl Tryz.ntmps305 (rts := #[279]) rfl Tryz.results305 (by simp) ?_
  simp only [argSlots, Nat.reduceAdd]
  refine awp_seq_k fun K hK => awp_region [] ?_
  simp only [qq, K_eqs, Nat.reduceLT, K_ops, cav, K_nil, Then]
  (repeat' apply And.intro) <;> try (first | exact True.intro | omega)
  refine hK _ ?_
  clear hK K
  refine awp_seq_k fun K hK => awp_region [] ?_
  simp only [qq, K_eqs, Nat.reduceLT, K_ops, reduceCtorEq, Nat.reduceEqDiff, cav, K_binC, K_int, aint, ne_eq, Int.reduceEq, aun, hw, K_call, Nat.reduceAdd, K_clo, aviews, aview, noref, ntok, List.tail_cons, List.headD_cons, Tryz.underlying3]
  refine andC_eq (by simp [norefs_Bs, norefs, noref]) (hr) (by simp [noref, norefs, norefs_Bs, flat]) ?_
  simp only [qq, RestC_eqs, K_eqs, Nat.reduceLT, K_ops, Nat.reduceEqDiff, reduceCtorEq, K_nil, Then]
  refine hK _ ?_
  refine awp_ret ?_
  simp only [qq, K_fin, ares, aress, ares1, afin, K_ops, Nat.reduceEqDiff, reduceCtorEq, noref]
  rfl
theorem small_ok (i : Int) (x : Nat) (hx : x < 4294967296) : ACalls Tryz.prog G0 304 [.val (.int .i64 i), .val (.int .u32 (x : Int))] [] (fun r os => os = [] ∧ r = .val (.int .u32 (small i x : Int))) := by
  have f0 : ((turn x 7 ^^^ turn x 18) ^^^ x / 2 ^ 3) % 4294967296 = small 0 x := by
    have h := (Nat.mod_eq_of_lt (xor3_lt (turn_lt hx 7) (turn_lt hx 18) (show x / 8 < 4294967296 by omega))).trans (small0 x).symm
    rw [show (2 : Nat) ^ 3 = 8 from rfl, xor3_eq]
    exact h
  have f1 : ((turn x 17 ^^^ turn x 19) ^^^ x / 2 ^ 10) % 4294967296 = small 1 x := by
    have h := (Nat.mod_eq_of_lt (xor3_lt (turn_lt hx 17) (turn_lt hx 19) (show x / 1024 < 4294967296 by omega))).trans (small1 x).symm
    rw [show (2 : Nat) ^ 10 = 1024 from rfl, xor3_eq]
    exact h
  have hm : ∀ a b, (turn x a ^^^ turn x b) % 4294967296 = turn x a ^^^ turn x b := fun a b => Nat.mod_eq_of_lt (lt32_of_bits fun j hj => by simp [Nat.testBit_xor, bit_high (turn_lt hx _) hj])
  refine acalls_of_awp Tryz.func304 rfl rfl Tryz.ntmps304 (rts := #[279]) rfl Tryz.results304 (by simp) ?_
  simp only [argSlots, Nat.reduceAdd]
  refine awp_seq_k fun K hK => awp_region [] ?_
  simp only [qq, K_eqs, Nat.reduceLT, K_ops, cav, K_nil, Then]
  (repeat' apply And.intro) <;> try (first | exact True.intro | omega)
  refine hK _ ?_
  clear hK K
  refine awp_seq_k fun K1 hK1 => ?_
  refine awp_seq_k fun K hK => awp_region [] ?_
  simp only [qq, K_eqs, Nat.reduceLT, K_ops, reduceCtorEq, K_nil, Then]
  (repeat' apply And.intro) <;> try (first | exact True.intro | omega)
  refine hK _ ?_
  clear hK K
  refine awp_block ?_
  refine awp_keep [1, 5] ?_
  simp only [keep_eqs, K_ops, Nat.reduceEqDiff, if_true, if_false]
  by_cases h0 : i = 0
  · subst h0
    refine awp_seq_k fun K hK => awp_region [] ?_
    simp only [qq, K_eqs, K_ops, Nat.reduceEqDiff, cav, K_binC, K_int, aint, beq_self_eq_true, Nat.reduceLT, K_nil, Then]
    (repeat' apply And.intro) <;> try (first | exact True.intro | omega)
    refine hK _ ?_
    clear hK K
    refine awp_condT rfl ?_
    refine awp_keep [1] ?_
    simp only [keep_eqs, K_ops, Nat.reduceEqDiff, if_true, if_false]
    refine awp_seq_k fun K hK => awp_region [] ?_
    simp only [qq, K_eqs, Nat.reduceLT, K_ops, K_call, Nat.reduceAdd, Nat.reduceEqDiff, cav, K_clo, aviews, aview, noref]
    refine andC_eq (by simp [norefs_Bs, norefs, noref]) (turn_ok x 7 hx) (by simp [noref, norefs, norefs_Bs, flat]) ?_
    simp only [qq, RestC_eqs, K_eqs, Nat.reduceLT, K_ops, Nat.reduceEqDiff, K_call, Nat.reduceAdd, cav, K_clo, aviews, aview, noref]
    refine andC_eq (by simp [norefs_Bs, norefs, noref]) (turn_ok x 18 hx) (by simp [noref, norefs, norefs_Bs, flat]) ?_
    simp only [qq, RestC_eqs, K_eqs, K_ops, Nat.reduceEqDiff, K_binC, K_int, aint, n_xor32, hm, Nat.reduceLT, cav, Int.reduceLE, Int.reduceToNat, IntKind.bits, Nat.min_def, Nat.reduceLeDiff, n_fdiv, f0, K_nil, Then]
    refine hK _ ?_
    refine awp_keep [4] ?_
    simp only [keep_eqs, K_ops, Nat.reduceEqDiff, if_true, if_false]
    refine awp_ret ?_
    simp only [qq, InBlock, Then, K_fin, ares, aress, ares1, afin, K_ops, noref]
  have hb0 : (i == 0) = false := by simpa using h0
  refine awp_seq_k fun K hK => awp_region [] ?_
  simp only [qq, K_eqs, K_ops, Nat.reduceEqDiff, cav, K_binC, K_int, aint, hb0, Nat.reduceLT, K_nil, Then]
  (repeat' apply And.intro) <;> try (first | exact True.intro | omega)
  refine hK _ ?_
  clear hK K
  refine awp_condF rfl ?_
  refine awp_keep [1, 5] ?_
  simp only [keep_eqs, K_ops, Nat.reduceEqDiff, if_true, if_false]
  by_cases h1 : i = 1
  · subst h1
    refine awp_seq_k fun K hK => awp_region [] ?_
    simp only [qq, K_eqs, K_ops, Nat.reduceEqDiff, cav, K_binC, K_int, aint, beq_self_eq_true, Nat.reduceLT, K_nil, Then]
    (repeat' apply And.intro) <;> try (first | exact True.intro | omega)
    refine hK _ ?_
    clear hK K
    refine awp_condT rfl ?_
    refine awp_keep [1] ?_
    simp only [keep_eqs, K_ops, Nat.reduceEqDiff, if_true, if_false]
    refine awp_seq_k fun K hK => awp_region [] ?_
    simp only [qq, K_eqs, Nat.reduceLT, K_ops, K_call, Nat.reduceAdd, Nat.reduceEqDiff, cav, K_clo, aviews, aview, noref]
    refine andC_eq (by simp [norefs_Bs, norefs, noref]) (turn_ok x 17 hx) (by simp [noref, norefs, norefs_Bs, flat]) ?_
    simp only [qq, RestC_eqs, K_eqs, Nat.reduceLT, K_ops, Nat.reduceEqDiff, K_call, Nat.reduceAdd, cav, K_clo, aviews, aview, noref]
    refine andC_eq (by simp [norefs_Bs, norefs, noref]) (turn_ok x 19 hx) (by simp [noref, norefs, norefs_Bs, flat]) ?_
    simp only [qq, RestC_eqs, K_eqs, K_ops, Nat.reduceEqDiff, K_binC, K_int, aint, n_xor32, hm, Nat.reduceLT, cav, Int.reduceLE, Int.reduceToNat, IntKind.bits, Nat.min_def, Nat.reduceLeDiff, n_fdiv, f1, K_nil, Then]
    refine hK _ ?_
    refine awp_keep [4] ?_
    simp only [keep_eqs, K_ops, Nat.reduceEqDiff, if_true, if_false]
    refine awp_ret ?_
    simp only [qq, InBlock, Then, K_fin, ares, aress, ares1, afin, K_ops, noref]
  have hb1 : (i == 1) = false := by simpa using h1
  refine awp_seq_k fun K hK => awp_region [] ?_
  simp only [qq, K_eqs, K_ops, Nat.reduceEqDiff, cav, K_binC, K_int, aint, hb1, Nat.reduceLT, K_nil, Then]
  (repeat' apply And.intro) <;> try (first | exact True.intro | omega)
  refine hK _ ?_
  clear hK K
  refine awp_condF rfl ?_
  refine awp_skip ?_
  simp only [InBlock, Then]
  refine hK1 _ ?_
  clear hK1 K1
  refine awp_seq_k fun K hK => awp_region [] ?_
  simp only [qq, K_eqs, Nat.reduceLT, K_ops, cav, K_nil, Then]
  (repeat' apply And.intro) <;> try (first | exact True.intro | omega)
  refine hK _ ?_
  clear hK K
  refine awp_keep [4] ?_
  simp only [keep_eqs, K_ops, Nat.reduceEqDiff, if_true, if_false]
  refine awp_ret ?_
  simp only [qq, K_fin, ares, aress, ares1, afin, K_ops, noref]
  rw [small2 x h0 h1]
  rfl

theorem get_ok (b : List UInt8) (p : Perm) : ACalls Tryz.prog G0 303 [.sl b.length (Bs b) p] [] (fun r os => os = [] ∧ r = .val (.int .u32 (gw b : Int))) := by
  refine acalls_of_awp Tryz.func303 rfl rfl Tryz.ntmps303 (rts := #[279]) rfl Tryz.results303 (by simp) ?_
  simp only [argSlots, Nat.reduceAdd]
  refine awp_seq_k fun K hK => awp_region [] ?_
  simp only [qq, K_eqs, Nat.reduceLT, K_ops, cav, K_nil, Then]
  (repeat' apply And.intro) <;> try (first | exact True.intro | omega)
  refine hK _ ?_
  clear hK K
  refine awp_seq_k fun K hK => awp_region [] ?_
  simp only [qq, K_eqs, aalloc, tzeros, cav, Nat.reduceLT, K_nil, Then, K_ops]
  (repeat' apply And.intro) <;> try (first | exact True.intro | omega)
  refine hK _ ?_
  clear hK K
  refine awp_keep [0, 3] ?_
  simp only [keep_eqs, K_ops, Nat.reduceEqDiff, if_true, if_false]
  refine awp_seq_k fun K hK => awp_region [] ?_
  simp only [qq, K_eqs, aslice, bopt, Option.map_none, Tryz.underlying378, K_ops, reduceCtorEq, tszs, lowOf, Int.le_refl, highOf, Int.cast_ofNat_Int, Int.reduceLE, ne_eq, not_true_eq_false, or_false, Int.toNat_zero, Nat.mul_one, Int.sub_zero, Int.reduceToNat, Nat.reduceLT, abuiltin, Nat.reduceEqDiff, acopy, Tryz.underlying54, srcCells, Bs_length, Nat.min_def, spl, K_nil, Then, Nat.reduceAdd, Bs_take, Bs_one]
  have key : (if 0 < if b.length ≤ 4 then b.length else 4 then
            [AObj.cells
                (Bs (List.take (if b.length ≤ 4 then b.length else 4) b) ++
                  List.drop (List.take (if b.length ≤ 4 then b.length else 4) b).length
                    [AV.val (Value.int IntKind.u8 0), AV.val (Value.int IntKind.u8 0), AV.val (Value.int IntKind.u8 0),
                      AV.val (Value.int IntKind.u8 0)])]
          else
            [AObj.cells
                [AV.val (Value.int IntKind.u8 0), AV.val (Value.int IntKind.u8 0), AV.val (Value.int IntKind.u8 0),
                  AV.val (Value.int IntKind.u8 0)]]) = [AObj.cells [B (b.getD 0 0), B (b.getD 1 0), B (b.getD 2 0), B (b.getD 3 0)]] := by
    by_cases h4 : 4 ≤ b.length
    · rw [show (if b.length ≤ 4 then b.length else 4) = 4 by split <;> omega]
      rcases b with _ | ⟨b0, _ | ⟨b1, _ | ⟨b2, _ | ⟨b3, r⟩⟩⟩⟩ <;> simp [Bs, B] at h4 ⊢
    · rw [show (if b.length ≤ 4 then b.length else 4) = b.length by split <;> omega]
      rcases b with _ | ⟨b0, _ | ⟨b1, _ | ⟨b2, _ | ⟨b3, r⟩⟩⟩⟩ <;> simp [Bs, B] at h4 ⊢
  rw [key]
  refine ⟨by split <;> omega, hK _ ?_⟩
  clear hK K key
  refine awp_keep [3] ?_
  simp only [keep_eqs, K_ops, Nat.reduceEqDiff, if_true, if_false]
  have h0 := (b.getD 0 0).toNat_lt
  have h1 := (b.getD 1 0).toNat_lt
  have h2 := (b.getD 2 0).toNat_lt
  have h3 := (b.getD 3 0).toNat_lt
  have hg := gw_word _ _ _ _ h0 h1 h2 h3
  have hl : ∀ n, n = (b.getD 0 0).toNat * 16777216 + (b.getD 1 0).toNat * 65536 + (b.getD 2 0).toNat * 256 + (b.getD 3 0).toNat → n = gw b := fun n h => h
  generalize gw b = g at hl ⊢
  generalize (b.getD 0 0) = b0 at *
  generalize (b.getD 1 0) = b1 at *
  generalize (b.getD 2 0) = b2 at *
  generalize (b.getD 3 0) = b3 at *
  rw [show [B b0, B b1, B b2, B b3] = Bs [b0, b1, b2, b3] from rfl]
  refine awp_seq_k fun K hK => awp_region [] ?_
  simp only [qq, K_eqs, aidxAddr, K_ops, cav, Tryz.underlying378, tszs, Int.le_refl, Int.cast_ofNat_Int, Int.reduceLT, Int.toNat_zero, Nat.mul_one, Nat.reduceLT, aload, Nat.reduceEqDiff, apart, isAggD, Tryz.underlying5, K_conv, Tryz.underlying279, aconvO, aview, ntok, aconv, Option.isSome_some, K_binC, Int.reduceLE, Int.reduceToNat, K_nil, Then, Bs_length, Nat.reduceAdd, Bs_getD, B, n_u32, K_int, aint, IntKind.bits, Nat.min_def, Nat.reduceLeDiff, n_shl, List.getD_cons_succ, n_or32, hg, hl _ rfl]
  (repeat' apply And.intro) <;> try (first | exact True.intro | omega)
  refine hK _ ?_
  clear hK K
  refine awp_ret ?_
  simp only [qq, K_fin, ares, aress, ares1, afin, K_ops, Nat.reduceEqDiff, noref]

theorem sched_calls (b : List UInt8) (hb : b.length = 64) : ∃ W s1 s0 : Nat → Nat, W = word b ∧ (∀ i, W i < 4294967296) ∧
    (∀ i, i < 16 → ∀ p, ACalls Tryz.prog G0 303 [.sl (64 - 4 * i) (Bs (b.drop (4 * i))) p] [] (fun r os => os = [] ∧ r = .val (.int .u32 (W i : Int)))) ∧
    (∀ i, ACalls Tryz.prog G0 304 [.val (.int .i64 1), .val (.int .u32 (W i : Int))] [] (fun r os => os = [] ∧ r = .val (.int .u32 (s1 i : Int)))) ∧
    (∀ i, ACalls Tryz.prog G0 304 [.val (.int .i64 0), .val (.int .u32 (W i : Int))] [] (fun r os => os = [] ∧ r = .val (.int .u32 (s0 i : Int)))) ∧
    (∀ i, 16 ≤ i → (((s1 (i - 2) + W (i - 7)) % 4294967296 + s0 (i - 15)) % 4294967296 + W (i - 16)) % 4294967296 = W i) := by
  refine ⟨word b, fun i => small 1 (word b i), fun i => small 0 (word b i), rfl, word_lt b, fun i hi p => ?_, fun i => small_ok 1 _ (word_lt b i), fun i => small_ok 0 _ (word_lt b i), fun i hi => ?_⟩
  · have h := get_ok (b.drop (4 * i)) p
    rw [List.length_drop, hb, ← word_small b i hi] at h
    exact h
  · rw [word_big b i hi]
    show (((small 1 (word b (i - 2)) + word b (i - 7)) % 4294967296 + small 0 (word b (i - 15))) % 4294967296 + word b (i - 16)) % 4294967296 = _
    generalize small 1 (word b (i - 2)) = a
    generalize small 0 (word b (i - 15)) = c
    omega

theorem schedule_ok (b : List UInt8) (hb : b.length = 64) : ACalls Tryz.prog G0 298 [.agg (Bs b)] [] (fun r os => os = [] ∧ r = .agg (Is .u32 (arr 64 (word b) 64))) := by
  obtain ⟨W, s1, s0, hW, hlt, cG, c1, c0, hbig⟩ := sched_calls b hb
  rw [← hW]
  have hbt : b.take 64 = b := List.take_of_length_le (by omega)
  have hbd : b.drop 64 = [] := List.drop_eq_nil_of_le (by omega)
  have hz : (zvs .u32 64).map cav = Is .u32 (arr 64 W 0) := by rw [zvs_Is, arr_zero]
  have hl : ∀ i, (arr 64 W i).length = 64 := arr_length 64 W
  refine acalls_of_awp Tryz.func298 rfl rfl Tryz.ntmps298 (rts := #[371]) rfl Tryz.results298 (by simp) ?_
  simp only [argSlots, Nat.reduceAdd]
  refine awp_seq_k fun K hK => awp_region [] ?_
  simp only [qq, K_eqs, aboxF, acells, K_ops, Bs_one, abox, Nat.reduceLT, aalloc, tzeros, hz, K_nil, Then]
  (repeat' apply And.intro) <;> try (first | exact True.intro | omega)
  refine hK _ ?_
  clear hK K
  refine awp_keep [1, 2] ?_
  simp only [keep_eqs, K_ops, Nat.reduceEqDiff, if_true, if_false]
  refine awp_seq_k fun K1 hK1 => ?_
  refine awp_seq_k fun K hK => awp_region [] ?_
  simp only [qq, K_eqs, Nat.reduceLT, K_ops, cav, K_nil, Then]
  (repeat' apply And.intro) <;> try (first | exact True.intro | omega)
  refine hK _ ?_
  clear hK K
  refine awp_block ?_
  refine awp_loop_from (fun i : Nat => ⟨40, [(1, .ptr 0 0), (2, .ptr 1 0), (4, .val (.int .i64 (i : Int)))], [.cells (Bs b), .cells (Is .u32 (arr 64 W i))]⟩)
    (fun i => i ≤ 64) (fun i => 64 - i) 0 (by omega) (.of_keep [1, 2, 4] (by exact rfl)) ?_
  intro i hi
  refine awp_seq_k fun K hK => awp_region [] ?_
  simp only [qq, K_eqs, K_ops, Nat.reduceEqDiff, cav, K_binC, K_int, aint, d_lt, Nat.reduceLT, K_nil, Then]
  (repeat' apply And.intro) <;> try (first | exact True.intro | omega)
  refine hK _ ?_
  clear hK K
  refine awp_seq ?_
  refine awp_cond rfl rfl (fun h => ?_) (fun h => ?_)
  · have hlt : i < 64 := of_decide_eq_true h
    refine awp_skip ?_
    simp only [Then]
    refine awp_keep [1, 2, 4] ?_
    simp only [keep_eqs, K_ops, Nat.reduceEqDiff, if_true, if_false]
    refine awp_seq ?_
    refine awp_block ?_
    refine awp_seq_k fun K hK => awp_region [] ?_
    simp only [qq, K_eqs, Nat.reduceLT, K_ops, Nat.reduceEqDiff, K_nil, Then]
    (repeat' apply And.intro) <;> try (first | exact True.intro | omega)
    refine hK _ ?_
    clear hK K
    refine awp_seq_k fun K hK => awp_region [] ?_
    simp only [qq, K_eqs, Nat.reduceLT, K_ops, Nat.reduceEqDiff, cav, K_binC, K_int, aint, d_lt, K_nil, Then]
    refine hK _ ?_
    clear hK K
    refine awp_keep [1, 2, 3, 4, 8] ?_
    simp only [keep_eqs, K_ops, Nat.reduceEqDiff, if_true, if_false]
    by_cases h16 : i < 16
    · refine awp_condT (by simp only [K_ops, lk, h16, decide_true]; rfl) ?_
      refine awp_keep [1, 2, 3, 4] ?_
      simp only [keep_eqs, K_ops, Nat.reduceEqDiff, if_true, if_false]
      have hw : IntKind.i64.wrap (4 * (i : Int)) = ((4 * i : Nat) : Int) := by rw [i64_wrap (by omega) (by omega)]; omega
      have h64 : ((64 : Int) - ((4 * i : Nat) : Int)).toNat = 64 - 4 * i := by omega
      have hd : (b.drop (4 * i)).take (64 - 4 * i) = b.drop (4 * i) := List.take_of_length_le (by rw [List.length_drop]; omega)
      refine awp_region [] ?_
      simp only [qq, K_eqs, Nat.reduceLT, K_ops, Nat.reduceEqDiff, cav, K_binC, K_int, aint, hw, aslice, bopt, Option.map_some, Option.map_none, Tryz.underlying336, tszs, lowOf, highOf, Int.cast_ofNat_Int, Int.le_refl, ne_eq, not_true_eq_false, or_false, Int.toNat_natCast, Nat.mul_one, h64, K_call, Nat.reduceAdd, K_clo, aviews, aview, ntok, List.headD_cons, Tryz.underlying54, Bs_length, Bs_drop, Bs_take, hd, norefs_Bs]
      refine ⟨by omega, ?_⟩
      refine andC_eq (by omega) (cG i h16 _) (by simp [flat]) ?_
      simp only [qq, RestC_eqs, K_eqs, aidxAddr, K_ops, Nat.reduceEqDiff, Tryz.underlying371, tszs, Int.cast_ofNat_Int, Int.toNat_natCast, Nat.mul_one, Nat.reduceLT, K_store, astore, acells, List.all_cons, oneC, Value.oneCell', List.all_nil, spl, K_nil, Is_length, hl, Nat.reduceLeDiff, Is_take, Is_drop]
      refine ⟨⟨by omega, by omega⟩, by omega, ?_⟩
      rw [Is_set (by rw [hl]; omega), arr_set]
      simp only [InBlock, Then]
      refine awp_keep [1, 2, 4] ?_
      simp only [keep_eqs, K_ops, Nat.reduceEqDiff, if_true, if_false]
      have h6 : IntKind.i64.wrap ((i + 1 : Nat) : Int) = ((i + 1 : Nat) : Int) := n_i64 (by omega)
      refine awp_region [] ?_
      simp only [qq, K_eqs, K_ops, Nat.reduceEqDiff, cav, K_binC, K_int, aint, n_add, h6, Nat.reduceLT, K_nil, Then]
      exact ⟨i + 1, by omega, by omega, .of_keep [1, 2, 4] rfl⟩
    · refine awp_condF (by simp only [K_ops, lk, h16, decide_false]; rfl) ?_
      refine awp_keep [1, 2, 3, 4] ?_
      simp only [keep_eqs, K_ops, Nat.reduceEqDiff, if_true, if_false]
      have w2 : IntKind.i64.wrap ((i : Int) - 2) = ((i - 2 : Nat) : Int) := by rw [i64_wrap (by omega) (by omega)]; omega
      have w7 : IntKind.i64.wrap ((i : Int) - 7) = ((i - 7 : Nat) : Int) := by rw [i64_wrap (by omega) (by omega)]; omega
      have w15 : IntKind.i64.wrap ((i : Int) - 15) = ((i - 15 : Nat) : Int) := by rw [i64_wrap (by omega) (by omega)]; omega
      have w16 : IntKind.i64.wrap ((i : Int) - 16) = ((i - 16 : Nat) : Int) := by rw [i64_wrap (by omega) (by omega)]; omega
      have l2 : i - 2 < 64 := by omega
      have l7 : i - 7 < 64 := by omega
      have l15 : i - 15 < 64 := by omega
      have l16 : i - 16 < 64 := by omega
      have g2 := arr_getD (n := 64) W (show i - 2 < i by omega) l2
      have g7 := arr_getD (n := 64) W (show i - 7 < i by omega) l7
      have g15 := arr_getD (n := 64) W (show i - 15 < i by omega) l15
      have g16 := arr_getD (n := 64) W (show i - 16 < i by omega) l16
      refine awp_draw [20, 30] (by kernel_rfl) (by kernel_rfl) ?_
      simp only [qq, K_eqs, Nat.reduceLT, K_ops, Nat.reduceEqDiff, cav, K_binC, K_int, aint, w2, aidxAddr, Tryz.underlying371, tszs, Int.cast_ofNat_Int, Int.toNat_natCast, Nat.mul_one, aload, List.contains_cons, Nat.reduceBEq, apart, isAggD, Tryz.underlying279, K_call, Nat.reduceAdd, K_clo, beq_self_eq_true, aviews, aview, noref, ntok, List.tail_cons, List.headD_cons, Is_length, hl, l2, Is_getD, I, g2]
      refine ⟨by omega, ?_⟩
      refine andC_eq (by simp [norefs_Bs, norefs, noref, norefs_Is, flats_Is]) (c1 (i - 2)) (by simp [noref, norefs, norefs_Bs, flat, norefs_Is, flats_Is]) ?_
      simp only [qq, RestC_eqs, K_eqs, Nat.reduceLT, K_ops, Nat.reduceEqDiff, cav, K_binC, K_int, aint, w7, aidxAddr, Tryz.underlying371, tszs, Int.cast_ofNat_Int, Int.toNat_natCast, Nat.mul_one, aload, List.contains_cons, Nat.reduceBEq, apart, isAggD, Tryz.underlying279, w15, K_call, Nat.reduceAdd, K_clo, beq_self_eq_true, Bool.false_or, aviews, aview, noref, ntok, List.tail_cons, List.headD_cons, Is_length, hl, l15, Is_getD, I, g15, l7, g7, n_addn, n_u32]
      refine ⟨by omega, by omega, ?_⟩
      refine andC_eq (by simp [norefs_Bs, norefs, noref, norefs_Is, flats_Is]) (c0 (i - 15)) (by simp [noref, norefs, norefs_Bs, flat, norefs_Is, flats_Is]) ?_
      simp only [qq, RestC_eqs, K_eqs, K_ops, Nat.reduceEqDiff, K_binC, K_int, aint, n_addn, n_u32, Nat.reduceLT, cav, w16, aidxAddr, Tryz.underlying371, tszs, Int.cast_ofNat_Int, Int.toNat_natCast, Nat.mul_one, aload, List.contains_cons, Nat.reduceBEq, apart, isAggD, Tryz.underlying279, K_store, astore, acells, spl, K_nil, Is_length, hl, Is_take, Is_drop, l16, Is_getD, I, g16, hbig i (by omega), List.all_cons, oneC, Value.oneCell', List.all_nil, Nat.reduceLeDiff]
      refine ⟨⟨by omega, by omega⟩, ⟨by omega, by omega⟩, by omega, ?_⟩
      rw [Is_set (by rw [hl]; omega), arr_set]
      simp only [InBlock, Then]
      refine awp_keep [1, 2, 4] ?_
      simp only [keep_eqs, K_ops, Nat.reduceEqDiff, if_true, if_false]
      have h6 : IntKind.i64.wrap ((i + 1 : Nat) : Int) = ((i + 1 : Nat) : Int) := n_i64 (by omega)
      refine awp_region [] ?_
      simp only [qq, K_eqs, K_ops, Nat.reduceEqDiff, cav, K_binC, K_int, aint, n_add, h6, Nat.reduceLT, K_nil, Then]
      exact ⟨i + 1, by omega, by omega, .of_keep [1, 2, 4] rfl⟩
  · have he : i = 64 := by have := of_decide_eq_false h; omega
    subst he
    refine awp_exit ?_
    simp only [Then, InBlock, if_true]
    refine hK1 _ ?_
    clear hK1 K1
    refine awp_keep [2] ?_
    simp only [keep_eqs, K_ops, Nat.reduceEqDiff, if_true, if_false]
    refine awp_seq_k fun K hK => awp_region [] ?_
    have ht : (arr 64 W 64).take 64 = arr 64 W 64 := List.take_of_length_le (by rw [hl]; omega)
    have hdr : (arr 64 W 64).drop 64 = [] := List.drop_eq_nil_of_le (by rw [hl]; omega)
    simp only [qq, K_eqs, aload, K_ops, apart, isAggD, Tryz.underlying371, tszs, Is_length, hl, Is_take, ht, Nat.reduceLT, K_store, astore, Nat.reduceEqDiff, acells, spl, Is_drop, K_nil, Then, Is_one, hdr, Is_nil]
    refine hK _ ?_
    clear hK K
    refine awp_ret ?_
    simp only [qq, K_fin, ares, aress, ares1, aload, K_ops, Nat.reduceEqDiff, apart, isAggD, Tryz.underlying371, tszs, Is_length, hl, Is_take, ht, afin, noref, norefs_Is]

theorem great_ok (i : Int) (x : Nat) (hx : x < 4294967296) : ACalls Tryz.prog G0 299 [.val (.int .i64 i), .val (.int .u32 (x : Int))] [] (fun r os => os = [] ∧ r = .val (.int .u32 (great i x : Int))) := by
  have hm : ∀ a b, (turn x a ^^^ turn x b) % 4294967296 = turn x a ^^^ turn x b := fun a b => Nat.mod_eq_of_lt (lt32_of_bits fun j hj => by simp [Nat.testBit_xor, bit_high (turn_lt hx _) hj])
  have f0 : ((turn x 2 ^^^ turn x 13) ^^^ turn x 22) % 4294967296 = great 0 x := by
    have h := (Nat.mod_eq_of_lt (xor3_lt (turn_lt hx 2) (turn_lt hx 13) (turn_lt hx 22))).trans (great0 x).symm
    rw [xor3_eq]
    exact h
  have f1 : ((turn x 6 ^^^ turn x 11) ^^^ turn x 25) % 4294967296 = great 1 x := by
    have h := (Nat.mod_eq_of_lt (xor3_lt (turn_lt hx 6) (turn_lt hx 11) (turn_lt hx 25))).trans (great1 x).symm
    rw [xor3_eq]
    exact h
  refine acalls_of_awp Tryz.func299 rfl rfl Tryz.ntmps299 (rts := #[279]) rfl Tryz.results299 (by simp) ?_
  simp only [argSlots, Nat.reduceAdd]
  refine awp_seq_k fun K hK => awp_region [] ?_
  simp only [qq, K_eqs, Nat.reduceLT, K_ops, cav, K_nil, Then]
  (repeat' apply And.intro) <;> try (first | exact True.intro | omega)
  refine hK _ ?_
  clear hK K
  refine awp_seq_k fun K1 hK1 => ?_
  refine awp_seq_k fun K hK => awp_region [] ?_
  simp only [qq, K_eqs, Nat.reduceLT, K_ops, reduceCtorEq, K_nil, Then]
  (repeat' apply And.intro) <;> try (first | exact True.intro | omega)
  refine hK _ ?_
  clear hK K
  refine awp_block ?_
  refine awp_keep [1, 5] ?_
  simp only [keep_eqs, K_ops, Nat.reduceEqDiff, if_true, if_false]
  by_cases h0 : i = 0
  · subst h0
    refine awp_seq_k fun K hK => awp_region [] ?_
    simp only [qq, K_eqs, K_ops, Nat.reduceEqDiff, cav, K_binC, K_int, aint, beq_self_eq_true, Nat.reduceLT, K_nil, Then]
    (repeat' apply And.intro) <;> try (first | exact True.intro | omega)
    refine hK _ ?_
    clear hK K
    refine awp_condT rfl ?_
    refine awp_keep [1] ?_
    simp only [keep_eqs, K_ops, Nat.reduceEqDiff, if_true, if_false]
    refine awp_seq_k fun K hK => awp_region [] ?_
    simp only [qq, K_eqs, Nat.reduceLT, K_ops, K_call, Nat.reduceAdd, Nat.reduceEqDiff, cav, K_clo, aviews, aview, noref]
    refine andC_eq (by simp [norefs_Bs, norefs, noref]) (turn_ok x 2 hx) (by simp [noref, norefs, norefs_Bs, flat]) ?_
    simp only [qq, RestC_eqs, K_eqs, Nat.reduceLT, K_ops, Nat.reduceEqDiff, K_call, Nat.reduceAdd, cav, K_clo, aviews, aview, noref]
    refine andC_eq (by simp [norefs_Bs, norefs, noref]) (turn_ok x 13 hx) (by simp [noref, norefs, norefs_Bs, flat]) ?_
    simp only [qq, RestC_eqs, K_eqs, K_ops, Nat.reduceEqDiff, K_binC, K_int, aint, n_xor32, Nat.reduceLT, K_call, Nat.reduceAdd, cav, K_clo, aviews, aview, noref]
    refine andC_eq (by simp [norefs_Bs, norefs, noref]) (turn_ok x 22 hx) (by simp [noref, norefs, norefs_Bs, flat]) ?_
    simp only [qq, hm, RestC_eqs, K_eqs, K_ops, Nat.reduceEqDiff, K_binC, K_int, aint, n_xor32, f0, Nat.reduceLT, K_nil, Then]
    refine hK _ ?_
    refine awp_keep [4] ?_
    simp only [keep_eqs, K_ops, Nat.reduceEqDiff, if_true, if_false]
    refine awp_ret ?_
    simp only [qq, InBlock, Then, K_fin, ares, aress, ares1, afin, K_ops, noref]
  have hb0 : (i == 0) = false := by simpa using h0
  refine awp_seq_k fun K hK => awp_region [] ?_
  simp only [qq, K_eqs, K_ops, Nat.reduceEqDiff, cav, K_binC, K_int, aint, hb0, Nat.reduceLT, K_nil, Then]
  (repeat' apply And.intro) <;> try (first | exact True.intro | omega)
  refine hK _ ?_
  clear hK K
  refine awp_condF rfl ?_
  refine awp_keep [1, 5] ?_
  simp only [keep_eqs, K_ops, Nat.reduceEqDiff, if_true, if_false]
  by_cases h1 : i = 1
  · subst h1
    refine awp_seq_k fun K hK => awp_region [] ?_
    simp only [qq, K_eqs, K_ops, Nat.reduceEqDiff, cav, K_binC, K_int, aint, beq_self_eq_true, Nat.reduceLT, K_nil, Then]
    (repeat' apply And.intro) <;> try (first | exact True.intro | omega)
    refine hK _ ?_
    clear hK K
    refine awp_condT rfl ?_
    refine awp_keep [1] ?_
    simp only [keep_eqs, K_ops, Nat.reduceEqDiff, if_true, if_false]
    refine awp_seq_k fun K hK => awp_region [] ?_
    simp only [qq, K_eqs, Nat.reduceLT, K_ops, K_call, Nat.reduceAdd, Nat.reduceEqDiff, cav, K_clo, aviews, aview, noref]
    refine andC_eq (by simp [norefs_Bs, norefs, noref]) (turn_ok x 6 hx) (by simp [noref, norefs, norefs_Bs, flat]) ?_
    simp only [qq, RestC_eqs, K_eqs, Nat.reduceLT, K_ops, Nat.reduceEqDiff, K_call, Nat.reduceAdd, cav, K_clo, aviews, aview, noref]
    refine andC_eq (by simp [norefs_Bs, norefs, noref]) (turn_ok x 11 hx) (by simp [noref, norefs, norefs_Bs, flat]) ?_
    simp only [qq, RestC_eqs, K_eqs, K_ops, Nat.reduceEqDiff, K_binC, K_int, aint, n_xor32, Nat.reduceLT, K_call, Nat.reduceAdd, cav, K_clo, aviews, aview, noref]
    refine andC_eq (by simp [norefs_Bs, norefs, noref]) (turn_ok x 25 hx) (by simp [noref, norefs, norefs_Bs, flat]) ?_
    simp only [qq, hm, RestC_eqs, K_eqs, K_ops, Nat.reduceEqDiff, K_binC, K_int, aint, n_xor32, f1, Nat.reduceLT, K_nil, Then]
    refine hK _ ?_
    refine awp_keep [4] ?_
    simp only [keep_eqs, K_ops, Nat.reduceEqDiff, if_true, if_false]
    refine awp_ret ?_
    simp only [qq, InBlock, Then, K_fin, ares, aress, ares1, afin, K_ops, noref]
  have hb1 : (i == 1) = false := by simpa using h1
  refine awp_seq_k fun K hK => awp_region [] ?_
  simp only [qq, K_eqs, K_ops, Nat.reduceEqDiff, cav, K_binC, K_int, aint, hb1, Nat.reduceLT, K_nil, Then]
  (repeat' apply And.intro) <;> try (first | exact True.intro | omega)
  refine hK _ ?_
  clear hK K
  refine awp_condF rfl ?_
  refine awp_skip ?_
  simp only [InBlock, Then]
  refine hK1 _ ?_
  clear hK1 K1
  refine awp_seq_k fun K hK => awp_region [] ?_
  simp only [qq, K_eqs, Nat.reduceLT, K_ops, cav, K_nil, Then]
  (repeat' apply And.intro) <;> try (first | exact True.intro | omega)
  refine hK _ ?_
  clear hK K
  refine awp_keep [4] ?_
  simp only [keep_eqs, K_ops, Nat.reduceEqDiff, if_true, if_false]
  refine awp_ret ?_
  simp only [qq, K_fin, ares, aress, ares1, afin, K_ops, noref]
  rw [great2 x h0 h1]
  rfl

theorem choose_ok (x y z : Nat) (hx : x < 4294967296) (hy : y < 4294967296) (hz : z < 4294967296) : ACalls Tryz.prog G0 300 [.val (.int .u32 (x : Int)), .val (.int .u32 (y : Int)), .val (.int .u32 (z : Int))] [] (fun r os => os = [] ∧ r = .val (.int .u32 (V.choose x y z : Int))) := by
  have hn : bits BinOp.xor IntKind.u32 (if IntKind.u32.signed then -1 else IntKind.u32.max) (x : Int) = ((4294967295 ^^^ x : Nat) : Int) := by
    have h := n_xor32 4294967295 x
    rw [Nat.mod_eq_of_lt (lt32_of_bits fun j hj => by simp [Nat.testBit_xor, ones_bit, bit_high hx hj, show ¬ j < 32 by omega])] at h
    exact h
  have m1 : (x &&& y) % 4294967296 = x &&& y := Nat.mod_eq_of_lt (lt32_of_bits fun j hj => by simp [Nat.testBit_and, bit_high hx hj])
  have m2 : ((4294967295 ^^^ x) &&& z) % 4294967296 = (4294967295 ^^^ x) &&& z := Nat.mod_eq_of_lt (lt32_of_bits fun j hj => by simp [Nat.testBit_and, bit_high hz hj])
  have m3 : ((x &&& y) ^^^ ((4294967295 ^^^ x) &&& z)) % 4294967296 = V.choose x y z := Nat.mod_eq_of_lt (choose_lt hx hy hz)
  generalize 4294967295 ^^^ x = nx at hn m2 m3
  refine acalls_of_awp Tryz.func300 rfl rfl Tryz.ntmps300 (rts := #[279]) rfl Tryz.results300 (by simp) ?_
  simp only [argSlots, Nat.reduceAdd]
  refine awp_seq_k fun K hK => awp_region [] ?_
  simp only [qq, K_eqs, Nat.reduceLT, K_ops, cav, K_nil, Then]
  (repeat' apply And.intro) <;> try (first | exact True.intro | omega)
  refine hK _ ?_
  clear hK K
  refine awp_seq_k fun K hK => awp_region [] ?_
  simp only [qq, K_eqs, Nat.reduceLT, K_ops, reduceCtorEq, Nat.reduceEqDiff, K_binC, K_int, aint, n_and32, m1, aun, hn, K_nil, Then, m2, n_xor32, m3]
  (repeat' apply And.intro) <;> try (first | exact True.intro | omega)
  refine hK _ ?_
  clear hK K
  refine awp_ret ?_
  simp only [qq, K_fin, ares, aress, ares1, afin, K_ops, Nat.reduceEqDiff, reduceCtorEq, noref]

theorem most_ok (x y z : Nat) (hx : x < 4294967296) (hy : y < 4294967296) (hz : z < 4294967296) : ACalls Tryz.prog G0 302 [.val (.int .u32 (x : Int)), .val (.int .u32 (y : Int)), .val (.int .u32 (z : Int))] [] (fun r os => os = [] ∧ r = .val (.int .u32 (most x y z : Int))) := by
  have m1 : (x &&& y) % 4294967296 = x &&& y := Nat.mod_eq_of_lt (lt32_of_bits fun j hj => by simp [Nat.testBit_and, bit_high hx hj])
  have m2 : (x &&& z) % 4294967296 = x &&& z := Nat.mod_eq_of_lt (lt32_of_bits fun j hj => by simp [Nat.testBit_and, bit_high hz hj])
  have m4 : (y &&& z) % 4294967296 = y &&& z := Nat.mod_eq_of_lt (lt32_of_bits fun j hj => by simp [Nat.testBit_and, bit_high hz hj])
  have m5 : ((x &&& y) ^^^ (x &&& z)) % 4294967296 = (x &&& y) ^^^ (x &&& z) := Nat.mod_eq_of_lt (lt32_of_bits fun j hj => by simp [Nat.testBit_and, Nat.testBit_xor, bit_high hx hj])
  have m3 : (((x &&& y) ^^^ (x &&& z)) ^^^ (y &&& z)) % 4294967296 = most x y z := Nat.mod_eq_of_lt (most_lt hx hy hz)
  refine acalls_of_awp Tryz.func302 rfl rfl Tryz.ntmps302 (rts := #[279]) rfl Tryz.results302 (by simp) ?_
  simp only [argSlots, Nat.reduceAdd]
  refine awp_seq_k fun K hK => awp_region [] ?_
  simp only [qq, K_eqs, Nat.reduceLT, K_ops, cav, K_nil, Then]
  (repeat' apply And.intro) <;> try (first | exact True.intro | omega)
  refine hK _ ?_
  clear hK K
  refine awp_seq_k fun K hK => awp_region [] ?_
  simp only [qq, K_eqs, Nat.reduceLT, K_ops, reduceCtorEq, Nat.reduceEqDiff, K_binC, K_int, aint, n_and32, m1, m2, n_xor32, m5, m4, m3, K_nil, Then]
  (repeat' apply And.intro) <;> try (first | exact True.intro | omega)
  refine hK _ ?_
  clear hK K
  refine awp_ret ?_
  simp only [qq, K_fin, ares, aress, ares1, afin, K_ops, Nat.reduceEqDiff, reduceCtorEq, noref]
def Kn (i : Nat) : Nat := roots3.getD i 0
def nats (l : List Nat) : List Int := l.map fun n : Nat => (n : Int)

theorem K_at (i : Nat) (h : i < 64) : tabW.getD i 0 = ((Kn i : Nat) : Int) := tabW_get i h
theorem round1_calls [Gv] (hh : List Nat) (hw : words8 hh) (W : Nat → Nat) (i : Nat) : ∃ a b c d e f g h g1 ch g0 mo : Nat, rounds hh Kn W i = [a, b, c, d, e, f, g, h] ∧
    ACalls Tryz.prog GP 299 [.val (.int .i64 1), .val (.int .u32 (e : Int))] [] (fun r os => os = [] ∧ r = .val (.int .u32 (g1 : Int))) ∧
    ACalls Tryz.prog GP 300 [.val (.int .u32 (e : Int)), .val (.int .u32 (f : Int)), .val (.int .u32 (g : Int))] [] (fun r os => os = [] ∧ r = .val (.int .u32 (ch : Int))) ∧
    ACalls Tryz.prog GP 299 [.val (.int .i64 0), .val (.int .u32 (a : Int))] [] (fun r os => os = [] ∧ r = .val (.int .u32 (g0 : Int))) ∧
    ACalls Tryz.prog GP 302 [.val (.int .u32 (a : Int)), .val (.int .u32 (b : Int)), .val (.int .u32 (c : Int))] [] (fun r os => os = [] ∧ r = .val (.int .u32 (mo : Int))) ∧
    rounds hh Kn W (i + 1) = [(((((h + g1) % 4294967296 + ch) % 4294967296 + Kn i) % 4294967296 + W i) % 4294967296 + (g0 + mo) % 4294967296) % 4294967296, a, b, c, (d + ((((h + g1) % 4294967296 + ch) % 4294967296 + Kn i) % 4294967296 + W i) % 4294967296) % 4294967296, e, f, g] := by
  obtain ⟨a, b, c, d, e, f, g, h, hr, ⟨ha, hb, hc, hd, he, hf, hg, hh'⟩, hn⟩ := round_form hw Kn W i
  exact ⟨a, b, c, d, e, f, g, h, great 1 e, V.choose e f g, great 0 a, most a b c, hr, (great_ok 1 e he).g, (choose_ok e f g he hf hg).g, (great_ok 0 a ha).g, (most_ok a b c ha hb hc).g, hn⟩

theorem prime_at [Gv] (i : Nat) (h : i < 64) : ACalls Tryz.prog GP 301 [.val (.int .i64 (i : Int))] [] (fun r os => os = [] ∧ r = .val (.int .u32 (Kn i : Int))) := by
  have hp := wprime_ok (i : Int)
  rw [if_pos ⟨by omega, by omega⟩, Int.toNat_natCast, K_at i h] at hp
  exact hp

theorem comp_ok [Gv] (hh : List Nat) (b : List UInt8) (hw : words8 hh) (hb : b.length = 64) : ACalls Tryz.prog GP 293 [.agg (Is .u32 (nats hh)), .agg (Bs b)] [] (fun r os => os = [] ∧ r = .agg (Is .u32 (nats (adds (rounds hh Kn (word b) 64) hh)))) := by
  have cS := (schedule_ok b hb).g (G := GP)
  have hround := round1_calls hh hw (word b)
  have h0 : rounds hh Kn (word b) 0 = hh := rfl
  have hlen := fun i => words8_length (rounds_words hw Kn (word b) i)
  have h8 := words8_length hw
  have hfin : nats (adds (rounds hh Kn (word b) 64) hh) = mix (fun p => (rounds hh Kn (word b) 64).getD p 0) (fun p => ((rounds hh Kn (word b) 64).getD p 0 + hh.getD p 0) % 4294967296) 8 := mix_eight (hlen 64) h8 _
  rw [hfin]
  generalize word b = W at *
  generalize rounds hh Kn W = R at *
  clear hfin
  have nl : (nats hh).length = 8 := by rw [← h8]; exact List.length_map _
  have nt : (nats hh).take 8 = nats hh := List.take_of_length_le (by omega)
  have nd : (nats hh).drop 8 = [] := List.drop_eq_nil_of_le (by omega)
  have al : (arr 64 W 64).length = 64 := arr_length _ _ _
  have bt : b.take 64 = b := List.take_of_length_le (by omega)
  have bd : b.drop 64 = [] := List.drop_eq_nil_of_le (by omega)
  obtain ⟨z8, hz8, hz8l⟩ : ∃ z8 : List Int, (zvs .u32 8).map cav = Is .u32 z8 ∧ z8.length = 8 := ⟨_, zvs_Is _ _, by simp⟩
  have zd : z8.drop 8 = [] := List.drop_eq_nil_of_le (by omega)
  refine acalls_of_awp Tryz.func293 rfl rfl Tryz.ntmps293 (rts := #[362]) rfl Tryz.results293 (by simp) ?_
  simp only [argSlots, Nat.reduceAdd]
  refine awp_seq_k fun K hK => awp_region [] ?_
  simp only [qq, K_eqs, aboxF, acells, K_ops, reduceCtorEq, Is_one, abox, Nat.reduceLT, Nat.reduceEqDiff, Bs_one, aalloc, tzeros, Nat.reduceAdd, hz8, K_nil, Then]
  (repeat' apply And.intro) <;> try (first | exact True.intro | omega)
  refine hK _ ?_
  clear hK K
  refine awp_seq_k fun K hK => awp_region [] ?_
  simp only [qq, K_eqs, aload, K_ops, Nat.reduceEqDiff, reduceCtorEq, apart, isAggD, Tryz.underlying362, tszs, Is_length, nl, Is_take, nt, Nat.reduceLT, aalloc, tzeros, Nat.reduceAdd, hz8, K_store, astore, acells, spl, K_nil, Then, hz8l, Is_drop, Is_one, zd, Is_nil]
  (repeat' apply And.intro) <;> try (first | exact True.intro | omega)
  refine hK _ ?_
  clear hK K
  refine awp_keep [2, 3, 4, 5] ?_
  simp only [keep_eqs, K_ops, Nat.reduceEqDiff, if_true, if_false]
  refine awp_seq_k fun K1 hK1 => ?_
  refine awp_seq_k fun K hK => awp_region [] ?_
  simp only [qq, K_eqs, aload, K_ops, Nat.reduceEqDiff, apart, isAggD, Tryz.underlying336, tszs, Bs_length, hb, Bs_take, bt, Nat.reduceLT, K_call, Nat.reduceAdd, K_clo, aviews, aview, ntok, List.headD_cons, noref, norefs_Bs]
  refine andC_eq (by simp [norefs_Bs, norefs, noref, norefs_Is, flats_Is]) (cS) (by simp [noref, norefs, norefs_Bs, flat, norefs_Is, flats_Is]) ?_
  simp only [qq, RestC_eqs, K_eqs, Nat.reduceLT, K_ops, cav, K_nil, Then]
  refine hK _ ?_
  clear hK K
  refine awp_keep [2, 4, 5, 13, 14] ?_
  simp only [keep_eqs, K_ops, Nat.reduceEqDiff, if_true, if_false]
  refine awp_block ?_
  refine awp_loop_from (fun i : Nat => ⟨82, [(2, .ptr 0 0), (4, .ptr 2 0), (5, .ptr 3 0), (13, .agg (Is .u32 (arr 64 W 64))), (14, .val (.int .i64 (i : Int)))], [.cells (Is .u32 (nats hh)), .cells (Bs b), .cells (Is .u32 z8), .cells (Is .u32 (nats (R i)))]⟩)
    (fun i => i ≤ 64) (fun i => 64 - i) 0 (by omega) (by rw [h0]; exact .of_keep [2, 4, 5, 13, 14] rfl) ?_
  intro i hi
  refine awp_seq_k fun K hK => awp_region [] ?_
  simp only [qq, K_eqs, K_ops, Nat.reduceEqDiff, cav, K_binC, K_int, aint, d_lt, Nat.reduceLT, K_nil, Then]
  (repeat' apply And.intro) <;> try (first | exact True.intro | omega)
  refine hK _ ?_
  clear hK K
  refine awp_seq ?_
  refine awp_cond rfl rfl (fun h => ?_) (fun h => ?_)
  · have hlt : i < 64 := of_decide_eq_true h
    clear h
    refine awp_skip ?_
    simp only [Then]
    refine awp_keep [2, 4, 5, 13, 14] ?_
    simp only [keep_eqs, K_ops, Nat.reduceEqDiff, if_true, if_false]
    obtain ⟨a, b', c, d, e, f, g, h, g1, ch, g0, mo, hr, c1, cch, c0, cmo, hnext⟩ := hround i
    have hnr : nats (R i) = [(a : Int), (b' : Int), (c : Int), (d : Int), (e : Int), (f : Int), (g : Int), (h : Int)] := by rw [hr]; rfl
    rw [hnr]
    have wa := arr_getD (n := 64) W hlt hlt
    refine awp_seq ?_
    refine awp_block ?_
    refine awp_seq_k fun K hK => awp_region [] ?_
    simp only [qq, K_eqs, Nat.reduceLT, K_ops, Nat.reduceEqDiff, aidx, Tryz.underlying371, tszs, apart, isAggD, Tryz.underlying279, Int.toNat_natCast, Nat.mul_one, Is_length, al, hlt, Is_getD, I, wa, Int.cast_ofNat_Int, K_nil, Then]
    refine ⟨by omega, hK _ ?_⟩
    clear hK K
    refine awp_keep [2, 4, 5, 6, 7, 13, 14] ?_
    simp only [keep_eqs, K_ops, Nat.reduceEqDiff, if_true, if_false]
    generalize htt : (((((h + g1) % 4294967296 + ch) % 4294967296 + Kn i) % 4294967296 + W i) % 4294967296) = T at hnext
    refine awp_seq_k fun K hK => ?_
    refine awp_draw [22, 30, 33] (by kernel_rfl) (by kernel_rfl) ?_
    simp only [qq, K_eqs, aidxAddr, K_ops, cav, Tryz.underlying362, Nat.reduceEqDiff, tszs, Int.reduceLE, Int.cast_ofNat_Int, Int.reduceLT, Int.reduceToNat, Nat.mul_one, Nat.reduceLT, aload, List.contains_cons, Nat.reduceBEq, apart, isAggD, Tryz.underlying279, K_call, Nat.reduceAdd, K_clo, beq_self_eq_true, aviews, aview, noref, ntok, List.tail_cons, List.headD_cons, Is_length, Is_getD, I, List.getD_cons_succ]
    refine andC_eq (by simp [norefs_Bs, norefs, noref, norefs_Is, flats_Is]) (c1) (by simp [noref, norefs, norefs_Bs, flat, norefs_Is, flats_Is]) ?_
    simp only [qq, RestC_eqs, K_eqs, K_ops, Nat.reduceEqDiff, K_binC, K_int, aint, n_addn, n_u32, Nat.reduceLT, aidxAddr, cav, Tryz.underlying362, tszs, Int.reduceLE, Int.cast_ofNat_Int, Int.reduceLT, Int.reduceToNat, Nat.mul_one, aload, List.contains_cons, Nat.reduceBEq, apart, isAggD, Tryz.underlying279, K_call, Nat.reduceAdd, K_clo, beq_self_eq_true, Bool.false_or, aviews, aview, ntok, List.headD_cons, List.tail_cons, Is_length, Is_getD, I, List.getD_cons_succ, noref]
    refine andC_eq (by simp [norefs_Bs, norefs, noref, norefs_Is, flats_Is]) (cch) (by simp [noref, norefs, norefs_Bs, flat, norefs_Is, flats_Is]) ?_
    simp only [qq, RestC_eqs, K_eqs, K_ops, Nat.reduceEqDiff, K_binC, K_int, aint, n_addn, n_u32, Nat.reduceLT, K_call, Nat.reduceAdd, List.contains_cons, Nat.reduceBEq, K_clo, beq_self_eq_true, Bool.false_or, aviews, aview, noref]
    refine andC_eq (by simp [norefs_Bs, norefs, noref, norefs_Is, flats_Is]) (prime_at i hlt) (by simp [noref, norefs, norefs_Bs, flat, norefs_Is, flats_Is]) ?_
    simp only [qq, RestC_eqs, K_eqs, K_ops, Nat.reduceEqDiff, K_binC, K_int, aint, n_addn, n_u32, Nat.reduceLT, htt, K_nil, Then]
    refine hK _ ?_
    clear hK K
    refine awp_keep [2, 4, 5, 8, 13, 14] ?_
    simp only [keep_eqs, K_ops, Nat.reduceEqDiff, if_true, if_false]
    refine awp_seq_k fun K hK => ?_
    refine awp_draw [39, 46] (by kernel_rfl) (by kernel_rfl) ?_
    simp only [qq, K_eqs, aidxAddr, K_ops, cav, Tryz.underlying362, Nat.reduceEqDiff, tszs, Int.le_refl, Int.cast_ofNat_Int, Int.reduceLT, Int.toNat_zero, Nat.mul_one, Nat.reduceLT, aload, List.contains_cons, Nat.reduceBEq, apart, isAggD, Tryz.underlying279, K_call, Nat.reduceAdd, K_clo, beq_self_eq_true, aviews, aview, noref, ntok, List.tail_cons, List.headD_cons, Is_length, Is_getD, I]
    refine andC_eq (by simp [norefs_Bs, norefs, noref, norefs_Is, flats_Is]) (c0) (by simp [noref, norefs, norefs_Bs, flat, norefs_Is, flats_Is]) ?_
    simp only [qq, RestC_eqs, K_eqs, aidxAddr, K_ops, cav, Tryz.underlying362, Nat.reduceEqDiff, tszs, Int.le_refl, Int.cast_ofNat_Int, Int.reduceLT, Int.toNat_zero, Nat.mul_one, Nat.reduceLT, aload, List.contains_cons, Nat.reduceBEq, apart, isAggD, Tryz.underlying279, Int.reduceLE, Int.reduceToNat, K_call, Nat.reduceAdd, K_clo, beq_self_eq_true, Bool.false_or, aviews, aview, ntok, List.headD_cons, List.tail_cons, Is_length, Is_getD, I, List.getD_cons_succ, noref]
    refine andC_eq (by simp [norefs_Bs, norefs, noref, norefs_Is, flats_Is]) (cmo) (by simp [noref, norefs, norefs_Bs, flat, norefs_Is, flats_Is]) ?_
    simp only [qq, RestC_eqs, K_eqs, K_ops, Nat.reduceEqDiff, K_binC, K_int, aint, n_addn, n_u32, Nat.reduceLT, K_nil, Then]
    refine hK _ ?_
    clear hK K
    refine awp_keep [2, 4, 5, 8, 9, 13, 14] ?_
    simp only [keep_eqs, K_ops, Nat.reduceEqDiff, if_true, if_false]
    have hn1 : nats (R (i + 1)) = [(((T + (g0 + mo) % 4294967296) % 4294967296 : Nat) : Int), (a : Int), (b' : Int), (c : Int), ((d + T) % 4294967296 : Nat), (e : Int), (f : Int), (g : Int)] := by rw [hnext]; rfl
    have h6 : IntKind.i64.wrap ((i + 1 : Nat) : Int) = ((i + 1 : Nat) : Int) := n_i64 (by omega)
    refine awp_region [] ?_
    simp only [qq, K_eqs, Nat.reduceLT, K_ops, Nat.reduceEqDiff, K_binC, K_int, aint, n_addn, n_u32, aidxAddr, cav, Tryz.underlying362, tszs, Int.le_refl, Int.cast_ofNat_Int, Int.reduceLT, Int.toNat_zero, Nat.mul_one, aload, apart, isAggD, Tryz.underlying279, Int.reduceLE, Int.reduceToNat, abuild, tzeros, zvs_Is, List.replicate_succ, List.replicate_zero, aparts, afill, spl, acells, Is_drop, Nat.reduceAdd, Nat.reduceLeDiff, Is_length, List.all_cons, oneC, Value.oneCell', List.all_nil, K_store, astore, K_nil, Bool.true_and, Is_getD, I, List.getD_cons_succ, List.drop_nil, Is_nil]
    rw [show [AV.val (Value.int IntKind.u32 (((T + (g0 + mo) % 4294967296) % 4294967296 : Nat) : Int)), AV.val (Value.int IntKind.u32 (a : Int)), AV.val (Value.int IntKind.u32 (b' : Int)), AV.val (Value.int IntKind.u32 (c : Int)), AV.val (Value.int IntKind.u32 (((d + T) % 4294967296 : Nat) : Int)), AV.val (Value.int IntKind.u32 (e : Int)), AV.val (Value.int IntKind.u32 (f : Int)), AV.val (Value.int IntKind.u32 (g : Int))] = Is .u32 (nats (R (i + 1))) from by rw [hn1]; rfl]
    simp only [InBlock, Then]
    refine awp_keep [2, 4, 5, 13, 14] ?_
    simp only [keep_eqs, K_ops, Nat.reduceEqDiff, if_true, if_false]
    have h6 : IntKind.i64.wrap ((i + 1 : Nat) : Int) = ((i + 1 : Nat) : Int) := n_i64 (by omega)
    refine awp_region [] ?_
    simp only [qq, K_eqs, K_ops, Nat.reduceEqDiff, cav, K_binC, K_int, aint, n_add, h6, Nat.reduceLT, K_nil, Then]
    refine ⟨i + 1, by omega, by omega, .of_keep [2, 4, 5, 13, 14] rfl⟩
  · have he : i = 64 := by have := of_decide_eq_false h; omega
    subst he
    refine awp_exit ?_
    simp only [Then, InBlock, if_true]
    refine hK1 _ ?_
    clear hK1 K1
    refine awp_keep [2, 4, 5] ?_
    simp only [keep_eqs, K_ops, Nat.reduceEqDiff, if_true, if_false]
    have hV0 := mix_zero (hlen 64) (fun p => ((R 64).getD p 0 + hh.getD p 0) % 4294967296)
    generalize hA : (fun p => ((R 64).getD p 0 + hh.getD p 0) % 4294967296) = A at hV0 ⊢
    have hAV : ∀ p, A p = ((fun p => (R 64).getD p 0) p + hh.getD p 0) % 4294967296 := fun p => by rw [← hA]
    generalize hV : (fun p => (R 64).getD p 0) = V at hV0 hAV ⊢
    rw [show nats (R 64) = mix V A 0 from hV0]
    have ml : ∀ j, (mix V A j).length = 8 := mix_length V A
    have mt : (mix V A 8).take 8 = mix V A 8 := List.take_of_length_le (by rw [ml]; omega)
    have md : (mix V A 8).drop 8 = [] := List.drop_eq_nil_of_le (by rw [ml]; omega)
    have hget : ∀ j, (nats hh).getD j 0 = ((hh.getD j 0 : Nat) : Int) := fun j => by
      simp only [nats, List.getD_eq_getElem?_getD, List.getElem?_map]
      cases hh[j]? <;> rfl
    refine awp_seq_k fun K1 hK1 => ?_
    refine awp_seq_k fun K hK => awp_region [] ?_
    simp only [qq, K_eqs, Nat.reduceLT, K_ops, cav, K_nil, Then]
    (repeat' apply And.intro) <;> try (first | exact True.intro | omega)
    refine hK _ ?_
    clear hK K
    refine awp_keep [2, 4, 5, 69] ?_
    simp only [keep_eqs, K_ops, Nat.reduceEqDiff, if_true, if_false]
    refine awp_block ?_
    refine awp_loop_from (fun j : Nat => ⟨82, [(2, .ptr 0 0), (4, .ptr 2 0), (5, .ptr 3 0), (69, .val (.int .i64 (j : Int)))], [.cells (Is .u32 (nats hh)), .cells (Bs b), .cells (Is .u32 z8), .cells (Is .u32 (mix V A j))]⟩)
      (fun j => j ≤ 8) (fun j => 8 - j) 0 (by omega) (.of_keep [2, 4, 5, 69] (by exact rfl)) ?_
    intro j hj
    refine awp_seq_k fun K hK => awp_region [] ?_
    simp only [qq, K_eqs, K_ops, Nat.reduceEqDiff, cav, K_binC, K_int, aint, d_lt, Nat.reduceLT, K_nil, Then]
    (repeat' apply And.intro) <;> try (first | exact True.intro | omega)
    refine hK _ ?_
    clear hK K
    refine awp_seq ?_
    refine awp_cond rfl rfl (fun h => ?_) (fun h => ?_)
    · have hlt : j < 8 := by have := of_decide_eq_true h; omega
      refine awp_skip ?_
      simp only [Then]
      refine awp_keep [2, 4, 5, 69] ?_
      simp only [keep_eqs, K_ops, Nat.reduceEqDiff, if_true, if_false]
      refine awp_seq ?_
      refine awp_block ?_
      refine awp_seq_k fun K hK => awp_region [] ?_
      simp only [qq, K_eqs, Nat.reduceLT, K_ops, Nat.reduceEqDiff, K_nil, Then]
      (repeat' apply And.intro) <;> try (first | exact True.intro | omega)
      refine hK _ ?_
      clear hK K
      refine awp_keep [2, 4, 5, 10, 69] ?_
      simp only [keep_eqs, K_ops, Nat.reduceEqDiff, if_true, if_false]
      have gm := mix_getD V A (Nat.le_refl j) hlt
      have ga := hAV j
      have gh := hget j
      have q8 : 0 < 8 - j := by omega
      have l8 : j ≤ 8 := by omega
      generalize hh.getD j 0 = x at ga gh
      refine awp_draw [] (by kernel_rfl) (by kernel_rfl) ?_
      simp only [qq, K_eqs, Nat.reduceLT, K_ops, Nat.reduceEqDiff, aidxAddr, Tryz.underlying362, tszs, Int.cast_ofNat_Int, Int.toNat_natCast, Nat.mul_one, aload, apart, isAggD, Tryz.underlying279, K_binC, K_store, astore, acells, spl, K_nil, Is_length, ml, Is_take, Is_drop, nl, hlt, Is_getD, I, gh, gm, K_int, aint, n_addn, n_u32, ← ga, List.all_cons, oneC, Value.oneCell', List.all_nil, Nat.reduceLeDiff]
      refine ⟨by omega, by omega, by omega, by omega, ?_⟩
      rw [Is_set (by rw [ml]; omega), mix_set]
      simp only [InBlock, Then]
      refine awp_keep [2, 4, 5, 69] ?_
      simp only [keep_eqs, K_ops, Nat.reduceEqDiff, if_true, if_false]
      have h6 : IntKind.i64.wrap ((j + 1 : Nat) : Int) = ((j + 1 : Nat) : Int) := n_i64 (by omega)
      refine awp_region [] ?_
      simp only [qq, K_eqs, K_ops, Nat.reduceEqDiff, cav, K_binC, K_int, aint, n_add, h6, Nat.reduceLT, K_nil, Then]
      exact ⟨j + 1, by omega, by omega, .of_keep [2, 4, 5, 69] rfl⟩
    · have he : j = 8 := by have := of_decide_eq_false h; omega
      subst he
      refine awp_exit ?_
      simp only [Then, InBlock, if_true]
      refine hK1 _ ?_
      clear hK1 K1
      refine awp_keep [4, 5] ?_
      simp only [keep_eqs, K_ops, Nat.reduceEqDiff, if_true, if_false]
      refine awp_seq_k fun K hK => awp_region [] ?_
      simp only [qq, K_eqs, aload, K_ops, Nat.reduceEqDiff, apart, isAggD, Tryz.underlying362, tszs, Is_length, ml, Is_take, mt, Nat.reduceLT, K_store, astore, acells, hz8l, spl, Is_drop, K_nil, Then, Is_one, zd, Is_nil]
      (repeat' apply And.intro) <;> try (first | exact True.intro | omega)
      refine hK _ ?_
      clear hK K
      refine awp_ret ?_
      simp only [qq, K_fin, ares, aress, ares1, aload, K_ops, Nat.reduceEqDiff, apart, isAggD, Tryz.underlying362, tszs, Is_length, ml, Is_take, mt, afin, noref, norefs_Is]
def start8 : List Nat := [1779033703, 3144134277, 1013904242, 2773480762, 1359893119, 2600822924, 528734635, 1541459225]
def DC (h : List Nat) (r : List UInt8) (m : Nat) : List AV := Is .u32 (nats h) ++ (Bs r ++ [.val (.int .u64 (m : Int))])

theorem nats_length (h : List Nat) : (nats h).length = h.length := List.length_map _
theorem DC_length (h : List Nat) (r : List UInt8) (m : Nat) (hh : h.length = 8) (hr : r.length = 64) : (DC h r m).length = 73 := by
  simp only [DC, List.length_append, Is_length, Bs_length, nats_length, hh, hr]
  rfl
theorem DC_take73 (h : List Nat) (r : List UInt8) (m : Nat) (hh : h.length = 8) (hr : r.length = 64) : (DC h r m).take 73 = DC h r m := List.take_of_length_le (by rw [DC_length h r m hh hr]; exact Nat.le_refl _)
theorem DC_drop8 (h : List Nat) (r : List UInt8) (m : Nat) (hh : h.length = 8) : (DC h r m).drop 8 = Bs r ++ [.val (.int .u64 (m : Int))] := by
  have e : (Is .u32 (nats h)).length = 8 := by rw [Is_length, nats_length, hh]
  unfold DC
  rw [← e, List.drop_left]
theorem DC_take8 (h : List Nat) (r : List UInt8) (m : Nat) (hh : h.length = 8) : (DC h r m).take 8 = Is .u32 (nats h) := by
  have e : (Is .u32 (nats h)).length = 8 := by rw [Is_length, nats_length, hh]
  unfold DC
  rw [← e, List.take_left]
theorem DC_rest (h : List Nat) (r : List UInt8) (m : Nat) (hh : h.length = 8) (hr : r.length = 64) : ((DC h r m).drop 8).take 64 = Bs r := by
  rw [DC_drop8 h r m hh]
  have e : (Bs r).length = 64 := by rw [Bs_length, hr]
  rw [← e, List.take_left]
theorem DC_get72 (h : List Nat) (r : List UInt8) (m : Nat) (hh : h.length = 8) (hr : r.length = 64) (d : AV) : (DC h r m).getD 72 d = .val (.int .u64 (m : Int)) := by
  have e : (Bs r).length = 64 := by rw [Bs_length, hr]
  have : (DC h r m)[72]? = some (.val (.int .u64 (m : Int))) := by
    have h1 : ((DC h r m).drop 8)[64]? = (DC h r m)[72]? := by rw [List.getElem?_drop]
    rw [← h1, DC_drop8 h r m hh, List.getElem?_append_right (by omega), e]
    rfl
  rw [List.getD_eq_getElem?_getD, this]
  rfl
theorem DC_set72 (h : List Nat) (r : List UInt8) (m m' : Nat) (hh : h.length = 8) (hr : r.length = 64) : (DC h r m).set 72 (.val (.int .u64 (m' : Int))) = DC h r m' := by
  have e1 : (Is .u32 (nats h)).length = 8 := by rw [Is_length, nats_length, hh]
  have e : (Bs r).length = 64 := by rw [Bs_length, hr]
  unfold DC
  rw [List.set_append_right _ _ (by omega), e1, List.set_append_right _ _ (by omega), e]
  rfl
theorem DC_put8 (h h' : List Nat) (r : List UInt8) (m : Nat) (hh : h.length = 8) : Is .u32 (nats h') ++ (DC h r m).drop 8 = DC h' r m := by
  rw [DC_drop8 h r m hh]
  rfl
theorem DC_oneC (h : List Nat) (r : List UInt8) (m : Nat) : (DC h r m).all oneC = true := by
  have h1 : ∀ l : List Int, (Is .u32 l).all oneC = true := fun l => by
    rw [List.all_eq_true]
    intro x hx
    obtain ⟨z, _, rfl⟩ := List.mem_map.1 hx
    rfl
  have h2 : (Bs r).all oneC = true := by
    rw [List.all_eq_true]
    intro x hx
    obtain ⟨z, _, rfl⟩ := List.mem_map.1 hx
    rfl
  rw [DC, List.all_append, List.all_append, h1, h2]
  rfl
theorem DC_norefs (h : List Nat) (r : List UInt8) (m : Nat) : norefs (DC h r m) = true := by
  simp [DC, norefs_append, norefs_Is, norefs_Bs, norefs, noref]
theorem FinH_one_ptr {P : Program} {ts : List TypeId} {Q : AV → List AObj → Prop} {nt : Nat} {s : List (Nat × AV)} {os : List AObj} (x i off : Nat) {y0 y1 : AObj} (h : lk s x = .ptr i off) (h0 : os[0]? = some y0) (hi : os[i]? = some y1) (hne : i ≠ 0) (n0 : objOk y0 = true) (n1 : objOk y1 = true)
    (hq : Q (.ptr 1 off) [y0, y1]) : FinH P ts [.tmp x] 1 Q .ret ⟨nt, s, os⟩ := by
  have hidx : [0, i].idxOf i = 1 := by
    cases i with
    | zero => exact absurd rfl hne
    | succ i => simp [List.idxOf_cons]
  refine ⟨.inr rfl, [0, i], [y0, y1], _, by simp, fun j hj => ?_, fun a b ha hb e => ?_, rfl, fun j hj => ?_, fun o ho => ?_, .inr ⟨x, rfl, by simp [h, outv, hidx]⟩, hq⟩
  · have : j = 0 := by omega
    subst this
    rfl
  · simp only [List.length_cons, List.length_nil] at ha hb
    rcases (by omega : a = 0 ∨ a = 1) with rfl | rfl <;> rcases (by omega : b = 0 ∨ b = 1) with rfl | rfl
    · rfl
    · exact absurd e.symm hne
    · exact absurd e hne
    · rfl
  · simp only [List.length_cons, List.length_nil] at hj
    rcases (by omega : j = 0 ∨ j = 1) with rfl | rfl
    · exact h0
    · exact hi
  · simp only [List.mem_cons, List.not_mem_nil, or_false] at ho
    rcases ho with rfl | rfl
    · exact n0
    · exact n1

theorem wstart8_ok : ACalls Tryz.prog G0 297 [] [] (fun r os => os = [] ∧ r = .agg (Is .u32 (nats start8))) := by
  refine acalls_of_awp Tryz.func297 rfl rfl Tryz.ntmps297 (rts := #[362]) rfl Tryz.results297 (by simp) ?_
  simp only [argSlots, Nat.reduceAdd]
  refine awp_seq_k fun K hK => awp_region [] ?_
  simp only [qq, K_eqs, aalloc, tzeros, zvs_Is, List.replicate_succ, List.replicate_zero, Nat.reduceLT, K_nil, Then, K_ops]
  (repeat' apply And.intro) <;> try (first | exact True.intro | omega)
  refine hK _ ?_
  clear hK K
  refine awp_seq_k fun K hK => awp_region [] ?_
  simp only [K_eqs]
  refine build_B (Is .u32 (nats start8)) Tryz.underlying362 (sz := 1) (z := zvs .u32 8) (by simp only [tszs]) (by simp only [tzeros]) (by kernel_rfl) ?_
  have hl : (nats start8).length = 8 := rfl
  simp only [qq, Nat.reduceLT, K_store, astore, K_ops, reduceCtorEq, tszs, acells, Is_one, Is_length, hl, Nat.reduceAdd, spl, Is_drop, List.drop_nil, K_nil, Then]
  refine hK _ ?_
  rw [Is_nil, List.append_nil]
  have ht : (nats start8).take 8 = nats start8 := rfl
  refine awp_ret ?_
  simp only [qq, K_fin, ares, aress, ares1, aload, K_ops, reduceCtorEq, apart, isAggD, Tryz.underlying362, tszs, Is_length, hl, Is_take, ht, afin, noref, norefs_Is]

theorem new_ok : ACalls Tryz.prog G0 292 [] [] (fun r os => os = [.cells (DC start8 (List.replicate 64 0) 0)] ∧ r = .ptr 0 0) := by
  obtain ⟨fs, hu, hs⟩ : ∃ fs, Tryz.prog.underlying 364 = some (.struct fs) ∧ sfields Tryz.prog fs = some [(0, 8), (8, 64), (72, 1)] := ⟨_, Tryz.underlying364, by kernel_rfl⟩
  refine acallsH_of_awp Tryz.func292 rfl rfl Tryz.ntmps292 (rts := #[346]) rfl Tryz.results292 (by simp) ?_
  simp only [argSlots, Nat.reduceAdd]
  refine awp_seq_k fun K hK => awp_region [] ?_
  simp only [qq, List.replicate_succ, List.replicate_zero, K_eqs, Nat.reduceLT, K_ops, cav, K_nil, Then]
  (repeat' apply And.intro) <;> try (first | exact True.intro | omega)
  refine hK _ ?_
  clear hK K
  refine awp_seq_k fun K hK => awp_region [] ?_
  simp only [qq, List.replicate_succ, List.replicate_zero, K_call, Nat.reduceLT, Nat.reduceAdd, K_ops, K_clo, aviews]
  refine andC_eq (by simp [norefs_Bs, norefs, noref, norefs_Is, flats_Is]) (wstart8_ok) (by simp [noref, norefs, norefs_Bs, flat, norefs_Is, flats_Is]) ?_
  have hl : (nats start8).length = 8 := rfl
  simp only [qq, RestC_eqs, K_eqs, abuild, tzeros, hu, tsfs, cav, aparts, K_ops, reduceCtorEq, afill, spl, acells, Is_length, hl, Nat.reduceAdd, Nat.reduceLeDiff, Is_one, Nat.reduceLT, aboxF, Nat.reduceEqDiff, abox, K_nil, Then, List.all_append, List.all_cons, oneC, Value.oneCell', List.all_nil]
  refine hK _ ?_
  clear hK K
  refine awp_keep [0] ?_
  simp only [keep_eqs, K_ops, Nat.reduceEqDiff, if_true, if_false]
  refine awp_ret ?_
  exact FinH_ptr 0 0 0 rfl rfl (by kernel_rfl) ⟨rfl, rfl⟩

theorem clone_ok (h : List Nat) (r : List UInt8) (m : Nat) (hh : h.length = 8) (hr : r.length = 64) : ACalls Tryz.prog G0 283 [.ptr 0 0] [.cells (DC h r m)] (fun v os => os = [.cells (DC h r m), .cells (DC h r m)] ∧ v = .ptr 1 0) := by
  obtain ⟨fs, hu, hs⟩ : ∃ fs, Tryz.prog.underlying 364 = some (.struct fs) ∧ sfields Tryz.prog fs = some [(0, 8), (8, 64), (72, 1)] := ⟨_, Tryz.underlying364, by kernel_rfl⟩
  have hl := DC_length h r m hh hr
  have ht := DC_take73 h r m hh hr
  have ho := DC_oneC h r m
  have hn := DC_norefs h r m
  generalize DC h r m = D at hl ht ho hn
  refine acallsH_of_awp Tryz.func283 rfl rfl Tryz.ntmps283 (rts := #[346]) rfl Tryz.results283 (by simp) ?_
  simp only [argSlots, Nat.reduceAdd]
  refine awp_seq_k fun K hK => awp_region [] ?_
  simp only [qq, K_eqs, Nat.reduceLT, K_ops, cav, K_nil, Then]
  (repeat' apply And.intro) <;> try (first | exact True.intro | omega)
  refine hK _ ?_
  clear hK K
  refine awp_seq_k fun K hK => awp_region [] ?_
  simp only [qq, K_eqs, Nat.reduceLT, K_ops, reduceCtorEq, anil, Nat.reduceEqDiff, aload, apart, isAggD, hu, tszs, aalloc, tzeros, cav, K_store, astore, acells, spl, K_nil, Then, Nat.reduceAdd, hl, ht, ho, List.drop_nil]
  refine hK _ ?_
  clear hK K
  refine awp_keep [0, 3] ?_
  simp only [keep_eqs, K_ops, Nat.reduceEqDiff, if_true, if_false]
  refine awp_seq_k fun K hK => awp_region [] ?_
  simp only [qq, K_eqs, Nat.reduceLT, K_ops, reduceCtorEq, K_nil, Then]
  (repeat' apply And.intro) <;> try (first | exact True.intro | omega)
  refine hK _ ?_
  clear hK K
  refine awp_keep [2] ?_
  simp only [keep_eqs, K_ops, Nat.reduceEqDiff, if_true, if_false]
  refine awp_ret ?_
  exact FinH_one_ptr 2 1 0 rfl rfl rfl (by omega) (by simpa [objOk] using hn) (by simpa [objOk] using hn) ⟨rfl, rfl⟩
def COk [Gv] (C : List Nat → List UInt8 → List Nat) : Prop := (∀ h b, words8 h → b.length = 64 → words8 (C h b)) ∧
  ∀ h b, words8 h → b.length = 64 → ACalls Tryz.prog GP 293 [.agg (Is .u32 (nats h)), .agg (Bs b)] [] (fun r os => os = [] ∧ r = .agg (Is .u32 (nats (C h b))))

theorem DC_copy [Gv] (h : List Nat) (r b : List UInt8) (m a : Nat) (hh : h.length = 8) (hr : r.length = 64) (hab : a + b.length ≤ 64) : (DC h r m).take (8 + a) ++ Bs b ++ (DC h r m).drop (8 + a + b.length) = DC h (r.take a ++ b ++ r.drop (a + b.length)) m := by
  have e1 : (Is .u32 (nats h)).length = 8 := by rw [Is_length, nats_length, hh]
  have e2 : (DC h r m).take (8 + a) = Is .u32 (nats h) ++ Bs (r.take a) := by
    unfold DC
    rw [List.take_append, e1, Nat.add_sub_cancel_left, List.take_of_length_le (by omega), List.take_append_of_le_length (by rw [Bs_length]; omega), Bs_take]
  have e3 : (DC h r m).drop (8 + a + b.length) = Bs (r.drop (a + b.length)) ++ [.val (.int .u64 (m : Int))] := by
    rw [show 8 + a + b.length = 8 + (a + b.length) by omega, ← List.drop_drop, DC_drop8 h r m hh, List.drop_append_of_le_length (by rw [Bs_length]; omega), Bs_drop]
  rw [e2, e3]
  simp only [DC, Bs_append, List.append_assoc]

theorem write_ok [Gv] {C : List Nat → List UInt8 → List Nat} (hC : COk C) (s : DS) (hs : DOk s) (b : List UInt8) (p : Perm) (hm : s.many + b.length ≤ 1000000000) :
    ACalls Tryz.prog GP 281 [.ptr 0 0, .sl b.length (Bs b) p] [.cells (DC s.h s.rest s.many)] (fun v os => os = [.cells (DC (runs C s b).h (runs C s b).rest (runs C s b).many)] ∧ v = .tup []) := by
  refine acallsH_of_awp Tryz.func281 rfl rfl Tryz.ntmps281 (rts := #[]) rfl Tryz.results281 (by simp) ?_
  simp only [argSlots, Nat.reduceAdd]
  refine awp_noperm 1 rfl ?_
  refine awp_keep [0, 1] ?_
  simp only [keep_eqs, K_ops, Nat.reduceEqDiff, if_true, if_false]
  refine awp_block ?_
  refine awp_loop_from (fun x : List UInt8 × DS => ⟨50, [(0, .ptr 0 0), (1, .sl x.1.length (Bs x.1) .no)], [.cells (DC x.2.h x.2.rest x.2.many)]⟩)
    (fun x => DOk x.2 ∧ x.2.many + x.1.length = s.many + b.length ∧ runs C x.2 x.1 = runs C s b) (fun x => x.1.length) (b, s) ⟨hs, rfl, rfl⟩ (.of_keep [0, 1] (by exact rfl)) ?_
  rintro ⟨l, d⟩ ⟨hd, hmany, hrun⟩
  simp only at hd hmany hrun
  have hh := words8_length hd.1
  have hr := hd.2
  have hDl := DC_length d.h d.rest d.many hh hr
  have h72 := DC_get72 d.h d.rest d.many hh hr
  refine awp_seq_k fun K2 hK2 => ?_
  refine awp_seq_k fun K hK => awp_region [] ?_
  simp only [qq, K_eqs, Nat.reduceLT, K_ops, reduceCtorEq, abuiltin, Nat.reduceEqDiff, amaplen, alen, Tryz.underlying54, cav, K_binC, K_nil, Then, K_int, aint, d_gt]
  refine hK _ ?_
  clear hK K
  by_cases hl0 : l.length = 0
  · refine awp_condF (by simp only [K_ops, lk, hl0]; rfl) ?_
    refine awp_exit ?_
    simp only [Then, InBlock, if_true]
    have hl : l = [] := List.length_eq_zero_iff.1 hl0
    subst hl
    rw [runs_nil] at hrun
    subst hrun
    exact FinH_one (.inl rfl) rfl (by simpa [objOk] using DC_norefs _ _ _) rfl (by simp) rfl ⟨rfl, rfl⟩
  refine awp_condT (by simp only [K_ops, lk]; simp; omega) (awp_skip (hK2 _ ?_))
  clear hK2 K2
  refine awp_keep [0, 1] ?_
  simp only [keep_eqs, K_ops, Nat.reduceEqDiff, if_true, if_false]
  refine awp_block ?_
  refine awp_seq_k fun K hK => awp_region [] ?_
  have hat : d.many % 64 < 64 := Nat.mod_lt _ (by omega)
  have h64 : IntKind.i64.wrap ((d.many % 64 : Nat) : Int) = ((d.many % 64 : Nat) : Int) := n_i64 (by omega)
  simp only [qq, K_eqs, Nat.reduceLT, K_ops, reduceCtorEq, anil, Nat.reduceEqDiff, afieldAddr, Tryz.underlying364, tszs, ne_eq, aload, apart, isAggD, Tryz.underlying30, cav, K_binC, K_conv, Tryz.underlying3, aconvO, aview, ntok, aconv, Option.isSome_some, K_nil, Then, hDl, h72, K_int, aint, Int.reduceEq, n_tmod, h64]
  refine hK _ ?_
  clear hK K
  refine awp_keep [0, 1, 4] ?_
  simp only [keep_eqs, K_ops, Nat.reduceEqDiff, if_true, if_false]
  have e64 : ((64 : Int) - ((d.many % 64 : Nat) : Int)).toNat = 64 - d.many % 64 := by omega
  obtain ⟨n, hn⟩ : ∃ n, (if l.length ≤ 64 - d.many % 64 then l.length else 64 - d.many % 64) = n := ⟨_, rfl⟩
  have hn0 : 0 < n := by rw [← hn]; split <;> omega
  have hnl : n ≤ l.length := by rw [← hn]; split <;> omega
  have hn64 : d.many % 64 + n ≤ 64 := by rw [← hn]; split <;> omega
  have htl : (l.take n).length = n := by rw [List.length_take]; omega
  have hcopy := DC_copy d.h d.rest (l.take n) d.many (d.many % 64) hh hr (by omega)
  have hchunk := runs_chunk (C := C) (l.take n) d hr (by omega) (by omega)
  have hok1 := runs_ok hC.1 hd (l.take n)
  have hall : runs C (runs C d (l.take n)) (l.drop n) = runs C s b := by rw [← runs_append, List.take_append_drop, hrun]
  have hr1 : (d.rest.take (d.many % 64) ++ l.take n ++ d.rest.drop (d.many % 64 + (l.take n).length)).length = 64 := by
    simp only [List.length_append, List.length_take, List.length_drop]
    omega
  rw [htl] at hcopy hchunk hr1
  refine awp_seq_k fun K hK => awp_region [] ?_
  simp only [qq, K_eqs, Nat.reduceLT, K_ops, reduceCtorEq, anil, Nat.reduceEqDiff, afieldAddr, Tryz.underlying364, tszs, ne_eq, aslice, bopt, Option.map_some, Option.map_none, Tryz.underlying336, lowOf, highOf, Int.le_refl, not_true_eq_false, or_false, Int.toNat_natCast, sliceP, abuiltin, acopy, Tryz.underlying54, srcCells, Bs_length, Nat.min_def, spl, K_nil, Then, Int.cast_ofNat_Int, Nat.mul_one, e64, hn, hDl, Bs_take, Bs_one, hn0, htl]
  refine ⟨⟨by omega, by omega⟩, by omega, hK _ ?_⟩
  clear hK K
  rw [hcopy]
  generalize d.rest.take (d.many % 64) ++ l.take n ++ d.rest.drop (d.many % 64 + n) = r1 at hcopy hchunk hr1 ⊢
  clear hcopy
  have hDl1 := DC_length d.h r1 d.many hh hr1
  have h721 := DC_get72 d.h r1 d.many hh hr1
  have hset := DC_set72 d.h r1 d.many (d.many + n) hh hr1
  have hw1 : IntKind.u64.wrap (n : Int) = (n : Int) := by rw [n_u64, Nat.mod_eq_of_lt (by omega)]
  have hw2 : IntKind.u64.wrap ((d.many : Int) + (n : Int)) = ((d.many + n : Nat) : Int) := by rw [← Int.natCast_add, n_u64, Nat.mod_eq_of_lt (by omega)]
  have hput : (DC d.h r1 d.many).take 72 ++ [.val (.int .u64 ((d.many + n : Nat) : Int))] ++ (DC d.h r1 d.many).drop 73 = DC d.h r1 (d.many + n) := by
    rw [← hset, List.set_eq_take_append_cons_drop, if_pos (by omega)]
    simp
  refine awp_keep [0, 1, 4, 5] ?_
  simp only [keep_eqs, K_ops, Nat.reduceEqDiff, if_true, if_false]
  refine awp_seq_k fun K hK => awp_region [] ?_
  simp only [qq, K_eqs, Nat.reduceLT, K_ops, reduceCtorEq, anil, Nat.reduceEqDiff, afieldAddr, Tryz.underlying364, tszs, ne_eq, aload, apart, isAggD, Tryz.underlying30, K_conv, aconvO, aview, noref, aconv, Tryz.underlying3, Option.isSome_some, hw1, K_binC, K_store, astore, acells, spl, K_nil, Then, hDl1, h721, K_int, aint, hw2, List.all_cons, oneC, Value.oneCell', List.all_nil, Nat.reduceAdd]
  rw [hput]
  refine hK _ ?_
  clear hK K hput hset hDl1 h721
  refine awp_keep [0, 1, 4, 5] ?_
  simp only [keep_eqs, K_ops, Nat.reduceEqDiff, if_true, if_false]
  refine awp_seq_k fun K hK => awp_region [] ?_
  simp only [qq, K_eqs, Nat.reduceLT, K_ops, reduceCtorEq, Nat.reduceEqDiff, aslice, bopt, Option.map_some, Option.map_none, Tryz.underlying54, tszs, Bs_length, Nat.mul_one, lowOf, highOf, Int.le_refl, ne_eq, not_true_eq_false, or_false, Int.toNat_natCast, Bs_drop, Bs_take, sliceP, K_nil, Then]
  refine ⟨by omega, hK _ ?_⟩
  clear hK K
  refine awp_keep [0, 1, 4, 5] ?_
  simp only [keep_eqs, K_ops, Nat.reduceEqDiff, if_true, if_false]
  refine awp_seq_k fun K hK => awp_region [] ?_
  have hw3 : IntKind.i64.wrap (((d.many % 64 : Nat) : Int) + (n : Int)) = ((d.many % 64 + n : Nat) : Int) := by rw [← Int.natCast_add]; exact n_i64 (by omega)
  have e5 : ((l.length : Int) - (n : Int)).toNat = l.length - n := by omega
  have e6 : (l.drop n).take (l.length - n) = l.drop n := List.take_of_length_le (by rw [List.length_drop]; exact Nat.le_refl _)
  have e7 : l.length - n = (l.drop n).length := by rw [List.length_drop]
  simp only [qq, e5, e6, K_eqs, Nat.reduceLT, K_ops, reduceCtorEq, Nat.reduceEqDiff, K_binC, K_int, aint, hw3, cav, K_nil, Then]
  refine hK _ ?_
  clear hK K
  rw [e7]
  refine awp_keep [0, 1, 37] ?_
  simp only [keep_eqs, K_ops, Nat.reduceEqDiff, if_true, if_false]
  by_cases hfull : d.many % 64 + n = 64
  · rw [if_pos hfull] at hchunk
    refine awp_condT (by simp only [K_ops, lk, hfull]; rfl) ?_
    have hDl2 := DC_length d.h r1 (d.many + n) hh hr1
    have h8 := DC_take8 d.h r1 (d.many + n) hh
    have hrest := DC_rest d.h r1 (d.many + n) hh hr1
    have hcc := hC.2 d.h r1 hd.1 hr1
    have hh' := words8_length (hC.1 d.h r1 hd.1 hr1)
    have hput8 := DC_put8 d.h (C d.h r1) r1 (d.many + n) hh
    generalize C d.h r1 = h' at hcc hchunk hh' hput8
    have hnl8 : (nats h').length = 8 := by rw [nats_length, hh']
    refine awp_draw [] (by kernel_rfl) (by kernel_rfl) ?_
    simp only [qq, List.length_drop, K_eqs, Nat.reduceLT, K_ops, reduceCtorEq, anil, Nat.reduceEqDiff, afieldAddr, Tryz.underlying364, tszs, ne_eq, aload, apart, isAggD, Tryz.underlying362, Tryz.underlying336, K_call, Nat.reduceAdd, K_clo, aviews, aview, ntok, List.headD_cons, List.tail_cons, hDl2, Nat.reduceLeDiff, hrest, noref, norefs_Bs, h8, norefs_Is]
    refine andC_eq trivial hcc (by simp [flat, flats_Is, noref, norefs_Is]) ?_
    simp only [qq, RestC_eqs, K_eqs, anil, K_ops, Nat.reduceEqDiff, reduceCtorEq, Nat.reduceLT, afieldAddr, Tryz.underlying364, tszs, ne_eq, K_store, astore, acells, Is_one, Is_length, hnl8, spl, K_nil, hDl2, Nat.reduceLeDiff, hput8]
    rw [e7]
    simp only [InBlock, Then]
    exact ⟨(l.drop n, runs C d (l.take n)), ⟨hok1, by simp only [runs_many, htl, List.length_drop]; omega, hall⟩, by simp only [List.length_drop]; omega, by rw [hchunk]; exact .of_keep [0, 1] rfl⟩
  · rw [if_neg hfull] at hchunk
    refine awp_condF (by simp only [K_ops, lk]; simp; omega) ?_
    refine awp_skip ?_
    simp only [InBlock, Then]
    exact ⟨(l.drop n, runs C d (l.take n)), ⟨hok1, by simp only [runs_many, htl, List.length_drop]; omega, hall⟩, by simp only [List.length_drop]; omega, by rw [hchunk]; exact .of_keep [0, 1] rfl⟩
def Cq (h : List Nat) (b : List UInt8) : List Nat := adds (rounds h Kn (word b) 64) h
theorem Cq_words [Gv] (h : List Nat) (b : List UInt8) (hw : words8 h) : words8 (Cq h b) := by
  obtain ⟨a0, a1, a2, a3, a4, a5, a6, a7, rfl, _⟩ := hw
  obtain ⟨c0, c1, c2, c3, c4, c5, c6, c7, hr, _⟩ := rounds_words (s := [a0, a1, a2, a3, a4, a5, a6, a7]) ⟨_, _, _, _, _, _, _, _, rfl, ‹_›⟩ Kn (word b) 64
  unfold Cq
  rw [hr]
  generalize word b = W
  exact ⟨_, _, _, _, _, _, _, _, rfl, Nat.mod_lt _ (by omega), Nat.mod_lt _ (by omega), Nat.mod_lt _ (by omega), Nat.mod_lt _ (by omega), Nat.mod_lt _ (by omega), Nat.mod_lt _ (by omega), Nat.mod_lt _ (by omega), Nat.mod_lt _ (by omega)⟩
theorem Cq_ok [Gv] : COk Cq := ⟨fun h b hw _ => Cq_words h b hw, fun h b hw hb => comp_ok h b hw hb⟩
def sumB (C : List Nat → List UInt8 → List Nat) (s : DS) : List UInt8 := (runs C s (padL s.many)).h.flatMap be4
theorem be4s_length [Gv] (l : List Nat) : (l.flatMap be4).length = 4 * l.length := by
  induction l with
  | nil => rfl
  | cons x l ih => simp only [List.flatMap_cons, List.length_append, List.length_cons, ih]; simp [be4]; omega
theorem padL_len [Gv] (n : Nat) : (n + (padL n).length) % 64 = 0 ∧ (padL n).length ≤ 72 := by
  simp only [padL, List.length_cons, List.length_append, List.length_replicate, be4, List.length_nil, padZ]
  omega

theorem flats_Bs [Gv] (l : List UInt8) : flats (Bs l) = true := by
  induction l with
  | nil => rfl
  | cons c l ih => rw [show Bs (c :: l) = B c :: Bs l from rfl]; simp [flats, B, flat, ih]
theorem ares_cell [Gv] {P : Program} {ty : TypeId} {nt : Nat} {s : List (Nat × AV)} {os : List AObj} {x r n : Nat} {cs : List AV} (hx : lk s x = .ptr r 0) (ho : os[r]? = some (.cells cs)) (hn : tsz P ty = some n) (hag : isAggD (P.underlying ty) = some true) (hl : cs.length = n) :
    ares P [ty] [.cell x ty] ⟨nt, s, os⟩ = some (((0 + n ≤ cs.length) ∧ noref (.agg cs) = true) ∧ True, .agg cs) := by
  have ht : (cs.drop 0).take n = cs := by rw [List.drop_zero]; exact List.take_of_length_le (by omega)
  simp only [ares, aress, ares1, hx, aload, ho, apart, hag, hn, ht, afin]
theorem nats_getD [Gv] (h : List Nat) (i : Nat) (hi : i < h.length) : (nats h).getD i 0 = ((h.getD i 0 : Nat) : Int) := by
  simp [nats, List.getD_eq_getElem?_getD, hi]
theorem take_be4 [Gv] (h : List Nat) (i : Nat) (hi : i < h.length) : (h.take (i + 1)).flatMap be4 = (h.take i).flatMap be4 ++ be4 (h.getD i 0) := by
  rw [List.take_add_one, List.getElem?_eq_getElem hi, List.flatMap_append, List.getD_eq_getElem?_getD, List.getElem?_eq_getElem hi]
  simp

theorem sum_dok [Gv] {C : List Nat → List UInt8 → List Nat} (hC : COk C) (s : DS) (hs : DOk s) (hm : s.many ≤ 900000000) :
    ACalls Tryz.prog GP 282 [.ptr 0 0] [.cells (DC s.h s.rest s.many)] (fun v os => os = [.cells (DC s.h s.rest s.many)] ∧ v = .agg (Bs (sumB C s))) := by
  have hh := words8_length hs.1
  have hr := hs.2
  have hDl := DC_length s.h s.rest s.many hh hr
  have h72 := DC_get72 s.h s.rest s.many hh hr
  have hp := padL_len s.many
  have cC := (clone_ok s.h s.rest s.many hh hr).g (G := GP)
  have cW := write_ok hC s hs (padL s.many) .no (by omega)
  have cP := (pad_ok s.many (by omega)).g (G := GP)
  have hok := runs_ok hC.1 hs (padL s.many)
  have hn := DC_norefs s.h s.rest s.many
  unfold sumB
  generalize runs C s (padL s.many) = e at cW hok
  generalize padL s.many = pl at *
  have hh2 := words8_length hok.1
  have hDl2 := DC_length e.h e.rest e.many hh2 hok.2
  have h8 := DC_take8 e.h e.rest e.many hh2
  have hn2 := DC_norefs e.h e.rest e.many
  generalize DC s.h s.rest s.many = D at *
  generalize DC e.h e.rest e.many = D2 at *
  obtain ⟨z, hz, hzl⟩ : ∃ z : List UInt8, (zvs .u8 32).map cav = Bs z ∧ z.length = 32 := ⟨List.replicate 32 0, by simp [zvs, Bs, B, cav], by simp⟩
  refine acallsH_of_awp Tryz.func282 rfl rfl Tryz.ntmps282 (rts := #[23]) rfl Tryz.results282 (by simp) ?_
  simp only [argSlots, Nat.reduceAdd]
  refine awp_seq_k fun K hK => awp_region [] ?_
  simp only [qq, K_eqs, aalloc, tzeros, hz, Nat.reduceLT, K_nil, Then, K_ops]
  (repeat' apply And.intro) <;> try (first | exact True.intro | omega)
  refine hK _ ?_
  clear hK K
  refine awp_seq_k fun K hK => awp_region [1000008] ?_
  simp only [qq, K_eqs, Nat.reduceLT, K_ops, reduceCtorEq, K_call, Nat.reduceAdd, List.contains_cons, beq_self_eq_true, Nat.reduceEqDiff, K_clo, Nat.reduceBEq, aviews, aview]
  refine andH_one (v' := .ptr 2 0) 0 (.cells D) rfl (by simpa [objOk] using hn) (by simp [hviews, hview]) cC (by simp [objOk, hn]) (by simp [hres]) ?_
  simp only [qq, RestH_eqs, K_eqs, Nat.reduceLT, K_ops, Nat.reduceEqDiff, reduceCtorEq, K_nil, Then]
  refine hK _ ?_
  clear hK K
  refine awp_keep [0, 2, 3] ?_
  simp only [keep_eqs, K_ops, Nat.reduceEqDiff, if_true, if_false]
  refine awp_seq_k fun K hK => awp_region [1000015] ?_
  simp only [qq, K_eqs, Nat.reduceLT, K_ops, reduceCtorEq, Nat.reduceEqDiff, anil, afieldAddr, Tryz.underlying364, tszs, ne_eq, aload, List.contains_cons, Nat.reduceBEq, apart, isAggD, Tryz.underlying30, K_call, Nat.reduceAdd, K_clo, aviews, aview, ntok, List.headD_cons, hDl, h72, noref]
  refine andC_eq (by simp [norefs_Bs, norefs, noref]) (cP) (by simp [noref, norefs, norefs_Bs, flat]) ?_
  simp only [qq, RestC_eqs, K_call, Nat.reduceLT, Nat.reduceAdd, List.contains_cons, beq_self_eq_true, K_ops, Nat.reduceEqDiff, reduceCtorEq, K_clo, Nat.reduceBEq, aviews, aview, norefs_Bs, ntok]
  refine andH_one (v' := .tup []) 2 (.cells D) rfl (by simpa [objOk] using hn) (by simp [hviews, hview, norefs_Bs, ntok]) cW (by simp [objOk, hn2]) (by simp [hres, noref, norefs]) ?_
  simp only [List.set_cons_succ, List.set_cons_zero, List.append_nil, RestH_eqs, K_nil, Then]
  refine hK _ ?_
  clear hK K
  refine awp_keep [2, 3] ?_
  simp only [keep_eqs, K_ops, Nat.reduceEqDiff, if_true, if_false]
  refine awp_seq_k fun K hK => awp_region [] ?_
  simp only [qq, K_eqs, Nat.reduceLT, K_ops, cav, K_nil, Then]
  (repeat' apply And.intro) <;> try (first | exact True.intro | omega)
  refine hK _ ?_
  clear hK K
  refine awp_noperm 4 rfl ?_
  refine awp_keep [2, 3, 4] ?_
  simp only [keep_eqs, K_ops, Nat.reduceEqDiff, if_true, if_false]
  refine awp_seq_k fun K1 hK1 => ?_
  refine awp_seq_k fun K hK => awp_region [] ?_
  simp only [qq, K_eqs, Nat.reduceLT, K_ops, Nat.reduceEqDiff, anil, afieldAddr, Tryz.underlying364, tszs, ne_eq, reduceCtorEq, aload, apart, isAggD, Tryz.underlying362, cav, K_nil, Then, hDl2, Nat.reduceLeDiff, h8]
  refine hK _ ?_
  clear hK K
  refine awp_keep [2, 4, 19, 20] ?_
  simp only [keep_eqs, K_ops, Nat.reduceEqDiff, if_true, if_false]
  have hnl : (nats e.h).length = 8 := by rw [nats_length, hh2]
  refine awp_block ?_
  refine awp_loop_from (fun i : Nat => ⟨30, [(2, .ptr 1 0), (4, .sl ((e.h.take i).flatMap be4).length (Bs ((e.h.take i).flatMap be4)) .no), (19, .agg (Is .u32 (nats e.h))), (20, .val (.int .i64 (i : Int)))], [.cells D, .cells (Bs z), .cells D2]⟩)
    (fun i => i ≤ 8) (fun i => 8 - i) 0 (by omega) (.of_keep [2, 4, 19, 20] (by exact rfl)) ?_
  intro i hi
  refine awp_seq_k fun K hK => awp_region [] ?_
  simp only [qq, K_eqs, K_ops, Nat.reduceEqDiff, cav, K_binC, K_int, aint, d_lt, Nat.reduceLT, K_nil, Then]
  (repeat' apply And.intro) <;> try (first | exact True.intro | omega)
  refine hK _ ?_
  clear hK K
  refine awp_seq ?_
  refine awp_cond rfl rfl (fun h => ?_) (fun h => ?_)
  · have hlt : i < 8 := by have := of_decide_eq_true h; omega
    refine awp_skip ?_
    simp only [Then]
    refine awp_keep [2, 4, 19, 20] ?_
    simp only [keep_eqs, K_ops, Nat.reduceEqDiff, if_true, if_false]
    have hget := nats_getD e.h i (by omega)
    have htk := take_be4 e.h i (by omega)
    have hlen := be4s_length (e.h.take i)
    have hlen1 := be4s_length (e.h.take (i + 1))
    rw [List.length_take] at hlen hlen1
    have e1 : ((e.h.take i).flatMap be4).length + 4 = ((e.h.take (i + 1)).flatMap be4).length := by omega
    have cPut := (put_ok ((e.h.take i).flatMap be4) .no (e.h.getD i 0) (by omega)).g (G := GP)
    rw [← htk, e1] at cPut
    generalize (e.h.take i).flatMap be4 = A at cPut hlen e1 ⊢
    generalize e.h.getD i 0 = x at cPut hget
    refine awp_seq ?_
    refine awp_block ?_
    refine awp_seq_k fun K hK => awp_region [] ?_
    have hgI : (Is .u32 (nats e.h)).getD i .top = .val (.int .u32 (x : Int)) := by rw [Is_getD (by omega), hget]; rfl
    simp only [qq, K_eqs, aidx, K_ops, Nat.reduceEqDiff, Tryz.underlying362, tszs, apart, isAggD, Tryz.underlying279, Int.toNat_natCast, Nat.mul_one, Is_length, hnl, hgI, Int.cast_ofNat_Int, Nat.reduceLT, K_nil, Then]
    refine ⟨⟨⟨by omega, by omega⟩, by omega⟩, hK _ ?_⟩
    clear hK K
    refine awp_keep [2, 4, 6, 19, 20] ?_
    simp only [keep_eqs, K_ops, Nat.reduceEqDiff, if_true, if_false]
    refine awp_region [] ?_
    simp only [qq, K_eqs, Nat.reduceLT, K_ops, Nat.reduceEqDiff, K_call, Nat.reduceAdd, K_clo, aviews, aview, norefs_Bs, ntok, noref]
    refine andC_eq (by simp [norefs_Bs, norefs, noref]) (cPut) (by simp [noref, norefs, norefs_Bs, flat]) ?_
    simp only [qq, RestC_eqs, K_eqs, Nat.reduceLT, K_ops, Nat.reduceEqDiff, K_nil]
    simp only [InBlock, Then]
    refine awp_keep [2, 4, 19, 20] ?_
    simp only [keep_eqs, K_ops, Nat.reduceEqDiff, if_true, if_false]
    have h6 : IntKind.i64.wrap ((i + 1 : Nat) : Int) = ((i + 1 : Nat) : Int) := n_i64 (by omega)
    refine awp_region [] ?_
    simp only [qq, K_eqs, K_ops, Nat.reduceEqDiff, cav, K_binC, K_int, aint, n_add, h6, Nat.reduceLT, K_nil, Then]
    refine ⟨i + 1, by omega, by omega, .of_keep [2, 4, 19, 20] rfl⟩
  · have he : i = 8 := by have := of_decide_eq_false h; omega
    subst he
    refine awp_exit ?_
    simp only [Then, InBlock, if_true]
    refine hK1 _ ?_
    clear hK1 K1
    have htk : e.h.take 8 = e.h := List.take_of_length_le (by omega)
    have hlen := be4s_length e.h
    rw [hh2] at hlen
    rw [htk]
    generalize e.h.flatMap be4 = A at hlen ⊢
    refine awp_keep [2, 4] ?_
    simp only [keep_eqs, K_ops, Nat.reduceEqDiff, if_true, if_false]
    have hA : A.length = 32 := hlen
    have ht32 : A.take 32 = A := List.take_of_length_le (by omega)
    have zd : z.drop 32 = [] := List.drop_eq_nil_of_le (by omega)
    refine awp_seq_k fun K hK => awp_region [] ?_
    simp only [qq, hA, K_eqs, Nat.reduceLT, K_ops, Nat.reduceEqDiff, aarrayAt, Tryz.underlying23, Bs_length, aload, apart, isAggD, tszs, K_store, astore, acells, hzl, spl, Bs_drop, K_nil, Then, Bs_take, ht32, Bs_one, zd, Bs_nil]
    refine hK _ ?_
    clear hK K
    refine awp_keep [2] ?_
    simp only [keep_eqs, K_ops, Nat.reduceEqDiff, if_true, if_false]
    refine awp_ret ?_
    have hsz : tsz Tryz.prog 23 = some 32 := by simp only [tszs]
    exact FinH_one (.inr rfl) rfl (by simpa [objOk] using hn) (ares_cell rfl rfl hsz (by rw [Tryz.underlying23]; rfl) (by rw [Bs_length, hA])) ⟨⟨by rw [Bs_length, hA]; omega, by simp [noref, norefs_Bs]⟩, trivial⟩ (by simp [flat, flats_Bs]) ⟨rfl, rfl⟩

theorem sumB_length [Gv] {C : List Nat → List UInt8 → List Nat} (hC : COk C) (s : DS) (hs : DOk s) : (sumB C s).length = 32 := by
  rw [sumB, be4s_length, words8_length (runs_ok hC.1 hs (padL s.many)).1]
def PS (l : List (List UInt8)) : List AV := l.map fun b => .sl b.length (Bs b) .no
theorem PS_length [Gv] (l : List (List UInt8)) : (PS l).length = l.length := List.length_map _
theorem PS_getD [Gv] (l : List (List UInt8)) (i : Nat) (h : i < l.length) : (PS l).getD i .top = .sl (l.getD i []).length (Bs (l.getD i [])) .no := by
  simp [PS, List.getD_eq_getElem?_getD, List.getElem?_map, List.getElem?_eq_getElem h]
def start0 : DS := ⟨start8, List.replicate 64 0, 0⟩
theorem start0_ok [Gv] : DOk start0 := ⟨⟨_, _, _, _, _, _, _, _, rfl, by omega, by omega, by omega, by omega, by omega, by omega, by omega, by omega⟩, rfl⟩
def shaB (C : List Nat → List UInt8 → List Nat) (l : List UInt8) : List UInt8 := sumB C (runs C start0 l)

theorem take_flat [Gv] (l : List (List UInt8)) (i : Nat) (h : i < l.length) : (l.take (i + 1)).flatten = (l.take i).flatten ++ l.getD i [] := by
  rw [List.take_add_one, List.getElem?_eq_getElem h, List.flatten_append, List.getD_eq_getElem?_getD, List.getElem?_eq_getElem h]
  simp
theorem take_flat_le [Gv] (l : List (List UInt8)) (i : Nat) : (l.take i).flatten.length ≤ l.flatten.length := by
  conv => rhs; rw [← List.take_append_drop i l, List.flatten_append, List.length_append]
  omega
def kpad (key : List UInt8) (by' : UInt8) : List UInt8 := (key ++ List.replicate (64 - key.length) 0).map (· ^^^ by')
theorem kpad_length [Gv] (key : List UInt8) (by' : UInt8) (h : key.length ≤ 64) : (kpad key by').length = 64 := by simp [kpad]; omega
def DS.cs (s : DS) : List AV := DC s.h s.rest s.many
theorem cs_norefs [Gv] (s : DS) : norefs (DS.cs s) = true := DC_norefs _ _ _

theorem Bs_puts [Gv] (cs : List UInt8) (j : Nat) (x : UInt8) (hj : j < cs.length) : (Bs cs).take j ++ [.val (.int .u8 (x.toNat : Int))] ++ (Bs cs).drop (j + 1) = Bs (cs.set j x) := by
  rw [List.set_eq_take_append_cons_drop, if_pos hj, Bs_append, Bs_take]
  have : Bs (x :: cs.drop (j + 1)) = AV.val (.int .u8 (x.toNat : Int)) :: (Bs cs).drop (j + 1) := by
    rw [Bs_drop]
    rfl
  rw [this]
  simp

theorem turn_step [Gv] (l : List UInt8) (by' : UInt8) (i : Nat) (h : i < l.length) :
    (Bs ((l.take i).map (· ^^^ by') ++ l.drop i)).getD i .top = .val (.int .u8 ((l.getD i 0).toNat : Int)) ∧
    (Bs ((l.take i).map (· ^^^ by') ++ l.drop i)).take i ++ [.val (.int .u8 (((l.getD i 0).toNat ^^^ by'.toNat : Nat) : Int))] ++ (Bs ((l.take i).map (· ^^^ by') ++ l.drop i)).drop (i + 1) = Bs ((l.take (i + 1)).map (· ^^^ by') ++ l.drop (i + 1)) := by
  have hl : ((l.take i).map (· ^^^ by')).length = i := by simp; omega
  have hd : l.drop i = l.getD i 0 :: l.drop (i + 1) := by
    rw [List.drop_eq_getElem_cons h]
    simp [List.getD_eq_getElem?_getD, List.getElem?_eq_getElem h]
  rw [hd]
  constructor
  · rw [V.Bs_getD (by simp; omega)]
    simp only [B]
    congr 4
    rw [List.getD_eq_getElem?_getD, List.getElem?_append_right (by omega), hl, Nat.sub_self]
    rfl
  · have hb : ((l.take i).map (· ^^^ by') ++ l.getD i 0 :: l.drop (i + 1)).length = l.length := by simp; omega
    have hp := Bs_puts ((l.take i).map (· ^^^ by') ++ l.getD i 0 :: l.drop (i + 1)) i (l.getD i 0 ^^^ by') (by rw [hb]; exact h)
    have e0 : ((l.getD i 0 ^^^ by').toNat : Int) = (((l.getD i 0).toNat ^^^ by'.toNat : Nat) : Int) := by rw [UInt8.toNat_xor]
    rw [← e0]
    refine hp.trans ?_
    congr 1
    rw [List.set_append_right _ _ (by omega), hl, Nat.sub_self, List.set_cons_zero]
    have e2 : l.take (i + 1) = l.take i ++ [l.getD i 0] := by
      rw [List.take_add_one, List.getElem?_eq_getElem h]
      simp [List.getD_eq_getElem?_getD, List.getElem?_eq_getElem h]
    rw [e2]
    simp

theorem turned_ok [Gv] {C : List Nat → List UInt8 → List Nat} (hC : COk C) (key : List UInt8) (p : Perm) (by' : UInt8) (hk : key.length = 32) :
    ACalls Tryz.prog GP 280 [.sl key.length (Bs key) p, .val (.int .u8 (by'.toNat : Int))] [] (fun r os => os = [.cells (DS.cs (runs C start0 (kpad key by')))] ∧ r = .ptr 0 0) := by
  have cN := new_ok.g (G := GP)
  rw [show DC start8 (List.replicate 64 0) 0 = DS.cs start0 from rfl] at cN
  have hn0 := cs_norefs start0
  have hkl := kpad_length key by' (by omega)
  have cW := write_ok hC start0 start0_ok (kpad key by') .full (by rw [hkl]; decide)
  have hn1 := cs_norefs (runs C start0 (kpad key by'))
  rw [hkl] at cW
  change ACalls _ _ _ _ [.cells (DS.cs start0)] (fun v os => os = [.cells (DS.cs (runs C start0 (kpad key by')))] ∧ v = .tup []) at cW
  generalize DS.cs (runs C start0 (kpad key by')) = D1 at *
  obtain ⟨z, hz, hzl, hz0⟩ : ∃ z : List UInt8, (zvs .u8 64).map cav = Bs z ∧ z.length = 64 ∧ z = List.replicate 64 0 := ⟨List.replicate 64 0, by simp [zvs, Bs, B, cav], by simp, rfl⟩
  refine acallsG_of_awp Tryz.func280 rfl rfl Tryz.ntmps280 (rts := #[346]) rfl Tryz.results280 (by simp) ?_
  simp only [argSlots, Nat.reduceAdd]
  refine awp_seq_k fun K hK => awp_region [] ?_
  simp only [qq, K_eqs, Nat.reduceLT, K_ops, cav, K_nil, Then]
  (repeat' apply And.intro) <;> try (first | exact True.intro | omega)
  refine hK _ ?_
  clear hK K
  refine awp_seq_k fun K hK => awp_region [] ?_
  simp only [qq, K_eqs, aalloc, tzeros, hz, Nat.reduceLT, K_nil, Then, K_ops]
  (repeat' apply And.intro) <;> try (first | exact True.intro | omega)
  refine hK _ ?_
  clear hK K
  refine awp_keep [0, 1, 5] ?_
  simp only [keep_eqs, K_ops, Nat.reduceEqDiff, if_true, if_false]
  refine awp_seq_k fun K1 hK1 => ?_
  refine awp_seq_k fun K hK => awp_region [] ?_
  simp only [qq, K_eqs, Nat.reduceLT, K_ops, reduceCtorEq, abuiltin, Nat.reduceEqDiff, amaplen, alen, Tryz.underlying54, cav, K_binC, K_nil, Then, K_int, aint, d_gt]
  (repeat' apply And.intro) <;> try (first | exact True.intro | omega)
  refine hK _ ?_
  clear hK K
  refine awp_condF (by simp only [K_ops, lk]; simp; omega) (awp_skip (hK1 _ ?_))
  clear hK1 K1
  refine awp_keep [0, 1, 5] ?_
  simp only [keep_eqs, K_ops, Nat.reduceEqDiff, if_true, if_false]
  refine awp_seq_k fun K hK => awp_region [] ?_
  have hk32 : key.take 32 = key := List.take_of_length_le (by omega)
  simp only [qq, hk, K_eqs, aslice, bopt, Option.map_none, Tryz.underlying336, K_ops, reduceCtorEq, Nat.reduceEqDiff, tszs, lowOf, Int.le_refl, highOf, Int.cast_ofNat_Int, Int.reduceLE, ne_eq, not_true_eq_false, or_false, Int.toNat_zero, Nat.mul_one, Int.sub_zero, Int.reduceToNat, Nat.reduceLT, abuiltin, acopy, Tryz.underlying54, srcCells, Bs_length, Nat.min_def, spl, K_nil, Then, Nat.reduceLeDiff, hzl, Bs_take, hk32, Bs_one, Bs_drop]
  refine hK _ ?_
  clear hK K
  have hzd : z.drop 32 = List.replicate (64 - key.length) 0 := by rw [hz0, hk]; rfl
  rw [hzd, ← Bs_append]
  have hLl : (key ++ List.replicate (64 - key.length) (0 : UInt8)).length = 64 := by simp [hk]
  rw [show kpad key by' = (key ++ List.replicate (64 - key.length) 0).map (· ^^^ by') from rfl] at cW hkl
  generalize key ++ List.replicate (64 - key.length) 0 = L at cW hkl hLl ⊢
  refine awp_keep [1, 5] ?_
  simp only [keep_eqs, K_ops, Nat.reduceEqDiff, if_true, if_false]
  refine awp_seq_k fun K1 hK1 => ?_
  refine awp_seq_k fun K hK => awp_region [] ?_
  simp only [qq, K_eqs, Nat.reduceLT, K_ops, cav, K_nil, Then]
  (repeat' apply And.intro) <;> try (first | exact True.intro | omega)
  refine hK _ ?_
  clear hK K
  refine awp_keep [1, 5, 19] ?_
  simp only [keep_eqs, K_ops, Nat.reduceEqDiff, if_true, if_false]
  refine awp_block ?_
  refine awp_loop_from (fun i : Nat => ⟨34, [(1, .val (.int .u8 (by'.toNat : Int))), (5, .ptr 0 0), (19, .val (.int .i64 (i : Int)))], [.cells (Bs ((L.take i).map (· ^^^ by') ++ L.drop i))]⟩)
    (fun i => i ≤ 64) (fun i => 64 - i) 0 (by omega) (.of_keep [1, 5, 19] (by exact rfl)) ?_
  intro i hi
  refine awp_seq_k fun K hK => awp_region [] ?_
  simp only [qq, K_eqs, K_ops, Nat.reduceEqDiff, cav, K_binC, K_int, aint, d_lt, Nat.reduceLT, K_nil, Then]
  (repeat' apply And.intro) <;> try (first | exact True.intro | omega)
  refine hK _ ?_
  clear hK K
  refine awp_seq ?_
  refine awp_cond rfl rfl (fun hq => ?_) (fun hq => ?_)
  · have hlt : i < 64 := by have := of_decide_eq_true hq; omega
    refine awp_skip ?_
    simp only [Then]
    refine awp_keep [1, 5, 19] ?_
    simp only [keep_eqs, K_ops, Nat.reduceEqDiff, if_true, if_false]
    refine awp_seq ?_
    refine awp_block ?_
    refine awp_seq_k fun K hK => awp_region [] ?_
    simp only [qq, K_eqs, Nat.reduceLT, K_ops, Nat.reduceEqDiff, K_nil, Then]
    (repeat' apply And.intro) <;> try (first | exact True.intro | omega)
    refine hK _ ?_
    clear hK K
    refine awp_keep [1, 5, 7, 19] ?_
    simp only [keep_eqs, K_ops, Nat.reduceEqDiff, if_true, if_false]
    obtain ⟨g1, g2⟩ := turn_step L by' i (by omega)
    have hbl : (Bs ((L.take i).map (· ^^^ by') ++ L.drop i)).length = 64 := by rw [Bs_length]; simp; omega
    generalize Bs ((L.take i).map (· ^^^ by') ++ L.drop i) = cs at g1 g2 hbl ⊢
    have hx := UInt8.toNat_lt (L.getD i 0)
    have hy := UInt8.toNat_lt by'
    generalize (L.getD i 0).toNat = x at g1 g2 hx
    refine awp_region [] ?_
    simp only [qq, K_eqs, Nat.reduceLT, K_ops, Nat.reduceEqDiff, aidxAddr, Tryz.underlying336, tszs, Int.cast_ofNat_Int, Int.toNat_natCast, Nat.mul_one, aload, apart, isAggD, Tryz.underlying5, K_binC, K_store, astore, acells, spl, K_nil, hbl, g1, K_int, aint, n_xor8, List.all_cons, oneC, Value.oneCell', List.all_nil, Nat.reduceLeDiff]
    refine ⟨⟨by omega, by omega⟩, hlt, ⟨by omega, by omega⟩, by omega, ?_⟩
    rw [Nat.mod_eq_of_lt (Nat.xor_lt_two_pow (n := 8) hx hy), g2]
    simp only [InBlock, Then]
    refine awp_keep [1, 5, 19] ?_
    simp only [keep_eqs, K_ops, Nat.reduceEqDiff, if_true, if_false]
    have h6 : IntKind.i64.wrap ((i + 1 : Nat) : Int) = ((i + 1 : Nat) : Int) := n_i64 (by omega)
    refine awp_region [] ?_
    simp only [qq, K_eqs, K_ops, Nat.reduceEqDiff, cav, K_binC, K_int, aint, n_add, h6, Nat.reduceLT, K_nil, Then]
    refine ⟨i + 1, by omega, by omega, .of_keep [1, 5, 19] rfl⟩
  · have he : i = 64 := by have := of_decide_eq_false hq; omega
    subst he
    refine awp_exit ?_
    simp only [Then, InBlock, if_true]
    refine hK1 _ ?_
    clear hK1 K1
    rw [List.take_of_length_le (by omega), List.drop_eq_nil_of_le (by omega), List.append_nil]
    refine awp_freeze 5 0 (Bs (L.map (· ^^^ by'))) rfl rfl (by rw [Bs_length, hkl]; omega) (norefs_Bs _) ?_
    refine awp_keep [5] ?_
    simp only [keep_eqs, K_ops, Nat.reduceEqDiff, if_true, if_false]
    refine awp_seq_k fun K hK => awp_region [1000029] ?_
    simp only [qq, K_call, Nat.reduceLT, Nat.reduceAdd, List.contains_cons, beq_self_eq_true, K_ops, K_clo, Nat.reduceBEq, aviews]
    refine andH_ptr (by simp [hviews]) cN (by simpa [objOk] using hn0) ?_
    simp only [qq, RestH_eqs, K_eqs, Nat.reduceLT, K_ops, Nat.reduceEqDiff, K_nil, Then]
    refine hK _ ?_
    clear hK K
    refine awp_keep [5, 8] ?_
    simp only [keep_eqs, K_ops, Nat.reduceEqDiff, if_true, if_false]
    refine awp_seq_k fun K hK => awp_region [1000032] ?_
    simp only [qq, K_eqs, Nat.reduceLT, K_ops, Nat.reduceEqDiff, aslice, bopt, Option.map_none, Tryz.underlying336, tszs, Bs_length, hkl, Nat.mul_one, K_call, Nat.reduceAdd, List.contains_cons, beq_self_eq_true, K_clo, Nat.reduceBEq, aviews, aview, ntok, List.tail_cons, List.headD_cons, Tryz.underlying54]
    refine andH_one (v' := .tup []) 1 (.cells (DS.cs start0)) rfl (by simpa [objOk] using hn0) (by simp [hviews, hview, norefs_Bs, ntok]) cW (by simp [objOk, hn1]) (by simp [hres, noref, norefs]) ?_
    simp only [List.set_cons_succ, List.set_cons_zero, List.append_nil, RestH_eqs, K_nil, Then]
    refine hK _ ?_
    clear hK K
    refine awp_seq_k fun K hK => awp_region [] ?_
    simp only [qq, K_eqs, Nat.reduceLT, K_ops, Nat.reduceEqDiff, K_nil, Then]
    (repeat' apply And.intro) <;> try (first | exact True.intro | omega)
    refine hK _ ?_
    clear hK K
    refine awp_ret ?_
    exact ⟨.inr rfl, [1], _, _, ⟨by simp, by simp, by decide, by simp, by simp [refO, refs_noref _ _ hn1]⟩, rfl, ⟨trivial, trivial⟩, rfl, by simp [GHd, renO, rens_noref _ _ hn1], rfl⟩

def MC (w a : DS) : List AObj := [.cells [.ptr 1 0, .ptr 2 0], .cells (DS.cs w), .cells (DS.cs a)]

theorem macnew_ok [Gv] {C : List Nat → List UInt8 → List Nat} (hC : COk C) (key : List UInt8) (p : Perm) (hk : key.length = 32) :
    ACalls Tryz.prog GP 249 [.sl key.length (Bs key) p] [] (fun r os => os = MC (runs C start0 (kpad key 0x36)) (runs C start0 (kpad key 0x5c)) ∧ r = .ptr 0 0) := by
  have c1 := turned_ok hC key (ntok p) 0x36 hk
  have c2 := turned_ok hC key (ntok p) 0x5c hk
  have hn1 := cs_norefs (runs C start0 (kpad key 0x36))
  have hn2 := cs_norefs (runs C start0 (kpad key 0x5c))
  unfold MC
  generalize DS.cs (runs C start0 (kpad key 0x36)) = D1 at *
  generalize DS.cs (runs C start0 (kpad key 0x5c)) = D2 at *
  rw [show ((0x36 : UInt8).toNat : Int) = 54 from rfl] at c1
  rw [show ((0x5c : UInt8).toNat : Int) = 92 from rfl] at c2
  refine acallsG_of_awp Tryz.func249 rfl rfl Tryz.ntmps249 (rts := #[319]) rfl Tryz.results249 (by simp) ?_
  simp only [argSlots, Nat.reduceAdd]
  refine awp_seq_k fun K hK => awp_region [] ?_
  simp only [qq, K_eqs, Nat.reduceLT, K_ops, cav, K_nil, Then]
  (repeat' apply And.intro) <;> try (first | exact True.intro | omega)
  refine hK _ ?_
  clear hK K
  refine awp_seq_k fun K hK => awp_region [1000004, 1000006] ?_
  simp only [qq, K_eqs, Nat.reduceLT, K_ops, reduceCtorEq, K_call, Nat.reduceAdd, List.contains_cons, beq_self_eq_true, Nat.reduceBEq, Nat.reduceEqDiff, cav, K_clo, aviews, aview, norefs_Bs, ntok, noref]
  refine andH_ptr (by simp [hviews, hview, noref, norefs_Bs]) c1 (by simpa [objOk] using hn1) ?_
  simp only [qq, RestH_eqs, K_eqs, Nat.reduceLT, K_ops, reduceCtorEq, K_call, Nat.reduceAdd, List.contains_cons, Nat.reduceBEq, beq_self_eq_true, Bool.false_or, Nat.reduceEqDiff, cav, K_clo, aviews, aview, norefs_Bs, ntok, noref]
  refine andH_ptr (by simp [hviews, hview, noref, norefs_Bs]) c2 (by simpa [objOk] using hn2) ?_
  simp only [qq, RestH_eqs, K_eqs, abuild, tzeros, Tryz.underlying349, tsfs, cav, aparts, K_ops, Nat.reduceEqDiff, reduceCtorEq, afill, spl, acells, Nat.reduceAdd, List.drop_nil, List.all_cons, oneC, List.all_nil, Nat.reduceLeDiff, Nat.reduceLT, List.contains_cons, Nat.reduceBEq, aboxF, abox, K_nil, Then]
  refine hK _ ?_
  clear hK K
  refine awp_keep [2] ?_
  simp only [keep_eqs, K_ops, Nat.reduceEqDiff, if_true, if_false]
  refine awp_ret ?_
  exact ⟨.inr rfl, [2, 0, 1], _, _, ⟨by simp, by simp, by decide, by simp, by simp [refO, refs, ref, refs_noref _ _ hn1, refs_noref _ _ hn2]⟩, rfl, ⟨trivial, trivial⟩, rfl, by simp [GHd, renO, rens, ren, rens_noref _ _ hn1, rens_noref _ _ hn2] <;> decide, rfl⟩

theorem macwrite_ok [Gv] {C : List Nat → List UInt8 → List Nat} (hC : COk C) (w a : DS) (hw : DOk w) (b : List UInt8) (p : Perm) (hm : w.many + b.length ≤ 1000000000) :
    ACalls Tryz.prog GP 250 [.ptr 0 0, .sl b.length (Bs b) p] (MC w a) (fun r os => os = MC (runs C w b) a ∧ r = .tup []) := by
  have cW := write_ok hC w hw b (ntok p) hm
  change ACalls _ _ _ _ [.cells (DS.cs w)] (fun v os => os = [.cells (DS.cs (runs C w b))] ∧ v = .tup []) at cW
  have hn0 := cs_norefs w
  have hn1 := cs_norefs (runs C w b)
  have hn2 := cs_norefs a
  unfold MC
  generalize DS.cs (runs C w b) = D1 at *
  generalize DS.cs w = D0 at *
  generalize DS.cs a = D2 at *
  refine acallsG_of_awp Tryz.func250 rfl rfl Tryz.ntmps250 (rts := #[]) rfl Tryz.results250 (by simp) ?_
  simp only [argSlots, Nat.reduceAdd]
  refine awp_region [1000009] ?_
  simp only [qq, Nat.reduceAdd, K_eqs, Nat.reduceLT, K_ops, reduceCtorEq, anil, Nat.reduceEqDiff, afieldAddr, Tryz.underlying349, tszs, ne_eq, aload, List.contains_cons, Nat.reduceBEq, apart, isAggD, Tryz.underlying346, K_call, beq_self_eq_true, K_clo, aviews, aview, ntok, List.headD_cons, norefs_Bs]
  refine andH_one (v' := .tup []) 1 (.cells D0) rfl (by simpa [objOk] using hn0) (by simp [hviews, hview, norefs_Bs]) cW (by simp [objOk, hn1]) (by simp [hres, noref, norefs]) ?_
  simp only [List.set_cons_succ, List.set_cons_zero, List.append_nil, RestH_eqs, K_nil]
  exact ⟨.inl rfl, [0, 1, 2], _, _, ⟨by simp, by decide, by decide, by simp, by simp [refO, refs, ref, refs_noref _ _ hn1, refs_noref _ _ hn2]⟩, rfl, trivial, rfl, by simp [GHd, renO, rens, ren, rens_noref _ _ hn1, rens_noref _ _ hn2] <;> decide, rfl⟩
theorem equal_ok (a b : List UInt8) (p q : Perm) (ha : a.length ≤ 9223372036854775807) : ACalls Tryz.prog G0 73 [.sl a.length (Bs a) p, .sl b.length (Bs b) q] [] (fun r os => os = [] ∧ r = .val (.bool (decide (a = b)))) := by
  refine acalls_of_awp Tryz.func73 rfl rfl Tryz.ntmps73 (rts := #[4]) rfl Tryz.results73 (by simp) ?_
  simp only [argSlots, Nat.reduceAdd]
  refine awp_seq_k fun K hK => awp_region [] ?_
  simp only [qq, K_eqs, Nat.reduceLT, K_ops, cav, K_nil, Then]
  (repeat' apply And.intro) <;> try (first | exact True.intro | omega)
  refine hK _ ?_
  clear hK K
  refine awp_seq_k fun K1 hK1 => ?_
  refine awp_seq_k fun K hK => awp_region [] ?_
  simp only [qq, K_eqs, Nat.reduceLT, K_ops, reduceCtorEq, abuiltin, Nat.reduceEqDiff, amaplen, alen, Tryz.underlying54, K_binC, K_nil, Then, K_int, aint, d_nen]
  (repeat' apply And.intro) <;> try (first | exact True.intro | omega)
  refine hK _ ?_
  clear hK K
  refine awp_cond rfl rfl (fun h => ?_) (fun h => ?_)
  · have hne : a.length ≠ b.length := by simpa using h
    refine awp_keep [0, 1] ?_
    simp only [keep_eqs, K_ops, Nat.reduceEqDiff, if_true, if_false]
    refine awp_seq_k fun K hK => awp_region [] ?_
    simp only [qq, K_eqs, Nat.reduceLT, K_ops, cav, K_nil, Then]
    (repeat' apply And.intro) <;> try (first | exact True.intro | omega)
    refine hK _ ?_
    clear hK K
    refine awp_ret ?_
    simp only [qq, Then, K_fin, ares, aress, ares1, afin, K_ops, reduceCtorEq, Nat.reduceEqDiff, noref]
    congr 2
    simp
    rintro rfl
    exact hne rfl
  have hl : a.length = b.length := by simpa using h
  refine awp_skip (hK1 _ ?_)
  clear hK1 K1
  refine awp_keep [0, 1] ?_
  simp only [keep_eqs, K_ops, Nat.reduceEqDiff, if_true, if_false]
  refine awp_seq_k fun K hK => awp_region [] ?_
  simp only [qq, K_eqs, Nat.reduceLT, K_ops, cav, K_nil, Then]
  (repeat' apply And.intro) <;> try (first | exact True.intro | omega)
  refine hK _ ?_
  clear hK K
  refine awp_seq_k fun K1 hK1 => ?_
  refine awp_seq_k fun K hK => awp_region [] ?_
  simp only [qq, K_eqs, Nat.reduceLT, K_ops, reduceCtorEq, abuiltin, Nat.reduceEqDiff, amaplen, alen, Tryz.underlying54, cav, K_nil, Then]
  (repeat' apply And.intro) <;> try (first | exact True.intro | omega)
  refine hK _ ?_
  clear hK K
  refine awp_keep [1, 5, 13, 14, 15] ?_
  simp only [keep_eqs, K_ops, Nat.reduceEqDiff, if_true, if_false]
  refine awp_block ?_
  refine awp_loop_from (fun x : Nat × Nat => ⟨31, [(1, .sl b.length (Bs b) q), (5, .val (.int .u8 (x.2 : Int))), (13, .sl a.length (Bs a) p), (14, .val (.int .i64 (a.length : Int))), (15, .val (.int .i64 (x.1 : Int)))], []⟩)
    (fun x => x.1 ≤ a.length ∧ x.2 < 256 ∧ (x.2 = 0 ↔ ∀ k, k < x.1 → a.getD k 0 = b.getD k 0)) (fun x => a.length - x.1) (0, 0) ⟨by omega, by omega, by simp⟩ (.of_keep [1, 5, 13, 14, 15] (by exact rfl)) ?_
  rintro ⟨i, u⟩ ⟨hi, hu, hiff⟩
  simp only at hi hu hiff
  refine awp_seq_k fun K hK => awp_region [] ?_
  simp only [qq, K_eqs, K_ops, Nat.reduceEqDiff, K_binC, K_int, aint, d_ltn, Nat.reduceLT, K_nil, Then]
  (repeat' apply And.intro) <;> try (first | exact True.intro | omega)
  refine hK _ ?_
  clear hK K
  refine awp_seq ?_
  refine awp_cond rfl rfl (fun h => ?_) (fun h => ?_)
  · have hlt : i < a.length := of_decide_eq_true h
    have hpa : 0 < a.length - i := by omega
    have hpb : 0 < b.length - i := by omega
    refine awp_skip ?_
    simp only [Then]
    refine awp_keep [1, 5, 13, 14, 15] ?_
    simp only [keep_eqs, K_ops, Nat.reduceEqDiff, if_true, if_false]
    refine awp_seq ?_
    refine awp_block ?_
    refine awp_seq_k fun K hK => awp_region [] ?_
    simp only [qq, K_eqs, Nat.reduceLT, K_ops, Nat.reduceEqDiff, aidxAddr, Tryz.underlying54, tszs, Bs_length, Nat.mul_one, Int.toNat_natCast, Bs_drop, aload, apart, isAggD, Tryz.underlying5, K_nil, Then, List.length_drop, hpa, Bs_getD, B, drop_getD]
    (repeat' apply And.intro) <;> try (first | exact True.intro | omega)
    refine hK _ ?_
    clear hK K
    refine awp_keep [1, 5, 6, 7, 13, 14, 15] ?_
    simp only [keep_eqs, K_ops, Nat.reduceEqDiff, if_true, if_false]
    refine awp_region [] ?_
    simp only [qq, K_eqs, Nat.reduceLT, K_ops, Nat.reduceEqDiff, aidxAddr, Tryz.underlying54, tszs, Bs_length, Nat.mul_one, Int.toNat_natCast, Bs_drop, aload, apart, isAggD, Tryz.underlying5, K_binC, K_nil, List.length_drop, hpb, Bs_getD, B, drop_getD, K_int, aint, n_xor8, n_or8]
    refine ⟨by omega, ?_⟩
    simp only [InBlock, Then]
    refine awp_keep [1, 5, 13, 14, 15] ?_
    simp only [keep_eqs, K_ops, Nat.reduceEqDiff, if_true, if_false]
    have h6 : IntKind.i64.wrap ((i + 1 : Nat) : Int) = ((i + 1 : Nat) : Int) := n_i64 (by omega)
    refine awp_region [] ?_
    simp only [qq, K_eqs, K_ops, Nat.reduceEqDiff, cav, K_binC, K_int, aint, n_add, h6, Nat.reduceLT, K_nil, Then]
    have hst := eq_step u (a.getD i 0) (b.getD i 0) hu
    refine ⟨(i + 1, (u ||| ((a.getD i 0).toNat ^^^ (b.getD i 0).toNat) % 256) % 256), ⟨by omega, hst.1, ?_⟩, by omega, .of_keep [1, 5, 13, 14, 15] rfl⟩
    rw [hst.2, hiff]
    constructor
    · rintro ⟨h1, h2⟩ k hk
      by_cases e : k = i
      · subst e; exact h2
      · exact h1 k (by omega)
    · intro h1
      exact ⟨fun k hk => h1 k (by omega), h1 i (by omega)⟩
  · have hge : i = a.length := by have := of_decide_eq_false h; omega
    subst hge
    refine awp_exit ?_
    simp only [Then, InBlock, if_true]
    refine hK1 _ ?_
    refine awp_seq_k fun K hK => awp_region [] ?_
    simp only [qq, K_eqs, Nat.reduceLT, K_ops, Nat.reduceEqDiff, cav, K_binC, K_int, aint, d_eq, K_nil, Then]
    (repeat' apply And.intro) <;> try (first | exact True.intro | omega)
    refine hK _ ?_
    clear hK K
    refine awp_ret ?_
    simp only [qq, K_fin, ares, aress, ares1, afin, K_ops, Nat.reduceEqDiff, noref]
    congr 2
    rw [Bool.eq_iff_iff]
    simp only [beq_iff_eq, decide_eq_true_eq]
    rw [hiff, ← take_all_eq hl]


theorem be8_halves (n : Nat) : be8 n 8 = be4 (n / 4294967296 % 4294967296) ++ be4 (n % 4294967296) := by
  simp only [be8, be4, List.range_succ, List.range_zero, List.nil_append, List.cons_append, List.map_cons, List.map_nil]
  repeat' (apply congr (congrArg List.cons (ofNat8 (by omega))))
  rfl

theorem number_ok (n : Nat) (hn : n < 18446744073709551616) : ACalls Tryz.prog G0 129 [.val (.int .u64 (n : Int))] [] (fun r os => os = [] ∧ r = .sl 8 (Bs (be8 n 8)) .no) := by
  refine acalls_of_awp Tryz.func129 rfl rfl Tryz.ntmps129 (rts := #[54]) rfl Tryz.results129 (by simp) ?_
  simp only [argSlots, Nat.reduceAdd]
  refine awp_seq_k fun K hK => awp_region [] ?_
  simp only [qq, K_eqs, Nat.reduceLT, K_ops, cav, K_nil, Then]
  (repeat' apply And.intro) <;> try (first | exact True.intro | omega)
  refine hK _ ?_
  clear hK K
  refine awp_seq_k fun K hK => awp_region [] ?_
  simp only [qq, K_eqs, Nat.reduceLT, K_ops, reduceCtorEq, Nat.reduceEqDiff, cav, K_binC, K_int, aint, Int.reduceLE, Int.reduceToNat, IntKind.bits, Nat.min_def, Nat.reduceLeDiff, n_fdiv, K_conv, Tryz.underlying279, aconvO, aview, noref, aconv, Tryz.underlying30, Option.isSome_some, n_u32, K_call, Nat.reduceAdd, K_clo, aviews, norefs, ntok]
  have hp : (2 : Nat) ^ 32 = 4294967296 := rfl
  rw [hp]
  generalize hga : n / 4294967296 % 4294967296 = a
  have h1 := put_ok [] .full a (by simp)
  refine andC_eq (by simp [norefs_Bs, norefs, noref]) (h1) (by simp [noref, norefs, norefs_Bs, flat]) ?_
  simp only [qq, RestC_eqs, K_eqs, Nat.reduceLT, K_ops, reduceCtorEq, K_conv, Tryz.underlying279, aconvO, aview, Nat.reduceEqDiff, noref, aconv, Tryz.underlying30, Option.isSome_some, n_u32, K_call, Nat.reduceAdd, K_clo, aviews, norefs_Bs, ntok]
  have h2 := put_ok (be4 a) .no (n % 4294967296) (by simp [be4])
  refine andC_eq (by simp [norefs_Bs, norefs, noref]) (h2) (by simp [noref, norefs, norefs_Bs, flat]) ?_
  simp only [qq, RestC_eqs, K_eqs, Nat.reduceLT, K_ops, Nat.reduceEqDiff, reduceCtorEq, K_nil, Then]
  refine hK _ ?_
  refine awp_ret ?_
  simp only [qq, K_fin, ares, aress, ares1, afin, K_ops, Nat.reduceEqDiff, reduceCtorEq, norefs_Bs, ntok]
  rw [be8_halves n, hga]
  rfl
theorem aresN_cell [Gv] {P : Program} {ty : TypeId} {nt : Nat} {s : List (Nat × AV)} {os : List AObj} {x r n : Nat} {cs : List AV} (hx : lk s x = .ptr r 0) (ho : os[r]? = some (.cells cs)) (hn : tsz P ty = some n) (hag : isAggD (P.underlying ty) = some true) (hl : cs.length = n) :
    aresN P [.cell x ty] ⟨nt, s, os⟩ = some ((0 + n ≤ cs.length) ∧ True, .agg cs) := by
  have ht : (cs.drop 0).take n = cs := by rw [List.drop_zero]; exact List.take_of_length_le (by omega)
  simp only [aresN, aresNs, aresN1, hx, aload, ho, apart, hag, hn, ht]

theorem id3 [Gv] : ∀ i, i < 3 → ([0, 1, 2] : List Nat).getD i 0 = i := by decide

theorem σn_nil [Gv] (objs : List AObj) : σn objs [] = fun i => objs.length + i := by
  funext i
  simp [σn]
theorem GBack_nil [Gv] (objs os : List AObj) : GBack objs [] os = objs ++ os.map (renO fun i => objs.length + i) := by
  simp [GBack, setAll, σn_nil]

theorem mc_ret [Gv] (hs : List Nat) (hh : hs.length ≤ 3) (w a : DS) (r : AV) (hr : ref (fun r => decide (r < 3)) r = true) : GRet hs false r (MC w a) :=
  ⟨hh, fun o ho => by
    simp only [MC, List.mem_cons, List.not_mem_nil, or_false] at ho
    rcases ho with rfl | rfl | rfl
    · rfl
    · exact refs_noref _ _ (cs_norefs w)
    · exact refs_noref _ _ (cs_norefs a), hr, fun h => by cases h⟩

def MO (n : Nat) (w a : DS) : List AObj := [.cells [.ptr (n + 1) 0, .ptr (n + 2) 0], .cells (DS.cs w), .cells (DS.cs a)]
theorem mc_back [Gv] (objs : List AObj) (w a : DS) : GBack objs [] (MC w a) = objs ++ MO objs.length w a := by
  rw [GBack_nil]
  simp [MC, MO, renO, rens, ren, rens_noref _ _ (cs_norefs w), rens_noref _ _ (cs_norefs a)]

theorem macsum_ok [Gv] {C : List Nat → List UInt8 → List Nat} (hC : COk C) (w a : DS) (hw : DOk w) (ha : DOk a) (hm : w.many ≤ 900000000) (hm2 : a.many ≤ 800000000) :
    ACalls Tryz.prog GP 251 [.ptr 0 0] (MC w a) (fun r os => os = MC w a ∧ r = .agg (Bs (sumB C (runs C a (sumB C w))))) := by
  have hsl : (sumB C w).length = 32 := sumB_length hC w hw
  have hok2 := runs_ok hC.1 ha (sumB C w)
  have hmr := runs_many C a (sumB C w)
  have cS := sum_dok hC w hw hm
  have cS2 := sum_dok hC (runs C a (sumB C w)) hok2 (by omega)
  have cCl := (clone_ok a.h a.rest a.many (words8_length ha.1) ha.2).g (G := GP)
  have cW := write_ok hC a ha (sumB C w) .full (by omega)
  have hsl2 : (sumB C (runs C a (sumB C w))).length = 32 := sumB_length hC _ hok2
  change ACalls _ _ _ _ [.cells (DS.cs w)] (fun v os => os = [.cells (DS.cs w)] ∧ v = _) at cS
  change ACalls _ _ _ _ [.cells (DS.cs (runs C a (sumB C w)))] (fun v os => os = [.cells (DS.cs (runs C a (sumB C w)))] ∧ v = _) at cS2
  change ACalls _ _ _ _ [.cells (DS.cs a)] (fun v os => os = [.cells (DS.cs a), .cells (DS.cs a)] ∧ v = _) at cCl
  change ACalls _ _ _ _ [.cells (DS.cs a)] (fun v os => os = [.cells (DS.cs (runs C a (sumB C w)))] ∧ v = .tup []) at cW
  have hn0 := cs_norefs w
  have hn1 := cs_norefs a
  have hn2 := cs_norefs (runs C a (sumB C w))
  unfold MC
  clear hok2 hmr hm hm2 hw ha
  generalize sumB C (runs C a (sumB C w)) = S2 at *
  generalize DS.cs (runs C a (sumB C w)) = D2 at *
  generalize sumB C w = S1 at *
  generalize DS.cs w = D0 at *
  generalize DS.cs a = D1 at *
  rw [hsl] at cW
  obtain ⟨z, hz, hzl⟩ : ∃ z : List UInt8, (zvs .u8 32).map cav = Bs z ∧ z.length = 32 := ⟨List.replicate 32 0, by simp [zvs, Bs, B, cav], by simp⟩
  have zd : z.drop 32 = [] := List.drop_eq_nil_of_le (by omega)
  have ht1 : S1.take 32 = S1 := List.take_of_length_le (by omega)
  have ht2 : S2.take 32 = S2 := List.take_of_length_le (by omega)
  refine acallsG_of_awp Tryz.func251 rfl rfl Tryz.ntmps251 (rts := #[23]) rfl Tryz.results251 (by simp) ?_
  simp only [argSlots, Nat.reduceAdd]
  refine awp_seq_k fun K hK => awp_region [] ?_
  simp only [qq, Nat.reduceAdd, K_eqs, aalloc, tzeros, hz, Nat.reduceLT, K_nil, Then, K_ops]
  (repeat' apply And.intro) <;> try (first | exact True.intro | omega)
  refine hK _ ?_
  clear hK K
  refine awp_keep [0, 2] ?_
  simp only [keep_eqs, K_ops, Nat.reduceEqDiff, if_true, if_false]
  refine awp_seq_k fun K hK => awp_region [1000009] ?_
  simp only [qq, Nat.reduceAdd, K_eqs, Nat.reduceLT, K_ops, reduceCtorEq, anil, Nat.reduceEqDiff, afieldAddr, Tryz.underlying349, tszs, ne_eq, aload, List.contains_cons, Nat.reduceBEq, apart, isAggD, Tryz.underlying346, K_call, beq_self_eq_true, K_clo, aviews, aview, ntok, List.headD_cons]
  refine andH_one (v' := .agg (Bs S1)) 1 (.cells D0) rfl (by simpa [objOk] using hn0) (by simp [hviews, hview]) cS (by simp [objOk, hn0]) (by simp [hres, noref, norefs_Bs]) ?_
  simp only [qq, RestH_eqs, K_eqs, aalloc, tzeros, Nat.reduceAdd, hz, Nat.reduceLT, K_store, astore, K_ops, Nat.reduceEqDiff, reduceCtorEq, tszs, acells, Bs_one, Bs_length, hsl, spl, K_nil, Then, hzl, Bs_drop, zd, Bs_nil]
  refine hK _ ?_
  clear hK K
  refine awp_freeze 3 4 (Bs S1) rfl rfl (by rw [Bs_length]; omega) (norefs_Bs _) ?_
  refine awp_keep [0, 2, 3] ?_
  simp only [keep_eqs, K_ops, Nat.reduceEqDiff, if_true, if_false]
  refine awp_seq_k fun K hK => awp_region [1000014] ?_
  simp only [qq, Nat.reduceAdd, K_eqs, Nat.reduceLT, K_ops, reduceCtorEq, anil, Nat.reduceEqDiff, afieldAddr, Tryz.underlying349, tszs, ne_eq, aload, List.contains_cons, Nat.reduceBEq, apart, isAggD, Tryz.underlying346, K_call, beq_self_eq_true, K_clo, aviews, aview, ntok, List.headD_cons, List.getD_cons_succ]
  refine andH_one (v' := .ptr 5 0) 2 (.cells D1) rfl (by simpa [objOk] using hn1) (by simp [hviews, hview]) cCl (by simp [objOk, hn1]) (by simp [hres]) ?_
  simp only [qq, RestH_eqs, K_eqs, Nat.reduceLT, K_ops, Nat.reduceEqDiff, reduceCtorEq, K_nil, Then]
  refine hK _ ?_
  clear hK K
  refine awp_keep [2, 3, 4] ?_
  simp only [keep_eqs, K_ops, Nat.reduceEqDiff, if_true, if_false]
  refine awp_seq_k fun K hK => awp_region [1000017] ?_
  simp only [qq, Nat.reduceAdd, K_eqs, Nat.reduceLT, K_ops, Nat.reduceEqDiff, aslice, bopt, Option.map_none, Tryz.underlying23, tszs, Bs_length, hsl, Nat.mul_one, K_call, List.contains_cons, beq_self_eq_true, K_clo, Nat.reduceBEq, aviews, aview, ntok, List.tail_cons, List.headD_cons, Tryz.underlying54]
  refine andH_one (v' := .tup []) 5 (.cells D1) rfl (by simpa [objOk] using hn1) (by simp [hviews, hview, norefs_Bs, ntok]) cW (by simp [objOk, hn2]) (by simp [hres, noref, norefs]) ?_
  simp only [List.set_cons_succ, List.set_cons_zero, List.append_nil, RestH_eqs, K_nil, Then]
  refine hK _ ?_
  clear hK K
  refine awp_keep [2, 4] ?_
  simp only [keep_eqs, K_ops, Nat.reduceEqDiff, if_true, if_false]
  refine awp_seq_k fun K hK => awp_region [1000019] ?_
  simp only [qq, Nat.reduceAdd, K_eqs, Nat.reduceLT, K_ops, Nat.reduceEqDiff, K_call, List.contains_cons, beq_self_eq_true, K_clo, Nat.reduceBEq, aviews, aview]
  refine andH_one (v' := .agg (Bs S2)) 5 (.cells D2) rfl (by simpa [objOk] using hn2) (by simp [hviews, hview]) cS2 (by simp [objOk, hn2]) (by simp [hres, noref, norefs_Bs]) ?_
  simp only [qq, RestH_eqs, K_store, astore, K_ops, Nat.reduceEqDiff, tszs, acells, Bs_one, Bs_length, hsl2, hzl, Nat.reduceLT, spl, Bs_drop, zd, Bs_nil, K_nil, Then]
  refine hK _ ?_
  clear hK K
  refine awp_keep [2] ?_
  simp only [keep_eqs, K_ops, Nat.reduceEqDiff, if_true, if_false]
  refine awp_ret ?_
  exact ⟨.inr rfl, [0, 1, 2], _, _, ⟨by simp, fun i hi => id3 i hi, by decide, by simp, by simp [refO, refs, ref, refs_noref _ _ hn0, refs_noref _ _ hn1]⟩, aresN_cell (n := 32) rfl rfl (by simp only [tszs]) (by rw [Tryz.underlying23]; rfl) (by rw [Bs_length, hsl2]), ⟨by rw [Bs_length]; omega, trivial⟩, by simp [ref, refs_noref, norefs_Bs],
    by simp [GHd, renO, rens, ren, rens_noref _ _ hn0, rens_noref _ _ hn1] <;> decide, by simp [ren, rens_noref, norefs_Bs]⟩

def macB (C : List Nat → List UInt8 → List Nat) (key m : List UInt8) : List UInt8 := shaB C (kpad key 0x5c ++ shaB C (kpad key 0x36 ++ m))

theorem mc_ask [Gv] (x : AObj) (w a : DS) : GAsk [x, .cells [.ptr 2 0, .ptr 3 0], .cells (DS.cs w), .cells (DS.cs a)] [1, 2, 3] :=
  ⟨by decide, by simp, by simp [refO, refs, ref, refs_noref _ _ (cs_norefs w), refs_noref _ _ (cs_norefs a)]⟩
theorem mc_hd [Gv] (x : AObj) (w a : DS) : GHd [x, .cells [.ptr 2 0, .ptr 3 0], .cells (DS.cs w), .cells (DS.cs a)] [1, 2, 3] = MC w a := by
  simp [GHd, MC, renO, rens, ren, rens_noref _ _ (cs_norefs w), rens_noref _ _ (cs_norefs a)] <;> decide
theorem mc_bk [Gv] (x : AObj) (w a w' a' : DS) : GBack [x, .cells [.ptr 2 0, .ptr 3 0], .cells (DS.cs w), .cells (DS.cs a)] [1, 2, 3] (MC w' a') = [x, .cells [.ptr 2 0, .ptr 3 0], .cells (DS.cs w'), .cells (DS.cs a')] := by
  simp [GBack, setAll, MC, renO, rens, ren, σn, rens_noref _ _ (cs_norefs w'), rens_noref _ _ (cs_norefs a')]

theorem macof_ok [Gv] {C : List Nat → List UInt8 → List Nat} (hC : COk C) (key : List UInt8) (p q : Perm) (hk : key.length = 32) (l : List (List UInt8)) (hl : l.flatten.length ≤ 800000000) (hl2 : l.length ≤ 900000000) :
    ACalls Tryz.prog GP 196 [.sl key.length (Bs key) p, .sl l.length (PS l) q] [] (fun r os => os = [] ∧ r = .agg (Bs (macB C key l.flatten))) := by
  have cN := macnew_ok hC key (ntok p) hk
  have hpl := PS_length l
  have k1 := kpad_length key 0x36 (by omega)
  have k2 := kpad_length key 0x5c (by omega)
  obtain ⟨W, hW⟩ : ∃ W, runs C start0 (kpad key 0x36) = W := ⟨_, rfl⟩
  obtain ⟨A0, hA0⟩ : ∃ A0, runs C start0 (kpad key 0x5c) = A0 := ⟨_, rfl⟩
  have hWok : DOk W := hW ▸ runs_ok hC.1 start0_ok _
  have hAok : DOk A0 := hA0 ▸ runs_ok hC.1 start0_ok _
  have hWm : W.many = 64 := by rw [← hW, runs_many, k1]; rfl
  have hAm : A0.many = 64 := by rw [← hA0, runs_many, k2]; rfl
  rw [hW, hA0] at cN
  have hres : sumB C (runs C A0 (sumB C (runs C W l.flatten))) = macB C key l.flatten := by
    unfold macB shaB
    rw [← hW, ← hA0, ← runs_append, ← runs_append]
  rw [← hres]
  obtain ⟨z, hz, hzl⟩ : ∃ z : List UInt8, (zvs .u8 32).map cav = Bs z ∧ z.length = 32 := ⟨List.replicate 32 0, by simp [zvs, Bs, B, cav], by simp⟩
  have zd : z.drop 32 = [] := List.drop_eq_nil_of_le (by omega)
  refine acalls_of_awp Tryz.func196 rfl rfl Tryz.ntmps196 (rts := #[23]) rfl Tryz.results196 (by simp) ?_
  simp only [argSlots, Nat.reduceAdd]
  refine awp_seq_k fun K hK => awp_region [] ?_
  simp only [qq, K_eqs, aalloc, tzeros, hz, Nat.reduceLT, K_nil, Then, K_ops]
  (repeat' apply And.intro) <;> try (first | exact True.intro | omega)
  refine hK _ ?_
  clear hK K
  refine awp_seq_k fun K hK => awp_region [1000009] ?_
  simp only [qq, K_eqs, Nat.reduceLT, K_ops, reduceCtorEq, K_call, Nat.reduceAdd, List.contains_cons, beq_self_eq_true, Nat.reduceEqDiff, K_clo, Nat.reduceBEq, aviews, aview, norefs_Bs, ntok]
  refine andH_gen [] false [54] ⟨by decide, by simp, by simp⟩ (C := norefs (Bs key) = true ∧ True) rfl ⟨norefs_Bs _, trivial⟩ cN (mc_ret _ (by simp) _ _ _ rfl) ?_
  rw [mc_back, σn_nil]
  simp only [qq, ren, RestH_eqs, K_eqs, Nat.reduceLT, K_ops, Nat.reduceEqDiff, reduceCtorEq, K_nil, Then]
  refine hK _ ?_
  clear hK K
  simp only [MO]
  refine awp_keep [1, 4, 5] ?_
  simp only [keep_eqs, K_ops, Nat.reduceEqDiff, if_true, if_false]
  refine awp_seq_k fun K1 hK1 => ?_
  refine awp_seq_k fun K hK => awp_region [] ?_
  simp only [qq, Nat.reduceAdd, K_eqs, Nat.reduceLT, K_ops, Nat.reduceEqDiff, abuiltin, amaplen, alen, Tryz.underlying318, cav, K_nil, Then]
  (repeat' apply And.intro) <;> try (first | exact True.intro | omega)
  refine hK _ ?_
  clear hK K
  refine awp_keep [4, 5, 10, 11, 12] ?_
  simp only [keep_eqs, K_ops, Nat.reduceEqDiff, if_true, if_false]
  refine awp_block ?_
  refine awp_loop_from (fun i : Nat => ⟨22, [(4, .ptr 0 0), (5, .ptr 1 0), (10, .sl l.length (PS l) q), (11, .val (.int .i64 (l.length : Int))), (12, .val (.int .i64 (i : Int)))], [.cells (Bs z), .cells [.ptr 2 0, .ptr 3 0], .cells (DS.cs (runs C W (l.take i).flatten)), .cells (DS.cs A0)]⟩)
    (fun i => i ≤ l.length) (fun i => l.length - i) 0 (by omega) (.of_keep [4, 5, 10, 11, 12] (by exact rfl)) ?_
  intro i hi
  refine awp_seq_k fun K hK => awp_region [] ?_
  simp only [qq, K_eqs, K_ops, Nat.reduceEqDiff, K_binC, K_int, aint, d_ltn, Nat.reduceLT, K_nil, Then]
  (repeat' apply And.intro) <;> try (first | exact True.intro | omega)
  refine hK _ ?_
  clear hK K
  refine awp_seq ?_
  refine awp_cond rfl rfl (fun hq => ?_) (fun hq => ?_)
  · have hlt : i < l.length := of_decide_eq_true hq
    refine awp_skip ?_
    simp only [Then]
    refine awp_keep [4, 5, 10, 11, 12] ?_
    simp only [keep_eqs, K_ops, Nat.reduceEqDiff, if_true, if_false]
    have hget := PS_getD l i hlt
    have hfl := take_flat l i hlt
    have hle := take_flat_le l i
    have hle1 := take_flat_le l (i + 1)
    have hrm := runs_many C W (l.take i).flatten
    have hflen : ((l.take (i + 1)).flatten).length = ((l.take i).flatten).length + (l.getD i []).length := by rw [hfl, List.length_append]
    have cW := macwrite_ok hC (runs C W (l.take i).flatten) A0 (runs_ok hC.1 hWok _) (l.getD i []) .no (by rw [hrm, hWm]; omega)
    rw [← runs_append, ← hfl] at cW
    generalize l.getD i [] = b at *
    refine awp_seq ?_
    refine awp_block ?_
    refine awp_seq_k fun K hK => awp_region [] ?_
    simp only [qq, K_eqs, aidxAddr, K_ops, Nat.reduceEqDiff, Tryz.underlying318, tszs, hpl, Nat.mul_one, Nat.reduceLT, Int.toNat_natCast, aload, apart, isAggD, Tryz.underlying54, K_nil, Then, List.length_drop, drop_getD, hget]
    (repeat' apply And.intro) <;> try (first | exact True.intro | omega)
    refine hK _ ?_
    clear hK K
    refine awp_keep [4, 5, 7, 10, 11, 12] ?_
    simp only [keep_eqs, K_ops, Nat.reduceEqDiff, if_true, if_false]
    refine awp_region [1000018] ?_
    simp only [qq, K_eqs, Nat.reduceLT, K_ops, Nat.reduceEqDiff, K_call, Nat.reduceAdd, List.contains_cons, beq_self_eq_true, K_clo, Nat.reduceBEq, aviews, aview, norefs_Bs, ntok]
    refine andH_gen [1, 2, 3] false [319, 54] (mc_ask _ _ _) (C := True ∧ norefs (Bs b) = true ∧ True) rfl ⟨trivial, norefs_Bs _, trivial⟩ (by rw [mc_hd]; exact cW) (mc_ret _ (by simp) _ _ _ rfl) ?_
    rw [mc_bk]
    simp only [ren, rens, RestH_eqs, K_nil]
    simp only [InBlock, Then]
    refine awp_keep [4, 5, 10, 11, 12] ?_
    simp only [keep_eqs, K_ops, Nat.reduceEqDiff, if_true, if_false]
    have h6 : IntKind.i64.wrap ((i + 1 : Nat) : Int) = ((i + 1 : Nat) : Int) := n_i64 (by omega)
    refine awp_region [] ?_
    simp only [qq, K_eqs, K_ops, Nat.reduceEqDiff, cav, K_binC, K_int, aint, n_add, h6, Nat.reduceLT, K_nil, Then]
    refine ⟨i + 1, by omega, by omega, .of_keep [4, 5, 10, 11, 12] rfl⟩
  · have he : i = l.length := by have := of_decide_eq_false hq; omega
    subst he
    refine awp_exit ?_
    simp only [Then, InBlock, if_true]
    refine hK1 _ ?_
    clear hK1 K1
    rw [List.take_length]
    have hrm := runs_many C W l.flatten
    have cS := macsum_ok hC (runs C W l.flatten) A0 (runs_ok hC.1 hWok _) hAok (by rw [hrm, hWm]; omega) (by omega)
    have hsl : (sumB C (runs C A0 (sumB C (runs C W l.flatten)))).length = 32 := sumB_length hC _ (runs_ok hC.1 hAok _)
    generalize sumB C (runs C A0 (sumB C (runs C W l.flatten))) = S at *
    refine awp_keep [4, 5] ?_
    simp only [keep_eqs, K_ops, Nat.reduceEqDiff, if_true, if_false]
    have ht2 : S.take 32 = S := List.take_of_length_le (by omega)
    refine awp_seq_k fun K hK => awp_region [1000021] ?_
    simp only [qq, K_eqs, Nat.reduceLT, K_ops, Nat.reduceEqDiff, K_call, Nat.reduceAdd, List.contains_cons, beq_self_eq_true, K_clo, Nat.reduceBEq, aviews, aview]
    refine andH_gen [1, 2, 3] false [319] (mc_ask _ _ _) (C := True ∧ True) rfl ⟨trivial, trivial⟩ (by rw [mc_hd]; exact cS) (mc_ret _ (by simp) _ _ _ (by simp [ref, refs_noref, norefs_Bs])) ?_
    rw [mc_bk, ren_noref _ _ (by simp [noref, norefs_Bs])]
    simp only [qq, RestH_eqs, K_store, astore, K_ops, Nat.reduceEqDiff, tszs, acells, Bs_one, Bs_length, hsl, hzl, Nat.reduceLT, spl, Bs_drop, zd, Bs_nil, K_nil, Then]
    refine hK _ ?_
    clear hK K
    refine awp_keep [4] ?_
    simp only [keep_eqs, K_ops, Nat.reduceEqDiff, if_true, if_false]
    refine awp_ret ?_
    have hsz : tsz Tryz.prog 23 = some 32 := by simp only [tszs]
    exact (by
      simp only [V.Fin]
      exact ⟨_, _, ares_cell rfl rfl hsz (by rw [Tryz.underlying23]; rfl) (by rw [Bs_length, hsl]), ⟨⟨by rw [Bs_length, hsl]; omega, by simp [noref, norefs_Bs]⟩, trivial⟩, trivial, rfl⟩)

theorem macB_length [Gv] {C : List Nat → List UInt8 → List Nat} (hC : COk C) (key m : List UInt8) : (macB C key m).length = 32 := sumB_length hC _ (runs_ok hC.1 start0_ok _)
def SS (l : List (List UInt8)) : List AV := l.map fun s => .val (.string ⟨s.toArray⟩)
theorem SS_length [Gv] (l : List (List UInt8)) : (SS l).length = l.length := List.length_map _
theorem SS_getD [Gv] (l : List (List UInt8)) (i : Nat) (h : i < l.length) : (SS l).getD i .top = .val (.string ⟨(l.getD i []).toArray⟩) := by
  simp [SS, List.getD_eq_getElem?_getD, List.getElem?_map, List.getElem?_eq_getElem h]
theorem norefs_SS [Gv] (l : List (List UInt8)) : norefs (SS l) = true := by
  induction l with
  | nil => rfl
  | cons b l ih => rw [show SS (b :: l) = .val (.string ⟨b.toArray⟩) :: SS l from rfl]; simp [norefs, noref, ih]
theorem SS_one [Gv] (b : List UInt8) : SS [b] = [.val (.string ⟨b.toArray⟩)] := rfl

def frame1 (s : List UInt8) : List UInt8 := be8 s.length 8 ++ s
def frameB (l : List (List UInt8)) : List UInt8 := l.flatMap frame1
theorem frame_take [Gv] (l : List (List UInt8)) (i : Nat) (h : i < l.length) : frameB (l.take (i + 1)) = frameB (l.take i) ++ (be8 (l.getD i []).length 8 ++ l.getD i []) := by
  unfold frameB
  rw [List.take_add_one, List.getElem?_eq_getElem h, List.flatMap_append, List.getD_eq_getElem?_getD, List.getElem?_eq_getElem h]
  simp [frame1]
theorem frame_le [Gv] (l : List (List UInt8)) (i : Nat) : (frameB (l.take i)).length ≤ (frameB l).length := by
  conv => rhs; rw [← List.take_append_drop i l]
  unfold frameB
  rw [List.flatMap_append, List.length_append]
  omega

theorem frame_ok [Gv] (l : List (List UInt8)) (p : Perm) (hl : (frameB l).length ≤ 100000000) (hl2 : l.length ≤ 900000000) :
    ACalls Tryz.prog G0 197 [.sl l.length (SS l) p] [] (fun r os => os = [] ∧ r = .sl (frameB l).length (Bs (frameB l)) .no) := by
  have hpl := SS_length l
  refine acalls_of_awp Tryz.func197 rfl rfl Tryz.ntmps197 (rts := #[54]) rfl Tryz.results197 (by simp) ?_
  simp only [argSlots, Nat.reduceAdd]
  refine awp_seq_k fun K hK => awp_region [] ?_
  simp only [qq, K_eqs, Nat.reduceLT, K_ops, cav, K_nil, Then]
  (repeat' apply And.intro) <;> try (first | exact True.intro | omega)
  refine hK _ ?_
  clear hK K
  refine awp_seq_k fun K hK => awp_region [] ?_
  simp only [qq, K_eqs, Nat.reduceLT, K_ops, cav, K_nil, Then]
  (repeat' apply And.intro) <;> try (first | exact True.intro | omega)
  refine hK _ ?_
  clear hK K
  refine awp_tok 1 3 rfl ?_
  refine awp_keep [0, 3] ?_
  simp only [keep_eqs, K_ops, Nat.reduceEqDiff, if_true, if_false]
  refine awp_seq_k fun K1 hK1 => ?_
  refine awp_seq_k fun K hK => awp_region [] ?_
  simp only [qq, K_eqs, Nat.reduceLT, K_ops, reduceCtorEq, abuiltin, Nat.reduceEqDiff, amaplen, alen, Tryz.underlying43, cav, K_nil, Then]
  (repeat' apply And.intro) <;> try (first | exact True.intro | omega)
  refine hK _ ?_
  clear hK K
  refine awp_keep [3, 6, 7, 8] ?_
  simp only [keep_eqs, K_ops, Nat.reduceEqDiff, if_true, if_false]
  refine awp_block ?_
  refine awp_loop_from (fun i : Nat => ⟨23, [(3, .sl (frameB (l.take i)).length (Bs (frameB (l.take i))) (.tok 0)), (6, .sl l.length (SS l) p), (7, .val (.int .i64 (l.length : Int))), (8, .val (.int .i64 (i : Int)))], [.tok 1 (frameB (l.take i)).length]⟩)
    (fun i => i ≤ l.length) (fun i => l.length - i) 0 (by omega) (.of_keep [3, 6, 7, 8] (by exact rfl)) ?_
  intro i hi
  refine awp_seq_k fun K hK => awp_region [] ?_
  simp only [qq, K_eqs, K_ops, Nat.reduceEqDiff, K_binC, K_int, aint, d_ltn, Nat.reduceLT, K_nil, Then]
  (repeat' apply And.intro) <;> try (first | exact True.intro | omega)
  refine hK _ ?_
  clear hK K
  refine awp_seq ?_
  refine awp_cond rfl rfl (fun hq => ?_) (fun hq => ?_)
  · have hlt : i < l.length := of_decide_eq_true hq
    refine awp_skip ?_
    simp only [Then]
    refine awp_keep [3, 6, 7, 8] ?_
    simp only [keep_eqs, K_ops, Nat.reduceEqDiff, if_true, if_false]
    have hget := SS_getD l i hlt
    have hfl := frame_take l i hlt
    have hle := frame_le l i
    have hle1 := frame_le l (i + 1)
    have hb8 : ∀ n, (be8 n 8).length = 8 := fun n => be8_length n 8
    have hflen : (frameB (l.take (i + 1))).length = (frameB (l.take i)).length + (8 + (l.getD i []).length) := by rw [hfl, List.length_append, List.length_append, hb8]
    have cN := (number_ok (l.getD i []).length (by omega)).g (G := G0)
    refine awp_seq ?_
    refine awp_block ?_
    generalize l.getD i [] = b at *
    generalize hF1 : frameB (l.take (i + 1)) = F1 at *
    generalize frameB (l.take i) = F0 at *
    refine awp_seq_k fun K hK => awp_region [] ?_
    simp only [qq, K_eqs, aidxAddr, K_ops, Nat.reduceEqDiff, Tryz.underlying43, tszs, hpl, Nat.mul_one, Nat.reduceLT, Int.toNat_natCast, aload, apart, isAggD, Tryz.underlying9, K_nil, Then, List.length_drop, drop_getD, hget]
    (repeat' apply And.intro) <;> try (first | exact True.intro | omega)
    refine hK _ ?_
    clear hK K
    refine awp_keep [3, 5, 6, 7, 8] ?_
    simp only [keep_eqs, K_ops, Nat.reduceEqDiff, if_true, if_false]
    have hbl := hb8 b.length
    generalize be8 b.length 8 = n8 at *
    have hw1 : IntKind.u64.wrap (b.length : Int) = (b.length : Int) := by rw [n_u64, Nat.mod_eq_of_lt (by omega)]
    refine awp_seq_k fun K hK => awp_region [] ?_
    simp only [qq, K_eqs, Nat.reduceLT, K_ops, Nat.reduceEqDiff, abuiltin, amaplen, alen, Tryz.underlying9, ba_size, K_conv, Tryz.underlying30, aconvO, aview, ntok, Tryz.underlying3, aconv, Option.isSome_some, K_call, Nat.reduceAdd, K_clo, aviews, List.headD_cons, hw1, noref]
    refine andC_eq (by simp [norefs_Bs, norefs, noref]) (cN) (by simp [noref, norefs, norefs_Bs, flat]) ?_
    simp only [qq, RestC_eqs, K_eqs, abuiltin, K_ops, Nat.reduceEqDiff, aappend, Tryz.underlying54, tszs, tbys, tzeros, appSrc, srcCells, Bs_length, hbl, Nat.mul_one, Nat.reduceLT, Nat.reduceLeDiff, Bs_one, K_nil, Then]
    refine ⟨⟨by omega, by omega⟩, hK _ ?_⟩
    clear hK K
    refine awp_keep [3, 5, 6, 7, 8] ?_
    simp only [keep_eqs, K_ops, Nat.reduceEqDiff, if_true, if_false]
    refine awp_region [] ?_
    simp only [qq, K_eqs, Nat.reduceLT, K_ops, Nat.reduceEqDiff, abuiltin, aappend, Tryz.underlying54, tszs, tbys, tzeros, appSrc, Tryz.underlying9, srcCells, ba_size, Nat.mul_one, Bs_one, K_nil]
    refine ⟨⟨by rw [List.length_append, Bs_length, Bs_length, hbl], by omega, by omega⟩, ?_⟩
    rw [← Bs_append, ← Bs_append, List.append_assoc, ← hfl, show F0.length + 8 + b.length = F1.length by omega]
    subst hF1
    simp only [InBlock, Then]
    refine awp_keep [3, 6, 7, 8] ?_
    simp only [keep_eqs, K_ops, Nat.reduceEqDiff, if_true, if_false]
    have h6 : IntKind.i64.wrap ((i + 1 : Nat) : Int) = ((i + 1 : Nat) : Int) := n_i64 (by omega)
    refine awp_region [] ?_
    simp only [qq, K_eqs, K_ops, Nat.reduceEqDiff, cav, K_binC, K_int, aint, n_add, h6, Nat.reduceLT, K_nil, Then]
    refine ⟨i + 1, by omega, by omega, .of_keep [3, 6, 7, 8] rfl⟩
  · have he : i = l.length := by have := of_decide_eq_false hq; omega
    subst he
    refine awp_exit ?_
    simp only [Then, InBlock, if_true]
    refine hK1 _ ?_
    clear hK1 K1
    rw [List.take_length]
    refine awp_noperm 3 rfl ?_
    refine awp_keep [3] ?_
    simp only [keep_eqs, K_ops, Nat.reduceEqDiff, if_true, if_false]
    refine awp_seq_k fun K hK => awp_region [] ?_
    simp only [qq, K_eqs, Nat.reduceLT, K_ops, Nat.reduceEqDiff, K_nil, Then]
    (repeat' apply And.intro) <;> try (first | exact True.intro | omega)
    refine hK _ ?_
    clear hK K
    refine awp_keep [2] ?_
    simp only [keep_eqs, K_ops, Nat.reduceEqDiff, if_true, if_false]
    refine awp_ret ?_
    simp only [qq, K_fin, ares, aress, ares1, afin, K_ops, norefs_Bs, ntok]

def deriveB (C : List Nat → List UInt8 → List Nat) (key use : List UInt8) (parts : List (List UInt8)) : List UInt8 := macB C key (frameB [use] ++ frameB parts)

theorem derive_ok [Gv] {C : List Nat → List UInt8 → List Nat} (hC : COk C) (key use : List UInt8) (hk : key.length = 32) (parts : List (List UInt8)) (p : Perm) (hu : use.length ≤ 1000) (hl : (frameB parts).length ≤ 100000000) (hl2 : parts.length ≤ 900000000) :
    ACalls Tryz.prog GP 128 [.agg (Bs key), .val (.string ⟨use.toArray⟩), .sl parts.length (SS parts) p] [] (fun r os => os = [] ∧ r = .agg (Bs (deriveB C key use parts))) := by
  have hfu : (frameB [use]).length = 8 + use.length := by simp [frameB, frame1, be8_length]
  have c1 := (frame_ok [use] .full (by omega) (by simp)).g (G := GP)
  have c2 := (frame_ok parts (ntok p) hl hl2).g (G := GP)
  have c3 := macof_ok hC key .full .full hk [frameB [use], frameB parts] (by simp; omega) (by simp)
  have hd : deriveB C key use parts = macB C key ([frameB [use], frameB parts] : List (List UInt8)).flatten := by simp [deriveB]
  rw [hd]
  have hml := macB_length hC key ([frameB [use], frameB parts] : List (List UInt8)).flatten
  generalize macB C key ([frameB [use], frameB parts] : List (List UInt8)).flatten = S at *
  rw [SS_one] at c1
  rw [show PS [frameB [use], frameB parts] = [.sl (frameB [use]).length (Bs (frameB [use])) .no, .sl (frameB parts).length (Bs (frameB parts)) .no] from rfl, hk] at c3
  obtain ⟨z, hz, hzl⟩ : ∃ z : List UInt8, (zvs .u8 32).map cav = Bs z ∧ z.length = 32 := ⟨List.replicate 32 0, by simp [zvs, Bs, B, cav], by simp⟩
  have zd : z.drop 32 = [] := List.drop_eq_nil_of_le (by omega)
  have hk32 : key.take 32 = key := List.take_of_length_le (by omega)
  refine acalls_of_awp Tryz.func128 rfl rfl Tryz.ntmps128 (rts := #[23]) rfl Tryz.results128 (by simp) ?_
  simp only [argSlots, Nat.reduceAdd]
  refine awp_seq_k fun K hK => awp_region [] ?_
  simp only [qq, K_eqs, aboxF, acells, K_ops, reduceCtorEq, Bs_one, abox, Nat.reduceLT, aalloc, tzeros, hz, K_nil, Then]
  (repeat' apply And.intro) <;> try (first | exact True.intro | omega)
  refine hK _ ?_
  clear hK K
  refine awp_freeze 3 0 (Bs key) rfl rfl (by rw [Bs_length]; omega) (norefs_Bs _) ?_
  refine awp_keep [1, 2, 3, 6] ?_
  simp only [keep_eqs, K_ops, Nat.reduceEqDiff, if_true, if_false]
  refine awp_seq_k fun K hK => ?_
  have hz1 : zrep [Value.string ⟨#[]⟩] 1 = [cav (.string ⟨#[]⟩)] := rfl
  have hz2 : zrep [Value.slice none 0 0] 2 = [cav (.slice none 0 0), cav (.slice none 0 0)] := rfl
  refine awp_draw [] (by kernel_rfl) (by kernel_rfl) ?_
  simp only [qq, K_eqs, aslice, bopt, Option.map_none, Tryz.underlying23, K_ops, Nat.reduceEqDiff, tszs, Bs_length, hk, Nat.mul_one, Nat.reduceLT, abuildOwn, Tryz.underlying43, tzeros, hz1, cav, aparts, afill, spl, acells, List.drop_nil, List.all_cons, oneC, Value.oneCell', List.all_nil, Nat.reduceLeDiff, Nat.reduceAdd, abuildSlice, K_call, K_clo, aviews, aview, norefs, noref, ntok]
  refine andC_eq trivial c1 (by simp [noref, norefs_Bs]) ?_
  simp only [qq, RestC_eqs, K_eqs, Nat.reduceLT, K_ops, Nat.reduceEqDiff, K_call, Nat.reduceAdd, K_clo, aviews, aview, ntok]
  refine andC_eq (norefs_SS _) c2 (by simp [noref, norefs_Bs]) ?_
  simp only [qq, RestC_eqs, K_eqs, abuildOwn, Tryz.underlying318, tszs, tzeros, Nat.mul_one, hz2, cav, aparts, K_ops, Nat.reduceEqDiff, afill, spl, acells, Nat.reduceAdd, List.drop_nil, List.all_cons, oneC, List.all_nil, Nat.reduceLeDiff, abuildSlice, Nat.reduceLT, K_call, K_clo, aviews, aview, norefs_Bs, ntok, norefs, noref]
  refine andC_eq (by simp [norefs, noref, norefs_Bs]) c3 (by simp [noref, norefs_Bs]) ?_
  simp only [qq, RestC_eqs, K_store, astore, K_ops, Nat.reduceEqDiff, tszs, acells, Bs_one, Bs_length, hml, hzl, Nat.reduceLT, spl, Bs_drop, zd, Bs_nil, K_nil, Then]
  refine hK _ ?_
  clear hK K
  refine awp_keep [6] ?_
  simp only [keep_eqs, K_ops, Nat.reduceEqDiff, if_true, if_false]
  refine awp_ret ?_
  have hsz : tsz Tryz.prog 23 = some 32 := by simp only [tszs]
  exact (by
    simp only [V.Fin]
    exact ⟨_, _, ares_cell rfl rfl hsz (by rw [Tryz.underlying23]; rfl) (by rw [Bs_length, hml]), ⟨⟨by rw [Bs_length, hml]; omega, by simp [noref, norefs_Bs]⟩, trivial⟩, trivial, rfl⟩)
theorem deriveB_length [Gv] {C : List Nat → List UInt8 → List Nat} (hC : COk C) (key use : List UInt8) (parts : List (List UInt8)) : (deriveB C key use parts).length = 32 := macB_length hC _ _
theorem vput_ok (l : List UInt8) (p : Perm) (n : Nat) (hn : n < 18446744073709551616) (hl : l.length ≤ 70368744177664) : ACalls Tryz.prog G0 107 [.sl l.length (Bs l) p, .val (.int .u64 (n : Int))] [] (fun r os => os = [] ∧ r = .sl (l ++ vb n).length (Bs (l ++ vb n)) .no) := by
  refine acalls_of_awp Tryz.func107 rfl rfl Tryz.ntmps107 (rts := #[54]) rfl Tryz.results107 (by simp) ?_
  simp only [argSlots, Nat.reduceAdd]
  refine awp_seq_k fun K hK => awp_region [] ?_
  simp only [qq, K_eqs, Nat.reduceLT, K_ops, cav, K_nil, Then]
  (repeat' apply And.intro) <;> try (first | exact True.intro | omega)
  refine hK _ ?_
  clear hK K
  refine awp_seq_k fun K1 hK1 => awp_region [] ?_
  simp only [qq, K_eqs, Nat.reduceLT, K_ops, reduceCtorEq, K_call, Nat.reduceAdd, Nat.reduceEqDiff, K_clo, aviews, aview, norefs_Bs, ntok]
  refine andC_eq trivial (clip_ok l _) (by simp [noref, norefs_Bs]) ?_
  simp only [qq, RestC_eqs, K_eqs, Nat.reduceLT, K_ops, Nat.reduceEqDiff, reduceCtorEq, K_nil, Then]
  refine hK1 _ ?_
  clear hK1 K1
  refine awp_keep [0, 1] ?_
  simp only [keep_eqs, K_ops, Nat.reduceEqDiff, if_true, if_false]
  refine awp_seq_k fun K hK => ?_
  refine awp_block ?_
  refine awp_tok 1 0 rfl ?_
  refine awp_loop_from (fun x : List UInt8 × Nat => ⟨22, [(0, .sl x.1.length (Bs x.1) (.tok 0)), (1, .val (.int .u64 (x.2 : Int)))], [.tok 1 x.1.length]⟩) (fun x => x.2 < 18446744073709551616 ∧ x.1 ++ vb x.2 = l ++ vb n) (fun x => x.2) (l, n) ⟨hn, rfl⟩ (.of_keep [0, 1] (by exact rfl)) ?_
  rintro ⟨m, x⟩ ⟨hx, he⟩
  simp only at hx he
  refine awp_seq (awp_seq ?_)
  refine awp_region [] ?_
  simp only [qq, K_eqs, Nat.reduceLT, K_ops, reduceCtorEq, Nat.reduceEqDiff, cav, K_binC, K_int, aint, K_nil, Then]
  (repeat' apply And.intro) <;> try (first | exact True.intro | omega)
  refine awp_cond rfl rfl (fun h => ?_) (fun h => ?_)
  · have hge : 128 ≤ x := by simp at h; omega
    refine awp_skip ?_
    simp only [Then]
    refine awp_keep [0, 1] ?_
    simp only [keep_eqs, K_ops, Nat.reduceEqDiff, if_true, if_false]
    refine awp_seq ?_
    refine awp_block ?_
    refine awp_region [] ?_
    simp only [qq, K_eqs, Nat.reduceLT, K_ops, reduceCtorEq, Nat.reduceEqDiff, K_conv, Tryz.underlying5, aconvO, aview, noref, aconv, Tryz.underlying30, Option.isSome_some, n_u8, cav, K_binC, K_int, aint, n_or8l, abuildOwn, Tryz.underlying54, tszs, tzeros, Nat.mul_one, zrep_byte, List.replicate_succ, List.replicate_zero, aparts, afill, spl, acells, Bs_drop, List.drop_nil, Bs_nil, Bs_length, List.all_cons, oneC, Value.oneCell', List.all_nil, Nat.reduceLeDiff, abuildSlice, abuiltin, aappend, tbys, appSrc, srcCells, K_nil]
    have hlen := congrArg List.length he
    have h10 := vb_len10 hn
    simp only [List.length_append] at hlen
    have hpos := List.length_pos_iff.2 (vb_ne x)
    refine ⟨⟨by omega, by omega⟩, ?_⟩
    simp only [InBlock, Then]
    refine awp_keep [0, 1] ?_
    simp only [keep_eqs, K_ops, Nat.reduceEqDiff, if_true, if_false]
    refine awp_region [] ?_
    simp only [qq, K_eqs, Nat.reduceLT, K_ops, reduceCtorEq, Nat.reduceEqDiff, cav, K_binC, K_int, aint, Int.reduceLE, Int.reduceToNat, IntKind.bits, Nat.min_def, Nat.reduceLeDiff, n_fdiv, K_nil, Then]
    rw [B_of, B_app]
    refine ⟨(m ++ [UInt8.ofNat (x % 256 ||| 128)], x / 128), ⟨by omega, ?_⟩, by omega, ?_⟩
    · rw [← he, List.append_assoc, vb_more hge]
      congr 1
      have h8 : ∀ y : Nat, y < 256 → y ||| 128 = y % 128 + 128 := by decide +kernel
      rw [h8 _ (by omega), show x % 256 % 128 = x % 128 by omega]
      rfl
    · rw [show m.length + 1 = (m ++ [UInt8.ofNat (x % 256 ||| 128)]).length by simp]
      exact .of_keep [0, 1] rfl
  · have hlt : x < 128 := by have := of_decide_eq_false h; omega
    refine awp_exit ?_
    simp only [Then, InBlock, if_true]
    refine hK _ ?_
    clear hK K
    refine awp_keep [0, 1] ?_
    simp only [keep_eqs, K_ops, Nat.reduceEqDiff, if_true, if_false]
    have hlen := congrArg List.length he
    have h10 := vb_len10 hn
    simp only [List.length_append] at hlen
    have hpos := List.length_pos_iff.2 (vb_ne x)
    refine awp_seq_k fun K hK => awp_region [] ?_
    simp only [qq, K_eqs, Nat.reduceLT, K_ops, reduceCtorEq, Nat.reduceEqDiff, K_conv, Tryz.underlying5, aconvO, aview, noref, aconv, Tryz.underlying30, Option.isSome_some, n_u8, abuildOwn, Tryz.underlying54, tszs, tzeros, Nat.mul_one, zrep_byte, List.replicate_succ, List.replicate_zero, aparts, afill, spl, acells, Bs_drop, List.drop_nil, Bs_nil, Bs_length, List.all_cons, oneC, Value.oneCell', List.all_nil, Nat.reduceLeDiff, abuildSlice, abuiltin, aappend, tbys, appSrc, srcCells, K_nil, Then]
    (repeat' apply And.intro) <;> try (first | exact True.intro | omega)
    refine hK _ ?_
    clear hK K
    refine awp_keep [4] ?_
    simp only [keep_eqs, K_ops, Nat.reduceEqDiff, if_true, if_false]
    rw [B_of, B_app]
    refine awp_ret ?_
    simp only [qq, Then, InBlock, K_fin, ares, aress, ares1, afin, ntok, noref, eq_self, K_ops, Nat.reduceEqDiff, List.headD_cons, List.tail_cons, norefs_Bs]
    rw [← he, vb_small hlt]
    simp
def tup2 (x : Nat × Nat) : AV := .tup [.val (.int .u64 (x.1 : Int)), .val (.int .i64 (x.2 : Int))]

theorem vget_ok (b : List UInt8) (p : Perm) (hb : b.length ≤ 70368744177664) : ACalls Tryz.prog G0 216 [.sl b.length (Bs b) p] [] (fun r os => os = [] ∧ r = tup2 (G b)) := by
  refine acalls_of_awp Tryz.func216 rfl rfl Tryz.ntmps216 (rts := #[30,3]) rfl Tryz.results216 (by simp) ?_
  simp only [argSlots, Nat.reduceAdd]
  refine awp_seq_k fun K hK => awp_region [] ?_
  simp only [qq, K_eqs, Nat.reduceLT, K_ops, cav, K_nil, Then]
  (repeat' apply And.intro) <;> try (first | exact True.intro | omega)
  refine hK _ ?_
  clear hK K
  refine awp_keep [0, 2, 3] ?_
  simp only [keep_eqs, K_ops, Nat.reduceEqDiff, if_true, if_false]
  refine awp_seq_k fun K1 hK1 => ?_
  refine awp_seq_k fun K hK => awp_region [] ?_
  simp only [qq, K_eqs, Nat.reduceLT, K_ops, reduceCtorEq, abuiltin, Nat.reduceEqDiff, amaplen, alen, Tryz.underlying54, cav, amin2, aslice, bopt, Option.map_none, Option.map_some, tszs, Bs_length, Nat.mul_one, lowOf, highOf, ne_eq, Bs_drop, Bs_take, sliceP, K_nil, Then, Int.le_refl, true_or, Int.sub_zero, Int.toNat_zero]
  (repeat' apply And.intro) <;> try (first | exact True.intro | omega)
  refine hK _ ?_
  clear hK K
  rw [show (if (10 : Int) < ↑b.length then (10 : Int) else ↑b.length) = ((min b.length 10 : Nat) : Int) by split <;> omega]
  simp only [Int.toNat_natCast]
  obtain ⟨m, hm⟩ : ∃ m, m = min b.length 10 := ⟨_, rfl⟩
  obtain ⟨c, hc⟩ : ∃ c, c = b.take m := ⟨_, rfl⟩
  have hcl : c.length = m := by rw [hc, List.length_take]; omega
  have hcg : ∀ k, k < m → c.getD k 0 = b.getD k 0 := fun k hk => by
    rw [hc]
    simp [List.getD_eq_getElem?_getD, List.getElem?_take, hk]
  rw [← hm, ← hc]
  refine awp_keep [2, 3, 10, 11, 12] ?_
  simp only [keep_eqs, K_ops, Nat.reduceEqDiff, if_true, if_false]
  refine awp_block ?_
  refine awp_loop_from (fun i : Nat => ⟨43, [(2, .val (.int .u64 (val (b.take i) : Int))), (3, .val (.int .i64 0)), (10, .sl m (Bs c) .no), (11, .val (.int .i64 (m : Int))), (12, .val (.int .i64 (i : Int)))], []⟩)
    (fun i => i ≤ m ∧ ∀ k, k < i → 128 ≤ (b.getD k 0).toNat) (fun i => 10 - i) 0 ⟨by omega, fun k h => by omega⟩ (.of_keep [2, 3, 10, 11, 12] (by exact rfl)) ?_
  rintro i ⟨hi, hall⟩
  have done : ∀ s : St, G b = (0, 0) → Weak G0 s ⟨43, [], []⟩ → K1 s := by
    intro s he hw
    refine hK1 s (awp_weak hw ?_)
    refine awp_seq_k fun K hK => awp_region [] ?_
    simp only [qq, K_eqs, Nat.reduceLT, K_ops, cav, K_nil, Then]
    (repeat' apply And.intro) <;> try (first | exact True.intro | omega)
    refine hK _ ?_
    clear hK K
    refine awp_ret ?_
    simp only [qq, K_fin, ares, aress, ares1, afin, K_ops, Nat.reduceEqDiff, noref]
    rw [he]
    rfl
  refine awp_seq_k fun K hK => awp_region [] ?_
  simp only [qq, K_eqs, K_ops, Nat.reduceEqDiff, K_binC, K_int, aint, d_ltn, Nat.reduceLT, K_nil, Then]
  (repeat' apply And.intro) <;> try (first | exact True.intro | omega)
  refine hK _ ?_
  clear hK K
  refine awp_seq ?_
  refine awp_cond rfl rfl (fun h => ?_) (fun h => ?_)
  · have hlt : i < m := of_decide_eq_true h
    have hg := hcg i hlt
    refine awp_skip ?_
    simp only [Then]
    refine awp_keep [2, 3, 10, 11, 12] ?_
    simp only [keep_eqs, K_ops, Nat.reduceEqDiff, if_true, if_false]
    refine awp_seq ?_
    refine awp_block ?_
    have hpos : 0 < m - i := by omega
    refine awp_seq_k fun K hK => awp_region [] ?_
    simp only [qq, K_eqs, Nat.reduceLT, K_ops, Nat.reduceEqDiff, aidxAddr, Tryz.underlying54, tszs, Bs_length, hcl, Nat.mul_one, Int.toNat_natCast, Bs_drop, aload, apart, isAggD, Tryz.underlying5, K_nil, Then, List.length_drop, hpos, Bs_getD, B, drop_getD, hg]
    (repeat' apply And.intro) <;> try (first | exact True.intro | omega)
    refine hK _ ?_
    clear hK K
    refine awp_keep [2, 3, 4, 5, 10, 11, 12] ?_
    simp only [keep_eqs, K_ops, Nat.reduceEqDiff, if_true, if_false]
    have hat := G_at b i hall (by omega) (by omega)
    have hor := or_val b i (by omega) (by omega)
    generalize hx : b.getD i 0 = x at hat hor
    refine awp_seq ?_
    refine awp_seq_k fun K hK => ?_
    have next : ∀ (t : Bool) (s : St), t = decide (i = 9 ∧ 1 < x.toNat) → Weak G0 s ⟨43, [(22, .val (.bool t)), (2, .val (.int .u64 (val (b.take i) : Int))), (3, .val (.int .i64 0)), (4, .val (.int .i64 (i : Int))), (5, .val (.int .u8 (x.toNat : Int))), (10, .sl m (Bs c) .no), (11, .val (.int .i64 (m : Int))), (12, .val (.int .i64 (i : Int)))], []⟩ → K s := by
      intro t s ht hw
      refine hK s (awp_weak hw ?_)
      clear hw hK K
      refine awp_cond rfl rfl (fun h => ?_) (fun h => ?_)
      · have h91 : i = 9 ∧ 1 < x.toNat := of_decide_eq_true (ht.symm.trans h)
        rw [if_pos h91] at hat
        refine awp_exit ?_
        simp only [Then, InBlock, Nat.reduceEqDiff, if_true, if_false]
        exact done _ hat (.of_keep [] (by exact rfl))
      · have h91 : ¬ (i = 9 ∧ 1 < x.toNat) := of_decide_eq_false (ht.symm.trans h)
        rw [if_neg h91] at hat
        refine awp_skip ?_
        simp only [Then]
        refine awp_keep [2, 3, 4, 5, 10, 11, 12] ?_
        simp only [keep_eqs, K_ops, Nat.reduceEqDiff, if_true, if_false]
        have hor := hor (by omega)
        have h7 : IntKind.i64.wrap ((7 * i : Nat) : Int) = ((7 * i : Nat) : Int) := n_i64 (by omega)
        have h64 : (if 7 * i ≤ 64 then 7 * i else 64) = 7 * i := if_pos (by omega)
        have h8 : x.toNat % 128 % 18446744073709551616 = x.toNat % 128 := by omega
        refine awp_seq_k fun K hK => awp_region [] ?_
        simp only [qq, K_eqs, Nat.reduceLT, K_ops, Nat.reduceEqDiff, cav, K_binC, K_int, aint, ne_eq, Int.reduceEq, n_tmod, K_conv, Tryz.underlying30, aconvO, aview, noref, aconv, Tryz.underlying5, Option.isSome_some, n_u64, h8, n_rmul, h7, Int.toNat_natCast, IntKind.bits, Nat.min_def, h64, n_shl, n_or64, hor, K_nil, Then]
        (repeat' apply And.intro) <;> try (first | exact True.intro | omega)
        refine hK _ ?_
        clear hK K
        refine awp_keep [2, 3, 4, 5, 10, 11, 12] ?_
        simp only [keep_eqs, K_ops, Nat.reduceEqDiff, if_true, if_false]
        refine awp_seq_k fun K hK => awp_region [] ?_
        simp only [qq, K_eqs, Nat.reduceLT, K_ops, Nat.reduceEqDiff, cav, K_binC, K_int, aint, d_lt, K_nil, Then]
        (repeat' apply And.intro) <;> try (first | exact True.intro | omega)
        refine hK _ ?_
        clear hK K
        refine awp_cond rfl rfl (fun h => ?_) (fun h => ?_)
        · have hx8 : x.toNat < 128 := of_decide_eq_true h
          rw [if_pos hx8] at hat
          refine awp_keep [2, 3, 4, 5, 10, 11, 12] ?_
          simp only [keep_eqs, K_ops, Nat.reduceEqDiff, if_true, if_false]
          refine awp_seq ?_
          refine awp_seq_k fun K hK => ?_
          have next : ∀ (t : Bool) (s : St), t = decide (0 < i ∧ x.toNat = 0) → Weak G0 s ⟨43, [(38, .val (.bool t)), (2, .val (.int .u64 (val (b.take (i + 1)) : Int))), (4, .val (.int .i64 (i : Int)))], []⟩ → K s := by
            intro t s ht hw
            refine hK s (awp_weak hw ?_)
            clear hw hK K
            refine awp_cond rfl rfl (fun h => ?_) (fun h => ?_)
            · have h91 : 0 < i ∧ x.toNat = 0 := of_decide_eq_true (ht.symm.trans h)
              rw [if_pos h91] at hat
              refine awp_exit ?_
              simp only [Then, InBlock, Nat.reduceEqDiff, if_true, if_false]
              exact done _ hat (.of_keep [] (by exact rfl))
            · have h91 : ¬ (0 < i ∧ x.toNat = 0) := of_decide_eq_false (ht.symm.trans h)
              rw [if_neg h91] at hat
              refine awp_skip ?_
              simp only [Then]
              have h6 : IntKind.i64.wrap ((i + 1 : Nat) : Int) = ((i + 1 : Nat) : Int) := n_i64 (by omega)
              refine awp_seq_k fun K hK => awp_region [] ?_
              simp only [qq, K_eqs, Nat.reduceLT, K_ops, Nat.reduceEqDiff, cav, K_binC, K_int, aint, n_add, h6, K_nil, Then]
              (repeat' apply And.intro) <;> try (first | exact True.intro | omega)
              refine hK _ ?_
              clear hK K
              refine awp_keep [2, 3] ?_
              simp only [keep_eqs, K_ops, Nat.reduceEqDiff, if_true, if_false]
              refine awp_ret ?_
              simp only [qq, Then, InBlock, K_fin, ares, aress, ares1, afin, ntok, noref, eq_self, K_ops, Nat.reduceEqDiff, List.headD_cons, List.tail_cons]
              rw [hat]
              rfl
          by_cases h0 : 0 < i
          · have h0' : decide (0 < i) = true := by simpa using h0
            refine awp_region [] ?_
            simp only [qq, K_eqs, Nat.reduceLT, K_ops, Nat.reduceEqDiff, cav, K_binC, K_int, aint, d_gt, h0', gval, gslot, Option.bind_some, gdec_eqs, K_gT, gok, d_eq, apick, K_nil, Then]
            (repeat' apply And.intro) <;> try (first | exact True.intro | omega)
            refine next _ _ ?_ (.of_keep [38, 2, 4] (by exact rfl))
            rw [Bool.eq_iff_iff]
            simp [h0]
          · have h0' : decide (0 < i) = false := by simpa using h0
            refine awp_region [] ?_
            simp only [qq, K_eqs, Nat.reduceLT, K_ops, Nat.reduceEqDiff, cav, K_binC, K_int, aint, d_gt, h0', gval, gslot, Option.bind_some, gdec_eqs, Bool.not_true, K_gF, gok, apick, K_nil, Then]
            (repeat' apply And.intro) <;> try (first | exact True.intro | omega)
            refine next _ _ ?_ (.of_keep [38, 2, 4] (by exact rfl))
            simp [h0]
        · have hx8 : 128 ≤ x.toNat := by have := of_decide_eq_false h; omega
          refine awp_skip ?_
          simp only [Then, InBlock]
          refine awp_keep [2, 3, 10, 11, 12] ?_
          simp only [keep_eqs, K_ops, Nat.reduceEqDiff, if_true, if_false]
          have h6 : IntKind.i64.wrap ((i + 1 : Nat) : Int) = ((i + 1 : Nat) : Int) := n_i64 (by omega)
          refine awp_region [] ?_
          simp only [qq, K_eqs, K_ops, Nat.reduceEqDiff, cav, K_binC, K_int, aint, n_add, h6, Nat.reduceLT, K_nil, Then]
          (repeat' apply And.intro) <;> try (first | exact True.intro | omega)
          refine ⟨i + 1, ⟨by omega, fun k hk => ?_⟩, by omega, .of_keep [2, 3, 10, 11, 12] rfl⟩
          by_cases e : k = i
          · subst e; rw [hx]; exact hx8
          · exact hall k (by omega)
    by_cases h9 : i = 9
    · refine awp_region [] ?_
      have h9' : (i == 9) = true := by simpa using h9
      simp only [qq, K_eqs, Nat.reduceLT, K_ops, Nat.reduceEqDiff, cav, K_binC, K_int, aint, d_eq, h9', gval, gslot, Option.bind_some, gdec_eqs, K_gT, gok, d_gt, apick, K_nil, Then]
      (repeat' apply And.intro) <;> try (first | exact True.intro | omega)
      refine next _ _ ?_ (.of_keep [22, 2, 3, 4, 5, 10, 11, 12] (by exact rfl))
      simp [h9]
    · have h9' : (i == 9) = false := by simpa using h9
      refine awp_region [] ?_
      simp only [qq, K_eqs, Nat.reduceLT, K_ops, Nat.reduceEqDiff, cav, K_binC, K_int, aint, d_eq, h9', gval, gslot, Option.bind_some, gdec_eqs, Bool.not_true, K_gF, gok, apick, K_nil, Then]
      (repeat' apply And.intro) <;> try (first | exact True.intro | omega)
      refine next _ _ ?_ (.of_keep [22, 2, 3, 4, 5, 10, 11, 12] (by exact rfl))
      simp [h9]
  · have hge : i = m := by have := of_decide_eq_false h; omega
    refine awp_exit ?_
    simp only [Then, InBlock, if_true]
    exact done _ (G_end b i hall (by omega)) (.of_keep [] (by exact rfl))
@[simp] theorem noref_tup2 (x : Nat × Nat) : noref (tup2 x) = true := rfl
@[simp] theorem flat_tup2 (x : Nat × Nat) : flat (tup2 x) = true := rfl
theorem tup2_eq (x : Nat × Nat) : tup2 x = .tup [.val (.int .u64 (x.1 : Int)), .val (.int .i64 (x.2 : Int))] := rfl
theorem vputT_ok (l : List UInt8) (p : Perm) (n : Nat) (hn : n < 18446744073709551616) (hl : l.length ≤ 70368744177664) : ACalls Tryz.prog G0 107 [.sl l.length (Bs l) p, .val (.int .u64 (n : Int))] [] (fun r os => os = [.tok 1 (l ++ vb n).length] ∧ r = .sl (l ++ vb n).length (Bs (l ++ vb n)) (.tok 0)) := by
  refine acallsH_of_awp Tryz.func107 rfl rfl Tryz.ntmps107 (rts := #[54]) rfl Tryz.results107 (by simp) ?_
  simp only [argSlots, Nat.reduceAdd]
  refine awp_seq_k fun K hK => awp_region [] ?_
  simp only [qq, K_eqs, Nat.reduceLT, K_ops, cav, K_nil, Then]
  (repeat' apply And.intro) <;> try (first | exact True.intro | omega)
  refine hK _ ?_
  clear hK K
  refine awp_seq_k fun K1 hK1 => awp_region [] ?_
  simp only [qq, K_eqs, Nat.reduceLT, K_ops, reduceCtorEq, K_call, Nat.reduceAdd, Nat.reduceEqDiff, K_clo, aviews, aview, norefs_Bs, ntok]
  refine andC_eq trivial (clip_ok l _) (by simp [noref, norefs_Bs]) ?_
  simp only [qq, RestC_eqs, K_eqs, Nat.reduceLT, K_ops, Nat.reduceEqDiff, reduceCtorEq, K_nil, Then]
  refine hK1 _ ?_
  clear hK1 K1
  refine awp_keep [0, 1] ?_
  simp only [keep_eqs, K_ops, Nat.reduceEqDiff, if_true, if_false]
  refine awp_seq_k fun K hK => ?_
  refine awp_block ?_
  refine awp_tok 1 0 rfl ?_
  refine awp_loop_from (fun x : List UInt8 × Nat => ⟨22, [(0, .sl x.1.length (Bs x.1) (.tok 0)), (1, .val (.int .u64 (x.2 : Int)))], [.tok 1 x.1.length]⟩) (fun x => x.2 < 18446744073709551616 ∧ x.1 ++ vb x.2 = l ++ vb n) (fun x => x.2) (l, n) ⟨hn, rfl⟩ (.of_keep [0, 1] (by exact rfl)) ?_
  rintro ⟨m, x⟩ ⟨hx, he⟩
  simp only at hx he
  refine awp_seq (awp_seq ?_)
  refine awp_region [] ?_
  simp only [qq, K_eqs, Nat.reduceLT, K_ops, reduceCtorEq, Nat.reduceEqDiff, cav, K_binC, K_int, aint, K_nil, Then]
  (repeat' apply And.intro) <;> try (first | exact True.intro | omega)
  refine awp_cond rfl rfl (fun h => ?_) (fun h => ?_)
  · have hge : 128 ≤ x := by simp at h; omega
    refine awp_skip ?_
    simp only [Then]
    refine awp_keep [0, 1] ?_
    simp only [keep_eqs, K_ops, Nat.reduceEqDiff, if_true, if_false]
    refine awp_seq ?_
    refine awp_block ?_
    refine awp_region [] ?_
    simp only [qq, K_eqs, Nat.reduceLT, K_ops, reduceCtorEq, Nat.reduceEqDiff, K_conv, Tryz.underlying5, aconvO, aview, noref, aconv, Tryz.underlying30, Option.isSome_some, n_u8, cav, K_binC, K_int, aint, n_or8l, abuildOwn, Tryz.underlying54, tszs, tzeros, Nat.mul_one, zrep_byte, List.replicate_succ, List.replicate_zero, aparts, afill, spl, acells, Bs_drop, List.drop_nil, Bs_nil, Bs_length, List.all_cons, oneC, Value.oneCell', List.all_nil, Nat.reduceLeDiff, abuildSlice, abuiltin, aappend, tbys, appSrc, srcCells, K_nil]
    have hlen := congrArg List.length he
    have h10 := vb_len10 hn
    simp only [List.length_append] at hlen
    have hpos := List.length_pos_iff.2 (vb_ne x)
    refine ⟨⟨by omega, by omega⟩, ?_⟩
    simp only [InBlock, Then]
    refine awp_keep [0, 1] ?_
    simp only [keep_eqs, K_ops, Nat.reduceEqDiff, if_true, if_false]
    refine awp_region [] ?_
    simp only [qq, K_eqs, Nat.reduceLT, K_ops, reduceCtorEq, Nat.reduceEqDiff, cav, K_binC, K_int, aint, Int.reduceLE, Int.reduceToNat, IntKind.bits, Nat.min_def, Nat.reduceLeDiff, n_fdiv, K_nil, Then]
    rw [B_of, B_app]
    refine ⟨(m ++ [UInt8.ofNat (x % 256 ||| 128)], x / 128), ⟨by omega, ?_⟩, by omega, ?_⟩
    · rw [← he, List.append_assoc, vb_more hge]
      congr 1
      have h8 : ∀ y : Nat, y < 256 → y ||| 128 = y % 128 + 128 := by decide +kernel
      rw [h8 _ (by omega), show x % 256 % 128 = x % 128 by omega]
      rfl
    · rw [show m.length + 1 = (m ++ [UInt8.ofNat (x % 256 ||| 128)]).length by simp]
      exact .of_keep [0, 1] rfl
  · have hlt : x < 128 := by have := of_decide_eq_false h; omega
    refine awp_exit ?_
    simp only [Then, InBlock, if_true]
    refine hK _ ?_
    clear hK K
    refine awp_keep [0, 1] ?_
    simp only [keep_eqs, K_ops, Nat.reduceEqDiff, if_true, if_false]
    have hlen := congrArg List.length he
    have h10 := vb_len10 hn
    simp only [List.length_append] at hlen
    have hpos := List.length_pos_iff.2 (vb_ne x)
    refine awp_seq_k fun K hK => awp_region [] ?_
    simp only [qq, K_eqs, Nat.reduceLT, K_ops, reduceCtorEq, Nat.reduceEqDiff, K_conv, Tryz.underlying5, aconvO, aview, noref, aconv, Tryz.underlying30, Option.isSome_some, n_u8, abuildOwn, Tryz.underlying54, tszs, tzeros, Nat.mul_one, zrep_byte, List.replicate_succ, List.replicate_zero, aparts, afill, spl, acells, Bs_drop, List.drop_nil, Bs_nil, Bs_length, List.all_cons, oneC, Value.oneCell', List.all_nil, Nat.reduceLeDiff, abuildSlice, abuiltin, aappend, tbys, appSrc, srcCells, K_nil, Then]
    (repeat' apply And.intro) <;> try (first | exact True.intro | omega)
    refine hK _ ?_
    clear hK K
    refine awp_keep [4] ?_
    simp only [keep_eqs, K_ops, Nat.reduceEqDiff, if_true, if_false]
    rw [B_of, B_app]
    have e1 : m ++ [UInt8.ofNat x] = l ++ vb n := by rw [← he, vb_small hlt]
    have e2 : m.length + 1 = (l ++ vb n).length := by rw [← e1]; simp
    rw [e1, e2]
    refine awp_ret ?_
    exact FinH_tok 4 0 1 rfl rfl (norefs_Bs _) ⟨rfl, rfl⟩

theorem fput_ok (l : List UInt8) (p : Perm) (f : FieldV) (hl : l.length ≤ 35184372088832) (hf : f.2.length ≤ 35184372088832) : ACalls Tryz.prog G0 51 [.sl l.length (Bs l) p, .agg (FA f)] [] (fun r os => os = [] ∧ r = .sl (l ++ fby f).length (Bs (l ++ fby f)) .no) := by
  obtain ⟨k, v⟩ := f
  simp only at hf
  have hv10 := vb_len10 (n := v.length) (by omega)
  have lt : l.take l.length = l := List.take_of_length_le (Nat.le_refl _)
  refine acalls_of_awp Tryz.func51 rfl rfl Tryz.ntmps51 (rts := #[54]) rfl Tryz.results51 (by simp) ?_
  simp only [argSlots, Nat.reduceAdd]
  refine awp_seq_k fun K hK => awp_region [] ?_
  simp only [qq, FA, B, K_eqs, aboxF, acells, K_ops, reduceCtorEq, List.all_cons, oneC, Value.oneCell', List.all_nil, abox, Nat.reduceLT, cav, K_nil, Then]
  (repeat' apply And.intro) <;> try (first | exact True.intro | omega)
  refine hK _ ?_
  clear hK K
  refine awp_freeze 3 0 [AV.val (Value.int IntKind.u8 (k.toNat : Int)), AV.val (Value.string { data := v.toArray })] rfl rfl (by simp) rfl ?_
  refine awp_keep [0, 3] ?_
  simp only [keep_eqs, K_ops, Nat.reduceEqDiff, if_true, if_false]
  refine awp_seq_k fun K hK => ?_
  refine awp_draw [12] (by kernel_rfl) (by kernel_rfl) ?_
  simp only [qq, K_eqs, Nat.reduceLT, K_ops, reduceCtorEq, abuiltin, Nat.reduceEqDiff, List.contains_cons, Nat.reduceBEq, amaplen, alen, Tryz.underlying54, aslice, bopt, Option.map_none, Option.map_some, tszs, Bs_length, Nat.mul_one, lowOf, highOf, ne_eq, Bs_drop, Bs_take, sliceP, afieldAddr, Tryz.underlying124, Nat.reduceAdd, Nat.reduceLeDiff, aload, beq_self_eq_true, apart, isAggD, Tryz.underlying5, abuildOwn, tzeros, zrep_byte, List.replicate_succ, List.replicate_zero, aparts, afill, spl, acells, abuildSlice, aappend, tbys, appSrc, srcCells, K_nil, Then, List.all_cons, oneC, Value.oneCell', List.all_nil, List.drop_nil, Bs_nil, Int.le_refl, or_true, Int.sub_zero, Int.toNat_natCast, Int.toNat_zero, lt]
  refine ⟨by omega, ⟨by omega, by omega⟩, hK _ ?_⟩
  clear hK K
  refine awp_keep [0, 3] ?_
  simp only [keep_eqs, K_ops, Nat.reduceEqDiff, if_true, if_false]
  obtain ⟨L, hL⟩ : ∃ L, L = l ++ [k] := ⟨_, rfl⟩
  have hLl : l.length + 1 = L.length := by rw [hL, List.length_append]; rfl
  have hLb : Bs l ++ [AV.val (Value.int IntKind.u8 (k.toNat : Int))] = Bs L := by rw [hL, Bs_append]; rfl
  rw [hLl, hLb]
  have hvn : v.length % 18446744073709551616 = v.length := Nat.mod_eq_of_lt (by omega)
  have cP := fun q => vputT_ok L q v.length (by omega) (by omega)
  have hres : l ++ fby (k, v) = (L ++ vb v.length) ++ v := by rw [hL]; simp [fby]
  rw [hres]
  generalize hQ : L ++ vb v.length = Q at cP ⊢
  have hQl : Q.length ≤ 35184372088832 + 11 := by rw [← hQ, List.length_append]; omega
  refine awp_seq_k fun K hK => ?_
  refine awp_draw [1000020, 17, 22] (by kernel_rfl) (by kernel_rfl) ?_
  simp only [qq, K_eqs, Nat.reduceLT, K_ops, reduceCtorEq, afieldAddr, Tryz.underlying124, tszs, Nat.reduceEqDiff, ne_eq, Nat.reduceAdd, Nat.reduceLeDiff, aload, List.contains_cons, Nat.reduceBEq, beq_self_eq_true, Bool.false_or, apart, isAggD, Tryz.underlying9, abuiltin, amaplen, alen, K_conv, Tryz.underlying30, aconvO, aview, ntok, Tryz.underlying3, aconv, Option.isSome_some, K_call, K_clo, aviews, norefs_Bs, List.tail_cons, List.headD_cons, ba_size, n_u64, hvn]
  refine andH_tok (by simp [hviews, hview, noref, norefs, norefs_Bs, ntok]) (cP .no) (by simp [norefs_Bs]) ?_
  simp only [qq, Nat.reduceAdd, RestH_eqs, K_eqs, afieldAddr, Tryz.underlying124, tszs, K_ops, Nat.reduceEqDiff, reduceCtorEq, ne_eq, Nat.reduceLeDiff, Nat.reduceLT, aload, List.contains_cons, Nat.reduceBEq, beq_self_eq_true, Bool.false_or, apart, isAggD, Tryz.underlying9, abuiltin, aappend, Tryz.underlying54, tbys, tzeros, appSrc, srcCells, Nat.mul_one, Bs_length, K_nil, Then, ba_size, Bs_one, ← Bs_append]
  refine ⟨⟨by omega, by omega⟩, hK _ ?_⟩
  clear hK K
  refine awp_keep [4] ?_
  simp only [keep_eqs, K_ops, Nat.reduceEqDiff, if_true, if_false]
  rw [show Q.length + v.length = (Q ++ v).length by simp]
  refine awp_ret ?_
  simp only [qq, K_fin, ares, aress, ares1, afin, K_ops, norefs_Bs, ntok]



theorem take_snocF (l : List FieldV) (i : Nat) (h : i < l.length) : l.take (i + 1) = l.take i ++ [l.getD i (0, [])] := by
  rw [List.take_add_one, List.getD_eq_getElem?_getD, List.getElem?_eq_getElem h]
  rfl
def gtup : Option (FieldV × Nat) → AV
  | none => .tup [.agg (FA (0, [])), .val (.int .i64 0), .val (.bool false)]
  | some (f, k) => .tup [.agg (FA f), .val (.int .i64 (k : Int)), .val (.bool true)]
theorem fget_ok (b : List UInt8) (hb : b.length ≤ 70368744177664) : ACalls Tryz.prog G0 166 [.sl b.length (Bs b) .no] [] (fun r os => os = [] ∧ r = gtup (getF b)) := by
  obtain ⟨fs, hu, hs⟩ : ∃ fs, Tryz.prog.underlying 124 = some (.struct fs) ∧ sfields Tryz.prog fs = some [(0, 1), (1, 1)] := ⟨_, Tryz.underlying124, by kernel_rfl⟩
  have cG := vget_ok (b.drop 1) .no (by rw [List.length_drop]; omega)
  have hgle := G_le (b.drop 1)
  have hget : getF b = if b.length = 0 ∨ (G (b.drop 1)).2 = 0 ∨ b.length - 1 - (G (b.drop 1)).2 < (G (b.drop 1)).1 then none
      else some ((b.getD 0 0, (b.drop (1 + (G (b.drop 1)).2)).take (G (b.drop 1)).1), 1 + (G (b.drop 1)).2 + (G (b.drop 1)).1) := rfl
  rw [List.length_drop] at cG hgle
  rw [tup2_eq] at cG
  obtain ⟨n, hn⟩ : ∃ n, n = (G (b.drop 1)).1 := ⟨_, rfl⟩
  obtain ⟨k, hk⟩ : ∃ k, k = (G (b.drop 1)).2 := ⟨_, rfl⟩
  rw [← hn, ← hk] at cG hgle hget
  clear hn hk
  refine acalls_of_awp Tryz.func166 rfl rfl Tryz.ntmps166 (rts := #[124,3,4]) rfl Tryz.results166 (by simp) ?_
  simp only [argSlots, Nat.reduceAdd]
  refine awp_seq_k fun K hK => awp_region [] ?_
  simp only [qq, K_eqs, aalloc, tzeros, cav, Nat.reduceLT, K_ops, K_nil, Then]
  (repeat' apply And.intro) <;> try (first | exact True.intro | omega)
  refine hK _ ?_
  clear hK K
  refine awp_seq_k fun K1 hK1 => ?_
  refine awp_seq_k fun K hK => awp_region [] ?_
  simp only [qq, K_eqs, Nat.reduceLT, K_ops, reduceCtorEq, abuiltin, Nat.reduceEqDiff, amaplen, alen, Tryz.underlying54, cav, K_binC, K_nil, Then, K_int, aint, d_eq]
  refine hK _ ?_
  clear hK K
  refine awp_cond rfl rfl (fun h => ?_) (fun h => ?_)
  · have h0 : b.length = 0 := by simpa using h
    rw [if_pos (.inl h0)] at hget
    rw [hget]
    refine awp_keep [2] ?_
    simp only [keep_eqs, K_ops, Nat.reduceEqDiff, if_true, if_false]
    refine awp_seq_k fun K hK => awp_region [] ?_
    simp only [qq, K_eqs, aload, K_ops, apart, isAggD, hu, tszs, Nat.reduceAdd, List.take_nil, Nat.reduceLT, K_store, astore, Nat.reduceEqDiff, acells, spl, cav, K_nil, Then, List.all_cons, oneC, Value.oneCell', List.all_nil, List.drop_nil]
    (repeat' apply And.intro) <;> try (first | exact True.intro | omega)
    refine hK _ ?_
    clear hK K
    refine awp_ret ?_
    simp only [qq, Then, K_fin, ares, aress, ares1, aload, K_ops, Nat.reduceEqDiff, apart, isAggD, hu, tszs, Nat.reduceAdd, List.take_nil, afin, noref, norefs]
    rfl
  have h0 : b.length ≠ 0 := by simpa using h
  refine awp_skip (hK1 _ ?_)
  clear hK1 K1 h
  refine awp_keep [0, 2] ?_
  simp only [keep_eqs, K_ops, Nat.reduceEqDiff, if_true, if_false]
  have e1 : ((b.length : Int) - 1).toNat = b.length - 1 := by omega
  have e2 : (b.drop 1).take (b.length - 1) = b.drop 1 := List.take_of_length_le (by rw [List.length_drop]; exact Nat.le_refl _)
  refine awp_seq_k fun K hK => awp_region [] ?_
  simp only [qq, K_eqs, Nat.reduceLT, K_ops, reduceCtorEq, aslice, bopt, Option.map_some, cav, Option.map_none, Tryz.underlying54, Nat.reduceEqDiff, tszs, Bs_length, Nat.mul_one, lowOf, Int.reduceLE, highOf, Int.le_refl, ne_eq, not_true_eq_false, or_false, e1, Int.reduceToNat, Bs_drop, Bs_take, e2, sliceP, K_call, Nat.reduceAdd, K_clo, aviews, aview, ntok, List.headD_cons, norefs_Bs]
  refine ⟨by omega, ?_⟩
  refine andC_eq (by simp [norefs_Bs, norefs, noref]) (cG) (by simp [noref, norefs, norefs_Bs, flat]) ?_
  simp only [qq, RestC_eqs, K_eqs, Nat.reduceLT, K_ops, Nat.reduceEqDiff, reduceCtorEq, aext, K_nil, Then]
  refine hK _ ?_
  clear hK K
  refine awp_keep [0, 2, 5, 6] ?_
  simp only [keep_eqs, K_ops, Nat.reduceEqDiff, if_true, if_false]
  have e3 : IntKind.i64.wrap ((1 + k : Nat) : Int) = ((1 + k : Nat) : Int) := n_i64 (by omega)
  have e4 : ((b.length : Int) - ((1 + k : Nat) : Int)).toNat = b.length - (1 + k) := by omega
  have e5 : (b.drop (1 + k)).take (b.length - (1 + k)) = b.drop (1 + k) := List.take_of_length_le (by rw [List.length_drop]; exact Nat.le_refl _)
  refine awp_seq_k fun K hK => awp_region [] ?_
  simp only [qq, K_eqs, Nat.reduceLT, K_ops, reduceCtorEq, Nat.reduceEqDiff, cav, K_binC, K_int, aint, n_radd, e3, aslice, bopt, Option.map_some, Option.map_none, Tryz.underlying54, tszs, Bs_length, Nat.mul_one, lowOf, highOf, Int.le_refl, ne_eq, not_true_eq_false, or_false, e4, Int.toNat_natCast, Bs_drop, Bs_take, e5, sliceP, K_nil, Then]
  refine ⟨by omega, hK _ ?_⟩
  clear hK K
  refine awp_keep [0, 2, 5, 6, 7] ?_
  simp only [keep_eqs, K_ops, Nat.reduceEqDiff, if_true, if_false]
  refine awp_seq_k fun K1 hK1 => ?_
  refine awp_seq_k fun K hK => ?_
  have next : ∀ (t : Bool) (s : St), t = decide (k = 0 ∨ b.length - 1 - k < n) → Weak G0 s ⟨45, [(30, .val (.bool t)), (0, .sl b.length (Bs b) .no), (2, .ptr 0 0), (5, .val (.int .u64 (n : Int))), (6, .val (.int .i64 (k : Int))), (7, .sl (b.length - (1 + k)) (Bs (b.drop (1 + k))) .no)], [.cells [.val (.int .u8 0), .val (.string ⟨#[]⟩)]]⟩ → K s := by
    intro t s ht hw
    refine hK s (awp_weak hw ?_)
    clear hw hK K
    refine awp_cond rfl rfl (fun h => ?_) (fun h => ?_)
    · have hbad : k = 0 ∨ b.length - 1 - k < n := of_decide_eq_true (ht.symm.trans h)
      rw [if_pos (.inr hbad)] at hget
      rw [hget]
      refine awp_keep [2] ?_
      simp only [keep_eqs, K_ops, Nat.reduceEqDiff, if_true, if_false]
      refine awp_seq_k fun K hK => awp_region [] ?_
      simp only [qq, K_eqs, aload, K_ops, apart, isAggD, hu, tszs, Nat.reduceAdd, List.take_nil, Nat.reduceLT, K_store, astore, Nat.reduceEqDiff, acells, spl, cav, K_nil, Then, List.all_cons, oneC, Value.oneCell', List.all_nil, List.drop_nil]
      (repeat' apply And.intro) <;> try (first | exact True.intro | omega)
      refine hK _ ?_
      clear hK K
      refine awp_ret ?_
      simp only [qq, Then, K_fin, ares, aress, ares1, aload, K_ops, Nat.reduceEqDiff, apart, isAggD, hu, tszs, Nat.reduceAdd, List.take_nil, afin, noref, norefs]
      rfl
    · have hok : ¬ (k = 0 ∨ b.length - 1 - k < n) := of_decide_eq_false (ht.symm.trans h)
      rw [if_neg (by rintro (e | e); exact h0 e; exact hok e)] at hget
      refine awp_skip (hK1 _ ?_)
      clear hK1 K1
      refine awp_keep [0, 2, 5, 6, 7] ?_
      simp only [keep_eqs, K_ops, Nat.reduceEqDiff, if_true, if_false]
      have e6 : 0 < b.length := by omega
      have e7 : (n : Int).toNat = n := Int.toNat_natCast n
      have e8 : IntKind.i64.wrap (n : Int) = (n : Int) := n_i64 (by omega)
      have e9 : IntKind.i64.wrap ((1 + k + n : Nat) : Int) = ((1 + k + n : Nat) : Int) := n_i64 (by omega)
      have e10 : ((b.drop (1 + k)).take n).length = n := by rw [List.length_take, List.length_drop]; omega
      refine awp_seq_k fun K hK => ?_
      refine awp_draw [] (by kernel_rfl) (by kernel_rfl) ?_
      simp only [qq, K_eqs, Nat.reduceLT, K_ops, reduceCtorEq, aidxAddr, cav, Tryz.underlying54, Nat.reduceEqDiff, tszs, Bs_length, Nat.mul_one, Int.le_refl, Int.toNat_zero, aload, apart, isAggD, Tryz.underlying5, aslice, bopt, Option.map_none, Option.map_some, List.length_drop, lowOf, highOf, ne_eq, true_or, Int.sub_zero, Int.toNat_natCast, Bs_take, sliceP, K_conv, Tryz.underlying9, aconvO, aview, ntok, aconv, abuild, tzeros, hu, tsfs, aparts, afill, spl, acells, Nat.reduceAdd, Nat.reduceLeDiff, K_binC, K_int, aint, n_radd, e3, Tryz.underlying3, noref, Tryz.underlying30, Option.isSome_some, e8, n_addn, e9, K_store, astore, K_nil, Then, e10, Bs_isByte, Bs_bytes, List.all_cons, oneC, Value.oneCell', List.all_nil, e6, Bs_getD, B, List.drop_nil]
      refine ⟨by omega, by omega, hK _ ?_⟩
      clear hK K
      refine awp_keep [2, 3, 4] ?_
      simp only [keep_eqs, K_ops, Nat.reduceEqDiff, if_true, if_false]
      refine awp_ret ?_
      simp only [qq, K_fin, ares, aress, ares1, aload, K_ops, Nat.reduceEqDiff, apart, isAggD, hu, tszs, Nat.reduceAdd, List.take_nil, afin, noref, norefs]
      rw [hget]
      rfl
  by_cases hk0 : k = 0
  · have hd : ((k : Int) == 0) = true := by simp [hk0]
    refine awp_region [] ?_
    simp only [qq, K_eqs, Nat.reduceLT, K_ops, reduceCtorEq, Nat.reduceEqDiff, cav, K_binC, K_int, aint, hd, gval, gslot, Option.bind_some, gdec_eqs, K_gF, gok, apick, K_nil, Then]
    refine next _ _ ?_ (.of_keep [30, 0, 2, 5, 6, 7] (by exact rfl))
    simp [hk0]
  · have hd : ((k : Int) == 0) = false := by simp [hk0]
    have m1 : (b.length - (1 + k)) % 18446744073709551616 = b.length - (1 + k) := Nat.mod_eq_of_lt (by omega)
    refine awp_region [] ?_
    simp only [qq, K_eqs, Nat.reduceLT, K_ops, reduceCtorEq, Nat.reduceEqDiff, cav, K_binC, K_int, aint, hd, gval, gslot, Option.bind_some, gdec_eqs, Bool.not_false, K_gT, gok, abuiltin, amaplen, alen, Tryz.underlying54, K_conv, Tryz.underlying30, aconvO, aview, ntok, Tryz.underlying3, aconv, Option.isSome_some, apick, K_nil, Then, n_u64, m1, d_ltn]
    refine next _ _ ?_ (.of_keep [30, 0, 2, 5, 6, 7] (by exact rfl))
    rw [Bool.eq_iff_iff]
    simp
    omega
theorem fby_len (f : FieldV) (h : f.2.length ≤ 35184372088832) : (fby f).length ≤ f.2.length + 11 := by
  have hv := vb_len10 (n := f.2.length) (by omega)
  simp only [fby, List.length_cons, List.length_append]
  omega
theorem join_len : ∀ l : List FieldV, bulk l ≤ 35184372088832 → (V.join l).length ≤ 11 * bulk l
  | [], _ => by simp [V.join]
  | f :: l, h => by
    rw [bulk_cons] at h ⊢
    have h1 := fby_len f (by omega)
    have h2 := join_len l (by omega)
    rw [join_cons, List.length_append]
    omega

theorem FA_take (f : FieldV) : (FA f).take 2 = FA f := rfl
theorem fjoin_ok (l : List FieldV) (p : Perm) (hb : bulk l ≤ 1048576) : ACalls Tryz.prog G0 50 [.sl l.length (Fs l) p] [] (fun r os => os = [] ∧ r = .sl (V.join l).length (Bs (V.join l)) .no) := by
  have hlb := length_bulk l
  refine acalls_of_awp Tryz.func50 rfl rfl Tryz.ntmps50 (rts := #[54]) rfl Tryz.results50 (by simp) ?_
  simp only [argSlots, Nat.reduceAdd]
  refine awp_seq_k fun K hK => awp_region [] ?_
  simp only [qq, K_eqs, Nat.reduceLT, K_ops, cav, K_nil, Then]
  (repeat' apply And.intro) <;> try (first | exact True.intro | omega)
  refine hK _ ?_
  clear hK K
  refine awp_seq_k fun K hK => awp_region [] ?_
  simp only [qq, K_eqs, Nat.reduceLT, K_ops, cav, K_nil, Then]
  (repeat' apply And.intro) <;> try (first | exact True.intro | omega)
  refine hK _ ?_
  clear hK K
  refine awp_noperm 3 rfl ?_
  refine awp_keep [0, 3] ?_
  simp only [keep_eqs, K_ops, Nat.reduceEqDiff, if_true, if_false]
  refine awp_seq_k fun K1 hK1 => ?_
  refine awp_seq_k fun K hK => awp_region [] ?_
  simp only [qq, K_eqs, Nat.reduceLT, K_ops, reduceCtorEq, abuiltin, Nat.reduceEqDiff, amaplen, alen, Tryz.underlying186, cav, K_nil, Then]
  (repeat' apply And.intro) <;> try (first | exact True.intro | omega)
  refine hK _ ?_
  clear hK K
  refine awp_keep [3, 6, 7, 8] ?_
  simp only [keep_eqs, K_ops, Nat.reduceEqDiff, if_true, if_false]
  refine awp_block ?_
  refine awp_loop_from (fun i : Nat => ⟨17, [(3, .sl (V.join (l.take i)).length (Bs (V.join (l.take i))) .no), (6, .sl l.length (Fs l) p), (7, .val (.int .i64 (l.length : Int))), (8, .val (.int .i64 (i : Int)))], dd i⟩)
    (fun i => i ≤ l.length) (fun i => l.length - i) 0 (by omega) (.of_keep [3, 6, 7, 8] (by exact rfl)) ?_
  intro i hi
  refine awp_seq_k fun K hK => awp_region [] ?_
  simp only [qq, K_eqs, K_ops, Nat.reduceEqDiff, K_binC, K_int, aint, d_ltn, Nat.reduceLT, K_nil, Then]
  (repeat' apply And.intro) <;> try (first | exact True.intro | omega)
  refine hK _ ?_
  clear hK K
  refine awp_seq ?_
  refine awp_cond rfl rfl (fun h => ?_) (fun h => ?_)
  · have hlt : i < l.length := of_decide_eq_true h
    refine awp_skip ?_
    simp only [Then]
    refine awp_keep [3, 6, 7, 8] ?_
    simp only [keep_eqs, K_ops, Nat.reduceEqDiff, if_true, if_false]
    refine awp_seq ?_
    refine awp_block ?_
    have hg := Fs_get hlt (0, [])
    have hj1 : V.join (l.take (i + 1)) = V.join (l.take i) ++ fby (l.getD i (0, [])) := by
      rw [take_snocF l i hlt, join_append, join_cons, join_nil, List.append_nil]
    have hjl := join_len (l.take i) (by have := bulk_take_le l i; omega)
    have hbt := bulk_take_le l i
    have hmem : (l.getD i (0, [])).2.length + 1 ≤ bulk l := bulk_mem (by rw [List.getD_eq_getElem?_getD, List.getElem?_eq_getElem hlt]; exact List.getElem_mem hlt)
    generalize hf : l.getD i (0, []) = f at hg hj1 hmem
    have cP := fput_ok (V.join (l.take i)) .no f (by omega) (by omega)
    have hfl : (Fs l).length = l.length * 2 := Fs_length l
    refine awp_seq_k fun K hK => awp_region [] ?_
    simp only [qq, K_eqs, aidxAddr, K_ops, Nat.reduceEqDiff, Tryz.underlying186, tszs, hfl, Nat.reduceLT, Int.toNat_natCast, aload, apart, isAggD, Tryz.underlying124, aalloc, tzeros, dd_length, cav, K_store, astore, acells, spl, K_nil, Then, dd_at, Nat.reduceAdd, dd_set, List.length_drop, hg, FA_oneC, FA_length, List.drop_nil]
    refine ⟨by omega, by omega, hK _ ?_⟩
    clear hK K
    refine awp_keep [3, 5, 6, 7, 8] ?_
    simp only [keep_eqs, K_ops, Nat.reduceEqDiff, if_true, if_false]
    refine awp_region [] ?_
    simp only [qq, K_eqs, Nat.reduceLT, K_ops, Nat.reduceEqDiff, aload, dd_at, apart, isAggD, Tryz.underlying124, tszs, FA_length, FA_take, K_call, Nat.reduceAdd, K_clo, aviews, aview, norefs_Bs, ntok, List.tail_cons, List.headD_cons, noref, norefs_FA]
    refine andC_eq (by simp [norefs_Bs]) cP (by simp [noref, norefs_Bs]) ?_
    simp only [qq, RestC_eqs, K_eqs, Nat.reduceLT, K_ops, Nat.reduceEqDiff, K_nil]
    simp only [InBlock, Then]
    refine awp_dead i ?_
    rw [dd_set, dd_kill, ← hj1]
    refine awp_keep [3, 6, 7, 8] ?_
    simp only [keep_eqs, K_ops, Nat.reduceEqDiff, if_true, if_false]
    have h6 : IntKind.i64.wrap ((i + 1 : Nat) : Int) = ((i + 1 : Nat) : Int) := n_i64 (by omega)
    refine awp_region [] ?_
    simp only [qq, K_eqs, K_ops, Nat.reduceEqDiff, cav, K_binC, K_int, aint, n_add, h6, Nat.reduceLT, K_nil, Then]
    exact ⟨i + 1, by omega, by omega, .of_keep [3, 6, 7, 8] rfl⟩
  · have he : i = l.length := by have := of_decide_eq_false h; omega
    subst he
    refine awp_exit ?_
    simp only [Then, InBlock, if_true]
    refine hK1 _ ?_
    clear hK1 K1
    rw [List.take_length]
    refine awp_keep [3] ?_
    simp only [keep_eqs, K_ops, Nat.reduceEqDiff, if_true, if_false]
    refine awp_seq_k fun K hK => awp_region [] ?_
    simp only [qq, K_eqs, Nat.reduceLT, K_ops, Nat.reduceEqDiff, K_nil, Then]
    (repeat' apply And.intro) <;> try (first | exact True.intro | omega)
    refine hK _ ?_
    clear hK K
    refine awp_ret ?_
    simp only [qq, K_fin, ares, aress, ares1, afin, K_ops, Nat.reduceEqDiff, norefs_Bs, ntok]
structure CavV where
  third : Bool
  text : List UInt8
  party : Nat
  id : List UInt8
  vault : List UInt8
  deriving DecidableEq
structure TokV where
  key : Nat
  id : List UInt8
  cavs : List CavV
  bound : Bool
  tag : List UInt8
  deriving DecidableEq

def str (s : List UInt8) : AV := .val (.string ⟨s.toArray⟩)
def CA (c : CavV) : List AV := [.val (.bool c.third), str c.text, .val (.int .u64 (c.party : Int)), str c.id, str c.vault]
def CS (l : List CavV) : List AV := l.flatMap CA
theorem CS_length [Gv] (l : List CavV) : (CS l).length = l.length * 5 := by
  induction l with
  | nil => rfl
  | cons c l ih => rw [show CS (c :: l) = CA c ++ CS l from rfl, List.length_append, ih]; simp [CA]; omega
theorem norefs_CA [Gv] (c : CavV) : norefs (CA c) = true := rfl
theorem norefs_CS [Gv] (l : List CavV) : norefs (CS l) = true := by
  induction l with
  | nil => rfl
  | cons c l ih => rw [show CS (c :: l) = CA c ++ CS l from rfl, norefs_append, ih, norefs_CA]; rfl
theorem CS_get [Gv] {l : List CavV} {i : Nat} (h : i < l.length) (d : CavV) : ((CS l).drop (i * 5)).take 5 = CA (l.getD i d) := by
  induction l generalizing i with
  | nil => simp at h
  | cons c l ih =>
    rw [show CS (c :: l) = CA c ++ CS l from rfl]
    cases i with
    | zero => rfl
    | succ i =>
      rw [show (i + 1) * 5 = (CA c).length + i * 5 by simp [CA]; omega, ← List.drop_drop, List.drop_left]
      simpa using ih (by simpa using h)
theorem CA_oneC [Gv] (c : CavV) : (CA c).all oneC = true := rfl

def canC (c : CavV) : Bool := if c.third then c.text == [] && decide (c.id.length ≤ 1024) && decide (c.vault.length ≤ 1024) else decide (c.text.length ≤ 512) && (c.party == 0 && c.id == [] && c.vault == [])
def okT (t : TokV) : Bool := decide (t.id.length ≤ 1024) && decide (t.cavs.length ≤ 64) && t.cavs.all canC
def TA (t : TokV) (p : Perm) : List AV := [.val (.int .u64 (t.key : Int)), str t.id, .sl t.cavs.length (CS t.cavs) p, .val (.bool t.bound)] ++ Bs t.tag

theorem can_ok [Gv] (c : CavV) (hi : c.id.length ≤ 9223372036854775807) (hv : c.vault.length ≤ 9223372036854775807) (ht : c.text.length ≤ 9223372036854775807) : ACalls Tryz.prog G0 132 [.agg (CA c)] [] (fun r os => os = [] ∧ r = .val (.bool (canC c))) := by
  obtain ⟨third, text, party, id, vault⟩ := c
  simp only [CA, canC, str] at *
  refine acalls_of_awp Tryz.func132 rfl rfl Tryz.ntmps132 (rts := #[4]) rfl Tryz.results132 (by simp) ?_
  simp only [argSlots, Nat.reduceAdd]
  refine awp_seq_k fun K hK => awp_region [] ?_
  simp only [qq, K_eqs, aboxF, acells, K_ops, List.all_cons, oneC, Value.oneCell', List.all_nil, abox, Nat.reduceLT, cav, K_nil, Then]
  (repeat' apply And.intro) <;> try (first | exact True.intro | omega)
  refine hK _ ?_
  clear hK K
  refine awp_keep [1] ?_
  simp only [keep_eqs, K_ops, Nat.reduceEqDiff, if_true, if_false]
  refine awp_seq_k fun K1 hK1 => ?_
  refine awp_seq_k fun K hK => awp_region [] ?_
  simp only [qq, K_eqs, afieldAddr, Tryz.underlying74, tszs, K_ops, ne_eq, reduceCtorEq, Nat.reduceLT, aload, Nat.reduceEqDiff, apart, isAggD, Tryz.underlying4, K_nil, Then, Nat.reduceAdd]
  (repeat' apply And.intro) <;> try (first | exact True.intro | omega)
  refine hK _ ?_
  clear hK K
  cases third with
  | true =>
    refine awp_condT rfl ?_
    refine awp_keep [1] ?_
    simp only [keep_eqs, K_ops, Nat.reduceEqDiff, if_true, if_false]
    refine awp_seq_k fun K hK => awp_region [] ?_
    have fin : ∀ b : Bool, b = (text == [] && decide (id.length ≤ 1024) && decide (vault.length ≤ 1024)) → ∀ s, awp Tryz.prog G0 .ret ⟨31, (2, .val (.bool b)) :: s, [.cells [.val (.bool true), .val (.string ⟨text.toArray⟩), .val (.int .u64 (party : Int)), .val (.string ⟨id.toArray⟩), .val (.string ⟨vault.toArray⟩)]]⟩ (Then K1 (V.Fin Tryz.prog [4] [ResultVar.tmp 2] fun r os => os = [] ∧ r = .val (.bool (text == [] && decide (id.length ≤ 1024) && decide (vault.length ≤ 1024))))) := by
      intro b hb s
      subst hb
      refine awp_ret ?_
      exact ⟨_, _, rfl, ⟨rfl, trivial⟩, rfl, rfl⟩
    cases h1 : (text == []) with
    | false =>
      simp only [qq, K_eqs, afieldAddr, Tryz.underlying74, tszs, K_ops, ne_eq, reduceCtorEq, Nat.reduceLT, aload, Nat.reduceEqDiff, apart, isAggD, Tryz.underlying9, cav, K_binC, Nat.reduceAdd, List.getD_cons_succ, K_int, astr, ByteArray.toList_mk, h1, gval, gslot, Option.bind_some, gdec_eqs, Bool.not_true, K_gF, gok, apick, K_nil, Then]
      exact hK _ (fin false (by simp [h1]) _)
    | true =>
      cases h2 : decide (id.length ≤ 1024) with
      | false =>
        simp only [qq, Bool.true_and, K_eqs, afieldAddr, Tryz.underlying74, tszs, K_ops, ne_eq, reduceCtorEq, Nat.reduceLT, aload, Nat.reduceEqDiff, apart, isAggD, Tryz.underlying9, cav, K_binC, Nat.reduceAdd, List.getD_cons_succ, K_int, astr, ByteArray.toList_mk, h1, gval, gslot, Option.bind_some, gdec_eqs, K_gT, gok, abuiltin, amaplen, alen, apick, ba_size, aint, d_le, h2, Bool.not_true, K_gF, K_nil, Then]
        exact hK _ (fin false (by simp [h1, h2]) _)
      | true =>
        simp only [qq, Bool.true_and, K_eqs, afieldAddr, Tryz.underlying74, tszs, K_ops, ne_eq, reduceCtorEq, Nat.reduceLT, aload, Nat.reduceEqDiff, apart, isAggD, Tryz.underlying9, cav, K_binC, Nat.reduceAdd, List.getD_cons_succ, K_int, astr, ByteArray.toList_mk, h1, gval, gslot, Option.bind_some, gdec_eqs, K_gT, gok, abuiltin, amaplen, alen, apick, ba_size, aint, d_le, h2, K_nil, Then]
        exact hK _ (fin (decide (vault.length ≤ 1024)) (by simp [h1, h2]) _)
  | false =>
    refine awp_condF rfl (awp_skip (hK1 _ ?_))
    clear hK1 K1
    refine awp_keep [1] ?_
    simp only [keep_eqs, K_ops, Nat.reduceEqDiff, if_true, if_false]
    refine awp_seq_k fun K hK => awp_region [] ?_
    have fin : ∀ b : Bool, b = (decide (text.length ≤ 512) && (party == 0 && id == [] && vault == [])) → ∀ s, awp Tryz.prog G0 .ret ⟨31, (2, .val (.bool b)) :: s, [.cells [.val (.bool false), .val (.string ⟨text.toArray⟩), .val (.int .u64 (party : Int)), .val (.string ⟨id.toArray⟩), .val (.string ⟨vault.toArray⟩)]]⟩ (V.Fin Tryz.prog [4] [ResultVar.tmp 2] fun r os => os = [] ∧ r = .val (.bool (decide (text.length ≤ 512) && (party == 0 && id == [] && vault == [])))) := by
      intro b hb s
      subst hb
      refine awp_ret ?_
      simp only [qq, K_fin, ares, aress, ares1, afin, K_ops, noref]
    cases h1 : decide (text.length ≤ 512) with
    | false =>
      simp only [qq, K_eqs, afieldAddr, Tryz.underlying74, tszs, K_ops, ne_eq, reduceCtorEq, Nat.reduceLT, aload, Nat.reduceEqDiff, apart, isAggD, Tryz.underlying9, abuiltin, amaplen, alen, cav, K_binC, Nat.reduceAdd, List.getD_cons_succ, ba_size, K_int, aint, d_le, h1, gval, gslot, Option.bind_some, gdec_eqs, Bool.not_true, K_gF, gok, apick, K_nil, Then]
      exact hK _ (fin false (by simp [h1]) _)
    | true =>
      simp only [qq, Bool.true_and, K_eqs, afieldAddr, Tryz.underlying74, tszs, K_ops, ne_eq, reduceCtorEq, Nat.reduceLT, aload, Nat.reduceEqDiff, apart, isAggD, Tryz.underlying9, abuiltin, amaplen, alen, cav, K_binC, Nat.reduceAdd, List.getD_cons_succ, ba_size, K_int, aint, d_le, h1, gval, gslot, Option.bind_some, gdec_eqs, K_gT, gok, List.take_nil, abuild, tzeros, tsfs, aparts, afill, spl, acells, Nat.reduceLeDiff, apick, K_nil, Then, List.all_cons, oneC, Value.oneCell', List.all_nil, aagg, aggCmp, tgrds, tstds]
      refine ⟨?_, hK _ (fin _ ?_ _)⟩
      · exact .inl (by simp [fldT, cellT, Tryz.underlying4, Tryz.underlying9, Tryz.underlying30])
      · have hpz : ((party : Int) == 0) = (party == 0) := by
          rw [Bool.eq_iff_iff]
          simp
        simp [h1, aggEq, cellEq, hpz, Bool.and_assoc]

theorem check1_ok [Gv] (c : CavV) (hi : c.id.length ≤ 9223372036854775807) (hv : c.vault.length ≤ 9223372036854775807) (ht : c.text.length ≤ 9223372036854775807) : ACalls Tryz.prog G0 131 [.agg (CA c)] [] (fun r os => os = [] ∧ r = .val (.bool (!canC c))) := by
  have cC := can_ok c hi hv ht
  have ho := CA_oneC c
  have hl : (CA c).length = 5 := rfl
  have hn := norefs_CA c
  generalize CA c = cs at *
  have ht5 : cs.take 5 = cs := List.take_of_length_le (by omega)
  refine acalls_of_awp Tryz.func131 rfl rfl Tryz.ntmps131 (rts := #[4]) rfl Tryz.results131 (by simp) ?_
  simp only [argSlots, Nat.reduceAdd]
  refine awp_seq_k fun K hK => awp_region [] ?_
  simp only [qq, K_eqs, aboxF, acells, K_ops, ho, abox, Nat.reduceLT, cav, K_nil, Then]
  (repeat' apply And.intro) <;> try (first | exact True.intro | omega)
  refine hK _ ?_
  clear hK K
  refine awp_keep [1] ?_
  simp only [keep_eqs, K_ops, Nat.reduceEqDiff, if_true, if_false]
  refine awp_seq_k fun K hK => awp_region [] ?_
  simp only [qq, K_eqs, aload, K_ops, apart, isAggD, Tryz.underlying74, tszs, hl, ht5, Nat.reduceLT, K_call, Nat.reduceAdd, Nat.reduceEqDiff, K_clo, aviews, aview, ntok, List.headD_cons, noref]
  refine andC_eq (by simp [noref, hn]) cC rfl ?_
  simp only [qq, RestC_eqs, K_eqs, aun, K_ops, Nat.reduceEqDiff, Nat.reduceLT, K_nil, Then]
  refine hK _ ?_
  clear hK K
  refine awp_keep [2] ?_
  simp only [keep_eqs, K_ops, Nat.reduceEqDiff, if_true, if_false]
  refine awp_ret ?_
  simp only [qq, K_fin, ares, aress, ares1, afin, K_ops, noref]

theorem idxC_ok [Gv] (l : List CavV) (p : Perm) (g : FuncId) (q : CavV → Bool) (hl : l.length ≤ 1000000) (hg : ∀ c ∈ l, ACalls Tryz.prog G0 g [.agg (CA c)] [] (fun r os => os = [] ∧ r = .val (.bool (q c)))) :
    ACalls Tryz.prog G0 199 [.sl l.length (CS l) p, .val (.func (.func g) #[] #[])] [] (fun r os => os = [] ∧ ∃ z : Int, r = .val (.int .i64 z) ∧ decide (0 ≤ z) = l.any q) := by
  have hCl := CS_length l
  refine acalls_of_awp Tryz.func199 rfl rfl Tryz.ntmps199 (rts := #[3]) rfl Tryz.results199 (by simp) ?_
  simp only [argSlots, Nat.reduceAdd]
  refine awp_seq_k fun K hK => awp_region [] ?_
  simp only [qq, K_eqs, Nat.reduceLT, K_ops, cav, K_nil, Then]
  (repeat' apply And.intro) <;> try (first | exact True.intro | omega)
  refine hK _ ?_
  clear hK K
  refine awp_keep [0, 1] ?_
  simp only [keep_eqs, K_ops, Nat.reduceEqDiff, if_true, if_false]
  refine awp_seq_k fun K1 hK1 => ?_
  refine awp_seq_k fun K hK => awp_region [] ?_
  simp only [qq, K_eqs, Nat.reduceLT, K_ops, reduceCtorEq, abuiltin, Nat.reduceEqDiff, amaplen, alen, Tryz.underlying65, cav, K_nil, Then]
  (repeat' apply And.intro) <;> try (first | exact True.intro | omega)
  refine hK _ ?_
  clear hK K
  refine awp_keep [0, 1, 7, 8] ?_
  simp only [keep_eqs, K_ops, Nat.reduceEqDiff, if_true, if_false]
  refine awp_block ?_
  refine awp_loop_from (fun i : Nat => ⟨19, [(0, .sl l.length (CS l) p), (1, .val (.func (.func g) #[] #[])), (7, .val (.int .i64 (l.length : Int))), (8, .val (.int .i64 (i : Int)))], []⟩)
    (fun i => i ≤ l.length ∧ (l.take i).any q = false) (fun i => l.length - i) 0 (by simp) (.of_keep [0, 1, 7, 8] (by exact rfl)) ?_
  rintro i ⟨hi, hno⟩
  refine awp_seq_k fun K hK => awp_region [] ?_
  simp only [qq, K_eqs, K_ops, reduceCtorEq, Nat.reduceEqDiff, K_binC, K_int, aint, d_ltn, Nat.reduceLT, K_nil, Then]
  (repeat' apply And.intro) <;> try (first | exact True.intro | omega)
  refine hK _ ?_
  clear hK K
  refine awp_seq ?_
  refine awp_cond rfl rfl (fun hq => ?_) (fun hq => ?_)
  · have hlt : i < l.length := of_decide_eq_true hq
    refine awp_skip ?_
    simp only [Then]
    refine awp_keep [0, 1, 7, 8] ?_
    simp only [keep_eqs, K_ops, Nat.reduceEqDiff, if_true, if_false]
    refine awp_seq ?_
    refine awp_block ?_
    refine awp_seq_k fun K hK => awp_region [] ?_
    simp only [qq, K_eqs, Nat.reduceLT, K_ops, reduceCtorEq, Nat.reduceEqDiff, K_nil, Then]
    (repeat' apply And.intro) <;> try (first | exact True.intro | omega)
    refine hK _ ?_
    clear hK K
    refine awp_keep [0, 1, 5, 7, 8] ?_
    simp only [keep_eqs, K_ops, Nat.reduceEqDiff, if_true, if_false]
    have hget := CS_get hlt (l[i])
    rw [List.getD_eq_getElem?_getD, List.getElem?_eq_getElem hlt] at hget
    simp only [Option.getD_some] at hget
    have hg1 := hg l[i] (List.getElem_mem hlt)
    have htake : (l.take (i + 1)).any q = ((l.take i).any q || q l[i]) := by
      rw [List.take_add_one, List.getElem?_eq_getElem hlt, List.any_append]
      simp
    have hany : q l[i] = true → l.any q = true := fun h => List.any_eq_true.2 ⟨_, List.getElem_mem hlt, h⟩
    generalize l[i] = c at *
    refine awp_seq_k fun K hK => awp_region [] ?_
    simp only [qq, K_eqs, Nat.reduceLT, K_ops, reduceCtorEq, Nat.reduceEqDiff, aidxAddr, Tryz.underlying65, tszs, hCl, Int.toNat_natCast, aload, apart, isAggD, Tryz.underlying74, K_call, Nat.reduceAdd, K_clo, aviews, aview, ntok, List.headD_cons, List.length_drop, hget, noref]
    refine ⟨⟨by omega, by omega⟩, by omega, ?_⟩
    refine andC_eq (norefs_CA _) hg1 rfl ?_
    simp only [RestC_eqs, K_nil, Then]
    refine hK _ ?_
    clear hK K
    cases hqc : q c with
    | true =>
      refine awp_condT (by simp only [K_ops, lk]; simp [hqc]) ?_
      refine awp_keep [5] ?_
      simp only [keep_eqs, K_ops, Nat.reduceEqDiff, if_true, if_false]
      refine awp_seq_k fun K hK => awp_region [] ?_
      simp only [qq, K_eqs, Nat.reduceLT, K_ops, Nat.reduceEqDiff, K_nil, Then]
      (repeat' apply And.intro) <;> try (first | exact True.intro | omega)
      refine hK _ ?_
      clear hK K
      refine awp_keep [4] ?_
      simp only [keep_eqs, K_ops, Nat.reduceEqDiff, if_true, if_false]
      refine awp_ret ?_
      exact ⟨_, _, rfl, ⟨rfl, trivial⟩, rfl, (i : Int), rfl, by rw [hany hqc]; simp⟩
    | false =>
      refine awp_condF (by simp only [K_ops, lk]; simp [hqc]) (awp_skip ?_)
      simp only [InBlock, Then]
      refine awp_keep [0, 1, 7, 8] ?_
      simp only [keep_eqs, K_ops, Nat.reduceEqDiff, if_true, if_false]
      have h6 : IntKind.i64.wrap ((i + 1 : Nat) : Int) = ((i + 1 : Nat) : Int) := n_i64 (by omega)
      refine awp_region [] ?_
      simp only [qq, K_eqs, K_ops, reduceCtorEq, Nat.reduceEqDiff, cav, K_binC, K_int, aint, n_add, h6, Nat.reduceLT, K_nil, Then]
      exact ⟨i + 1, ⟨by omega, by rw [htake, hno, hqc]; rfl⟩, by omega, .of_keep [0, 1, 7, 8] rfl⟩
  · have he : i = l.length := by have := of_decide_eq_false hq; omega
    subst he
    refine awp_exit ?_
    simp only [Then, InBlock, if_true]
    refine hK1 _ ?_
    clear hK1 K1
    rw [List.take_length] at hno
    refine awp_keep [0] ?_
    simp only [keep_eqs, K_ops, Nat.reduceEqDiff, if_true, if_false]
    refine awp_seq_k fun K hK => awp_region [] ?_
    simp only [qq, K_eqs, Nat.reduceLT, K_ops, cav, K_nil, Then]
    (repeat' apply And.intro) <;> try (first | exact True.intro | omega)
    refine hK _ ?_
    clear hK K
    refine awp_keep [4] ?_
    simp only [keep_eqs, K_ops, Nat.reduceEqDiff, if_true, if_false]
    refine awp_ret ?_
    exact ⟨_, _, rfl, ⟨rfl, trivial⟩, rfl, -1, rfl, by rw [hno]; rfl⟩

theorem hasC_ok [Gv] (l : List CavV) (p : Perm) (g : FuncId) (q : CavV → Bool) (hl : l.length ≤ 1000000) (hg : ∀ c ∈ l, ACalls Tryz.prog G0 g [.agg (CA c)] [] (fun r os => os = [] ∧ r = .val (.bool (q c)))) :
    ACalls Tryz.prog G0 130 [.sl l.length (CS l) p, .val (.func (.func g) #[] #[])] [] (fun r os => os = [] ∧ r = .val (.bool (l.any q))) := by
  have cI := idxC_ok l (ntok p) g q hl hg
  refine acalls_of_awp Tryz.func130 rfl rfl Tryz.ntmps130 (rts := #[4]) rfl Tryz.results130 (by simp) ?_
  simp only [argSlots, Nat.reduceAdd]
  refine awp_seq_k fun K hK => awp_region [] ?_
  simp only [qq, K_eqs, Nat.reduceLT, K_ops, cav, K_nil, Then]
  (repeat' apply And.intro) <;> try (first | exact True.intro | omega)
  refine hK _ ?_
  clear hK K
  refine awp_seq_k fun K hK => awp_region [] ?_
  simp only [qq, K_eqs, Nat.reduceLT, K_ops, reduceCtorEq, Nat.reduceEqDiff, K_call, Nat.reduceAdd, K_clo, aviews, aview, ntok, noref]
  refine andC_mk (norefs_CS _) cI ⟨.val (.int .i64 (if l.any q then 0 else -1)), rfl, _, rfl, by cases l.any q <;> rfl⟩ ?_
  rintro r os ⟨rfl, z, rfl, hz⟩
  refine ⟨rfl, rfl, ?_⟩
  simp only [qq, RestC_eqs, K_eqs, K_ops, Nat.reduceEqDiff, reduceCtorEq, cav, K_binC, K_int, aint, hz, Nat.reduceLT, K_nil, Then]
  refine hK _ ?_
  clear hK K
  refine awp_keep [4] ?_
  simp only [keep_eqs, K_ops, Nat.reduceEqDiff, if_true, if_false]
  refine awp_ret ?_
  simp only [qq, K_fin, ares, aress, ares1, afin, K_ops, noref]

theorem TA_length [Gv] (t : TokV) (p : Perm) (ht : t.tag.length = 32) : (TA t p).length = 36 := by simp [TA, Bs_length, ht]
theorem TA_oneC [Gv] (t : TokV) (p : Perm) : (TA t p).all oneC = true := by
  simp only [TA, List.all_append, List.all_cons, List.all_nil, str, oneC, Value.oneCell', Bool.and_true, Bool.true_and]
  rw [List.all_eq_true]
  intro x hx
  obtain ⟨z, _, rfl⟩ := List.mem_map.1 hx
  rfl
theorem norefs_TA [Gv] (t : TokV) (p : Perm) (hp : (match p with | .tok _ => false | _ => true) = true) : norefs (TA t p) = true := by
  cases p <;> simp_all [TA, norefs_append, norefs, noref, str, norefs_CS, norefs_Bs]
theorem TA_get [Gv] (t : TokV) (p : Perm) : (TA t p).getD 0 .top = .val (.int .u64 (t.key : Int)) ∧ (TA t p).getD 1 .top = str t.id ∧ (TA t p).getD 2 .top = .sl t.cavs.length (CS t.cavs) p ∧ (TA t p).getD 3 .top = .val (.bool t.bound) := ⟨rfl, rfl, rfl, rfl⟩
theorem TA_tag [Gv] (t : TokV) (p : Perm) : (TA t p).drop 4 = Bs t.tag := rfl

def small (t : TokV) : Prop := t.id.length ≤ 200000 ∧ t.cavs.length ≤ 1000000 ∧ (∀ c ∈ t.cavs, c.text.length ≤ 200000 ∧ c.id.length ≤ 200000 ∧ c.vault.length ≤ 200000) ∧ t.tag.length = 32 ∧ t.key < 18446744073709551616 ∧ ∀ c ∈ t.cavs, c.party < 18446744073709551616

theorem pcheck_ok [Gv] (t : TokV) (p : Perm) (hs : small t) (hp : (match p with | .tok _ => false | _ => true) = true) :
    ACalls Tryz.prog G0 64 [.agg (TA t p)] [] (fun r os => os = [] ∧ r = .val (.int .i64 (if okT t then 0 else 1))) := by
  have hoc := TA_oneC t p
  have hlen := TA_length t p hs.2.2.2.1
  obtain ⟨g0, g1, g2, g3⟩ := TA_get t p
  have cH := hasC_ok t.cavs (ntok p) 131 (fun c => !canC c) hs.2.1 (fun c hc => check1_ok c (by have := hs.2.2.1 c hc; omega) (by have := hs.2.2.1 c hc; omega) (by have := hs.2.2.1 c hc; omega))
  generalize hT : TA t p = T at *
  simp only [str] at g1
  refine acalls_of_awp Tryz.func64 rfl rfl Tryz.ntmps64 (rts := #[37]) rfl Tryz.results64 (by simp) ?_
  simp only [argSlots, Nat.reduceAdd]
  refine awp_seq_k fun K hK => awp_region [] ?_
  simp only [qq, K_eqs, aboxF, acells, K_ops, hoc, abox, Nat.reduceLT, cav, K_nil, Then]
  (repeat' apply And.intro) <;> try (first | exact True.intro | omega)
  refine hK _ ?_
  clear hK K
  refine awp_keep [1] ?_
  simp only [keep_eqs, K_ops, Nat.reduceEqDiff, if_true, if_false]
  refine awp_seq_k fun K1 hK1 => ?_
  refine awp_seq_k fun K hK => ?_
  have next : ∀ (b : Bool) (s : St), b = !okT t → Weak G0 s ⟨18, [(17, .val (.bool b)), (1, .ptr 0 0)], [.cells T]⟩ → K s := by
    intro b s hb hw
    refine hK s (awp_weak hw ?_)
    clear hw hK K
    cases ho : okT t with
    | true =>
      rw [ho] at hb
      subst hb
      refine awp_condF rfl (awp_skip (hK1 _ ?_))
      clear hK1 K1
      refine awp_seq_k fun K hK => awp_region [] ?_
      simp only [qq, Bool.not_true, K_eqs, Nat.reduceLT, K_ops, cav, K_nil, Then]
      (repeat' apply And.intro) <;> try (first | exact True.intro | omega)
      refine hK _ ?_
      clear hK K
      refine awp_keep [2] ?_
      simp only [keep_eqs, K_ops, Nat.reduceEqDiff, if_true, if_false]
      refine awp_ret ?_
      exact ⟨_, _, rfl, ⟨rfl, trivial⟩, rfl, by rw [ho]; rfl⟩
    | false =>
      rw [ho] at hb
      subst hb
      refine awp_condT rfl ?_
      refine awp_keep [1] ?_
      simp only [keep_eqs, K_ops, Nat.reduceEqDiff, if_true, if_false]
      refine awp_seq_k fun K hK => awp_region [] ?_
      simp only [qq, K_eqs, Nat.reduceLT, K_ops, cav, K_nil, Then]
      (repeat' apply And.intro) <;> try (first | exact True.intro | omega)
      refine hK _ ?_
      clear hK K
      refine awp_keep [2] ?_
      simp only [keep_eqs, K_ops, Nat.reduceEqDiff, if_true, if_false]
      refine awp_ret ?_
      exact ⟨_, _, rfl, ⟨rfl, trivial⟩, rfl, rfl⟩
  refine awp_region [] ?_
  cases h1 : decide (1024 < t.id.length) with
  | true =>
    simp only [qq, K_eqs, afieldAddr, Tryz.underlying67, tszs, K_ops, ne_eq, reduceCtorEq, Nat.reduceLT, aload, Nat.reduceEqDiff, apart, isAggD, Tryz.underlying9, abuiltin, amaplen, alen, cav, K_binC, hlen, g1, ba_size, K_int, aint, d_gt, h1, gval, gslot, Option.bind_some, gdec_eqs, K_gF, gok, apick, K_nil, Then]
    refine next true _ ?_ (.of_keep [17, 1] (by exact rfl))
    have := of_decide_eq_true h1
    simp [okT]
    omega
  | false =>
    cases h2 : decide (64 < t.cavs.length) with
    | true =>
      simp only [qq, K_eqs, afieldAddr, Tryz.underlying67, tszs, K_ops, ne_eq, reduceCtorEq, Nat.reduceLT, aload, Nat.reduceEqDiff, apart, isAggD, Tryz.underlying9, abuiltin, amaplen, alen, cav, K_binC, hlen, g1, ba_size, K_int, aint, d_gt, h1, gval, gslot, Option.bind_some, gdec_eqs, Bool.not_false, K_gT, gok, Tryz.underlying65, apick, g2, h2, K_gF, K_nil, Then]
      refine next true _ ?_ (.of_keep [17, 1] (by exact rfl))
      have := of_decide_eq_true h2
      have h3 : decide (t.cavs.length ≤ 64) = false := by simp; omega
      simp [okT, h3]
    | false =>
      simp only [qq, K_eqs, afieldAddr, Tryz.underlying67, tszs, K_ops, ne_eq, reduceCtorEq, Nat.reduceLT, aload, Nat.reduceEqDiff, apart, isAggD, Tryz.underlying9, abuiltin, amaplen, alen, cav, K_binC, hlen, g1, ba_size, K_int, aint, d_gt, h1, gval, gslot, Option.bind_some, gdec_eqs, Bool.not_false, K_gT, gok, Tryz.underlying65, apick, g2, h2, K_call, Nat.reduceAdd, K_clo, aviews, aview, ntok, List.headD_cons, noref]
      refine andC_eq (norefs_CS _) cH rfl ?_
      simp only [qq, RestC_eqs, K_eqs, apick, K_ops, Nat.reduceEqDiff, cav, Nat.reduceLT, K_nil, Then]
      have h3 : okT t = t.cavs.all canC := by
        have h4 := of_decide_eq_false h1
        have h5 := of_decide_eq_false h2
        have h6 : decide (t.id.length ≤ 1024) = true := by simp; omega
        have h7 : decide (t.cavs.length ≤ 64) = true := by simp; omega
        simp [okT, h6, h7]
      refine next _ _ ?_ (.of_keep [17, 1] (by exact rfl))
      rw [h3, List.all_eq_not_any_not, Bool.not_not]
end Go.Proofs.YtefdnmeopbkflaaGreatDoor
