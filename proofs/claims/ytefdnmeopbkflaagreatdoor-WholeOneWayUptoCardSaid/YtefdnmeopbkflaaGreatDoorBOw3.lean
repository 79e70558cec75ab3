/-
  Texts of one proof, merged: T, Qt, Wa, Dp, Wl, Wm, Wn, Wo, Db, Wp, Df, Dd, Dg, Dh, Ea, Eb, Hb, Ec, Ed, Ga, We, Wr, Ws, Wt, Gb, Gc, Wb, Wc, Wd, Xa, Xb, Xc, Gd, Ge, Gf, Gg, Gh, Xd, Wk, Gi, Gj, Ka, Kb.
-/
import Derived.Test.YtefdnmeopbkflaaGreatDoorBOw2
import Derived.Test.YtefdnmeopbkflaaGreatDoorProg
import Derived.KernelRfl
import Derived.Laws.BitsLemmas
import Derived.WalkKit
import Derived.Lib.Walk
import Derived.Lib.Strings
import Derived.Lib.Bytealg
import Derived.Laws.Externs
set_option linter.unusedSimpArgs false
set_option linter.unusedVariables false
namespace Go.Proofs.YtefdnmeopbkflaaGreatDoor
open Go Go.V
abbrev kA (t n:Nat):Prop:=tsz Tryz.prog t=some n
abbrev kB (t n:Nat):Prop:=tby Tryz.prog t=some n
theorem bD:kA 2 1∧kA 3 1∧kA 4 1∧kA 5 1∧kA 6 1∧kA 8 4∧kA 9 1∧kA 16 1∧kA 21 1∧kA 22 32∧kA 23 32∧kA 24 16∧kA 26 17∧kA 27 1∧kA 29 20∧kA 30 1∧kA 32 22∧kA 35 1∧kA 37 1∧kA 38 1∧kA 40 4∧kA 42 96∧kA 43 1∧kA 44 1∧kA 46 129∧kA 48 3∧kA 50 1∧kA 54 1∧kA 62 130∧kA 64 133∧kA 65 1∧kA 67 36∧kA 68 1∧kA 70 37∧kA 74 5∧kA 77 74∧kA 79 18∧kA 81 23∧kA 103 1∧kA 106 3∧kA 108 2∧kA 111 1∧kA 113 1∧kA 124 2∧kA 129 1∧kA 146 1∧kA 147 1∧kA 148 1∧kA 151 37∧kA 152 1∧kA 154 39∧kA 160 1∧kA 162 1∧kA 164 3∧kA 173 130∧kA 186 1∧kA 191 35∧kA 206 1∧kA 249 1∧kA 251 2∧kA 269 1∧kA 271 1∧kA 272 8∧kA 273 1∧kA 279 1∧kA 293 24∧kA 297 1∧kA 299 2∧kA 310 1∧kA 312 1∧kA 318 1∧kA 319 1∧kA 330 20∧kA 331 65∧kA 334 1∧kA 336 64∧kA 343 3∧kA 346 1∧kA 349 2∧kA 355 1∧kA 357 1∧kA 362 8∧kA 364 73∧kA 366 256∧kA 368 2∧kA 369 32∧kA 371 64∧kA 378 4∧kA 381 0∧kA 383 0:=by and_intros<;>delta kA<;>kernel_rfl
theorem lX:kB 2 8∧kB 3 8∧kB 4 1∧kB 5 1∧kB 6 1∧kB 8 24∧kB 9 16∧kB 16 8∧kB 21 4∧kB 22 32∧kB 23 32∧kB 24 16∧kB 26 17∧kB 27 8∧kB 29 64∧kB 30 8∧kB 32 80∧kB 35 8∧kB 37 8∧kB 38 8∧kB 40 32∧kB 42 96∧kB 43 24∧kB 44 24∧kB 46 296∧kB 48 24∧kB 50 8∧kB 54 24∧kB 62 152∧kB 64 200∧kB 65 24∧kB 67 88∧kB 68 24∧kB 70 112∧kB 74 64∧kB 77 224∧kB 79 32∧kB 81 96∧kB 103 8∧kB 106 24∧kB 108 16∧kB 111 24∧kB 113 24∧kB 124 24∧kB 129 8∧kB 146 8∧kB 147 24∧kB 148 24∧kB 151 112∧kB 152 24∧kB 154 160∧kB 160 8∧kB 162 8∧kB 164 24∧kB 173 152∧kB 186 24∧kB 191 56∧kB 206 16∧kB 249 8∧kB 251 32∧kB 269 8∧kB 271 2∧kB 272 16∧kB 273 24∧kB 279 4∧kB 293 24∧kB 297 8∧kB 299 32∧kB 310 8∧kB 312 8∧kB 318 24∧kB 319 8∧kB 330 160∧kB 331 65∧kB 334 8∧kB 336 64∧kB 343 48∧kB 346 8∧kB 349 16∧kB 355 8∧kB 357 16∧kB 362 32∧kB 364 104∧kB 366 256∧kB 368 2∧kB 369 32∧kB 371 256∧kB 378 4∧kB 381 0∧kB 383 0:=by and_intros<;>delta kB<;>kernel_rfl
theorem bS:dS Tryz.prog 2=some ([.int .i64 0])∧dS Tryz.prog 3=some ([.int .i64 0])∧dS Tryz.prog 4=some ([.bool false])∧dS Tryz.prog 5=some ([.int .u8 0])∧dS Tryz.prog 6=some ([.int .u8 0])∧dS Tryz.prog 8=some ([.int .i64 0,.int .i64 0,.bool false,.int .u8 0])∧dS Tryz.prog 9=some ([.string ⟨#[]⟩])∧dS Tryz.prog 16=some ([.pointer none])∧dS Tryz.prog 21=some ([.int .i32 0])∧dS Tryz.prog 22=some (zvs .u8 32)∧dS Tryz.prog 23=some (zvs .u8 32)∧dS Tryz.prog 24=some (zvs .u8 16)∧dS Tryz.prog 26=some ([.bool false,.int .u8 0,.int .u8 0,.int .u8 0,.int .u8 0,.int .u8 0,.int .u8 0,.int .u8 0,.int .u8 0,.int .u8 0,.int .u8 0,.int .u8 0,.int .u8 0,.int .u8 0,.int .u8 0,.int .u8 0,.int .u8 0])∧dS Tryz.prog 27=some ([.float .f64 0])∧dS Tryz.prog 29=some ([.string ⟨#[]⟩,.string ⟨#[]⟩,.bool false,.int .u8 0,.int .u8 0,.int .u8 0,.int .u8 0,.int .u8 0,.int .u8 0,.int .u8 0,.int .u8 0,.int .u8 0,.int .u8 0,.int .u8 0,.int .u8 0,.int .u8 0,.int .u8 0,.int .u8 0,.int .u8 0,.float .f64 0])∧dS Tryz.prog 30=some ([.int .u64 0])∧dS Tryz.prog 32=some ([.string ⟨#[]⟩,.string ⟨#[]⟩,.bool false,.int .u8 0,.int .u8 0,.int .u8 0,.int .u8 0,.int .u8 0,.int .u8 0,.int .u8 0,.int .u8 0,.int .u8 0,.int .u8 0,.int .u8 0,.int .u8 0,.int .u8 0,.int .u8 0,.int .u8 0,.int .u8 0,.float .f64 0,.int .u64 0,.int .u64 0])∧dS Tryz.prog 35=some ([.pointer none])∧dS Tryz.prog 37=some ([.int .i64 0])∧dS Tryz.prog 38=some ([.int .i64 0])∧dS Tryz.prog 40=some ([.int .i64 0,.int .i64 0,.int .u64 0,.int .i64 0])∧dS Tryz.prog 42=some (zvs .u8 96)∧dS Tryz.prog 43=some ([.slice none 0 0])∧dS Tryz.prog 44=some ([.slice none 0 0])∧dS Tryz.prog 46=some ([.int .i64 0,.int .u64 0,.int .u64 0,.int .u64 0,.int .u64 0,.int .u8 0,.int .u8 0,.int .u8 0,.int .u8 0,.int .u8 0,.int .u8 0,.int .u8 0,.int .u8 0,.int .u8 0,.int .u8 0,.int .u8 0,.int .u8 0,.int .u8 0,.int .u8 0,.int .u8 0,.int .u8 0,.int .u8 0,.int .u8 0,.int .u8 0,.int .u8 0,.int .u8 0,.int .u8 0,.int .u8 0,.int .u8 0,.int .u8 0,.int .u8 0,.int .u8 0,.int .u8 0,.int .u8 0,.int .u8 0,.int .u8 0,.int .u8 0,.int .u8 0,.int .u8 0,.int .u8 0,.int .u8 0,.int .u8 0,.int .u8 0,.int .u8 0,.int .u8 0,.int .u8 0,.int .u8 0,.int .u8 0,.int .u8 0,.int .u8 0,.int .u8 0,.int .u8 0,.int .u8 0,.int .u8 0,.int .u8 0,.int .u8 0,.int .u8 0,.int .u8 0,.int .u8 0,.int .u8 0,.int .u8 0,.int .u8 0,.int .u8 0,.int .u8 0,.int .u8 0,.int .u8 0,.int .u8 0,.int .u8 0,.int .u8 0,.int .u8 0,.int .u8 0,.int .u8 0,.int .u8 0,.int .u8 0,.int .u8 0,.int .u8 0,.int .u8 0,.int .u8 0,.int .u8 0,.int .u8 0,.int .u8 0,.int .u8 0,.int .u8 0,.int .u8 0,.int .u8 0,.int .u8 0,.int .u8 0,.int .u8 0,.int .u8 0,.int .u8 0,.int .u8 0,.int .u8 0,.int .u8 0,.int .u8 0,.int .u8 0,.int .u8 0,.int .u8 0,.int .u8 0,.int .u8 0,.int .u8 0,.int .u8 0,.string ⟨#[]⟩,.slice none 0 0,.string ⟨#[]⟩,.int .i64 0,.slice none 0 0,.string ⟨#[]⟩,.string ⟨#[]⟩,.bool false,.int .u8 0,.int .u8 0,.int .u8 0,.int .u8 0,.int .u8 0,.int .u8 0,.int .u8 0,.int .u8 0,.int .u8 0,.int .u8 0,.int .u8 0,.int .u8 0,.int .u8 0,.int .u8 0,.int .u8 0,.int .u8 0,.float .f64 0,.bool false,.bool false,.bool false])∧dS Tryz.prog 48=some ([.string ⟨#[]⟩,.bool false,.bool false])∧dS Tryz.prog 50=some ([.pointer none])∧dS Tryz.prog 54=some ([.slice none 0 0])∧dS Tryz.prog 62=some ([.int .u64 0,.int .u8 0,.int .u8 0,.int .u8 0,.int .u8 0,.int .u8 0,.int .u8 0,.int .u8 0,.int .u8 0,.int .u8 0,.int .u8 0,.int .u8 0,.int .u8 0,.int .u8 0,.int .u8 0,.int .u8 0,.int .u8 0,.int .u8 0,.int .u8 0,.int .u8 0,.int .u8 0,.int .u8 0,.int .u8 0,.int .u8 0,.int .u8 0,.int .u8 0,.int .u8 0,.int .u8 0,.int .u8 0,.int .u8 0,.int .u8 0,.int .u8 0,.int .u8 0,.int .u8 0,.int .u8 0,.int .u8 0,.int .u8 0,.int .u8 0,.int .u8 0,.int .u8 0,.int .u8 0,.int .u8 0,.int .u8 0,.int .u8 0,.int .u8 0,.int .u8 0,.int .u8 0,.int .u8 0,.int .u8 0,.int .u8 0,.int .u8 0,.int .u8 0,.int .u8 0,.int .u8 0,.int .u8 0,.int .u8 0,.int .u8 0,.int .u8 0,.int .u8 0,.int .u8 0,.int .u8 0,.int .u8 0,.int .u8 0,.int .u8 0,.int .u8 0,.string ⟨#[]⟩,.int .u8 0,.int .u8 0,.int .u8 0,.int .u8 0,.int .u8 0,.int .u8 0,.int .u8 0,.int .u8 0,.int .u8 0,.int .u8 0,.int .u8 0,.int .u8 0,.int .u8 0,.int .u8 0,.int .u8 0,.int .u8 0,.int .u8 0,.int .u8 0,.int .u8 0,.int .u8 0,.int .u8 0,.int .u8 0,.int .u8 0,.int .u8 0,.int .u8 0,.int .u8 0,.int .u8 0,.int .u8 0,.int .u8 0,.int .u8 0,.int .u8 0,.int .u8 0,.int .u8 0,.int .u8 0,.int .u8 0,.int .u8 0,.int .u8 0,.int .u8 0,.int .u8 0,.int .u8 0,.int .u8 0,.int .u8 0,.int .u8 0,.int .u8 0,.int .u8 0,.int .u8 0,.int .u8 0,.int .u8 0,.int .u8 0,.int .u8 0,.int .u8 0,.int .u8 0,.int .u8 0,.int .u8 0,.int .u8 0,.int .u8 0,.int .u8 0,.int .u8 0,.int .u8 0,.int .u8 0,.int .u8 0,.int .u8 0,.int .u8 0,.int .u8 0])∧dS Tryz.prog 64=some ([.bool false,.string ⟨#[]⟩,.int .u64 0,.int .u8 0,.int .u8 0,.int .u8 0,.int .u8 0,.int .u8 0,.int .u8 0,.int .u8 0,.int .u8 0,.int .u8 0,.int .u8 0,.int .u8 0,.int .u8 0,.int .u8 0,.int .u8 0,.int .u8 0,.int .u8 0,.int .u8 0,.int .u8 0,.int .u8 0,.int .u8 0,.int .u8 0,.int .u8 0,.int .u8 0,.int .u8 0,.int .u8 0,.int .u8 0,.int .u8 0,.int .u8 0,.int .u8 0,.int .u8 0,.int .u8 0,.int .u8 0,.int .u8 0,.int .u8 0,.int .u8 0,.int .u8 0,.int .u8 0,.int .u8 0,.int .u8 0,.int .u8 0,.int .u8 0,.int .u8 0,.int .u8 0,.int .u8 0,.int .u8 0,.int .u8 0,.int .u8 0,.int .u8 0,.int .u8 0,.int .u8 0,.int .u8 0,.int .u8 0,.int .u8 0,.int .u8 0,.int .u8 0,.int .u8 0,.int .u8 0,.int .u8 0,.int .u8 0,.int .u8 0,.int .u8 0,.int .u8 0,.int .u8 0,.int .u8 0,.string ⟨#[]⟩,.int .u8 0,.int .u8 0,.int .u8 0,.int .u8 0,.int .u8 0,.int .u8 0,.int .u8 0,.int .u8 0,.int .u8 0,.int .u8 0,.int .u8 0,.int .u8 0,.int .u8 0,.int .u8 0,.int .u8 0,.int .u8 0,.int .u8 0,.int .u8 0,.int .u8 0,.int .u8 0,.int .u8 0,.int .u8 0,.int .u8 0,.int .u8 0,.int .u8 0,.int .u8 0,.int .u8 0,.int .u8 0,.int .u8 0,.int .u8 0,.int .u8 0,.int .u8 0,.int .u8 0,.int .u8 0,.int .u8 0,.int .u8 0,.int .u8 0,.int .u8 0,.int .u8 0,.int .u8 0,.int .u8 0,.int .u8 0,.int .u8 0,.int .u8 0,.int .u8 0,.int .u8 0,.int .u8 0,.int .u8 0,.int .u8 0,.int .u8 0,.int .u8 0,.int .u8 0,.int .u8 0,.int .u8 0,.int .u8 0,.int .u8 0,.int .u8 0,.int .u8 0,.int .u8 0,.int .u8 0,.int .u8 0,.int .u8 0,.int .u8 0,.int .u8 0,.slice none 0 0])∧dS Tryz.prog 65=some ([.slice none 0 0])∧dS Tryz.prog 67=some ([.int .u64 0,.string ⟨#[]⟩,.slice none 0 0,.bool false,.int .u8 0,.int .u8 0,.int .u8 0,.int .u8 0,.int .u8 0,.int .u8 0,.int .u8 0,.int .u8 0,.int .u8 0,.int .u8 0,.int .u8 0,.int .u8 0,.int .u8 0,.int .u8 0,.int .u8 0,.int .u8 0,.int .u8 0,.int .u8 0,.int .u8 0,.int .u8 0,.int .u8 0,.int .u8 0,.int .u8 0,.int .u8 0,.int .u8 0,.int .u8 0,.int .u8 0,.int .u8 0,.int .u8 0,.int .u8 0,.int .u8 0,.int .u8 0])∧dS Tryz.prog 68=some ([.slice none 0 0])∧dS Tryz.prog 70=some ([.int .u64 0,.string ⟨#[]⟩,.slice none 0 0,.bool false,.int .u8 0,.int .u8 0,.int .u8 0,.int .u8 0,.int .u8 0,.int .u8 0,.int .u8 0,.int .u8 0,.int .u8 0,.int .u8 0,.int .u8 0,.int .u8 0,.int .u8 0,.int .u8 0,.int .u8 0,.int .u8 0,.int .u8 0,.int .u8 0,.int .u8 0,.int .u8 0,.int .u8 0,.int .u8 0,.int .u8 0,.int .u8 0,.int .u8 0,.int .u8 0,.int .u8 0,.int .u8 0,.int .u8 0,.int .u8 0,.int .u8 0,.int .u8 0,.slice none 0 0])∧dS Tryz.prog 74=some ([.bool false,.string ⟨#[]⟩,.int .u64 0,.string ⟨#[]⟩,.string ⟨#[]⟩])∧dS Tryz.prog 77=some ([.int .u64 0,.string ⟨#[]⟩,.slice none 0 0,.bool false,.int .u8 0,.int .u8 0,.int .u8 0,.int .u8 0,.int .u8 0,.int .u8 0,.int .u8 0,.int .u8 0,.int .u8 0,.int .u8 0,.int .u8 0,.int .u8 0,.int .u8 0,.int .u8 0,.int .u8 0,.int .u8 0,.int .u8 0,.int .u8 0,.int .u8 0,.int .u8 0,.int .u8 0,.int .u8 0,.int .u8 0,.int .u8 0,.int .u8 0,.int .u8 0,.int .u8 0,.int .u8 0,.int .u8 0,.int .u8 0,.int .u8 0,.int .u8 0,.slice none 0 0,.int .u64 0,.string ⟨#[]⟩,.slice none 0 0,.bool false,.int .u8 0,.int .u8 0,.int .u8 0,.int .u8 0,.int .u8 0,.int .u8 0,.int .u8 0,.int .u8 0,.int .u8 0,.int .u8 0,.int .u8 0,.int .u8 0,.int .u8 0,.int .u8 0,.int .u8 0,.int .u8 0,.int .u8 0,.int .u8 0,.int .u8 0,.int .u8 0,.int .u8 0,.int .u8 0,.int .u8 0,.int .u8 0,.int .u8 0,.int .u8 0,.int .u8 0,.int .u8 0,.int .u8 0,.int .u8 0,.int .u8 0,.int .u8 0,.slice none 0 0])∧dS Tryz.prog 79=some ([.bool false,.int .u8 0,.int .u8 0,.int .u8 0,.int .u8 0,.int .u8 0,.int .u8 0,.int .u8 0,.int .u8 0,.int .u8 0,.int .u8 0,.int .u8 0,.int .u8 0,.int .u8 0,.int .u8 0,.int .u8 0,.int .u8 0,.int .i64 0])∧dS Tryz.prog 81=some ([.int .i64 0,.int .u64 0,.slice none 0 0,.string ⟨#[]⟩,.bool false,.int .u8 0,.int .u8 0,.int .u8 0,.int .u8 0,.int .u8 0,.int .u8 0,.int .u8 0,.int .u8 0,.int .u8 0,.int .u8 0,.int .u8 0,.int .u8 0,.int .u8 0,.int .u8 0,.int .u8 0,.int .u8 0,.int .i64 0,.float .f64 0])∧dS Tryz.prog 103=some ([.pointer none])∧dS Tryz.prog 106=some ([.int .u64 0,.pointer none,.pointer none])∧dS Tryz.prog 108=some ([.int .i64 0,.int .i64 0])∧dS Tryz.prog 111=some ([.slice none 0 0])∧dS Tryz.prog 113=some ([.slice none 0 0])∧dS Tryz.prog 124=some ([.int .u8 0,.string ⟨#[]⟩])∧dS Tryz.prog 129=some ([.pointer none])∧dS Tryz.prog 146=some ([.pointer none])∧dS Tryz.prog 147=some ([.slice none 0 0])∧dS Tryz.prog 148=some ([.slice none 0 0])∧dS Tryz.prog 151=some ([.int .u64 0,.string ⟨#[]⟩,.slice none 0 0,.bool false,.int .u8 0,.int .u8 0,.int .u8 0,.int .u8 0,.int .u8 0,.int .u8 0,.int .u8 0,.int .u8 0,.int .u8 0,.int .u8 0,.int .u8 0,.int .u8 0,.int .u8 0,.int .u8 0,.int .u8 0,.int .u8 0,.int .u8 0,.int .u8 0,.int .u8 0,.int .u8 0,.int .u8 0,.int .u8 0,.int .u8 0,.int .u8 0,.int .u8 0,.int .u8 0,.int .u8 0,.int .u8 0,.int .u8 0,.int .u8 0,.int .u8 0,.int .u8 0,.slice none 0 0])∧dS Tryz.prog 152=some ([.slice none 0 0])∧dS Tryz.prog 154=some ([.int .u64 0,.string ⟨#[]⟩,.slice none 0 0,.bool false,.int .u8 0,.int .u8 0,.int .u8 0,.int .u8 0,.int .u8 0,.int .u8 0,.int .u8 0,.int .u8 0,.int .u8 0,.int .u8 0,.int .u8 0,.int .u8 0,.int .u8 0,.int .u8 0,.int .u8 0,.int .u8 0,.int .u8 0,.int .u8 0,.int .u8 0,.int .u8 0,.int .u8 0,.int .u8 0,.int .u8 0,.int .u8 0,.int .u8 0,.int .u8 0,.int .u8 0,.int .u8 0,.int .u8 0,.int .u8 0,.int .u8 0,.int .u8 0,.slice none 0 0,.slice none 0 0,.slice none 0 0])∧dS Tryz.prog 160=some ([.int .u64 0])∧dS Tryz.prog 162=some ([.map none])∧dS Tryz.prog 164=some ([.int .i64 0,.int .u64 0,.map none])∧dS Tryz.prog 173=some ([.int .u64 0,.int .u8 0,.int .u8 0,.int .u8 0,.int .u8 0,.int .u8 0,.int .u8 0,.int .u8 0,.int .u8 0,.int .u8 0,.int .u8 0,.int .u8 0,.int .u8 0,.int .u8 0,.int .u8 0,.int .u8 0,.int .u8 0,.int .u8 0,.int .u8 0,.int .u8 0,.int .u8 0,.int .u8 0,.int .u8 0,.int .u8 0,.int .u8 0,.int .u8 0,.int .u8 0,.int .u8 0,.int .u8 0,.int .u8 0,.int .u8 0,.int .u8 0,.int .u8 0,.int .u8 0,.int .u8 0,.int .u8 0,.int .u8 0,.int .u8 0,.int .u8 0,.int .u8 0,.int .u8 0,.int .u8 0,.int .u8 0,.int .u8 0,.int .u8 0,.int .u8 0,.int .u8 0,.int .u8 0,.int .u8 0,.int .u8 0,.int .u8 0,.int .u8 0,.int .u8 0,.int .u8 0,.int .u8 0,.int .u8 0,.int .u8 0,.int .u8 0,.int .u8 0,.int .u8 0,.int .u8 0,.int .u8 0,.int .u8 0,.int .u8 0,.int .u8 0,.string ⟨#[]⟩,.int .u8 0,.int .u8 0,.int .u8 0,.int .u8 0,.int .u8 0,.int .u8 0,.int .u8 0,.int .u8 0,.int .u8 0,.int .u8 0,.int .u8 0,.int .u8 0,.int .u8 0,.int .u8 0,.int .u8 0,.int .u8 0,.int .u8 0,.int .u8 0,.int .u8 0,.int .u8 0,.int .u8 0,.int .u8 0,.int .u8 0,.int .u8 0,.int .u8 0,.int .u8 0,.int .u8 0,.int .u8 0,.int .u8 0,.int .u8 0,.int .u8 0,.int .u8 0,.int .u8 0,.int .u8 0,.int .u8 0,.int .u8 0,.int .u8 0,.int .u8 0,.int .u8 0,.int .u8 0,.int .u8 0,.int .u8 0,.int .u8 0,.int .u8 0,.int .u8 0,.int .u8 0,.int .u8 0,.int .u8 0,.int .u8 0,.int .u8 0,.int .u8 0,.int .u8 0,.int .u8 0,.int .u8 0,.int .u8 0,.int .u8 0,.int .u8 0,.int .u8 0,.int .u8 0,.int .u8 0,.int .u8 0,.int .u8 0,.int .u8 0,.int .u8 0])∧dS Tryz.prog 186=some ([.slice none 0 0])∧dS Tryz.prog 191=some ([.int .i64 0,.int .u8 0,.int .u8 0,.int .u8 0,.int .u8 0,.int .u8 0,.int .u8 0,.int .u8 0,.int .u8 0,.int .u8 0,.int .u8 0,.int .u8 0,.int .u8 0,.int .u8 0,.int .u8 0,.int .u8 0,.int .u8 0,.int .u8 0,.int .u8 0,.int .u8 0,.int .u8 0,.int .u8 0,.int .u8 0,.int .u8 0,.int .u8 0,.int .u8 0,.int .u8 0,.int .u8 0,.int .u8 0,.int .u8 0,.int .u8 0,.int .u8 0,.int .u8 0,.int .u64 0,.bool false])∧dS Tryz.prog 206=some ([.nilIface])∧dS Tryz.prog 249=some ([.pointer none])∧dS Tryz.prog 251=some ([.slice none 0 0,.bool false])∧dS Tryz.prog 269=some ([.nilFunc])∧dS Tryz.prog 271=some ([.int .u16 0])∧dS Tryz.prog 272=some (zvs .u16 8)∧dS Tryz.prog 273=some ([.slice none 0 0])∧dS Tryz.prog 279=some ([.int .u32 0])∧dS Tryz.prog 293=some (zvs .u8 24)∧dS Tryz.prog 297=some ([.pointer none])∧dS Tryz.prog 299=some ([.pointer none,.slice none 0 0])∧dS Tryz.prog 310=some ([.int .i64 0])∧dS Tryz.prog 312=some ([.pointer none])∧dS Tryz.prog 318=some ([.slice none 0 0])∧dS Tryz.prog 319=some ([.pointer none])∧dS Tryz.prog 330=some (zvs .u64 20)∧dS Tryz.prog 331=some (zvs .u8 65)∧dS Tryz.prog 334=some ([.pointer none])∧dS Tryz.prog 336=some (zvs .u8 64)∧dS Tryz.prog 343=some ([.string ⟨#[]⟩,.string ⟨#[]⟩,.nilIface])∧dS Tryz.prog 346=some ([.pointer none])∧dS Tryz.prog 349=some ([.pointer none,.pointer none])∧dS Tryz.prog 355=some ([.pointer none])∧dS Tryz.prog 357=some ([.string ⟨#[]⟩])∧dS Tryz.prog 362=some (zvs .u32 8)∧dS Tryz.prog 364=some ([.int .u32 0,.int .u32 0,.int .u32 0,.int .u32 0,.int .u32 0,.int .u32 0,.int .u32 0,.int .u32 0,.int .u8 0,.int .u8 0,.int .u8 0,.int .u8 0,.int .u8 0,.int .u8 0,.int .u8 0,.int .u8 0,.int .u8 0,.int .u8 0,.int .u8 0,.int .u8 0,.int .u8 0,.int .u8 0,.int .u8 0,.int .u8 0,.int .u8 0,.int .u8 0,.int .u8 0,.int .u8 0,.int .u8 0,.int .u8 0,.int .u8 0,.int .u8 0,.int .u8 0,.int .u8 0,.int .u8 0,.int .u8 0,.int .u8 0,.int .u8 0,.int .u8 0,.int .u8 0,.int .u8 0,.int .u8 0,.int .u8 0,.int .u8 0,.int .u8 0,.int .u8 0,.int .u8 0,.int .u8 0,.int .u8 0,.int .u8 0,.int .u8 0,.int .u8 0,.int .u8 0,.int .u8 0,.int .u8 0,.int .u8 0,.int .u8 0,.int .u8 0,.int .u8 0,.int .u8 0,.int .u8 0,.int .u8 0,.int .u8 0,.int .u8 0,.int .u8 0,.int .u8 0,.int .u8 0,.int .u8 0,.int .u8 0,.int .u8 0,.int .u8 0,.int .u8 0,.int .u64 0])∧dS Tryz.prog 366=some (zvs .u8 256)∧dS Tryz.prog 368=some ([.int .u8 0,.int .u8 0])∧dS Tryz.prog 369=some (zvs .u8 32)∧dS Tryz.prog 371=some (zvs .u32 64)∧dS Tryz.prog 378=some ([.int .u8 0,.int .u8 0,.int .u8 0,.int .u8 0])∧dS Tryz.prog 381=some ([])∧dS Tryz.prog 383=some ([]):=by and_intros<;>kernel_rfl
theorem aGG:Tryz.prog.eqGuardType Tryz.prog.depth 23=false∧Tryz.prog.eqGuardType Tryz.prog.depth 22=false∧Tryz.prog.eqGuardType Tryz.prog.depth 74=false∧Tryz.prog.eqGuardType Tryz.prog.depth 73=false∧Tryz.prog.eqGuardType Tryz.prog.depth 24=false∧Tryz.prog.eqGuardType Tryz.prog.depth 79=false∧Tryz.prog.eqGuardType Tryz.prog.depth 26=false:=by and_intros<;>kernel_rfl
theorem aDJ:Tryz.prog.stoodInHeld 23=false∧Tryz.prog.stoodInHeld 22=false∧Tryz.prog.stoodInHeld 74=false∧Tryz.prog.stoodInHeld 73=false∧Tryz.prog.stoodInHeld 24=false∧Tryz.prog.stoodInHeld 79=false∧Tryz.prog.stoodInHeld 26=false:=by and_intros<;>kernel_rfl
theorem kO:sfT Tryz.prog 8=some [(0,1),(1,1),(2,1),(3,1)]∧sfT Tryz.prog 26=some [(0,1),(1,16)]∧sfT Tryz.prog 29=some [(0,1),(1,1),(2,17),(19,1)]∧sfT Tryz.prog 32=some [(0,20),(20,1),(21,1)]∧sfT Tryz.prog 40=some [(0,1),(1,1),(2,1),(3,1)]∧sfT Tryz.prog 46=some [(0,1),(1,1),(2,1),(3,1),(4,1),(5,96),(101,1),(102,1),(103,1),(104,1),(105,1),(106,20),(126,1),(127,1),(128,1)]∧sfT Tryz.prog 48=some [(0,1),(1,1),(2,1)]∧sfT Tryz.prog 62=some [(0,1),(1,32),(33,32),(65,1),(66,32),(98,32)]∧sfT Tryz.prog 64=some [(0,1),(1,1),(2,130),(132,1)]∧sfT Tryz.prog 67=some [(0,1),(1,1),(2,1),(3,1),(4,32)]∧sfT Tryz.prog 70=some [(0,36),(36,1)]∧sfT Tryz.prog 74=some [(0,1),(1,1),(2,1),(3,1),(4,1)]∧sfT Tryz.prog 79=some [(0,17),(17,1)]∧sfT Tryz.prog 81=some [(0,1),(1,1),(2,1),(3,1),(4,18),(22,1)]∧sfT Tryz.prog 106=some [(0,1),(1,1),(2,1)]∧sfT Tryz.prog 108=some [(0,1),(1,1)]∧sfT Tryz.prog 113=some [(0,1)]∧sfT Tryz.prog 124=some [(0,1),(1,1)]∧sfT Tryz.prog 151=some [(0,36),(36,1)]∧sfT Tryz.prog 154=some [(0,37),(37,1),(38,1)]∧sfT Tryz.prog 164=some [(0,1),(1,1),(2,1)]∧sfT Tryz.prog 173=some [(0,1),(1,32),(33,32),(65,1),(66,32),(98,32)]∧sfT Tryz.prog 191=some [(0,1),(1,32),(33,1),(34,1)]∧sfT Tryz.prog 251=some [(0,1),(1,1)]∧sfT Tryz.prog 299=some [(0,1),(1,1)]∧sfT Tryz.prog 343=some [(0,1),(1,1),(2,1)]∧sfT Tryz.prog 349=some [(0,1),(1,1)]∧sfT Tryz.prog 357=some [(0,1)]∧sfT Tryz.prog 364=some [(0,8),(8,64),(72,1)]∧sfT Tryz.prog 368=some [(0,1),(1,1)]∧sfT Tryz.prog 383=some [(0,0)]:=by and_intros<;>kernel_rfl
end Go.Proofs.YtefdnmeopbkflaaGreatDoor
namespace Go.Proofs.YtefdnmeopbkflaaGreatDoor
open Go Go.V
set_option maxRecDepth 100000
theorem kI {p q:Prop} (a:p) (b:q):p∧q:=⟨a,b⟩
theorem kT:type_of% (kI (kI (kI (kI (kI (kI (kI (kI @qq (kI @uC @aDa.eq_1)) (kI @aDa.eq_2 (kI @aL @eF.eq_1))) (kI (kI @aNS.eq_1 (kI @aNS.eq_2 @aNS.eq_3)) (kI @aNS.eq_4 (kI @aNS.eq_5 @aIF.eq_1)))) (kI (kI (kI @aIF.eq_2 (kI @aNb.eq_1 @aNb.eq_2)) (kI @rH.eq_1 (kI @rH.eq_2 @rH.eq_3))) (kI (kI @rH.eq_4 (kI @rH.eq_5 @rH.eq_6)) (kI (kI @rH.eq_7 @rH.eq_8) (kI @kO @List.getD_cons_zero.{0}))))) (kI (kI (kI (kI @List.getD_cons_succ.{0} (kI @vG @bF)) (kI @pI.eq_1 (kI @pI.eq_2 @uD.eq_1))) (kI (kI @uD.eq_2 (kI @tE.eq_1 @tE.eq_2)) (kI @aAr.eq_1 (kI @aAr.eq_2 @aCP.eq_1)))) (kI (kI (kI @aCP.eq_2 (kI @qJ.eq_1 @qJ.eq_2)) (kI @aDf.eq_1 (kI @aDf.eq_2 @aDf.eq_3))) (kI (kI @aCi.eq_1 (kI @aCi.eq_2 @aCi.eq_3)) (kI (kI @bV.eq_1 @bV.eq_2) (kI @zU.eq_1 @zU.eq_2)))))) (kI (kI (kI (kI (kI @aF (kI @bQ @aOz)) (kI @aB (kI @aG @eL))) (kI (kI @dQ (kI @eW @aW)) (kI @bT.eq_1 (kI @dD.eq_1 @gok.eq_1)))) (kI (kI (kI @aU (kI @aP @aI.eq_1)) (kI @aI.eq_2 (kI @bI.eq_1 @bI.eq_2))) (kI (kI @bI.eq_3 (kI @bI.eq_4 @bI.eq_5)) (kI (kI @bI.eq_6 @bI.eq_7) (kI @eN.eq_1 @eN.eq_2))))) (kI (kI (kI (kI @eN.eq_3 (kI @eN.eq_4 @eN.eq_5)) (kI @eN.eq_6 (kI @eY.eq_1 @iR.eq_1))) (kI (kI @iR.eq_2 (kI @iR.eq_3 @eJ.eq_1)) (kI @eJ.eq_2 (kI @dH.eq_1 @dH.eq_2)))) (kI (kI (kI @iC.eq_1 (kI @iC.eq_2 @iC.eq_3)) (kI @bH.eq_1 (kI @bH.eq_2 @bH.eq_3))) (kI (kI @bH.eq_4 (kI @bH.eq_5 @bH.eq_6)) (kI (kI @bH.eq_7 @bH.eq_8) (kI @bH.eq_9 @bH.eq_10))))))) (kI (kI (kI (kI (kI (kI @bH.eq_11 (kI @bH.eq_12 @bH.eq_13)) (kI @bH.eq_14 (kI @bH.eq_15 @bH.eq_16))) (kI (kI @bH.eq_17 (kI @aAc.eq_1 @aAc.eq_2)) (kI @aAc.eq_3 (kI @Bool.not_true @Bool.not_false)))) (kI (kI (kI @gL.eq_1 (kI @gL.eq_2 @gL.eq_3)) (kI @gL.eq_4 (kI @gL.eq_5 @gL.eq_6))) (kI (kI @gL.eq_7 (kI @gL.eq_8 @aun.eq_1)) (kI (kI @aun.eq_2 @aun.eq_3) (kI @aun.eq_4 @aun.eq_5))))) (kI (kI (kI (kI @dN.eq_1 (kI @dN.eq_2 @dN.eq_3)) (kI @dN.eq_4 (kI @dN.eq_5 @dN.eq_6))) (kI (kI @uU.eq_1 (kI @uU.eq_2 @uU.eq_3)) (kI @uU.eq_4 (kI @apart.eq_1 @aO.eq_1)))) (kI (kI (kI @aO.eq_2 (kI @aO.eq_3 @aO.eq_4)) (kI @aDd.eq_1 (kI @aDd.eq_2 @aN.eq_1))) (kI (kI @wP.eq_1 (kI @wP.eq_2 @gW.eq_1)) (kI (kI @gW.eq_2 @bU.eq_1) (kI @bU.eq_2 @bU.eq_3)))))) (kI (kI (kI (kI (kI @qI.eq_1 (kI @qI.eq_2 @qI.eq_3)) (kI @fY.eq_1 (kI @fY.eq_2 @fY.eq_3))) (kI (kI @aY.eq_1 (kI @aY.eq_2 @aY.eq_3)) (kI @bX.eq_1 (kI @bX.eq_2 @bB.eq_1)))) (kI (kI (kI @bB.eq_2 (kI @dC.eq_1 @dC.eq_2)) (kI @dC.eq_3 (kI @dC.eq_4 @dC.eq_5))) (kI (kI @dC.eq_6 (kI @dC.eq_7 @dC.eq_8)) (kI (kI @Value.oneCell'.eq_1 @Value.oneCell'.eq_2) (kI @Value.oneCell'.eq_3 @spl.eq_1))))) (kI (kI (kI (kI @eQ.eq_1 (kI @eQ.eq_2 @eQ.eq_3)) (kI @eQ.eq_4 (kI @aCK.eq_1 @gC.eq_1))) (kI (kI @gC.eq_2 (kI @fP.eq_1 @eM.eq_1)) (kI @eM.eq_2 (kI @dO.eq_1 @dL.eq_1)))) (kI (kI (kI @dV.eq_1 (kI @fA.eq_1 @aCO.eq_1)) (kI @aCO.eq_2 (kI @mG.eq_1 @mG.eq_2))) (kI (kI @fF.eq_1 (kI @fF.eq_2 @fF.eq_3)) (kI (kI @fF.eq_4 @fF.eq_5) (kI @dF.eq_1 @fN.eq_1)))))))) (kI (kI (kI (kI (kI (kI (kI @aT.eq_1 (kI @aT.eq_2 @bA.eq_1)) (kI @bA.eq_2 (kI @bA.eq_3 @bA.eq_4))) (kI (kI @B.eq_1 (kI @aH.eq_1 @aH.eq_2)) (kI @aH.eq_3 (kI @aH.eq_4 @aH.eq_5)))) (kI (kI (kI @aH.eq_6 (kI @aH.eq_7 @aH.eq_8)) (kI @aH.eq_9 (kI @aH.eq_10 @aH.eq_11))) (kI (kI @flat.eq_1 (kI @flat.eq_2 @flat.eq_3)) (kI (kI @flat.eq_4 @flat.eq_5) (kI @flat.eq_6 @flat.eq_7))))) (kI (kI (kI (kI @flat.eq_8 (kI @flat.eq_9 @flat.eq_10)) (kI @bW.eq_1 (kI @bW.eq_2 @aK))) (kI (kI @dE (kI @Option.isSome_some.{0} @IntKind.bits.eq_1)) (kI @IntKind.bits.eq_2 (kI @IntKind.bits.eq_3 @IntKind.bits.eq_4)))) (kI (kI (kI @IntKind.bits.eq_5 (kI @IntKind.bits.eq_6 @IntKind.bits.eq_7)) (kI @IntKind.bits.eq_8 (kI @Nat.min_def @aJ))) (kI (kI @aM.eq_1 (kI @aM.eq_2 @jE.eq_1)) (kI (kI @jE.eq_2 @dK) (kI @rQ @jJ)))))) (kI (kI (kI (kI (kI @gV (kI @cav.eq_1 @cav.eq_2)) (kI @bD (kI @lX @bS))) (kI (kI @aGG (kI @aDJ @jK)) (kI @aBs (kI @eZ @aDW.eq_1)))) (kI (kI (kI @aDW.eq_2 (kI @aDW.eq_3 @tC.eq_1)) (kI @aAh (kI @eG.eq_1 @true_and))) (kI (kI @and_true (kI @Option.map_some.{0,0} @Option.map_none.{0,0})) (kI (kI @Option.getD_some.{0} @Option.getD_none.{0}) (kI @Option.bind_some.{0,0} @List.map_cons.{0,0}))))) (kI (kI (kI (kI @List.map_nil.{0,0} (kI @List.toList_toArray.{0} @List.headD_cons.{0})) (kI @List.headD_nil.{0} (kI @List.tail_cons.{0} @List.tail_nil.{0}))) (kI (kI @List.getElem?_toArray.{0} (kI @List.getElem?_cons_zero.{0} @List.getElem?_cons_succ.{0})) (kI @List.contains_nil.{0} (kI @List.contains_cons.{0} @List.all_cons.{0})))) (kI (kI (kI @List.all_nil.{0} (kI @Bool.and_true @Bool.true_and)) (kI @Bool.or_false (kI @Bool.false_or @Int.sub_zero))) (kI (kI @Int.toNat_natCast (kI @Nat.mul_one @Int.toNat_zero)) (kI (kI @Nat.zero_mul @Nat.add_zero) (kI @Nat.zero_add @List.drop_zero.{0}))))))) (kI (kI (kI (kI (kI (kI @List.length_cons.{0} (kI @List.length_nil.{0} @List.nil_append.{0})) (kI @List.append_nil.{0} (kI @aX @kP))) (kI (kI @fL (kI @List.length_drop.{0} @eR)) (kI @jG (kI @kJ @eS)))) (kI (kI (kI @eA (kI @Int.cast_ofNat_Int @beq_self_eq_true.{0})) (kI @ByteArray.toList_mk (kI @dJ @jQ))) (kI (kI @ne_eq.{1} (kI @not_true_eq_false @not_false_eq_true)) (kI (kI @Nat.le_refl @Int.le_refl) (kI @Bool.false_eq_true @eq_self.{1}))))) (kI (kI (kI (kI @List.replicate_succ.{0} (kI @List.replicate_zero.{0} @List.flatten_cons.{0})) (kI @List.flatten_nil.{0} (kI @List.cons_append.{0} @List.take_zero.{0}))) (kI (kI @List.take_succ_cons.{0} (kI @List.drop_succ_cons.{0} @List.take_nil.{0})) (kI @List.drop_nil.{0} (kI @List.set_cons_zero.{0} @List.set_cons_succ.{0})))) (kI (kI (kI @false_or (kI @or_false @or_true)) (kI @true_or (kI @Tryz.underlying2 @Tryz.underlying3))) (kI (kI @Tryz.underlying4 (kI @Tryz.underlying5 @Tryz.underlying9)) (kI (kI @Tryz.underlying21 @Tryz.underlying23) (kI @Tryz.underlying24 @Tryz.underlying26)))))) (kI (kI (kI (kI (kI @Tryz.underlying27 (kI @Tryz.underlying29 @Tryz.underlying30)) (kI @Tryz.underlying40 (kI @Tryz.underlying42 @Tryz.underlying43))) (kI (kI @Tryz.underlying46 (kI @Tryz.underlying48 @Tryz.underlying50)) (kI @Tryz.underlying54 (kI @Tryz.underlying65 @Tryz.underlying67)))) (kI (kI (kI @Tryz.underlying68 (kI @Tryz.underlying70 @Tryz.underlying74)) (kI @Tryz.underlying77 (kI @Tryz.underlying79 @Tryz.underlying81))) (kI (kI @Tryz.underlying103 (kI @Tryz.underlying106 @Tryz.underlying111)) (kI (kI @Tryz.underlying113 @Tryz.underlying124) (kI @Tryz.underlying147 @Tryz.underlying148))))) (kI (kI (kI (kI @Tryz.underlying151 (kI @Tryz.underlying152 @Tryz.underlying154)) (kI @Tryz.underlying160 (kI @Tryz.underlying162 @Tryz.underlying164))) (kI (kI @Tryz.underlying186 (kI @Tryz.underlying191 @Tryz.underlying206)) (kI @Tryz.underlying251 (kI @Tryz.underlying271 @Tryz.underlying272)))) (kI (kI (kI @Tryz.underlying273 (kI @Tryz.underlying279 @Tryz.underlying293)) (kI @Tryz.underlying310 (kI @Tryz.underlying318 @Tryz.underlying331))) (kI (kI @Tryz.underlying336 (kI @Tryz.underlying346 @Tryz.underlying349)) (kI (kI @Tryz.underlying362 @Tryz.underlying364) (kI @Tryz.underlying371 @Tryz.underlying378))))))))):=(kI (kI (kI (kI (kI (kI (kI (kI @qq (kI @uC @aDa.eq_1)) (kI @aDa.eq_2 (kI @aL @eF.eq_1))) (kI (kI @aNS.eq_1 (kI @aNS.eq_2 @aNS.eq_3)) (kI @aNS.eq_4 (kI @aNS.eq_5 @aIF.eq_1)))) (kI (kI (kI @aIF.eq_2 (kI @aNb.eq_1 @aNb.eq_2)) (kI @rH.eq_1 (kI @rH.eq_2 @rH.eq_3))) (kI (kI @rH.eq_4 (kI @rH.eq_5 @rH.eq_6)) (kI (kI @rH.eq_7 @rH.eq_8) (kI @kO @List.getD_cons_zero.{0}))))) (kI (kI (kI (kI @List.getD_cons_succ.{0} (kI @vG @bF)) (kI @pI.eq_1 (kI @pI.eq_2 @uD.eq_1))) (kI (kI @uD.eq_2 (kI @tE.eq_1 @tE.eq_2)) (kI @aAr.eq_1 (kI @aAr.eq_2 @aCP.eq_1)))) (kI (kI (kI @aCP.eq_2 (kI @qJ.eq_1 @qJ.eq_2)) (kI @aDf.eq_1 (kI @aDf.eq_2 @aDf.eq_3))) (kI (kI @aCi.eq_1 (kI @aCi.eq_2 @aCi.eq_3)) (kI (kI @bV.eq_1 @bV.eq_2) (kI @zU.eq_1 @zU.eq_2)))))) (kI (kI (kI (kI (kI @aF (kI @bQ @aOz)) (kI @aB (kI @aG @eL))) (kI (kI @dQ (kI @eW @aW)) (kI @bT.eq_1 (kI @dD.eq_1 @gok.eq_1)))) (kI (kI (kI @aU (kI @aP @aI.eq_1)) (kI @aI.eq_2 (kI @bI.eq_1 @bI.eq_2))) (kI (kI @bI.eq_3 (kI @bI.eq_4 @bI.eq_5)) (kI (kI @bI.eq_6 @bI.eq_7) (kI @eN.eq_1 @eN.eq_2))))) (kI (kI (kI (kI @eN.eq_3 (kI @eN.eq_4 @eN.eq_5)) (kI @eN.eq_6 (kI @eY.eq_1 @iR.eq_1))) (kI (kI @iR.eq_2 (kI @iR.eq_3 @eJ.eq_1)) (kI @eJ.eq_2 (kI @dH.eq_1 @dH.eq_2)))) (kI (kI (kI @iC.eq_1 (kI @iC.eq_2 @iC.eq_3)) (kI @bH.eq_1 (kI @bH.eq_2 @bH.eq_3))) (kI (kI @bH.eq_4 (kI @bH.eq_5 @bH.eq_6)) (kI (kI @bH.eq_7 @bH.eq_8) (kI @bH.eq_9 @bH.eq_10))))))) (kI (kI (kI (kI (kI (kI @bH.eq_11 (kI @bH.eq_12 @bH.eq_13)) (kI @bH.eq_14 (kI @bH.eq_15 @bH.eq_16))) (kI (kI @bH.eq_17 (kI @aAc.eq_1 @aAc.eq_2)) (kI @aAc.eq_3 (kI @Bool.not_true @Bool.not_false)))) (kI (kI (kI @gL.eq_1 (kI @gL.eq_2 @gL.eq_3)) (kI @gL.eq_4 (kI @gL.eq_5 @gL.eq_6))) (kI (kI @gL.eq_7 (kI @gL.eq_8 @aun.eq_1)) (kI (kI @aun.eq_2 @aun.eq_3) (kI @aun.eq_4 @aun.eq_5))))) (kI (kI (kI (kI @dN.eq_1 (kI @dN.eq_2 @dN.eq_3)) (kI @dN.eq_4 (kI @dN.eq_5 @dN.eq_6))) (kI (kI @uU.eq_1 (kI @uU.eq_2 @uU.eq_3)) (kI @uU.eq_4 (kI @apart.eq_1 @aO.eq_1)))) (kI (kI (kI @aO.eq_2 (kI @aO.eq_3 @aO.eq_4)) (kI @aDd.eq_1 (kI @aDd.eq_2 @aN.eq_1))) (kI (kI @wP.eq_1 (kI @wP.eq_2 @gW.eq_1)) (kI (kI @gW.eq_2 @bU.eq_1) (kI @bU.eq_2 @bU.eq_3)))))) (kI (kI (kI (kI (kI @qI.eq_1 (kI @qI.eq_2 @qI.eq_3)) (kI @fY.eq_1 (kI @fY.eq_2 @fY.eq_3))) (kI (kI @aY.eq_1 (kI @aY.eq_2 @aY.eq_3)) (kI @bX.eq_1 (kI @bX.eq_2 @bB.eq_1)))) (kI (kI (kI @bB.eq_2 (kI @dC.eq_1 @dC.eq_2)) (kI @dC.eq_3 (kI @dC.eq_4 @dC.eq_5))) (kI (kI @dC.eq_6 (kI @dC.eq_7 @dC.eq_8)) (kI (kI @Value.oneCell'.eq_1 @Value.oneCell'.eq_2) (kI @Value.oneCell'.eq_3 @spl.eq_1))))) (kI (kI (kI (kI @eQ.eq_1 (kI @eQ.eq_2 @eQ.eq_3)) (kI @eQ.eq_4 (kI @aCK.eq_1 @gC.eq_1))) (kI (kI @gC.eq_2 (kI @fP.eq_1 @eM.eq_1)) (kI @eM.eq_2 (kI @dO.eq_1 @dL.eq_1)))) (kI (kI (kI @dV.eq_1 (kI @fA.eq_1 @aCO.eq_1)) (kI @aCO.eq_2 (kI @mG.eq_1 @mG.eq_2))) (kI (kI @fF.eq_1 (kI @fF.eq_2 @fF.eq_3)) (kI (kI @fF.eq_4 @fF.eq_5) (kI @dF.eq_1 @fN.eq_1)))))))) (kI (kI (kI (kI (kI (kI (kI @aT.eq_1 (kI @aT.eq_2 @bA.eq_1)) (kI @bA.eq_2 (kI @bA.eq_3 @bA.eq_4))) (kI (kI @B.eq_1 (kI @aH.eq_1 @aH.eq_2)) (kI @aH.eq_3 (kI @aH.eq_4 @aH.eq_5)))) (kI (kI (kI @aH.eq_6 (kI @aH.eq_7 @aH.eq_8)) (kI @aH.eq_9 (kI @aH.eq_10 @aH.eq_11))) (kI (kI @flat.eq_1 (kI @flat.eq_2 @flat.eq_3)) (kI (kI @flat.eq_4 @flat.eq_5) (kI @flat.eq_6 @flat.eq_7))))) (kI (kI (kI (kI @flat.eq_8 (kI @flat.eq_9 @flat.eq_10)) (kI @bW.eq_1 (kI @bW.eq_2 @aK))) (kI (kI @dE (kI @Option.isSome_some.{0} @IntKind.bits.eq_1)) (kI @IntKind.bits.eq_2 (kI @IntKind.bits.eq_3 @IntKind.bits.eq_4)))) (kI (kI (kI @IntKind.bits.eq_5 (kI @IntKind.bits.eq_6 @IntKind.bits.eq_7)) (kI @IntKind.bits.eq_8 (kI @Nat.min_def @aJ))) (kI (kI @aM.eq_1 (kI @aM.eq_2 @jE.eq_1)) (kI (kI @jE.eq_2 @dK) (kI @rQ @jJ)))))) (kI (kI (kI (kI (kI @gV (kI @cav.eq_1 @cav.eq_2)) (kI @bD (kI @lX @bS))) (kI (kI @aGG (kI @aDJ @jK)) (kI @aBs (kI @eZ @aDW.eq_1)))) (kI (kI (kI @aDW.eq_2 (kI @aDW.eq_3 @tC.eq_1)) (kI @aAh (kI @eG.eq_1 @true_and))) (kI (kI @and_true (kI @Option.map_some.{0,0} @Option.map_none.{0,0})) (kI (kI @Option.getD_some.{0} @Option.getD_none.{0}) (kI @Option.bind_some.{0,0} @List.map_cons.{0,0}))))) (kI (kI (kI (kI @List.map_nil.{0,0} (kI @List.toList_toArray.{0} @List.headD_cons.{0})) (kI @List.headD_nil.{0} (kI @List.tail_cons.{0} @List.tail_nil.{0}))) (kI (kI @List.getElem?_toArray.{0} (kI @List.getElem?_cons_zero.{0} @List.getElem?_cons_succ.{0})) (kI @List.contains_nil.{0} (kI @List.contains_cons.{0} @List.all_cons.{0})))) (kI (kI (kI @List.all_nil.{0} (kI @Bool.and_true @Bool.true_and)) (kI @Bool.or_false (kI @Bool.false_or @Int.sub_zero))) (kI (kI @Int.toNat_natCast (kI @Nat.mul_one @Int.toNat_zero)) (kI (kI @Nat.zero_mul @Nat.add_zero) (kI @Nat.zero_add @List.drop_zero.{0}))))))) (kI (kI (kI (kI (kI (kI @List.length_cons.{0} (kI @List.length_nil.{0} @List.nil_append.{0})) (kI @List.append_nil.{0} (kI @aX @kP))) (kI (kI @fL (kI @List.length_drop.{0} @eR)) (kI @jG (kI @kJ @eS)))) (kI (kI (kI @eA (kI @Int.cast_ofNat_Int @beq_self_eq_true.{0})) (kI @ByteArray.toList_mk (kI @dJ @jQ))) (kI (kI @ne_eq.{1} (kI @not_true_eq_false @not_false_eq_true)) (kI (kI @Nat.le_refl @Int.le_refl) (kI @Bool.false_eq_true @eq_self.{1}))))) (kI (kI (kI (kI @List.replicate_succ.{0} (kI @List.replicate_zero.{0} @List.flatten_cons.{0})) (kI @List.flatten_nil.{0} (kI @List.cons_append.{0} @List.take_zero.{0}))) (kI (kI @List.take_succ_cons.{0} (kI @List.drop_succ_cons.{0} @List.take_nil.{0})) (kI @List.drop_nil.{0} (kI @List.set_cons_zero.{0} @List.set_cons_succ.{0})))) (kI (kI (kI @false_or (kI @or_false @or_true)) (kI @true_or (kI @Tryz.underlying2 @Tryz.underlying3))) (kI (kI @Tryz.underlying4 (kI @Tryz.underlying5 @Tryz.underlying9)) (kI (kI @Tryz.underlying21 @Tryz.underlying23) (kI @Tryz.underlying24 @Tryz.underlying26)))))) (kI (kI (kI (kI (kI @Tryz.underlying27 (kI @Tryz.underlying29 @Tryz.underlying30)) (kI @Tryz.underlying40 (kI @Tryz.underlying42 @Tryz.underlying43))) (kI (kI @Tryz.underlying46 (kI @Tryz.underlying48 @Tryz.underlying50)) (kI @Tryz.underlying54 (kI @Tryz.underlying65 @Tryz.underlying67)))) (kI (kI (kI @Tryz.underlying68 (kI @Tryz.underlying70 @Tryz.underlying74)) (kI @Tryz.underlying77 (kI @Tryz.underlying79 @Tryz.underlying81))) (kI (kI @Tryz.underlying103 (kI @Tryz.underlying106 @Tryz.underlying111)) (kI (kI @Tryz.underlying113 @Tryz.underlying124) (kI @Tryz.underlying147 @Tryz.underlying148))))) (kI (kI (kI (kI @Tryz.underlying151 (kI @Tryz.underlying152 @Tryz.underlying154)) (kI @Tryz.underlying160 (kI @Tryz.underlying162 @Tryz.underlying164))) (kI (kI @Tryz.underlying186 (kI @Tryz.underlying191 @Tryz.underlying206)) (kI @Tryz.underlying251 (kI @Tryz.underlying271 @Tryz.underlying272)))) (kI (kI (kI @Tryz.underlying273 (kI @Tryz.underlying279 @Tryz.underlying293)) (kI @Tryz.underlying310 (kI @Tryz.underlying318 @Tryz.underlying331))) (kI (kI @Tryz.underlying336 (kI @Tryz.underlying346 @Tryz.underlying349)) (kI (kI @Tryz.underlying362 @Tryz.underlying364) (kI @Tryz.underlying371 @Tryz.underlying378)))))))))
theorem kF:type_of% (kI (kI (kI @bL.eq_1 (kI @bL.eq_2 @bL.eq_3)) (kI @bR (kI @eU.eq_1 @bN.eq_1))) (kI (kI @bN.eq_2 (kI @bO.eq_1 @bO.eq_2)) (kI (kI @dA.eq_1 @dA.eq_2) (kI @dA.eq_3 @dA.eq_4)))):=(kI (kI (kI @bL.eq_1 (kI @bL.eq_2 @bL.eq_3)) (kI @bR (kI @eU.eq_1 @bN.eq_1))) (kI (kI @bN.eq_2 (kI @bO.eq_1 @bO.eq_2)) (kI (kI @dA.eq_1 @dA.eq_2) (kI @dA.eq_3 @dA.eq_4))))
theorem kQ:type_of% (kI @aD (kI @aB @qq)):=(kI @aD (kI @aB @qq))
theorem kN:type_of% (kI (kI @gS.eq_1 (kI @gS.eq_2 @gB.eq_1)) (kI (kI @fJ.eq_1 @fJ.eq_2) (kI @fR.eq_1 @fR.eq_2))):=(kI (kI @gS.eq_1 (kI @gS.eq_2 @gB.eq_1)) (kI (kI @fJ.eq_1 @fJ.eq_2) (kI @fR.eq_1 @fR.eq_2)))
def kst (ls:List Nat) (s:St):St:=⟨s.nt,aAD ls s.slots,s.objs⟩
section
variable {P:Program} {G:Gl} {Q:Exit→St→Prop} {st:St} {id nt:Nat} {l:List Oper} {s:List (Nat×AV)} {os:List AObj} {x y:Code} {z R:Prop} {T:(St→Prop)→Prop}
theorem kC {ls:List Nat} (h:awp P G y (kst ls st) Q):awp P G y st Q:=aE ls h
theorem kq (h:R) (e:∀ K:St→Prop,(∀ s,awp P G y s Q→K s)→R→dG P G [] l.toArray l st (aI K Q .normal):=by
 intro K hK h;simp only[seval,kT];and_intros<;>try omega
 exact hK _ h):awp P G (.seq (.region id l.toArray false) y) st Q:=aC fun K hK=>aA [] (e K hK h)
theorem ky (X:z) (h:R) (e:∀ K:St→Prop,(∀ s,awp P G y s Q→K s)→z→R→dG P G [] l.toArray l st (aI K Q .normal):=by
 intro K hK X h;simp only[seval,kT,X];and_intros<;>try omega
 exact hK _ h):awp P G (.seq (.region id l.toArray false) y) st Q:=aC fun K hK=>aA [] (e K hK X h)
theorem ks (ls:List Nat) (h:R) (e:∀ K:St→Prop,(∀ s,awp P G y (kst ls s) Q→K s)→R→dG P G [] l.toArray l st (aI K Q .normal):=by
 intro K hK h;simp only[seval,kT];and_intros<;>try omega
 refine hK _ ?_;simp only[seval,kst,kQ]
 exact h):awp P G (.seq (.region id l.toArray false) y) st Q:=aC fun K hK=>aA [] (e K (fun s h=>hK s (kC h)) h)
theorem kx (ls:List Nat) (X:z) (h:R) (e:∀ K:St→Prop,(∀ s,awp P G y (kst ls s) Q→K s)→z→R→dG P G [] l.toArray l st (aI K Q .normal):=by
 intro K hK X h;simp only[seval,kT,X];and_intros<;>try omega
 refine hK _ ?_;simp only[seval,kst,kQ]
 exact h):awp P G (.seq (.region id l.toArray false) y) st Q:=aC fun K hK=>aA [] (e K (fun s h=>hK s (kC h)) X h)
theorem kr (M:List Nat) (h:∀ K:St→Prop,(∀ s,awp P G y s Q→K s)→T K) (e:∀ K,T K→dG P G M l.toArray l st (aI K Q .normal):=by
 intro K h;simp only[seval,kT];exact h):awp P G (.seq (.region id l.toArray false) y) st Q:=aC fun K hK=>aA M (e K (h K hK))
theorem kw (M:List Nat) (X:z) (h:∀ K:St→Prop,(∀ s,awp P G y s Q→K s)→T K) (e:∀ K,z→T K→dG P G M l.toArray l st (aI K Q .normal):=by
 intro K X h;simp only[seval,kT,X];exact h):awp P G (.seq (.region id l.toArray false) y) st Q:=aC fun K hK=>aA M (e K X (h K hK))
theorem ko (M:List Nat) (h:R) (e:R→dG P G M l.toArray l st (Q .normal):=by
 intro h;simp only[seval,kT];exact h):awp P G (.region id l.toArray false) st Q:=aA M (e h)
theorem ku (M:List Nat) (X:z) (h:R) (e:z→R→dG P G M l.toArray l st (Q .normal):=by
 intro X h;simp only[seval,kT,X];exact h):awp P G (.region id l.toArray false) st Q:=aA M (e X h)
theorem kd (M:List Nat) (h:R) (hm:P.follows .mixedOrders=true:=by kernel_rfl) (hB:aLw M l.toArray l.length 0 (Array.replicate l.length false)=true:=by kernel_rfl) (e:R→dG P G M l.toArray l st (Q .normal):=by
 intro h;simp only[seval,kT];exact h):awp P G (.region id l.toArray true) st Q:=dW M hm hB (e h)
theorem kde (M:List Nat) (X:z) (h:R) (hm:P.follows .mixedOrders=true:=by kernel_rfl) (hB:aLw M l.toArray l.length 0 (Array.replicate l.length false)=true:=by kernel_rfl) (e:z→R→dG P G M l.toArray l st (Q .normal):=by
 intro X h;simp only[seval,kT,X];exact h):awp P G (.region id l.toArray true) st Q:=dW M hm hB (e X h)
theorem kp (ls:List Nat) (h:R) (e:R→awp P G y ⟨nt,aAD ls s,os⟩ Q:=by
 intro h;simp only[seval,kQ];exact h):awp P G y ⟨nt,s,os⟩ Q:=aE ls (e h)
theorem kb {f:FuncId} {C:Prop} {b:Bool} {a:List AV} {k:AV→Prop} {v:AV} (c:ACalls P G f a [] (fun r os=>os=[]∧r=v)) (h:k v) (hC:C:=by simp[aJ,aM,aH]) (hf:(if b then flat v else aH v)=true:=by simp[aH,aM,aJ,flat]):aIs P G (some f) (some (C,b,a)) k:=aV hC c hf h
theorem kc {f:FuncId} {C:Prop} {b:Bool} {a:List AV} {k:AV→Prop} {v:AV} (c:ACalls P G f a [] (fun r os=>os=[]∧r=v)) (h:R) (hC:C:=by simp[aJ,aM,aH]) (hf:(if b then flat v else aH v)=true:=by simp[aH,aM,aJ,flat]) (e:R→k v:=by
 intro h;simp only[seval,kT];exact h):aIs P G (some f) (some (C,b,a)) k:=aV hC c hf (e h)
theorem kv {f:FuncId} {C:Prop} {b:Bool} {a:List AV} {k:AV→Prop} {v:AV} (c:ACalls P G f a [] (fun r os=>os=[]∧r=v)) (X:z) (h:R) (hC:C:=by simp[aJ,aM,aH]) (hf:(if b then flat v else aH v)=true:=by simp[aH,aM,aJ,flat]) (e:z→R→k v:=by
 intro X h;simp only[seval,kT,X];exact h):aIs P G (some f) (some (C,b,a)) k:=aV hC c hf (e X h)
theorem ke {f:FuncId} {fn:Func} {a:List AV} {V:AV→List AObj→Prop} {rvs:Array ResultVar} (hf:P.funcs[f]? = some fn) (hnt:fn.ntmps=nt) (hrv:fn.results=rvs) (rts:Array TypeId) (h:R) (hb:fn.body=some y:=by rfl) (hn:(fn.name == "runtime.NumGoroutine")=false:=by rfl) (hrt:fn.resultTypes=rts:=by rfl) (hle:a.length≤nt:=by simp) (hds:G.ds=[]:=by rfl)
  (e:R→awp P G y ⟨nt,aZ 0 a,[]⟩ (Fin P rts.toList rvs.toList V):=by intro h;simp only[seval,aZ];exact h):ACalls P G f a [] V:=aQ hf hb hn hnt hrt hrv hle (e h) hds
end
end Go.Proofs.YtefdnmeopbkflaaGreatDoor
namespace Go.Proofs.YtefdnmeopbkflaaGreatDoor
open Go Go.V
set_option linter.unusedSimpArgs false
set_option linter.unusedVariables false
set_option maxRecDepth 100000
theorem aDt (l:List UInt8) (p:Perm):ACalls Tryz.prog G0 171 [.sl l.length (Bs l) p] [] (fun r os=>os=[]∧r=.sl l.length (Bs l) .full):=by
 refine ke Tryz.func171 Tryz.ntmps171 Tryz.results171 #[54] ?_
 refine kq ?_
 refine aC fun K hK=>aA [] ?_
 simp only[qq,aF,Nat.reduceLT,aB,reduceCtorEq,bI,Nat.reduceEqDiff,bV,eN,Tryz.underlying54,eY,iR,Option.map_none,Option.map_some,bD,aX,Nat.mul_one,eJ,dH,ne_eq,eA,eS,iC,aG,aI,Int.le_refl,or_true,Int.sub_zero,Int.toNat_natCast,Int.toNat_zero,List.take_of_length_le]
 (repeat' apply And.intro)<;>try (first|exact True.intro|omega)
 refine hK _ ?_
 clear hK K
 refine aS ?_
 simp only[seval,kT,kF]
def be4 (x:Nat):List UInt8:=[UInt8.ofNat (x/16777216),UInt8.ofNat (x/65536),UInt8.ofNat (x/256),UInt8.ofNat x]
theorem aOa (n:Nat):IntKind.u8.wrap (n:Int)=((UInt8.ofNat n).toNat:Int):=by
 rw[IntKind.wrap_u8]
 simp
theorem aFJ (a k:Nat):Int.fdiv (a:Int) (2^k)=((a/2^k:Nat):Int):=by
 rw[Int.fdiv_eq_ediv_of_nonneg _ (by exact Int.le_of_lt (Int.pow_pos (by omega)))]
 rw[show (2:Int)^k=((2^k:Nat):Int) from by simp]
 rfl
theorem aQm (b:UInt8):AV.val (.int .u8 (b.toNat:Int))=B b:=rfl
theorem aNC (b:UInt8) (l:List UInt8):B b::Bs l=Bs (b::l):=rfl
theorem aBY (l:List UInt8) (p:Perm) (x:Nat) (hl:l.length≤70368744177664):ACalls Tryz.prog G0 198 [.sl l.length (Bs l) p,.val (.int .u32 (x:Int))] [] (fun r os=>os=[]∧r=.sl (l.length+4) (Bs (l++be4 x)) .no):=by
 refine ke Tryz.func198 Tryz.ntmps198 Tryz.results198 #[54] ?_
 refine kq ?_
 refine kr [] fun K hK=>?_
 refine aV trivial (aDt l _) (by simp[aH,aJ]) ?_
 simp only[qq,aK,aF,Nat.reduceLT,aB,Nat.reduceEqDiff,reduceCtorEq,cav,aL,aP,bH,Int.reduceLE,Int.reduceToNat,IntKind.bits,Nat.min_def,Nat.reduceLeDiff,aFJ,eL,Tryz.underlying5,eG,bA,aH,fF,Tryz.underlying279,Option.isSome_some,aOa,dV,Tryz.underlying54,bD,bS,Nat.mul_one,jJ,List.replicate_succ,List.replicate_zero,dO,eM,spl,bB,eA,Nat.reduceAdd,List.drop_nil,gV,aX,List.all_cons,dC,Value.oneCell',List.all_nil,dL,bI,fP,lX,gC,eQ,aG,aI]
 refine⟨by omega,hK _ ?_⟩
 refine aE [4] ?_
 simp only[aD,aB,Nat.reduceEqDiff,if_true,if_false]
 simp only[aQm,← gV,aNC,← iD]
 refine aS ?_
 simp only[qq,aI,bL,bR,eU,bN,bO,dA,bW,aH,eq_self,aB,Nat.reduceEqDiff,List.headD_cons,List.tail_cons,aJ]
 simp[be4]
def tQ (n:Nat):Nat:=(119 - n%64)%64
def aAH (n:Nat):List UInt8:=128::(List.replicate (tQ n) 0++be4 (n/536870912%4294967296)++be4 (n*8%4294967296))
theorem xX (n:Nat):IntKind.u64.wrap (n:Int)=((n%18446744073709551616:Nat):Int):=by
 simp[IntKind.wrap,IntKind.bits,IntKind.signed]
theorem aGI (n:Nat):IntKind.u32.wrap (n:Int)=((n%4294967296:Nat):Int):=by
 simp[IntKind.wrap,IntKind.bits,IntKind.signed]
theorem aMo (a b:Nat):Int.tmod (a:Int) (b:Int)=((a%b:Nat):Int):=rfl
theorem aMT (n k:Nat) (hk:k≤tQ n):((IntKind.u64.wrap (IntKind.u64.wrap ((n:Int)+IntKind.u64.wrap ((1+k:Nat):Int))+8)).tmod 64 != 0)=decide (k<tQ n):=by
 have e1:IntKind.u64.wrap ((1+k:Nat):Int)=((1+k:Nat):Int):=by
  rw[xX]
  unfold tQ at hk
  omega
 rw[e1,show (n:Int)+((1+k:Nat):Int)=((n+(1+k):Nat):Int) from by omega,xX,show (((n+(1+k))%18446744073709551616:Nat):Int)+8=(((n+(1+k))%18446744073709551616+8:Nat):Int) from by omega,xX]
 rw[show ((64:Int))=((64:Nat):Int) from rfl,aMo]
 unfold tQ at *
 rw[Bool.eq_iff_iff]
 simp only[bne_iff_ne,ne_eq,decide_eq_true_eq]
 omega
theorem aPq (n:Nat) (hn:n<18446744073709551616):ACalls Tryz.prog G0 294 [.val (.int .u64 (n:Int))] [] (fun r os=>os=[]∧r=.sl (aAH n).length (Bs (aAH n)) .no):=by
 have hz:tQ n<64:=by unfold tQ;omega
 refine ke Tryz.func294 Tryz.ntmps294 Tryz.results294 #[54] ?_
 refine kq ?_
 refine ks [0,3] ?_
 refine aC fun K hK=>?_
 refine bK ?_
 refine oA 1 3 rfl ?_
 refine bZ (fun k=>⟨26,[(0,.val (.int .u64 (n:Int))),(3,.sl (1+k) (Bs (128::List.replicate k 0)) (.tok 0))],[.tok 1 (1+k)]⟩) (fun k=>k≤tQ n) (fun k=>tQ n - k) 0 (Nat.zero_le _) (.of_keep [0,3] (by exact rfl)) ?_
 intro k hk
 refine bJ (bJ ?_)
 refine aA [] ?_
 simp only[qq,aF,Nat.reduceLT,aB,reduceCtorEq,Nat.reduceEqDiff,bI,bV,eN,Tryz.underlying54,eL,Tryz.underlying30,eG,bA,bW,Tryz.underlying3,fF,Option.isSome_some,aL,cav,aG,aI,aP,bH,ne_eq,Int.reduceEq,aMT n k hk]
 (repeat' apply And.intro)<;>try (first|exact True.intro|omega)
 refine fB rfl rfl (fun h=>?_) (fun h=>?_)
 ·have hlt:k<tQ n:=by simpa using h
  apply bC
  simp only[seval,kT]
  refine aE [0,3] ?_
  simp only[aD,aB,Nat.reduceEqDiff,if_true,if_false]
  refine bK ?_
  refine ko [] ?_
  (repeat' apply And.intro)<;>try (first|exact True.intro|omega)
  all_goals try (simp;omega)
  simp only[bL]
  refine⟨k+1,by omega,by omega,?_⟩
  have e:Bs (128::List.replicate k 0)++[AV.val (Value.int IntKind.u8 0)]=Bs (128::List.replicate (k+1) 0):=by
   rw[List.replicate_succ',← List.cons_append,iD]
   rfl
  rw[e]
  exact .of_keep [0,3] rfl
 ·have hge:k=tQ n:=by
   have:¬ k<tQ n:=by simpa using h
   omega
  subst hge
  apply dR
  simp only[seval,kT,kF]
  refine hK _ ?_
  clear hK K
  refine aE [0,3] ?_
  simp only[aD,aB,Nat.reduceEqDiff,if_true,if_false]
  refine aC fun K hK=>aA [] ?_
  simp only[qq,aF,Nat.reduceLT,aB,reduceCtorEq,Nat.reduceEqDiff,cav,aL,aP,bH,Int.reduceLE,Int.reduceToNat,IntKind.bits,Nat.min_def,Nat.reduceLeDiff,aFJ,eL,Tryz.underlying279,eG,bA,aH,fF,Tryz.underlying30,Option.isSome_some,aGI,aU,Nat.reduceAdd,bF,aT,aJ,bW]
  rw[show 1+tQ n=(128::List.replicate (tQ n) (0:UInt8)).length from by simp;omega]
  refine aV (by simp[aJ,aM,aH]) (aBY _ _ _ (by simp;omega)) (by simp[aH,aM,aJ,flat]) ?_
  simp only[qq,aK,aF,Nat.reduceLT,aB,Nat.reduceEqDiff,reduceCtorEq,aG,aI]
  (repeat' apply And.intro)<;>try (first|exact True.intro|omega)
  refine hK _ ?_
  clear hK K
  refine aE [0,3] ?_
  simp only[aD,aB,Nat.reduceEqDiff,if_true,if_false]
  refine aC fun K hK=>aA [] ?_
  simp only[qq,aF,Nat.reduceLT,aB,reduceCtorEq,Nat.reduceEqDiff,cav,aL,aP,bH,Int.reduceLE,Int.reduceToNat,IntKind.bits,Nat.min_def,Nat.reduceLeDiff,eL,Tryz.underlying279,eG,bA,aH,fF,Tryz.underlying30,Option.isSome_some,aU,Nat.reduceAdd,bF,aT,aJ,bW]
  rw[show ((n:Int)*2^3)=((n*8:Nat):Int) from by omega,xX,aGI]
  rw[show (List.replicate (tQ n) (0:UInt8)).length+1+4=(128::(List.replicate (tQ n) 0++be4 (n/2^29%4294967296))).length from by simp[be4]]
  refine aV (by simp[aJ,aM,aH]) (aBY _ _ _ (by simp[be4];omega)) (by simp[aH,aM,aJ,flat]) ?_
  simp only[qq,aK,aF,Nat.reduceLT,aB,Nat.reduceEqDiff,reduceCtorEq,aG,aI]
  (repeat' apply And.intro)<;>try (first|exact True.intro|omega)
  refine hK _ ?_
  clear hK K
  refine aE [2] ?_
  simp only[aD,aB,Nat.reduceEqDiff,if_true,if_false]
  refine aS ?_
  simp only[qq,aI,bL,bR,eU,bN,bO,dA,bW,aH,eq_self,aB,Nat.reduceEqDiff,List.headD_cons,List.tail_cons,aJ]
  have e1:n*8%18446744073709551616%4294967296=n*8%4294967296:=by omega
  have e2:n/2^29%4294967296=n/536870912%4294967296:=rfl
  rw[e1,e2]
  simp only[aAH]
  congr 1
  simp[be4]
def be8 (x:Nat) (j:Nat):List UInt8:=(List.range j).map fun i=>UInt8.ofNat (x/2^(8*(7 - i)))
theorem oQ (x j:Nat):(be8 x j).length=j:=by simp[be8]
theorem aPm {a b:Nat} (h:a%256=b%256):UInt8.ofNat a=UInt8.ofNat b:=by
 apply UInt8.toNat_inj.1
 simpa using h
theorem qS {n:Int} (h0:-9223372036854775808≤n) (h1:n≤9223372036854775807):IntKind.i64.wrap n=n:=by
 simp[IntKind.wrap,IntKind.bits,IntKind.signed]
 omega
class Gv where
 most:Int
 synT:TypeId
 synP:Value
 rngT:TypeId
 rngP:Value
def aHm:List Int:=[1,10,100,1000,10000,100000,1000000,10000000,100000000,1000000000,10000000000,100000000000,1000000000000,10000000000000,100000000000000,1000000000000000,10000000000000000,100000000000000000,1000000000000000000,10000000000000000000]
def aHl:List Int:=[0,1,56,2,57,49,28,3,61,58,42,50,38,29,17,4,62,47,59,36,45,43,51,22,53,39,33,30,24,18,12,5,63,55,48,27,60,41,37,16,46,35,44,21,52,32,23,11,54,26,40,15,34,20,31,10,25,14,19,9,13,8,7,6]
def GP [Gv]:Gl:=⟨[(9,Is .u32 aGE),(5,[.val (.int .i64 Gv.most)]),(3,[.val (.iface Gv.synT Gv.synP)]),(4,[.val (.iface Gv.rngT Gv.rngP)]),(1,Is .u64 aHm),(2,Is .u8 aHl)],[]⟩
theorem gp0 [Gv]:gav GP 9=.cptr (Is .u32 aGE):=rfl
theorem gp2 [Gv]:gav GP 2=.cptr (Is .u8 aHl):=rfl
theorem aKS [Gv] (i:Int):ACalls Tryz.prog GP 301 [.val (.int .i64 i)] [] (fun r os=>os=[]∧r=.val (.int .u32 (if 0≤i∧i<64 then aGE.getD i.toNat 0 else 0))):=by
 refine ke Tryz.func301 Tryz.ntmps301 Tryz.results301 #[279] ?_
 refine kq ?_
 refine aC fun K1 hK1=>?_
 refine aC fun K hK=>?_
 have next:∀ (t:Bool) (s:St),t=decide (¬ (0≤i∧i<64))→gE GP s ⟨12,[(8,.val (.bool t)),(0,.val (.int .i64 i))],[]⟩→K s:=by
  intro t s ht hw
  refine hK s (eX hw ?_)
  clear hw hK K
  refine fB rfl rfl (fun h=>?_) (fun h=>?_)
  ·have hn:¬ (0≤i∧i<64):=of_decide_eq_true (ht.symm.trans h)
   refine kp [0] ?_
   refine ks [2] ?_
   refine aS ?_
   simp only[qq,aI,bL,bR,eU,bN,bO,dA,bW,aH,eq_self,aB,Nat.reduceEqDiff,List.headD_cons,List.tail_cons]
   rw[if_neg hn]
  ·have hn:0≤i∧i<64:=by
    have:=of_decide_eq_false (ht.symm.trans h)
    omega
   refine bC (hK1 _ ?_)
   clear hK1 K1
   obtain⟨j,rfl⟩:∃ j:Nat,i=j:=⟨i.toNat,by omega⟩
   have hl:aGE.length=64:=rfl
   have hj:j<64:=by omega
   have hj2:0<64 - j:=by omega
   have hj3:j≤64:=by omega
   refine kp [0] ?_
   refine aC fun K hK=>aA [] ?_
   simp only[qq,Int.toNat_natCast,aF,Nat.reduceLT,aB,dN,reduceCtorEq,Tryz.underlying371,gp0,bD,Int.cast_ofNat_Int,Nat.mul_one,dZ,hl,hj3,mS,aY,Nat.reduceEqDiff,apart,aO,Tryz.underlying279,aG,aI,List.length_drop,hj2,aTv,fL,aQL]
   refine⟨⟨by omega,by omega⟩,hK _ ?_⟩
   refine aE [2] ?_
   simp only[aD,aB,Nat.reduceEqDiff,if_true,if_false]
   refine aS ?_
   simp only[qq,aI,bL,bR,eU,bN,bO,dA,bW,aH,eq_self,aB,Nat.reduceEqDiff,List.headD_cons,List.tail_cons]
   rw[if_pos hn,Int.toNat_natCast]
 by_cases h0:i<0
 ·have h0':decide (i<0)=true:=by simpa using h0
  refine ku [] h0' ?_
  and_intros<;>try omega
  refine next _ _ ?_ (.of_keep [8,0] (by exact rfl))
  simp
  omega
 ·have h0':decide (i<0)=false:=by simpa using h0
  refine ku [] h0' ?_
  and_intros<;>try omega
  refine next _ _ ?_ (.of_keep [8,0] (by exact rfl))
  rw[Bool.eq_iff_iff]
  simp
  omega
theorem aQA (n:Int):∃ m:Nat,IntKind.u64.wrap n=(m:Int)∧m%32=(n%32).toNat:=by
 refine⟨(n%18446744073709551616).toNat,?_,by omega⟩
 simp[IntKind.wrap,IntKind.signed,IntKind.bits]
 omega
theorem aPs (x:Nat) (n:Int) (hx:x<4294967296):ACalls Tryz.prog G0 306 [.val (.int .u32 (x:Int)),.val (.int .i64 n)] [] (fun r os=>os=[]∧r=.val (.int .u32 (aFo x (n%32).toNat:Int))):=by
 obtain⟨m,hm,hm32⟩:=aQA n
 generalize hk:(n%32).toNat=k at hm32
 have hk32:k<32:=by omega
 have ha:bits BinOp.and IntKind.u64 (m:Int) 31=(k:Int):=by
  have h:=aOF m 31
  rw[show m &&& 31=m%32 from Nat.and_two_pow_sub_one_eq_mod m 5,hm32,Nat.mod_eq_of_lt (by omega)] at h
  exact h
 have hw:IntKind.u64.wrap (32 - (k:Int))=((32 - k:Nat):Int):=by
  rw[show (32:Int) - (k:Int)=((32 - k:Nat):Int) by omega,tN,Nat.mod_eq_of_lt (by omega)]
 have e1:(if k≤32 then k else 32)=k:=if_pos (by omega)
 have e2:(if 32 - k≤32 then 32 - k else 32)=32 - k:=if_pos (by omega)
 refine ke Tryz.func306 Tryz.ntmps306 Tryz.results306 #[279] ?_
 refine kq ?_
 refine ky (kI hm ha) ?_
 refine aC fun K hK=>aA [] ?_
 simp only[qq,aF,Nat.reduceLT,aB,reduceCtorEq,Nat.reduceEqDiff,aL,aP,bH,Int.toNat_natCast,IntKind.bits,Nat.min_def,e1,aCq,qV,cav,hw,e2,rV,aME,aG,aI]
 (repeat' apply And.intro)<;>try (first|exact True.intro|omega)
 refine hK _ ?_
 clear hK K
 have hr:aFo x k%4294967296=aFo x k:=Nat.mod_eq_of_lt (aOR hx hk32)
 rw[show (x*2^k%4294967296 ||| x/2^(32 - k))=aFo x k from rfl,hr]
 apply aS
 simp only[seval,kT,kF]
theorem aPz (n:Int):-32<n.tmod 32∧n.tmod 32<32∧(n.tmod 32)%32=n%32:=by
 have h:=Int.tmod_def n 32
 refine⟨?_,Int.tmod_lt_of_pos n (by omega),by omega⟩
 by_cases hn:0≤n
 ·have:=Int.tmod_nonneg 32 hn;omega
 ·have h1:=Int.neg_tmod (-n) 32
  rw[Int.neg_neg] at h1
  have h2:=Int.tmod_lt_of_pos (-n) (show (0:Int)<32 by omega)
  omega
theorem mW (x:Nat) (n:Int) (hx:x<4294967296):ACalls Tryz.prog G0 305 [.val (.int .u32 (x:Int)),.val (.int .i64 n)] [] (fun r os=>os=[]∧r=.val (.int .u32 (jF x n:Int))):=by
 obtain⟨h1,h2,h3⟩:=aPz n
 have hw:IntKind.i64.wrap (0 - n.tmod 32)=-(n.tmod 32):=by rw[qS (by omega) (by omega)];omega
 have hr:=aPs x (-(n.tmod 32)) hx
 rw[show (-(n.tmod 32))%32=(-n)%32 by omega] at hr
 refine ke Tryz.func305 Tryz.ntmps305 Tryz.results305 #[279] ?_
 refine kq ?_
 refine kw [] hw fun K hK=>?_
 refine kc (hr) (hK _ ?_)
 apply aS
 simp only[seval,kT,kF]
 rfl
theorem aFz (i:Int) (x:Nat) (hx:x<4294967296):ACalls Tryz.prog G0 304 [.val (.int .i64 i),.val (.int .u32 (x:Int))] [] (fun r os=>os=[]∧r=.val (.int .u32 (small i x:Int))):=by
 have f0:((jF x 7 ^^^ jF x 18) ^^^ x/2^3)%4294967296=small 0 x:=by
  have h:=(Nat.mod_eq_of_lt (aAV (lD hx 7) (lD hx 18) (show x/8<4294967296 by omega))).trans (aPw x).symm
  rw[show (2:Nat)^3=8 from rfl,aAU]
  exact h
 have f1:((jF x 17 ^^^ jF x 19) ^^^ x/2^10)%4294967296=small 1 x:=by
  have h:=(Nat.mod_eq_of_lt (aAV (lD hx 17) (lD hx 19) (show x/1024<4294967296 by omega))).trans (aPx x).symm
  rw[show (2:Nat)^10=1024 from rfl,aAU]
  exact h
 have hm:∀ a b,(jF x a ^^^ jF x b)%4294967296=jF x a ^^^ jF x b:=fun a b=>Nat.mod_eq_of_lt (fT fun j hj=>by simp[Nat.testBit_xor,iJ (lD hx _) hj])
 refine ke Tryz.func304 Tryz.ntmps304 Tryz.results304 #[279] ?_
 refine kq ?_
 refine aC fun K1 hK1=>?_
 refine kq ?_
 apply bK
 refine kp [1,5] ?_
 by_cases h0:i=0
 ·subst h0
  refine kq ?_
  apply bG rfl
  refine aE [1] ?_
  simp only[aD,aB,Nat.reduceEqDiff,if_true,if_false]
  refine aC fun K hK=>aA [] ?_
  simp only[qq,aF,Nat.reduceLT,aB,aU,Nat.reduceAdd,Nat.reduceEqDiff,cav,bF,aT,bA,aH]
  refine aV (by simp[aJ,aM,aH]) (mW x 7 hx) (by simp[aH,aM,aJ,flat]) ?_
  simp only[qq,aK,aF,Nat.reduceLT,aB,Nat.reduceEqDiff,aU,Nat.reduceAdd,cav,bF,aT,bA,aH]
  refine aV (by simp[aJ,aM,aH]) (mW x 18 hx) (by simp[aH,aM,aJ,flat]) ?_
  simp only[qq,aK,aF,aB,Nat.reduceEqDiff,aL,aP,bH,oF,hm,Nat.reduceLT,cav,Int.reduceLE,Int.reduceToNat,IntKind.bits,Nat.min_def,Nat.reduceLeDiff,rV,f0,aG,aI]
  refine hK _ ?_
  refine aE [4] ?_
  simp only[aD,aB,Nat.reduceEqDiff,if_true,if_false]
  refine aS ?_
  simp only[qq,bL,aI,bR,eU,bN,bO,dA,aB,aH]
 have hb0:(i == 0)=false:=by simpa using h0
 refine ky hb0 ?_
 apply aR rfl
 refine kp [1,5] ?_
 by_cases h1:i=1
 ·subst h1
  refine kq ?_
  apply bG rfl
  refine aE [1] ?_
  simp only[aD,aB,Nat.reduceEqDiff,if_true,if_false]
  refine aC fun K hK=>aA [] ?_
  simp only[qq,aF,Nat.reduceLT,aB,aU,Nat.reduceAdd,Nat.reduceEqDiff,cav,bF,aT,bA,aH]
  refine aV (by simp[aJ,aM,aH]) (mW x 17 hx) (by simp[aH,aM,aJ,flat]) ?_
  simp only[qq,aK,aF,Nat.reduceLT,aB,Nat.reduceEqDiff,aU,Nat.reduceAdd,cav,bF,aT,bA,aH]
  refine aV (by simp[aJ,aM,aH]) (mW x 19 hx) (by simp[aH,aM,aJ,flat]) ?_
  simp only[qq,aK,aF,aB,Nat.reduceEqDiff,aL,aP,bH,oF,hm,Nat.reduceLT,cav,Int.reduceLE,Int.reduceToNat,IntKind.bits,Nat.min_def,Nat.reduceLeDiff,rV,f1,aG,aI]
  refine hK _ ?_
  refine aE [4] ?_
  simp only[aD,aB,Nat.reduceEqDiff,if_true,if_false]
  refine aS ?_
  simp only[qq,bL,aI,bR,eU,bN,bO,dA,aB,aH]
 have hb1:(i == 1)=false:=by simpa using h1
 refine ky hb1 ?_
 apply aR rfl
 apply bC
 simp only[seval,kT,kF]
 refine hK1 _ ?_
 clear hK1 K1
 refine ks [4] ?_
 refine aS ?_
 simp only[seval,kT,kF]
 rw[aPy x h0 h1]
 rfl
end Go.Proofs.YtefdnmeopbkflaaGreatDoor
namespace Go.Proofs.YtefdnmeopbkflaaGreatDoor
open Go Go.V
set_option linter.unusedSimpArgs false
set_option linter.unusedVariables false
set_option maxRecDepth 20000
end Go.Proofs.YtefdnmeopbkflaaGreatDoor
namespace Go.Proofs.YtefdnmeopbkflaaGreatDoor
open Go Go.V
set_option linter.unusedSimpArgs false
set_option linter.unusedVariables false
set_option maxRecDepth 100000
theorem aPO (b:List UInt8) (p:Perm):ACalls Tryz.prog G0 303 [.sl b.length (Bs b) p] [] (fun r os=>os=[]∧r=.val (.int .u32 (gw b:Int))):=by
 refine aQ Tryz.func303 rfl rfl Tryz.ntmps303 (rts:=#[279]) rfl Tryz.results303 (by simp) ?_
 simp only[aZ,Nat.reduceAdd]
 refine aC fun K hK=>aA [] ?_
 simp only[qq,aF,Nat.reduceLT,aB,cav,aG,aI]
 (repeat' apply And.intro)<;>try (first|exact True.intro|omega)
 refine hK _ ?_
 clear hK K
 refine aC fun K hK=>aA [] ?_
 simp only[qq,aF,dF,bS,cav,Nat.reduceLT,aG,aI,aB]
 (repeat' apply And.intro)<;>try (first|exact True.intro|omega)
 refine hK _ ?_
 clear hK K
 refine aE [0,3] ?_
 simp only[aD,aB,Nat.reduceEqDiff,if_true,if_false]
 refine aC fun K hK=>aA [] ?_
 simp only[qq,aF,eY,iR,Option.map_none,Tryz.underlying378,aB,reduceCtorEq,bD,eJ,Int.le_refl,dH,Int.cast_ofNat_Int,Int.reduceLE,ne_eq,not_true_eq_false,or_false,Int.toNat_zero,Nat.mul_one,Int.sub_zero,Int.reduceToNat,Nat.reduceLT,bI,Nat.reduceEqDiff,aCK,Tryz.underlying54,eQ,aX,Nat.min_def,spl,aG,aI,Nat.reduceAdd,eS,eR]
 have key:(if 0<if b.length≤4 then b.length else 4 then
      [AObj.cells
        (Bs (List.take (if b.length≤4 then b.length else 4) b) ++
         List.drop (List.take (if b.length≤4 then b.length else 4) b).length
          [AV.val (Value.int IntKind.u8 0),AV.val (Value.int IntKind.u8 0),AV.val (Value.int IntKind.u8 0),AV.val (Value.int IntKind.u8 0)])]
     else
      [AObj.cells
        [AV.val (Value.int IntKind.u8 0),AV.val (Value.int IntKind.u8 0),AV.val (Value.int IntKind.u8 0),AV.val (Value.int IntKind.u8 0)]])=[AObj.cells [B (b.getD 0 0),B (b.getD 1 0),B (b.getD 2 0),B (b.getD 3 0)]]:=by
  by_cases h4:4≤b.length
  ·rw[show (if b.length≤4 then b.length else 4)=4 by split<;>omega]
   rcases b with _|⟨b0,_|⟨b1,_|⟨b2,_|⟨b3,r⟩⟩⟩⟩<;>simp[Bs,B] at h4 ⊢
  ·rw[show (if b.length≤4 then b.length else 4)=b.length by split<;>omega]
   rcases b with _|⟨b0,_|⟨b1,_|⟨b2,_|⟨b3,r⟩⟩⟩⟩<;>simp[Bs,B] at h4 ⊢
 rw[key]
 refine⟨by split<;>omega,hK _ ?_⟩
 clear hK K key
 refine aE [3] ?_
 simp only[aD,aB,Nat.reduceEqDiff,if_true,if_false]
 have h0:=(b.getD 0 0).toNat_lt
 have h1:=(b.getD 1 0).toNat_lt
 have h2:=(b.getD 2 0).toNat_lt
 have h3:=(b.getD 3 0).toNat_lt
 have hg:=aNr _ _ _ _ h0 h1 h2 h3
 have hl:∀ n,n=(b.getD 0 0).toNat*16777216+(b.getD 1 0).toNat*65536+(b.getD 2 0).toNat*256+(b.getD 3 0).toNat→n=gw b:=fun n h=>h
 generalize gw b=g at hl ⊢
 generalize (b.getD 0 0)=b0 at *
 generalize (b.getD 1 0)=b1 at *
 generalize (b.getD 2 0)=b2 at *
 generalize (b.getD 3 0)=b3 at *
 rw[show [B b0,B b1,B b2,B b3]=Bs [b0,b1,b2,b3] from rfl]
 refine aC fun K hK=>aA [] ?_
 simp only[qq,aF,dN,aB,cav,Tryz.underlying378,bD,Int.le_refl,Int.cast_ofNat_Int,Int.reduceLT,Int.toNat_zero,Nat.mul_one,Nat.reduceLT,aY,Nat.reduceEqDiff,apart,aO,Tryz.underlying5,eL,Tryz.underlying279,eG,bA,bW,fF,Option.isSome_some,aL,Int.reduceLE,Int.reduceToNat,aG,aI,aX,Nat.reduceAdd,kP,B,qV,aP,bH,IntKind.bits,Nat.min_def,Nat.reduceLeDiff,aCq,List.getD_cons_succ,aME,hg,hl _ rfl]
 (repeat' apply And.intro)<;>try (first|exact True.intro|omega)
 refine hK _ ?_
 clear hK K
 refine aS ?_
 simp only[qq,bR,eU,bN,bO,dA,aB,Nat.reduceEqDiff,aH]
end Go.Proofs.YtefdnmeopbkflaaGreatDoor
namespace Go.Proofs.YtefdnmeopbkflaaGreatDoor
open Go Go.V
set_option linter.unusedSimpArgs false
set_option linter.unusedVariables false
set_option maxRecDepth 20000
end Go.Proofs.YtefdnmeopbkflaaGreatDoor
namespace Go.Proofs.YtefdnmeopbkflaaGreatDoor
open Go Go.V
set_option linter.unusedSimpArgs false
set_option linter.unusedVariables false
set_option maxRecDepth 100000
theorem aFv (b:List UInt8) (hb:b.length=64):∃ W s1 s0:Nat→Nat,W=word b∧(∀ i,W i<4294967296)∧
  (∀ i,i<16→∀ p,ACalls Tryz.prog G0 303 [.sl (64 - 4*i) (Bs (b.drop (4*i))) p] [] (fun r os=>os=[]∧r=.val (.int .u32 (W i:Int))))∧
  (∀ i,ACalls Tryz.prog G0 304 [.val (.int .i64 1),.val (.int .u32 (W i:Int))] [] (fun r os=>os=[]∧r=.val (.int .u32 (s1 i:Int))))∧
  (∀ i,ACalls Tryz.prog G0 304 [.val (.int .i64 0),.val (.int .u32 (W i:Int))] [] (fun r os=>os=[]∧r=.val (.int .u32 (s0 i:Int))))∧
  (∀ i,16≤i→(((s1 (i - 2)+W (i - 7))%4294967296+s0 (i - 15))%4294967296+W (i - 16))%4294967296=W i):=by
 refine⟨word b,fun i=>small 1 (word b i),fun i=>small 0 (word b i),rfl,aEX b,fun i hi p=>?_,fun i=>aFz 1 _ (aEX b i),fun i=>aFz 0 _ (aEX b i),fun i hi=>?_⟩
 ·have h:=aPO (b.drop (4*i)) p
  rw[List.length_drop,hb,← aHq b i hi] at h
  exact h
 ·rw[aMu b i hi]
  show (((small 1 (word b (i - 2))+word b (i - 7))%4294967296+small 0 (word b (i - 15)))%4294967296+word b (i - 16))%4294967296=_
  generalize small 1 (word b (i - 2))=a
  generalize small 0 (word b (i - 15))=c
  omega
theorem aFw (b:List UInt8) (hb:b.length=64):ACalls Tryz.prog G0 298 [.agg (Bs b)] [] (fun r os=>os=[]∧r=.agg (Is .u32 (arr 64 (word b) 64))):=by
 obtain⟨W,s1,s0,hW,hlt,cG,c1,c0,hbig⟩:=aFv b hb
 rw[← hW]
 have hbt:b.take 64=b:=List.take_of_length_le (by omega)
 have hbd:b.drop 64=[]:=List.drop_eq_nil_of_le (by omega)
 have hz:(zvs .u32 64).map cav=Is .u32 (arr 64 W 0):=by rw[aEZ,aKr]
 have hl:∀ i,(arr 64 W i).length=64:=aAs 64 W
 refine ke Tryz.func298 Tryz.ntmps298 Tryz.results298 #[371] ?_
 refine kx [1,2] hz ?_
 refine aC fun K1 hK1=>?_
 refine kq ?_
 apply bK
 refine bZ (fun i:Nat=>⟨40,[(1,.ptr 0 0),(2,.ptr 1 0),(4,.val (.int .i64 (i:Int)))],[.cells (Bs b),.cells (Is .u32 (arr 64 W i))]⟩)
  (fun i=>i≤64) (fun i=>64 - i) 0 (by omega) (.of_keep [1,2,4] rfl) ?_
 intro i hi
 refine ky @aCB ?_
 apply bJ
 refine fB rfl rfl (fun h=>?_) (fun h=>?_)
 ·have hlt:i<64:=of_decide_eq_true h
  apply bC
  simp only[seval,kT]
  refine aE [1,2,4] ?_
  simp only[aD,aB,Nat.reduceEqDiff,if_true,if_false]
  apply bJ
  apply bK
  refine kq ?_
  refine kx [1,2,3,4,8] @aCB ?_
  by_cases h16:i<16
  ·refine bG (by simp only[aB,lk,h16,decide_true];rfl) ?_
   refine aE [1,2,3,4] ?_
   simp only[aD,aB,Nat.reduceEqDiff,if_true,if_false]
   have hw:IntKind.i64.wrap (4*(i:Int))=((4*i:Nat):Int):=by rw[qS (by omega) (by omega)];omega
   have h64:((64:Int) - ((4*i:Nat):Int)).toNat=64 - 4*i:=by omega
   have hd:(b.drop (4*i)).take (64 - 4*i)=b.drop (4*i):=List.take_of_length_le (by rw[List.length_drop];omega)
   refine ku [] (kI hw (kI h64 hd)) ?_
   refine⟨by omega,?_⟩
   refine aV (by omega) (cG i h16 _) (by simp[flat]) ?_
   simp only[qq,aK,aF,dN,aB,Nat.reduceEqDiff,Tryz.underlying371,bD,Int.cast_ofNat_Int,Int.toNat_natCast,Nat.mul_one,Nat.reduceLT,bQ,bX,bB,List.all_cons,dC,Value.oneCell',List.all_nil,spl,aG,dZ,hl,Nat.reduceLeDiff,nX,mS]
   refine⟨⟨by omega,by omega⟩,by omega,?_⟩
   rw[aGO (by rw[hl];omega),aIE]
   simp only[bL,aI]
   refine aE [1,2,4] ?_
   simp only[aD,aB,Nat.reduceEqDiff,if_true,if_false]
   have h6:IntKind.i64.wrap ((i+1:Nat):Int)=((i+1:Nat):Int):=fD (by omega)
   refine aA [] ?_
   simp only[qq,aF,aB,Nat.reduceEqDiff,cav,aL,aP,bH,gO,h6,Nat.reduceLT,aG,aI]
   exact⟨i+1,by omega,by omega,.of_keep [1,2,4] rfl⟩
  ·refine aR (by simp only[aB,lk,h16,decide_false];rfl) ?_
   refine aE [1,2,3,4] ?_
   simp only[aD,aB,Nat.reduceEqDiff,if_true,if_false]
   have w2:IntKind.i64.wrap ((i:Int) - 2)=((i - 2:Nat):Int):=by rw[qS (by omega) (by omega)];omega
   have w7:IntKind.i64.wrap ((i:Int) - 7)=((i - 7:Nat):Int):=by rw[qS (by omega) (by omega)];omega
   have w15:IntKind.i64.wrap ((i:Int) - 15)=((i - 15:Nat):Int):=by rw[qS (by omega) (by omega)];omega
   have w16:IntKind.i64.wrap ((i:Int) - 16)=((i - 16:Nat):Int):=by rw[qS (by omega) (by omega)];omega
   have l2:i - 2<64:=by omega
   have l7:i - 7<64:=by omega
   have l15:i - 15<64:=by omega
   have l16:i - 16<64:=by omega
   have g2:=tF (n:=64) W (show i - 2<i by omega) l2
   have g7:=tF (n:=64) W (show i - 7<i by omega) l7
   have g15:=tF (n:=64) W (show i - 15<i by omega) l15
   have g16:=tF (n:=64) W (show i - 16<i by omega) l16
   refine dW [20,30] (by kernel_rfl) (by kernel_rfl) ?_
   simp only[qq,aF,Nat.reduceLT,aB,Nat.reduceEqDiff,cav,aL,aP,bH,w2,dN,Tryz.underlying371,bD,Int.cast_ofNat_Int,Int.toNat_natCast,Nat.mul_one,aY,List.contains_cons,Nat.reduceBEq,apart,aO,Tryz.underlying279,aU,Nat.reduceAdd,bF,beq_self_eq_true,aT,bA,aH,bW,List.tail_cons,List.headD_cons,dZ,hl,l2,aTv,I,g2]
   refine⟨by omega,?_⟩
   refine aV (by simp[aJ,aM,aH,eC,fC]) (c1 (i - 2)) (by simp[aH,aM,aJ,flat,eC,fC]) ?_
   simp only[qq,aK,aF,Nat.reduceLT,aB,Nat.reduceEqDiff,cav,aL,aP,bH,w7,dN,Tryz.underlying371,bD,Int.cast_ofNat_Int,Int.toNat_natCast,Nat.mul_one,aY,List.contains_cons,Nat.reduceBEq,apart,aO,Tryz.underlying279,w15,aU,Nat.reduceAdd,bF,beq_self_eq_true,Bool.false_or,aT,bA,aH,bW,List.tail_cons,List.headD_cons,dZ,hl,l15,aTv,I,g15,l7,g7,oW,qV]
   refine⟨by omega,by omega,?_⟩
   refine aV (by simp[aJ,aM,aH,eC,fC]) (c0 (i - 15)) (by simp[aH,aM,aJ,flat,eC,fC]) ?_
   simp only[qq,aK,aF,aB,Nat.reduceEqDiff,aL,aP,bH,oW,qV,Nat.reduceLT,cav,w16,dN,Tryz.underlying371,bD,Int.cast_ofNat_Int,Int.toNat_natCast,Nat.mul_one,aY,List.contains_cons,Nat.reduceBEq,apart,aO,Tryz.underlying279,bQ,bX,bB,spl,aG,dZ,hl,nX,mS,l16,aTv,I,g16,hbig i (by omega),List.all_cons,dC,Value.oneCell',List.all_nil,Nat.reduceLeDiff]
   refine⟨⟨by omega,by omega⟩,⟨by omega,by omega⟩,by omega,?_⟩
   rw[aGO (by rw[hl];omega),aIE]
   simp only[bL,aI]
   refine aE [1,2,4] ?_
   simp only[aD,aB,Nat.reduceEqDiff,if_true,if_false]
   have h6:IntKind.i64.wrap ((i+1:Nat):Int)=((i+1:Nat):Int):=fD (by omega)
   refine aA [] ?_
   simp only[qq,aF,aB,Nat.reduceEqDiff,cav,aL,aP,bH,gO,h6,Nat.reduceLT,aG,aI]
   exact⟨i+1,by omega,by omega,.of_keep [1,2,4] rfl⟩
 ·have he:i=64:=by have:=of_decide_eq_false h;omega
  subst he
  apply dR
  simp only[seval,kT,kF]
  refine hK1 _ ?_
  clear hK1 K1
  refine kp [2] ?_
  refine aC fun K hK=>aA [] ?_
  have ht:(arr 64 W 64).take 64=arr 64 W 64:=List.take_of_length_le (by rw[hl];omega)
  have hdr:(arr 64 W 64).drop 64=[]:=List.drop_eq_nil_of_le (by rw[hl];omega)
  simp only[seval,kT,dZ,hl,nX,ht,mS,vF,hdr,aAY]
  refine hK _ ?_
  clear hK K
  apply aS
  simp only[qq,bR,eU,bN,bO,aY,aB,Nat.reduceEqDiff,apart,aO,Tryz.underlying371,bD,dZ,hl,nX,ht,dA,aH,eC]
end Go.Proofs.YtefdnmeopbkflaaGreatDoor
namespace Go.Proofs.YtefdnmeopbkflaaGreatDoor
open Go Go.V
set_option linter.unusedSimpArgs false
set_option linter.unusedVariables false
set_option maxRecDepth 20000
end Go.Proofs.YtefdnmeopbkflaaGreatDoor
namespace Go.Proofs.YtefdnmeopbkflaaGreatDoor
open Go Go.V
set_option linter.unusedSimpArgs false
set_option linter.unusedVariables false
set_option maxRecDepth 100000
theorem aFP (i:Int) (x:Nat) (hx:x<4294967296):ACalls Tryz.prog G0 299 [.val (.int .i64 i),.val (.int .u32 (x:Int))] [] (fun r os=>os=[]∧r=.val (.int .u32 (nQ i x:Int))):=by
 have hm:∀ a b,(jF x a ^^^ jF x b)%4294967296=jF x a ^^^ jF x b:=fun a b=>Nat.mod_eq_of_lt (fT fun j hj=>by simp[Nat.testBit_xor,iJ (lD hx _) hj])
 have f0:((jF x 2 ^^^ jF x 13) ^^^ jF x 22)%4294967296=nQ 0 x:=by
  have h:=(Nat.mod_eq_of_lt (aAV (lD hx 2) (lD hx 13) (lD hx 22))).trans (aPQ x).symm
  rw[aAU]
  exact h
 have f1:((jF x 6 ^^^ jF x 11) ^^^ jF x 25)%4294967296=nQ 1 x:=by
  have h:=(Nat.mod_eq_of_lt (aAV (lD hx 6) (lD hx 11) (lD hx 25))).trans (aPR x).symm
  rw[aAU]
  exact h
 refine ke Tryz.func299 Tryz.ntmps299 Tryz.results299 #[279] ?_
 refine kq ?_
 refine aC fun K1 hK1=>?_
 refine kq ?_
 apply bK
 refine kp [1,5] ?_
 by_cases h0:i=0
 ·subst h0
  refine kq ?_
  apply bG rfl
  refine kp [1] ?_
  refine kr [] fun K hK=>?_
  refine kc (mW x 2 hx) ?_
  refine kv (mW x 13 hx) @oF ?_
  refine kv (mW x 22 hx) (kI hm (kI @oF f0)) (hK _ ?_)
  refine kp [4] ?_
  apply aS
  simp only[seval,kT,kF]
 have hb0:(i == 0)=false:=by simpa using h0
 refine ky hb0 ?_
 apply aR rfl
 refine kp [1,5] ?_
 by_cases h1:i=1
 ·subst h1
  refine kq ?_
  apply bG rfl
  refine kp [1] ?_
  refine kr [] fun K hK=>?_
  refine kc (mW x 6 hx) ?_
  refine kv (mW x 11 hx) @oF ?_
  refine kv (mW x 25 hx) (kI hm (kI @oF f1)) (hK _ ?_)
  refine kp [4] ?_
  apply aS
  simp only[seval,kT,kF]
 have hb1:(i == 1)=false:=by simpa using h1
 refine ky hb1 ?_
 apply aR rfl
 apply bC
 simp only[seval,kT,kF]
 refine hK1 _ ?_
 clear hK1 K1
 refine ks [4] ?_
 apply aS
 simp only[seval,kT,kF]
 rw[aPS x h0 h1]
 rfl
theorem aJL (x y z:Nat) (hx:x<4294967296) (hy:y<4294967296) (hz:z<4294967296):ACalls Tryz.prog G0 300 [.val (.int .u32 (x:Int)),.val (.int .u32 (y:Int)),.val (.int .u32 (z:Int))] [] (fun r os=>os=[]∧r=.val (.int .u32 (V.choose x y z:Int))):=by
 have hn:bits BinOp.xor IntKind.u32 (if IntKind.u32.signed then -1 else IntKind.u32.max) (x:Int)=((4294967295 ^^^ x:Nat):Int):=by
  have h:=oF 4294967295 x
  rw[Nat.mod_eq_of_lt (fT fun j hj=>by simp[Nat.testBit_xor,aMP,iJ hx hj,show ¬ j<32 by omega])] at h
  exact h
 have m1:(x &&& y)%4294967296=x &&& y:=Nat.mod_eq_of_lt (fT fun j hj=>by simp[Nat.testBit_and,iJ hx hj])
 have m2:((4294967295 ^^^ x) &&& z)%4294967296=(4294967295 ^^^ x) &&& z:=Nat.mod_eq_of_lt (fT fun j hj=>by simp[Nat.testBit_and,iJ hz hj])
 have m3:((x &&& y) ^^^ ((4294967295 ^^^ x) &&& z))%4294967296=V.choose x y z:=Nat.mod_eq_of_lt (aJK hx hy hz)
 generalize 4294967295 ^^^ x=nx at hn m2 m3
 refine ke Tryz.func300 Tryz.ntmps300 Tryz.results300 #[279] ?_
 refine kq ?_
 refine ky (kI (kI @aIQ (kI m1 hn)) (kI m2 (kI @oF m3))) ?_
 apply aS
 simp only[seval,kT,kF]
theorem aOD (x y z:Nat) (hx:x<4294967296) (hy:y<4294967296) (hz:z<4294967296):ACalls Tryz.prog G0 302 [.val (.int .u32 (x:Int)),.val (.int .u32 (y:Int)),.val (.int .u32 (z:Int))] [] (fun r os=>os=[]∧r=.val (.int .u32 (most x y z:Int))):=by
 have m1:(x &&& y)%4294967296=x &&& y:=Nat.mod_eq_of_lt (fT fun j hj=>by simp[Nat.testBit_and,iJ hx hj])
 have m2:(x &&& z)%4294967296=x &&& z:=Nat.mod_eq_of_lt (fT fun j hj=>by simp[Nat.testBit_and,iJ hz hj])
 have m4:(y &&& z)%4294967296=y &&& z:=Nat.mod_eq_of_lt (fT fun j hj=>by simp[Nat.testBit_and,iJ hz hj])
 have m5:((x &&& y) ^^^ (x &&& z))%4294967296=(x &&& y) ^^^ (x &&& z):=Nat.mod_eq_of_lt (fT fun j hj=>by simp[Nat.testBit_and,Nat.testBit_xor,iJ hx hj])
 have m3:(((x &&& y) ^^^ (x &&& z)) ^^^ (y &&& z))%4294967296=most x y z:=Nat.mod_eq_of_lt (aOC hx hy hz)
 refine ke Tryz.func302 Tryz.ntmps302 Tryz.results302 #[279] ?_
 refine kq ?_
 refine ky (kI (kI @aIQ (kI m1 m2)) (kI (kI @oF m5) (kI m4 m3))) ?_
 apply aS
 simp only[seval,kT,kF]
end Go.Proofs.YtefdnmeopbkflaaGreatDoor
namespace Go.Proofs.YtefdnmeopbkflaaGreatDoor
open Go Go.V
set_option linter.unusedSimpArgs false
set_option linter.unusedVariables false
set_option maxRecDepth 20000
def Kn (i:Nat):Nat:=aHb.getD i 0
def jT (l:List Nat):List Int:=l.map fun n:Nat=>(n:Int)
theorem aQo (i:Nat) (h:i<64):aGE.getD i 0=((Kn i:Nat):Int):=aMl i h
end Go.Proofs.YtefdnmeopbkflaaGreatDoor
namespace Go.Proofs.YtefdnmeopbkflaaGreatDoor
open Go Go.V
set_option linter.unusedSimpArgs false
set_option linter.unusedVariables false
set_option maxRecDepth 100000
theorem aES [Gv] (hh:List Nat) (hw:kY hh) (W:Nat→Nat) (i:Nat):∃ a b c d e f g h g1 ch g0 mo:Nat,lK hh Kn W i=[a,b,c,d,e,f,g,h]∧
  ACalls Tryz.prog GP 299 [.val (.int .i64 1),.val (.int .u32 (e:Int))] [] (fun r os=>os=[]∧r=.val (.int .u32 (g1:Int)))∧
  ACalls Tryz.prog GP 300 [.val (.int .u32 (e:Int)),.val (.int .u32 (f:Int)),.val (.int .u32 (g:Int))] [] (fun r os=>os=[]∧r=.val (.int .u32 (ch:Int)))∧
  ACalls Tryz.prog GP 299 [.val (.int .i64 0),.val (.int .u32 (a:Int))] [] (fun r os=>os=[]∧r=.val (.int .u32 (g0:Int)))∧
  ACalls Tryz.prog GP 302 [.val (.int .u32 (a:Int)),.val (.int .u32 (b:Int)),.val (.int .u32 (c:Int))] [] (fun r os=>os=[]∧r=.val (.int .u32 (mo:Int)))∧
  lK hh Kn W (i+1)=[(((((h+g1)%4294967296+ch)%4294967296+Kn i)%4294967296+W i)%4294967296+(g0+mo)%4294967296)%4294967296,a,b,c,(d+((((h+g1)%4294967296+ch)%4294967296+Kn i)%4294967296+W i)%4294967296)%4294967296,e,f,g]:=by
 obtain⟨a,b,c,d,e,f,g,h,hr,⟨ha,hb,hc,hd,he,hf,hg,hh'⟩,hn⟩:=aHc hw Kn W i
 exact⟨a,b,c,d,e,f,g,h,nQ 1 e,V.choose e f g,nQ 0 a,most a b c,hr,(aFP 1 e he).g,(aJL e f g he hf hg).g,(aFP 0 a ha).g,(aOD a b c ha hb hc).g,hn⟩
theorem aMZ [Gv] (i:Nat) (h:i<64):ACalls Tryz.prog GP 301 [.val (.int .i64 (i:Int))] [] (fun r os=>os=[]∧r=.val (.int .u32 (Kn i:Int))):=by
 have hp:=aKS (i:Int)
 rw[if_pos ⟨by omega,by omega⟩,Int.toNat_natCast,aQo i h] at hp
 exact hp
theorem aNd [Gv] (hh:List Nat) (b:List UInt8) (hw:kY hh) (hb:b.length=64):ACalls Tryz.prog GP 293 [.agg (Is .u32 (jT hh)),.agg (Bs b)] [] (fun r os=>os=[]∧r=.agg (Is .u32 (jT (aKo (lK hh Kn (word b) 64) hh)))):=by
 have cS:=(aFw b hb).g (G:=GP)
 have hround:=aES hh hw (word b)
 have h0:lK hh Kn (word b) 0=hh:=rfl
 have hlen:=fun i=>iQ (oG hw Kn (word b) i)
 have h8:=iQ hw
 have hfin:jT (aKo (lK hh Kn (word b) 64) hh)=mix (fun p=>(lK hh Kn (word b) 64).getD p 0) (fun p=>((lK hh Kn (word b) 64).getD p 0+hh.getD p 0)%4294967296) 8:=aJd (hlen 64) h8 _
 rw[hfin]
 generalize word b=W at *
 generalize lK hh Kn W=R at *
 clear hfin
 have nl:(jT hh).length=8:=by rw[← h8];exact List.length_map _
 have nt:(jT hh).take 8=jT hh:=List.take_of_length_le (by omega)
 have nd:(jT hh).drop 8=[]:=List.drop_eq_nil_of_le (by omega)
 have al:(arr 64 W 64).length=64:=aAs _ _ _
 have bt:b.take 64=b:=List.take_of_length_le (by omega)
 have bd:b.drop 64=[]:=List.drop_eq_nil_of_le (by omega)
 obtain⟨z8,hz8,hz8l⟩:∃ z8:List Int,(zvs .u32 8).map cav=Is .u32 z8∧z8.length=8:=⟨_,aEZ _ _,by simp⟩
 have zd:z8.drop 8=[]:=List.drop_eq_nil_of_le (by omega)
 refine aQ Tryz.func293 rfl rfl Tryz.ntmps293 (rts:=#[362]) rfl Tryz.results293 (by simp) ?_
 simp only[aZ,Nat.reduceAdd]
 refine aC fun K hK=>aA [] ?_
 simp only[qq,aF,eF,bB,aB,reduceCtorEq,vF,fN,Nat.reduceLT,Nat.reduceEqDiff,eR,dF,bS,Nat.reduceAdd,hz8,aG,aI]
 (repeat' apply And.intro)<;>try (first|exact True.intro|omega)
 refine hK _ ?_
 clear hK K
 refine aC fun K hK=>aA [] ?_
 simp only[qq,aF,aY,aB,Nat.reduceEqDiff,reduceCtorEq,apart,aO,Tryz.underlying362,bD,dZ,nl,nX,nt,Nat.reduceLT,dF,bS,Nat.reduceAdd,hz8,bQ,bX,bB,spl,aG,aI,hz8l,mS,vF,zd,aAY]
 (repeat' apply And.intro)<;>try (first|exact True.intro|omega)
 refine hK _ ?_
 clear hK K
 refine aE [2,3,4,5] ?_
 simp only[aD,aB,Nat.reduceEqDiff,if_true,if_false]
 refine aC fun K1 hK1=>?_
 refine aC fun K hK=>aA [] ?_
 simp only[qq,aF,aY,aB,Nat.reduceEqDiff,apart,aO,Tryz.underlying336,bD,aX,hb,eS,bt,Nat.reduceLT,aU,Nat.reduceAdd,bF,aT,bA,bW,List.headD_cons,aH,aJ]
 refine aV (by simp[aJ,aM,aH,eC,fC]) (cS) (by simp[aH,aM,aJ,flat,eC,fC]) ?_
 simp only[qq,aK,aF,Nat.reduceLT,aB,cav,aG,aI]
 refine hK _ ?_
 clear hK K
 refine aE [2,4,5,13,14] ?_
 simp only[aD,aB,Nat.reduceEqDiff,if_true,if_false]
 refine bK ?_
 refine bZ (fun i:Nat=>⟨82,[(2,.ptr 0 0),(4,.ptr 2 0),(5,.ptr 3 0),(13,.agg (Is .u32 (arr 64 W 64))),(14,.val (.int .i64 (i:Int)))],[.cells (Is .u32 (jT hh)),.cells (Bs b),.cells (Is .u32 z8),.cells (Is .u32 (jT (R i)))]⟩)
  (fun i=>i≤64) (fun i=>64 - i) 0 (by omega) (by rw[h0];exact .of_keep [2,4,5,13,14] rfl) ?_
 intro i hi
 refine aC fun K hK=>aA [] ?_
 simp only[qq,aF,aB,Nat.reduceEqDiff,cav,aL,aP,bH,aCB,Nat.reduceLT,aG,aI]
 (repeat' apply And.intro)<;>try (first|exact True.intro|omega)
 refine hK _ ?_
 clear hK K
 refine bJ ?_
 refine fB rfl rfl (fun h=>?_) (fun h=>?_)
 ·have hlt:i<64:=of_decide_eq_true h
  clear h
  refine bC ?_
  simp only[aI]
  refine aE [2,4,5,13,14] ?_
  simp only[aD,aB,Nat.reduceEqDiff,if_true,if_false]
  obtain⟨a,b',c,d,e,f,g,h,g1,ch,g0,mo,hr,c1,cch,c0,cmo,hnext⟩:=hround i
  have hnr:jT (R i)=[(a:Int),(b':Int),(c:Int),(d:Int),(e:Int),(f:Int),(g:Int),(h:Int)]:=by rw[hr];rfl
  rw[hnr]
  have wa:=tF (n:=64) W hlt hlt
  refine bJ ?_
  refine bK ?_
  refine aC fun K hK=>aA [] ?_
  simp only[qq,aF,Nat.reduceLT,aB,Nat.reduceEqDiff,uU,Tryz.underlying371,bD,apart,aO,Tryz.underlying279,Int.toNat_natCast,Nat.mul_one,dZ,al,hlt,aTv,I,wa,Int.cast_ofNat_Int,aG,aI]
  refine⟨by omega,hK _ ?_⟩
  clear hK K
  refine aE [2,4,5,6,7,13,14] ?_
  simp only[aD,aB,Nat.reduceEqDiff,if_true,if_false]
  generalize htt:(((((h+g1)%4294967296+ch)%4294967296+Kn i)%4294967296+W i)%4294967296)=T at hnext
  refine aC fun K hK=>?_
  refine dW [22,30,33] (by kernel_rfl) (by kernel_rfl) ?_
  simp only[qq,aF,dN,aB,cav,Tryz.underlying362,Nat.reduceEqDiff,bD,Int.reduceLE,Int.cast_ofNat_Int,Int.reduceLT,Int.reduceToNat,Nat.mul_one,Nat.reduceLT,aY,List.contains_cons,Nat.reduceBEq,apart,aO,Tryz.underlying279,aU,Nat.reduceAdd,bF,beq_self_eq_true,aT,bA,aH,bW,List.tail_cons,List.headD_cons,dZ,aTv,I,List.getD_cons_succ]
  refine aV (by simp[aJ,aM,aH,eC,fC]) (c1) (by simp[aH,aM,aJ,flat,eC,fC]) ?_
  simp only[qq,aK,aF,aB,Nat.reduceEqDiff,aL,aP,bH,oW,qV,Nat.reduceLT,dN,cav,Tryz.underlying362,bD,Int.reduceLE,Int.cast_ofNat_Int,Int.reduceLT,Int.reduceToNat,Nat.mul_one,aY,List.contains_cons,Nat.reduceBEq,apart,aO,Tryz.underlying279,aU,Nat.reduceAdd,bF,beq_self_eq_true,Bool.false_or,aT,bA,bW,List.headD_cons,List.tail_cons,dZ,aTv,I,List.getD_cons_succ,aH]
  refine aV (by simp[aJ,aM,aH,eC,fC]) (cch) (by simp[aH,aM,aJ,flat,eC,fC]) ?_
  simp only[qq,aK,aF,aB,Nat.reduceEqDiff,aL,aP,bH,oW,qV,Nat.reduceLT,aU,Nat.reduceAdd,List.contains_cons,Nat.reduceBEq,bF,beq_self_eq_true,Bool.false_or,aT,bA,aH]
  refine aV (by simp[aJ,aM,aH,eC,fC]) (aMZ i hlt) (by simp[aH,aM,aJ,flat,eC,fC]) ?_
  simp only[qq,aK,aF,aB,Nat.reduceEqDiff,aL,aP,bH,oW,qV,Nat.reduceLT,htt,aG,aI]
  refine hK _ ?_
  clear hK K
  refine aE [2,4,5,8,13,14] ?_
  simp only[aD,aB,Nat.reduceEqDiff,if_true,if_false]
  refine aC fun K hK=>?_
  refine dW [39,46] (by kernel_rfl) (by kernel_rfl) ?_
  simp only[qq,aF,dN,aB,cav,Tryz.underlying362,Nat.reduceEqDiff,bD,Int.le_refl,Int.cast_ofNat_Int,Int.reduceLT,Int.toNat_zero,Nat.mul_one,Nat.reduceLT,aY,List.contains_cons,Nat.reduceBEq,apart,aO,Tryz.underlying279,aU,Nat.reduceAdd,bF,beq_self_eq_true,aT,bA,aH,bW,List.tail_cons,List.headD_cons,dZ,aTv,I]
  refine aV (by simp[aJ,aM,aH,eC,fC]) (c0) (by simp[aH,aM,aJ,flat,eC,fC]) ?_
  simp only[qq,aK,aF,dN,aB,cav,Tryz.underlying362,Nat.reduceEqDiff,bD,Int.le_refl,Int.cast_ofNat_Int,Int.reduceLT,Int.toNat_zero,Nat.mul_one,Nat.reduceLT,aY,List.contains_cons,Nat.reduceBEq,apart,aO,Tryz.underlying279,Int.reduceLE,Int.reduceToNat,aU,Nat.reduceAdd,bF,beq_self_eq_true,Bool.false_or,aT,bA,bW,List.headD_cons,List.tail_cons,dZ,aTv,I,List.getD_cons_succ,aH]
  refine aV (by simp[aJ,aM,aH,eC,fC]) (cmo) (by simp[aH,aM,aJ,flat,eC,fC]) ?_
  simp only[qq,aK,aF,aB,Nat.reduceEqDiff,aL,aP,bH,oW,qV,Nat.reduceLT,aG,aI]
  refine hK _ ?_
  clear hK K
  refine aE [2,4,5,8,9,13,14] ?_
  simp only[aD,aB,Nat.reduceEqDiff,if_true,if_false]
  have hn1:jT (R (i+1))=[(((T+(g0+mo)%4294967296)%4294967296:Nat):Int),(a:Int),(b':Int),(c:Int),((d+T)%4294967296:Nat),(e:Int),(f:Int),(g:Int)]:=by rw[hnext];rfl
  have h6:IntKind.i64.wrap ((i+1:Nat):Int)=((i+1:Nat):Int):=fD (by omega)
  refine aA [] ?_
  simp only[qq,aF,Nat.reduceLT,aB,Nat.reduceEqDiff,aL,aP,bH,oW,qV,dN,cav,Tryz.underlying362,bD,Int.le_refl,Int.cast_ofNat_Int,Int.reduceLT,Int.toNat_zero,Nat.mul_one,aY,apart,aO,Tryz.underlying279,Int.reduceLE,Int.reduceToNat,fA,bS,aEZ,List.replicate_succ,List.replicate_zero,dO,eM,spl,bB,mS,Nat.reduceAdd,Nat.reduceLeDiff,dZ,List.all_cons,dC,Value.oneCell',List.all_nil,bQ,bX,aG,Bool.true_and,aTv,I,List.getD_cons_succ,List.drop_nil,aAY]
  rw[show [AV.val (Value.int IntKind.u32 (((T+(g0+mo)%4294967296)%4294967296:Nat):Int)),AV.val (Value.int IntKind.u32 (a:Int)),AV.val (Value.int IntKind.u32 (b':Int)),AV.val (Value.int IntKind.u32 (c:Int)),AV.val (Value.int IntKind.u32 (((d+T)%4294967296:Nat):Int)),AV.val (Value.int IntKind.u32 (e:Int)),AV.val (Value.int IntKind.u32 (f:Int)),AV.val (Value.int IntKind.u32 (g:Int))]=Is .u32 (jT (R (i+1))) from by rw[hn1];rfl]
  simp only[seval,kT,kF]
  refine aE [2,4,5,13,14] ?_
  simp only[aD,aB,Nat.reduceEqDiff,if_true,if_false]
  have h6:IntKind.i64.wrap ((i+1:Nat):Int)=((i+1:Nat):Int):=fD (by omega)
  refine ku [] (kI @gO h6) ?_
  refine⟨i+1,by omega,by omega,.of_keep [2,4,5,13,14] rfl⟩
 ·have he:i=64:=by have:=of_decide_eq_false h;omega
  subst he
  apply dR
  simp only[seval,kT,kF]
  refine hK1 _ ?_
  clear hK1 K1
  refine kp [2,4,5] ?_
  have hV0:=aMD (hlen 64) (fun p=>((R 64).getD p 0+hh.getD p 0)%4294967296)
  generalize hA:(fun p=>((R 64).getD p 0+hh.getD p 0)%4294967296)=A at hV0 ⊢
  have hAV:∀ p,A p=((fun p=>(R 64).getD p 0) p+hh.getD p 0)%4294967296:=fun p=>by rw[← hA]
  generalize hV:(fun p=>(R 64).getD p 0)=V at hV0 hAV ⊢
  rw[show jT (R 64)=mix V A 0 from hV0]
  have ml:∀ j,(mix V A j).length=8:=aHI V A
  have mt:(mix V A 8).take 8=mix V A 8:=List.take_of_length_le (by rw[ml];omega)
  have md:(mix V A 8).drop 8=[]:=List.drop_eq_nil_of_le (by rw[ml];omega)
  have hget:∀ j,(jT hh).getD j 0=((hh.getD j 0:Nat):Int):=fun j=>by
   simp only[jT,List.getD_eq_getElem?_getD,List.getElem?_map]
   cases hh[j]? <;> rfl
  refine aC fun K1 hK1=>?_
  refine ks [2,4,5,69] ?_
  refine bK ?_
  refine bZ (fun j:Nat=>⟨82,[(2,.ptr 0 0),(4,.ptr 2 0),(5,.ptr 3 0),(69,.val (.int .i64 (j:Int)))],[.cells (Is .u32 (jT hh)),.cells (Bs b),.cells (Is .u32 z8),.cells (Is .u32 (mix V A j))]⟩)
   (fun j=>j≤8) (fun j=>8 - j) 0 (by omega) (.of_keep [2,4,5,69] rfl) ?_
  intro j hj
  refine aC fun K hK=>aA [] ?_
  simp only[qq,aF,aB,Nat.reduceEqDiff,cav,aL,aP,bH,aCB,Nat.reduceLT,aG,aI]
  (repeat' apply And.intro)<;>try (first|exact True.intro|omega)
  refine hK _ ?_
  clear hK K
  refine bJ ?_
  refine fB rfl rfl (fun h=>?_) (fun h=>?_)
  ·have hlt:j<8:=by have:=of_decide_eq_true h;omega
   refine bC ?_
   simp only[aI]
   refine kp [2,4,5,69] ?_
   refine bJ ?_
   refine bK ?_
   refine ks [2,4,5,10,69] ?_
   have gm:=aMC V A (Nat.le_refl j) hlt
   have ga:=hAV j
   have gh:=hget j
   have q8:0<8 - j:=by omega
   have l8:j≤8:=by omega
   generalize hh.getD j 0=x at ga gh
   refine dW [] (by kernel_rfl) (by kernel_rfl) ?_
   simp only[qq,aF,Nat.reduceLT,aB,Nat.reduceEqDiff,dN,Tryz.underlying362,bD,Int.cast_ofNat_Int,Int.toNat_natCast,Nat.mul_one,aY,apart,aO,Tryz.underlying279,aL,bQ,bX,bB,spl,aG,dZ,ml,nX,mS,nl,hlt,aTv,I,gh,gm,aP,bH,oW,qV,← ga,List.all_cons,dC,Value.oneCell',List.all_nil,Nat.reduceLeDiff]
   refine⟨by omega,by omega,by omega,by omega,?_⟩
   rw[aGO (by rw[ml];omega),aOB]
   simp only[seval,kT,kF]
   refine kp [2,4,5,69] ?_
   have h6:IntKind.i64.wrap ((j+1:Nat):Int)=((j+1:Nat):Int):=fD (by omega)
   refine ku [] (kI @gO h6) ?_
   exact⟨j+1,by omega,by omega,.of_keep [2,4,5,69] rfl⟩
  ·have he:j=8:=by have:=of_decide_eq_false h;omega
   subst he
   apply dR
   simp only[seval,kT,kF]
   refine hK1 _ ?_
   clear hK1 K1
   refine kp [4,5] ?_
   refine ky (kI (kI (kI @dZ ml) (kI @nX @mt)) (kI (kI hz8l @mS) (kI @vF (kI zd @aAY)))) ?_
   apply aS
   simp only[seval,kT,kF,dZ,ml,nX,mt,eC]
def sG:List Nat:=[1779033703,3144134277,1013904242,2773480762,1359893119,2600822924,528734635,1541459225]
def DC (h:List Nat) (r:List UInt8) (m:Nat):List AV:=Is .u32 (jT h)++(Bs r++[.val (.int .u64 (m:Int))])
theorem aTu (h:List Nat):(jT h).length=h.length:=List.length_map _
theorem mE (h:List Nat) (r:List UInt8) (m:Nat) (hh:h.length=8) (hr:r.length=64):(DC h r m).length=73:=by
 simp only[DC,List.length_append,dZ,aX,aTu,hh,hr]
 rfl
theorem aIi (h:List Nat) (r:List UInt8) (m:Nat) (hh:h.length=8) (hr:r.length=64):(DC h r m).take 73=DC h r m:=List.take_of_length_le (by rw[mE h r m hh hr];exact Nat.le_refl _)
theorem wG (h:List Nat) (r:List UInt8) (m:Nat) (hh:h.length=8):(DC h r m).drop 8=Bs r++[.val (.int .u64 (m:Int))]:=by
 have e:(Is .u32 (jT h)).length=8:=by rw[dZ,aTu,hh]
 unfold DC
 rw[← e,List.drop_left]
theorem aEb (h:List Nat) (r:List UInt8) (m:Nat) (hh:h.length=8):(DC h r m).take 8=Is .u32 (jT h):=by
 have e:(Is .u32 (jT h)).length=8:=by rw[dZ,aTu,hh]
 unfold DC
 rw[← e,List.take_left]
theorem aNH (h:List Nat) (r:List UInt8) (m:Nat) (hh:h.length=8) (hr:r.length=64):((DC h r m).drop 8).take 64=Bs r:=by
 rw[wG h r m hh]
 have e:(Bs r).length=64:=by rw[aX,hr]
 rw[← e,List.take_left]
theorem aAW (h:List Nat) (r:List UInt8) (m:Nat) (hh:h.length=8) (hr:r.length=64) (d:AV):(DC h r m).getD 72 d=.val (.int .u64 (m:Int)):=by
 have e:(Bs r).length=64:=by rw[aX,hr]
 have:(DC h r m)[72]? = some (.val (.int .u64 (m:Int))):=by
  have h1:((DC h r m).drop 8)[64]? = (DC h r m)[72]?:=by rw[List.getElem?_drop]
  rw[← h1,wG h r m hh,List.getElem?_append_right (by omega),e]
  rfl
 rw[List.getD_eq_getElem?_getD,this]
 rfl
theorem aKX (h:List Nat) (r:List UInt8) (m m':Nat) (hh:h.length=8) (hr:r.length=64):(DC h r m).set 72 (.val (.int .u64 (m':Int)))=DC h r m':=by
 have e1:(Is .u32 (jT h)).length=8:=by rw[dZ,aTu,hh]
 have e:(Bs r).length=64:=by rw[aX,hr]
 unfold DC
 rw[List.set_append_right _ _ (by omega),e1,List.set_append_right _ _ (by omega),e]
 rfl
theorem aNG (h h':List Nat) (r:List UInt8) (m:Nat) (hh:h.length=8):Is .u32 (jT h')++(DC h r m).drop 8=DC h' r m:=by
 rw[wG h r m hh]
 rfl
theorem aNF (h:List Nat) (r:List UInt8) (m:Nat):(DC h r m).all dC=true:=by
 have h1:∀ l:List Int,(Is .u32 l).all dC=true:=fun l=>by
  rw[List.all_eq_true]
  intro x hx
  obtain⟨z,_,rfl⟩:=List.mem_map.1 hx
  rfl
 have h2:(Bs r).all dC=true:=by
  rw[List.all_eq_true]
  intro x hx
  obtain⟨z,_,rfl⟩:=List.mem_map.1 hx
  rfl
 rw[DC,List.all_append,List.all_append,h1,h2]
 rfl
theorem qD (h:List Nat) (r:List UInt8) (m:Nat):aM (DC h r m)=true:=by
 simp[DC,dK,eC,aJ,aM,aH]
theorem aDR {P:Program} {ts:List TypeId} {Q:AV→List AObj→Prop} {nt:Nat} {s:List (Nat×AV)} {os:List AObj} (x i off:Nat) {y0 y1:AObj} (h:lk s x=.ptr i off) (h0:os[0]? = some y0) (hi:os[i]? = some y1) (hne:i≠0) (n0:eH y0=true) (n1:eH y1=true)
  (hq:Q (.ptr 1 off) [y0,y1]):aKY P ts [.tmp x] 1 Q .ret ⟨nt,s,os⟩:=by
 have hidx:[0,i].idxOf i=1:=by
  cases i with
  | zero=>exact absurd rfl hne
  | succ i=>simp[List.idxOf_cons]
 refine⟨.inr rfl,[0,i],[y0,y1],_,by simp,fun j hj=>?_,fun a b ha hb e=>?_,rfl,fun j hj=>?_,fun o ho=>?_,.inr ⟨x,rfl,by simp[h,aJt,hidx]⟩,hq⟩
 ·have:j=0:=by omega
  subst this
  rfl
 ·simp only[List.length_cons,List.length_nil] at ha hb
  rcases (by omega:a=0∨a=1) with rfl|rfl<;>rcases (by omega:b=0∨b=1) with rfl|rfl
  ·rfl
  ·exact absurd e.symm hne
  ·exact absurd e hne
  ·rfl
 ·simp only[List.length_cons,List.length_nil] at hj
  rcases (by omega:j=0∨j=1) with rfl|rfl
  ·exact h0
  ·exact hi
 ·simp only[List.mem_cons,List.not_mem_nil,or_false] at ho
  rcases ho with rfl|rfl
  ·exact n0
  ·exact n1
theorem aHt:ACalls Tryz.prog G0 297 [] [] (fun r os=>os=[]∧r=.agg (Is .u32 (jT sG))):=by
 refine ke Tryz.func297 Tryz.ntmps297 Tryz.results297 #[362] ?_
 refine ky @aEZ ?_
 refine aC fun K hK=>aA [] ?_
 simp only[aF]
 refine aNY (Is .u32 (jT sG)) Tryz.underlying362 (sz:=1) (z:=zvs .u32 8) (by simp only[bD]) (by simp only[bS]) (by kernel_rfl) ?_
 have hl:(jT sG).length=8:=rfl
 simp only[seval,kT,vF,dZ,hl,mS]
 refine hK _ ?_
 rw[aAY,List.append_nil]
 have ht:(jT sG).take 8=jT sG:=rfl
 apply aS
 simp only[seval,kT,kF,dZ,hl,nX,ht,eC]
theorem aPg:ACalls Tryz.prog G0 292 [] [] (fun r os=>os=[.cells (DC sG (List.replicate 64 0) 0)]∧r=.ptr 0 0):=by
 obtain⟨fs,hu,hs⟩:∃ fs,Tryz.prog.underlying 364=some (.struct fs)∧uO Tryz.prog fs=some [(0,8),(8,64),(72,1)]:=⟨_,Tryz.underlying364,by kernel_rfl⟩
 refine gQ Tryz.func292 rfl rfl Tryz.ntmps292 (rts:=#[346]) rfl Tryz.results292 (by simp) ?_
 simp only[seval,aZ]
 refine kq ?_
 refine kr [] fun K hK=>?_
 refine aV (by simp[aJ,aM,aH,eC,fC]) (aHt) (by simp[aH,aM,aJ,flat,eC,fC]) ?_
 have hl:(jT sG).length=8:=rfl
 simp only[seval,kT,hu,dZ,hl,vF,List.all_append]
 refine hK _ ?_
 clear hK K
 refine kp [0] ?_
 apply aS
 exact aKZ 0 0 0 rfl rfl (by kernel_rfl) ⟨rfl,rfl⟩
theorem aFE (h:List Nat) (r:List UInt8) (m:Nat) (hh:h.length=8) (hr:r.length=64):ACalls Tryz.prog G0 283 [.ptr 0 0] [.cells (DC h r m)] (fun v os=>os=[.cells (DC h r m),.cells (DC h r m)]∧v=.ptr 1 0):=by
 obtain⟨fs,hu,hs⟩:∃ fs,Tryz.prog.underlying 364=some (.struct fs)∧uO Tryz.prog fs=some [(0,8),(8,64),(72,1)]:=⟨_,Tryz.underlying364,by kernel_rfl⟩
 have hl:=mE h r m hh hr
 have ht:=aIi h r m hh hr
 have ho:=aNF h r m
 have hn:=qD h r m
 generalize DC h r m=D at hl ht ho hn
 refine gQ Tryz.func283 rfl rfl Tryz.ntmps283 (rts:=#[346]) rfl Tryz.results283 (by simp) ?_
 simp only[seval,aZ]
 refine kq ?_
 refine kx [0,3] (kI (kI hu hl) (kI ht ho)) ?_
 refine ks [2] ?_
 apply aS
 exact aDR 2 1 0 rfl rfl rfl (by omega) (by simpa[eH] using hn) (by simpa[eH] using hn) ⟨rfl,rfl⟩
def COk [Gv] (C:List Nat→List UInt8→List Nat):Prop:=(∀ h b,kY h→b.length=64→kY (C h b))∧
 ∀ h b,kY h→b.length=64→ACalls Tryz.prog GP 293 [.agg (Is .u32 (jT h)),.agg (Bs b)] [] (fun r os=>os=[]∧r=.agg (Is .u32 (jT (C h b))))
theorem aNE [Gv] (h:List Nat) (r b:List UInt8) (m a:Nat) (hh:h.length=8) (hr:r.length=64) (hab:a+b.length≤64):(DC h r m).take (8+a)++Bs b++(DC h r m).drop (8+a+b.length)=DC h (r.take a++b++r.drop (a+b.length)) m:=by
 have e1:(Is .u32 (jT h)).length=8:=by rw[dZ,aTu,hh]
 have e2:(DC h r m).take (8+a)=Is .u32 (jT h)++Bs (r.take a):=by
  unfold DC
  rw[List.take_append,e1,Nat.add_sub_cancel_left,List.take_of_length_le (by omega),List.take_append_of_le_length (by rw[aX];omega),eS]
 have e3:(DC h r m).drop (8+a+b.length)=Bs (r.drop (a+b.length))++[.val (.int .u64 (m:Int))]:=by
  rw[show 8+a+b.length=8+(a+b.length) by omega,← List.drop_drop,wG h r m hh,List.drop_append_of_le_length (by rw[aX];omega),eA]
 rw[e2,e3]
 simp only[DC,iD,List.append_assoc]
theorem yB [Gv] {C:List Nat→List UInt8→List Nat} (hC:COk C) (s:DS) (hs:DOk s) (b:List UInt8) (p:Perm) (hm:s.many+b.length≤1000000000) :
  ACalls Tryz.prog GP 281 [.ptr 0 0,.sl b.length (Bs b) p] [.cells (DC s.h s.rest s.many)] (fun v os=>os=[.cells (DC (gU C s b).h (gU C s b).rest (gU C s b).many)]∧v=.tup []):=by
 refine gQ Tryz.func281 rfl rfl Tryz.ntmps281 (rts:=#[]) rfl Tryz.results281 (by simp) ?_
 simp only[seval,aZ]
 refine lH 1 rfl ?_
 refine kp [0,1] ?_
 apply bK
 refine bZ (fun x:List UInt8×DS=>⟨50,[(0,.ptr 0 0),(1,.sl x.1.length (Bs x.1) .no)],[.cells (DC x.2.h x.2.rest x.2.many)]⟩)
  (fun x=>DOk x.2∧x.2.many+x.1.length=s.many+b.length∧gU C x.2 x.1=gU C s b) (fun x=>x.1.length) (b,s) ⟨hs,rfl,rfl⟩ (.of_keep [0,1] (by exact rfl)) ?_
 rintro⟨l,d⟩ ⟨hd,hmany,hrun⟩
 simp only at hd hmany hrun
 have hh:=iQ hd.1
 have hr:=hd.2
 have hDl:=mE d.h d.rest d.many hh hr
 have h72:=aAW d.h d.rest d.many hh hr
 refine aC fun K2 hK2=>?_
 refine aC fun K hK=>aA [] ?_
 simp only[qq,aF,Nat.reduceLT,aB,reduceCtorEq,bI,Nat.reduceEqDiff,bV,eN,Tryz.underlying54,cav,aL,aG,aI,aP,bH,yM]
 refine hK _ ?_
 clear hK K
 by_cases hl0:l.length=0
 ·refine aR (by simp only[aB,lk,hl0];rfl) ?_
  apply dR
  simp only[aI,bL,if_true]
  have hl:l=[]:=List.length_eq_zero_iff.1 hl0
  subst hl
  rw[aFt] at hrun
  subst hrun
  exact aEc (.inl rfl) rfl (by simpa[eH] using qD _ _ _) rfl (by simp) rfl ⟨rfl,rfl⟩
 refine bG (by simp only[aB,lk];simp;omega) (bC (hK2 _ ?_))
 clear hK2 K2
 refine kp [0,1] ?_
 apply bK
 refine aC fun K hK=>aA [] ?_
 have hat:d.many%64<64:=Nat.mod_lt _ (by omega)
 have h64:IntKind.i64.wrap ((d.many%64:Nat):Int)=((d.many%64:Nat):Int):=fD (by omega)
 simp only[seval,kT,hDl,h72,aHJ,h64]
 refine hK _ ?_
 clear hK K
 refine kp [0,1,4] ?_
 have e64:((64:Int) - ((d.many%64:Nat):Int)).toNat=64 - d.many%64:=by omega
 obtain⟨n,hn⟩:∃ n,(if l.length≤64 - d.many%64 then l.length else 64 - d.many%64)=n:=⟨_,rfl⟩
 have hn0:0<n:=by rw[← hn];split<;>omega
 have hnl:n≤l.length:=by rw[← hn];split<;>omega
 have hn64:d.many%64+n≤64:=by rw[← hn];split<;>omega
 have htl:(l.take n).length=n:=by rw[List.length_take];omega
 have hcopy:=aNE d.h d.rest (l.take n) d.many (d.many%64) hh hr (by omega)
 have hchunk:=aHd (C:=C) (l.take n) d hr (by omega) (by omega)
 have hok1:=mV hC.1 hd (l.take n)
 have hall:gU C (gU C d (l.take n)) (l.drop n)=gU C s b:=by rw[← pR,List.take_append_drop,hrun]
 have hr1:(d.rest.take (d.many%64)++l.take n++d.rest.drop (d.many%64+(l.take n).length)).length=64:=by
  simp only[List.length_append,List.length_take,List.length_drop]
  omega
 rw[htl] at hcopy hchunk hr1
 refine kw [] (kI (kI e64 hn) (kI hDl (kI hn0 htl))) fun K hK=>?_
 refine⟨⟨by omega,by omega⟩,by omega,hK _ ?_⟩
 clear hK K
 rw[hcopy]
 generalize d.rest.take (d.many%64)++l.take n++d.rest.drop (d.many%64+n)=r1 at hcopy hchunk hr1 ⊢
 clear hcopy
 have hDl1:=mE d.h r1 d.many hh hr1
 have h721:=aAW d.h r1 d.many hh hr1
 have hset:=aKX d.h r1 d.many (d.many+n) hh hr1
 have hw1:IntKind.u64.wrap (n:Int)=(n:Int):=by rw[tN,Nat.mod_eq_of_lt (by omega)]
 have hw2:IntKind.u64.wrap ((d.many:Int)+(n:Int))=((d.many+n:Nat):Int):=by rw[← Int.natCast_add,tN,Nat.mod_eq_of_lt (by omega)]
 have hput:(DC d.h r1 d.many).take 72++[.val (.int .u64 ((d.many+n:Nat):Int))]++(DC d.h r1 d.many).drop 73=DC d.h r1 (d.many+n):=by
  rw[← hset,List.set_eq_take_append_cons_drop,if_pos (by omega)]
  simp
 refine kp [0,1,4,5] ?_
 refine kw [] (kI (kI hw1 hDl1) (kI h721 hw2)) fun K hK=>?_
 rw[hput]
 refine hK _ ?_
 clear hK K hput hset hDl1 h721
 refine kp [0,1,4,5] ?_
 refine kr [] fun K hK=>?_
 refine⟨by omega,hK _ ?_⟩
 clear hK K
 refine kp [0,1,4,5] ?_
 refine aC fun K hK=>aA [] ?_
 have hw3:IntKind.i64.wrap (((d.many%64:Nat):Int)+(n:Int))=((d.many%64+n:Nat):Int):=by rw[← Int.natCast_add];exact fD (by omega)
 have e5:((l.length:Int) - (n:Int)).toNat=l.length - n:=by omega
 have e6:(l.drop n).take (l.length - n)=l.drop n:=List.take_of_length_le (by rw[List.length_drop];exact Nat.le_refl _)
 have e7:l.length - n=(l.drop n).length:=by rw[List.length_drop]
 simp only[seval,kT,e5,e6,hw3]
 refine hK _ ?_
 clear hK K
 rw[e7]
 refine kp [0,1,37] ?_
 by_cases hfull:d.many%64+n=64
 ·rw[if_pos hfull] at hchunk
  refine bG (by simp only[aB,lk,hfull];rfl) ?_
  have hDl2:=mE d.h r1 (d.many+n) hh hr1
  have h8:=aEb d.h r1 (d.many+n) hh
  have hrest:=aNH d.h r1 (d.many+n) hh hr1
  have hcc:=hC.2 d.h r1 hd.1 hr1
  have hh':=iQ (hC.1 d.h r1 hd.1 hr1)
  have hput8:=aNG d.h (C d.h r1) r1 (d.many+n) hh
  generalize C d.h r1=h' at hcc hchunk hh' hput8
  have hnl8:(jT h').length=8:=by rw[aTu,hh']
  refine kde [] (kI (kI hDl2 hrest) (kI h8 @eC)) ?_
  refine aV trivial hcc (by simp[flat,fC,aH,eC]) ?_
  simp only[qq,aK,aF,fY,aB,Nat.reduceEqDiff,reduceCtorEq,Nat.reduceLT,aN,Tryz.underlying364,bD,ne_eq,bQ,bX,bB,vF,dZ,hnl8,spl,aG,hDl2,Nat.reduceLeDiff,hput8]
  rw[e7]
  simp only[bL,aI]
  exact⟨(l.drop n,gU C d (l.take n)),⟨hok1,by simp only[mQ,htl,List.length_drop];omega,hall⟩,by simp only[List.length_drop];omega,by rw[hchunk];exact .of_keep [0,1] rfl⟩
 ·rw[if_neg hfull] at hchunk
  refine aR (by simp only[aB,lk];simp;omega) ?_
  refine bC ?_
  simp only[bL,aI]
  exact⟨(l.drop n,gU C d (l.take n)),⟨hok1,by simp only[mQ,htl,List.length_drop];omega,hall⟩,by simp only[List.length_drop];omega,by rw[hchunk];exact .of_keep [0,1] rfl⟩
end Go.Proofs.YtefdnmeopbkflaaGreatDoor
namespace Go.Proofs.YtefdnmeopbkflaaGreatDoor
open Go Go.V
set_option linter.unusedSimpArgs false
set_option linter.unusedVariables false
set_option maxRecDepth 20000
def Cq (h:List Nat) (b:List UInt8):List Nat:=aKo (lK h Kn (word b) 64) h
theorem aKW [Gv] (h:List Nat) (b:List UInt8) (hw:kY h):kY (Cq h b):=by
 obtain⟨a0,a1,a2,a3,a4,a5,a6,a7,rfl,_⟩:=hw
 obtain⟨c0,c1,c2,c3,c4,c5,c6,c7,hr,_⟩:=oG (s:=[a0,a1,a2,a3,a4,a5,a6,a7]) ⟨_,_,_,_,_,_,_,_,rfl,‹_›⟩ Kn (word b) 64
 unfold Cq
 rw[hr]
 generalize word b=W
 exact⟨_,_,_,_,_,_,_,_,rfl,Nat.mod_lt _ (by omega),Nat.mod_lt _ (by omega),Nat.mod_lt _ (by omega),Nat.mod_lt _ (by omega),Nat.mod_lt _ (by omega),Nat.mod_lt _ (by omega),Nat.mod_lt _ (by omega),Nat.mod_lt _ (by omega)⟩
theorem aQG [Gv]:COk Cq:=⟨fun h b hw _=>aKW h b hw,fun h b hw hb=>aNd h b hw hb⟩
end Go.Proofs.YtefdnmeopbkflaaGreatDoor
namespace Go.Proofs.YtefdnmeopbkflaaGreatDoor
open Go Go.V
set_option linter.unusedSimpArgs false
set_option linter.unusedVariables false
set_option maxRecDepth 100000
def mA (C:List Nat→List UInt8→List Nat) (s:DS):List UInt8:=(gU C s (aAH s.many)).h.flatMap be4
theorem pJ [Gv] (l:List Nat):(l.flatMap be4).length=4*l.length:=by
 induction l with
 | nil=>rfl
 | cons x l ih=>simp only[List.flatMap_cons,List.length_append,List.length_cons,ih];simp[be4];omega
theorem aMS [Gv] (n:Nat):(n+(aAH n).length)%64=0∧(aAH n).length≤72:=by
 simp only[aAH,List.length_cons,List.length_append,List.length_replicate,be4,List.length_nil,tQ]
 omega
theorem aFK [Gv] (l:List UInt8):jE (Bs l)=true:=by
 induction l with
 | nil=>rfl
 | cons c l ih=>rw[show Bs (c::l)=B c::Bs l from rfl];simp[jE,B,flat,ih]
theorem uE [Gv] {P:Program} {ty:TypeId} {nt:Nat} {s:List (Nat×AV)} {os:List AObj} {x r n:Nat} {cs:List AV} (hx:lk s x=.ptr r 0) (ho:os[r]? = some (.cells cs)) (hn:tsz P ty=some n) (hag:aO (P.underlying ty)=some true) (hl:cs.length=n) :
  eU P [ty] [.cell x ty] ⟨nt,s,os⟩=some (((0+n≤cs.length)∧aH (.agg cs)=true)∧True,.agg cs):=by
 have ht:(cs.drop 0).take n=cs:=by rw[List.drop_zero];exact List.take_of_length_le (by omega)
 simp only[eU,bN,bO,hx,aY,ho,apart,hag,hn,ht,dA]
theorem aJh [Gv] (h:List Nat) (i:Nat) (hi:i<h.length):(jT h).getD i 0=((h.getD i 0:Nat):Int):=by
 simp[jT,List.getD_eq_getElem?_getD,hi]
theorem aMn [Gv] (h:List Nat) (i:Nat) (hi:i<h.length):(h.take (i+1)).flatMap be4=(h.take i).flatMap be4++be4 (h.getD i 0):=by
 rw[List.take_add_one,List.getElem?_eq_getElem hi,List.flatMap_append,List.getD_eq_getElem?_getD,List.getElem?_eq_getElem hi]
 simp
theorem aIb [Gv] {C:List Nat→List UInt8→List Nat} (hC:COk C) (s:DS) (hs:DOk s) (hm:s.many≤900000000) :
  ACalls Tryz.prog GP 282 [.ptr 0 0] [.cells (DC s.h s.rest s.many)] (fun v os=>os=[.cells (DC s.h s.rest s.many)]∧v=.agg (Bs (mA C s))):=by
 have hh:=iQ hs.1
 have hr:=hs.2
 have hDl:=mE s.h s.rest s.many hh hr
 have h72:=aAW s.h s.rest s.many hh hr
 have hp:=aMS s.many
 have cC:=(aFE s.h s.rest s.many hh hr).g (G:=GP)
 have cW:=yB hC s hs (aAH s.many) .no (by omega)
 have cP:=(aPq s.many (by omega)).g (G:=GP)
 have hok:=mV hC.1 hs (aAH s.many)
 have hn:=qD s.h s.rest s.many
 unfold mA
 generalize gU C s (aAH s.many)=e at cW hok
 generalize aAH s.many=pl at *
 have hh2:=iQ hok.1
 have hDl2:=mE e.h e.rest e.many hh2 hok.2
 have h8:=aEb e.h e.rest e.many hh2
 have hn2:=qD e.h e.rest e.many
 generalize DC s.h s.rest s.many=D at *
 generalize DC e.h e.rest e.many=D2 at *
 obtain⟨z,hz,hzl⟩:∃ z:List UInt8,(zvs .u8 32).map cav=Bs z∧z.length=32:=⟨List.replicate 32 0,by simp[zvs,Bs,B,cav],by simp⟩
 refine gQ Tryz.func282 rfl rfl Tryz.ntmps282 (rts:=#[23]) rfl Tryz.results282 (by simp) ?_
 simp only[seval,aZ]
 refine ky hz ?_
 refine kr [1000008] fun K hK=>?_
 refine gR (v':=.ptr 2 0) 0 (.cells D) rfl (by simpa[eH] using hn) (by simp[fH,iV]) cC (by simp[eH,hn]) (by simp[iL]) ?_
 simp only[seval,kT]
 refine hK _ ?_
 clear hK K
 refine kp [0,2,3] ?_
 refine kw [1000015] (kI hDl h72) fun K hK=>?_
 refine kc (cP) ?_
 refine gR (v':=.tup []) 2 (.cells D) rfl (by simpa[eH] using hn) (by simp[fH,iV,aJ,bW]) cW (by simp[eH,hn2]) (by simp[iL,aH,aM]) ?_
 simp only[seval,kT]
 refine hK _ ?_
 clear hK K
 refine kp [2,3] ?_
 refine kq ?_
 refine lH 4 rfl ?_
 refine kp [2,3,4] ?_
 refine aC fun K1 hK1=>?_
 refine kx [2,4,19,20] (kI hDl2 h8) ?_
 have hnl:(jT e.h).length=8:=by rw[aTu,hh2]
 apply bK
 refine bZ (fun i:Nat=>⟨30,[(2,.ptr 1 0),(4,.sl ((e.h.take i).flatMap be4).length (Bs ((e.h.take i).flatMap be4)) .no),(19,.agg (Is .u32 (jT e.h))),(20,.val (.int .i64 (i:Int)))],[.cells D,.cells (Bs z),.cells D2]⟩)
  (fun i=>i≤8) (fun i=>8 - i) 0 (by omega) (.of_keep [2,4,19,20] rfl) ?_
 intro i hi
 refine ky @aCB ?_
 apply bJ
 refine fB rfl rfl (fun h=>?_) (fun h=>?_)
 ·have hlt:i<8:=by have:=of_decide_eq_true h;omega
  apply bC
  simp only[seval,kT]
  refine kp [2,4,19,20] ?_
  have hget:=aJh e.h i (by omega)
  have htk:=aMn e.h i (by omega)
  have hlen:=pJ (e.h.take i)
  have hlen1:=pJ (e.h.take (i+1))
  rw[List.length_take] at hlen hlen1
  have e1:((e.h.take i).flatMap be4).length+4=((e.h.take (i+1)).flatMap be4).length:=by omega
  have cPut:=(aBY ((e.h.take i).flatMap be4) .no (e.h.getD i 0) (by omega)).g (G:=GP)
  rw[← htk,e1] at cPut
  generalize (e.h.take i).flatMap be4=A at cPut hlen e1 ⊢
  generalize e.h.getD i 0=x at cPut hget
  apply bJ
  apply bK
  refine aC fun K hK=>aA [] ?_
  have hgI:(Is .u32 (jT e.h)).getD i .top=.val (.int .u32 (x:Int)):=by rw[aTv (by omega),hget];rfl
  simp only[qq,aF,uU,aB,Nat.reduceEqDiff,Tryz.underlying362,bD,apart,aO,Tryz.underlying279,Int.toNat_natCast,Nat.mul_one,dZ,hnl,hgI,Int.cast_ofNat_Int,Nat.reduceLT,aG,aI]
  refine⟨⟨⟨by omega,by omega⟩,by omega⟩,hK _ ?_⟩
  clear hK K
  refine kp [2,4,6,19,20] ?_
  refine ko [] ?_
  refine aV (by simp[aJ,aM,aH]) (cPut) (by simp[aH,aM,aJ,flat]) ?_
  simp only[qq,aK,aF,Nat.reduceLT,aB,Nat.reduceEqDiff,aG]
  simp only[seval,kT,kF]
  refine kp [2,4,19,20] ?_
  have h6:IntKind.i64.wrap ((i+1:Nat):Int)=((i+1:Nat):Int):=fD (by omega)
  refine ku [] (kI @gO h6) ?_
  refine⟨i+1,by omega,by omega,.of_keep [2,4,19,20] rfl⟩
 ·have he:i=8:=by have:=of_decide_eq_false h;omega
  subst he
  apply dR
  simp only[seval,kT,kF]
  refine hK1 _ ?_
  clear hK1 K1
  have htk:e.h.take 8=e.h:=List.take_of_length_le (by omega)
  have hlen:=pJ e.h
  rw[hh2] at hlen
  rw[htk]
  generalize e.h.flatMap be4=A at hlen ⊢
  refine kp [2,4] ?_
  have hA:A.length=32:=hlen
  have ht32:A.take 32=A:=List.take_of_length_le (by omega)
  have zd:z.drop 32=[]:=List.drop_eq_nil_of_le (by omega)
  refine aC fun K hK=>aA [] ?_
  simp only[qq,hA,aF,Nat.reduceLT,aB,Nat.reduceEqDiff,qI,Tryz.underlying23,aX,aY,apart,aO,bD,bQ,bX,bB,hzl,spl,eA,aG,aI,eS,ht32,eR,zd,gV]
  refine hK _ ?_
  clear hK K
  refine aE [2] ?_
  simp only[aD,aB,Nat.reduceEqDiff,if_true,if_false]
  refine aS ?_
  have hsz:tsz Tryz.prog 23=some 32:=by simp only[bD]
  exact aEc (.inr rfl) rfl (by simpa[eH] using hn) (uE rfl rfl hsz (by rw[Tryz.underlying23];rfl) (by rw[aX,hA])) ⟨⟨by rw[aX,hA];omega,by simp[aH,aJ]⟩,trivial⟩ (by simp[flat,aFK]) ⟨rfl,rfl⟩
theorem pT [Gv] {C:List Nat→List UInt8→List Nat} (hC:COk C) (s:DS) (hs:DOk s):(mA C s).length=32:=by
 rw[mA,pJ,iQ (mV hC.1 hs (aAH s.many)).1]
end Go.Proofs.YtefdnmeopbkflaaGreatDoor
namespace Go.Proofs.YtefdnmeopbkflaaGreatDoor
open Go Go.V
set_option linter.unusedSimpArgs false
set_option linter.unusedVariables false
set_option maxRecDepth 20000
def PS (l:List (List UInt8)):List AV:=l.map fun b=>.sl b.length (Bs b) .no
theorem aIn [Gv] (l:List (List UInt8)):(PS l).length=l.length:=List.length_map _
theorem aNN [Gv] (l:List (List UInt8)) (i:Nat) (h:i<l.length):(PS l).getD i .top=.sl (l.getD i []).length (Bs (l.getD i [])) .no:=by
 simp[PS,List.getD_eq_getElem?_getD,List.getElem?_map,List.getElem?_eq_getElem h]
def jZ:DS:=⟨sG,List.replicate 64 0,0⟩
theorem uR [Gv]:DOk jZ:=⟨⟨_,_,_,_,_,_,_,_,rfl,by omega,by omega,by omega,by omega,by omega,by omega,by omega,by omega⟩,rfl⟩
def aPu (C:List Nat→List UInt8→List Nat) (l:List UInt8):List UInt8:=mA C (gU C jZ l)
theorem aKD [Gv] (l:List (List UInt8)) (i:Nat) (h:i<l.length):(l.take (i+1)).flatten=(l.take i).flatten++l.getD i []:=by
 rw[List.take_add_one,List.getElem?_eq_getElem h,List.flatten_append,List.getD_eq_getElem?_getD,List.getElem?_eq_getElem h]
 simp
theorem xV [Gv] (l:List (List UInt8)) (i:Nat):(l.take i).flatten.length≤l.flatten.length:=by
 conv=>rhs;rw[← List.take_append_drop i l,List.flatten_append,List.length_append]
 omega
end Go.Proofs.YtefdnmeopbkflaaGreatDoor
namespace Go.Proofs.YtefdnmeopbkflaaGreatDoor
open Go Go.V
set_option linter.unusedSimpArgs false
set_option linter.unusedVariables false
set_option maxRecDepth 100000
def sU (key:List UInt8) (by':UInt8):List UInt8:=(key++List.replicate (64 - key.length) 0).map (· ^^^ by')
theorem tL [Gv] (key:List UInt8) (by':UInt8) (h:key.length≤64):(sU key by').length=64:=by simp[sU];omega
def DS.cs (s:DS):List AV:=DC s.h s.rest s.many
theorem fW [Gv] (s:DS):aM (DS.cs s)=true:=qD _ _ _
theorem aND [Gv] (cs:List UInt8) (j:Nat) (x:UInt8) (hj:j<cs.length):(Bs cs).take j++[.val (.int .u8 (x.toNat:Int))]++(Bs cs).drop (j+1)=Bs (cs.set j x):=by
 rw[List.set_eq_take_append_cons_drop,if_pos hj,iD,eS]
 have:Bs (x::cs.drop (j+1))=AV.val (.int .u8 (x.toNat:Int))::(Bs cs).drop (j+1):=by
  rw[eA]
  rfl
 rw[this]
 simp
theorem aKI [Gv] (l:List UInt8) (by':UInt8) (i:Nat) (h:i<l.length) :
  (Bs ((l.take i).map (· ^^^ by')++l.drop i)).getD i .top=.val (.int .u8 ((l.getD i 0).toNat:Int))∧
  (Bs ((l.take i).map (· ^^^ by')++l.drop i)).take i++[.val (.int .u8 (((l.getD i 0).toNat ^^^ by'.toNat:Nat):Int))]++(Bs ((l.take i).map (· ^^^ by')++l.drop i)).drop (i+1)=Bs ((l.take (i+1)).map (· ^^^ by')++l.drop (i+1)):=by
 have hl:((l.take i).map (· ^^^ by')).length=i:=by simp;omega
 have hd:l.drop i=l.getD i 0::l.drop (i+1):=by
  rw[List.drop_eq_getElem_cons h]
  simp[List.getD_eq_getElem?_getD,List.getElem?_eq_getElem h]
 rw[hd]
 constructor
 ·rw[V.kP (by simp;omega)]
  simp only[B]
  congr 4
  rw[List.getD_eq_getElem?_getD,List.getElem?_append_right (by omega),hl,Nat.sub_self]
  rfl
 ·have hb:((l.take i).map (· ^^^ by')++l.getD i 0::l.drop (i+1)).length=l.length:=by simp;omega
  have hp:=aND ((l.take i).map (· ^^^ by')++l.getD i 0::l.drop (i+1)) i (l.getD i 0 ^^^ by') (by rw[hb];exact h)
  have e0:((l.getD i 0 ^^^ by').toNat:Int)=(((l.getD i 0).toNat ^^^ by'.toNat:Nat):Int):=by rw[UInt8.toNat_xor]
  rw[← e0]
  refine hp.trans ?_
  congr 1
  rw[List.set_append_right _ _ (by omega),hl,Nat.sub_self,List.set_cons_zero]
  have e2:l.take (i+1)=l.take i++[l.getD i 0]:=by
   rw[List.take_add_one,List.getElem?_eq_getElem h]
   simp[List.getD_eq_getElem?_getD,List.getElem?_eq_getElem h]
  rw[e2]
  simp
theorem aDK [Gv] {C:List Nat→List UInt8→List Nat} (hC:COk C) (key:List UInt8) (p:Perm) (by':UInt8) (hk:key.length=32) :
  ACalls Tryz.prog GP 280 [.sl key.length (Bs key) p,.val (.int .u8 (by'.toNat:Int))] [] (fun r os=>os=[.cells (DS.cs (gU C jZ (sU key by')))]∧r=.ptr 0 0):=by
 have cN:=aPg.g (G:=GP)
 rw[show DC sG (List.replicate 64 0) 0=DS.cs jZ from rfl] at cN
 have hn0:=fW jZ
 have hkl:=tL key by' (by omega)
 have cW:=yB hC jZ uR (sU key by') .full (by rw[hkl];decide)
 have hn1:=fW (gU C jZ (sU key by'))
 rw[hkl] at cW
 change ACalls _ _ _ _ [.cells (DS.cs jZ)] (fun v os=>os=[.cells (DS.cs (gU C jZ (sU key by')))]∧v=.tup []) at cW
 generalize DS.cs (gU C jZ (sU key by'))=D1 at *
 obtain⟨z,hz,hzl,hz0⟩:∃ z:List UInt8,(zvs .u8 64).map cav=Bs z∧z.length=64∧z=List.replicate 64 0:=⟨List.replicate 64 0,by simp[zvs,Bs,B,cav],by simp,rfl⟩
 refine dB Tryz.func280 rfl rfl Tryz.ntmps280 (rts:=#[346]) rfl Tryz.results280 (by simp) ?_
 simp only[seval,aZ]
 refine kq ?_
 refine kx [0,1,5] hz ?_
 refine aC fun K1 hK1=>?_
 refine aC fun K hK=>aA [] ?_
 simp only[qq,aF,Nat.reduceLT,aB,reduceCtorEq,bI,Nat.reduceEqDiff,bV,eN,Tryz.underlying54,cav,aL,aG,aI,aP,bH,yM]
 (repeat' apply And.intro)<;>try (first|exact True.intro|omega)
 refine hK _ ?_
 clear hK K
 refine aR (by simp only[aB,lk];simp;omega) (bC (hK1 _ ?_))
 clear hK1 K1
 refine kp [0,1,5] ?_
 refine aC fun K hK=>aA [] ?_
 have hk32:key.take 32=key:=List.take_of_length_le (by omega)
 simp only[seval,kT,hk,hzl,hk32]
 refine hK _ ?_
 clear hK K
 have hzd:z.drop 32=List.replicate (64 - key.length) 0:=by rw[hz0,hk];rfl
 rw[hzd,← iD]
 have hLl:(key++List.replicate (64 - key.length) (0:UInt8)).length=64:=by simp[hk]
 rw[show sU key by'=(key++List.replicate (64 - key.length) 0).map (· ^^^ by') from rfl] at cW hkl
 generalize key++List.replicate (64 - key.length) 0=L at cW hkl hLl ⊢
 refine kp [1,5] ?_
 refine aC fun K1 hK1=>?_
 refine ks [1,5,19] ?_
 apply bK
 refine bZ (fun i:Nat=>⟨34,[(1,.val (.int .u8 (by'.toNat:Int))),(5,.ptr 0 0),(19,.val (.int .i64 (i:Int)))],[.cells (Bs ((L.take i).map (· ^^^ by')++L.drop i))]⟩)
  (fun i=>i≤64) (fun i=>64 - i) 0 (by omega) (.of_keep [1,5,19] rfl) ?_
 intro i hi
 refine ky @aCB ?_
 apply bJ
 refine fB rfl rfl (fun hq=>?_) (fun hq=>?_)
 ·have hlt:i<64:=by have:=of_decide_eq_true hq;omega
  apply bC
  simp only[seval,kT]
  refine kp [1,5,19] ?_
  apply bJ
  apply bK
  refine aC fun K hK=>aA [] ?_
  simp only[qq,aF,Nat.reduceLT,aB,Nat.reduceEqDiff,aG,aI]
  (repeat' apply And.intro)<;>try (first|exact True.intro|omega)
  refine hK _ ?_
  clear hK K
  refine aE [1,5,7,19] ?_
  simp only[aD,aB,Nat.reduceEqDiff,if_true,if_false]
  obtain⟨g1,g2⟩:=aKI L by' i (by omega)
  have hbl:(Bs ((L.take i).map (· ^^^ by')++L.drop i)).length=64:=by rw[aX];simp;omega
  generalize Bs ((L.take i).map (· ^^^ by')++L.drop i)=cs at g1 g2 hbl ⊢
  have hx:=UInt8.toNat_lt (L.getD i 0)
  have hy:=UInt8.toNat_lt by'
  generalize (L.getD i 0).toNat=x at g1 g2 hx
  refine aA [] ?_
  simp only[qq,aF,Nat.reduceLT,aB,Nat.reduceEqDiff,dN,Tryz.underlying336,bD,Int.cast_ofNat_Int,Int.toNat_natCast,Nat.mul_one,aY,apart,aO,Tryz.underlying5,aL,bQ,bX,bB,spl,aG,hbl,g1,aP,bH,aMH,List.all_cons,dC,Value.oneCell',List.all_nil,Nat.reduceLeDiff]
  refine⟨⟨by omega,by omega⟩,hlt,⟨by omega,by omega⟩,by omega,?_⟩
  rw[Nat.mod_eq_of_lt (Nat.xor_lt_two_pow (n:=8) hx hy),g2]
  simp only[seval,kT,kF]
  refine kp [1,5,19] ?_
  have h6:IntKind.i64.wrap ((i+1:Nat):Int)=((i+1:Nat):Int):=fD (by omega)
  refine ku [] (kI @gO h6) ?_
  refine⟨i+1,by omega,by omega,.of_keep [1,5,19] rfl⟩
 ·have he:i=64:=by have:=of_decide_eq_false hq;omega
  subst he
  apply dR
  simp only[seval,kT,kF]
  refine hK1 _ ?_
  clear hK1 K1
  rw[List.take_of_length_le (by omega),List.drop_eq_nil_of_le (by omega),List.append_nil]
  refine iH 5 0 (Bs (L.map (· ^^^ by'))) rfl rfl (by rw[aX,hkl];omega) (aJ _) ?_
  refine kp [5] ?_
  refine kr [1000029] fun K hK=>?_
  refine aAp (by simp[fH]) cN (by simpa[eH] using hn0) ?_
  simp only[seval,kT]
  refine hK _ ?_
  clear hK K
  refine kp [5,8] ?_
  refine kw [1000032] hkl fun K hK=>?_
  refine gR (v':=.tup []) 1 (.cells (DS.cs jZ)) rfl (by simpa[eH] using hn0) (by simp[fH,iV,aJ,bW]) cW (by simp[eH,hn1]) (by simp[iL,aH,aM]) ?_
  simp only[seval,kT]
  refine hK _ ?_
  clear hK K
  refine kq ?_
  apply aS
  exact⟨.inr rfl,[1],_,_,⟨by simp,by simp,by decide,by simp,by simp[fU,bM _ _ hn1]⟩,rfl,⟨trivial,trivial⟩,rfl,by simp[GHd,gJ,cY _ _ hn1],rfl⟩
def MC (w a:DS):List AObj:=[.cells [.ptr 1 0,.ptr 2 0],.cells (DS.cs w),.cells (DS.cs a)]
theorem aJa [Gv] {C:List Nat→List UInt8→List Nat} (hC:COk C) (key:List UInt8) (p:Perm) (hk:key.length=32) :
  ACalls Tryz.prog GP 249 [.sl key.length (Bs key) p] [] (fun r os=>os=MC (gU C jZ (sU key 0x36)) (gU C jZ (sU key 0x5c))∧r=.ptr 0 0):=by
 have c1:=aDK hC key (bW p) 0x36 hk
 have c2:=aDK hC key (bW p) 0x5c hk
 have hn1:=fW (gU C jZ (sU key 0x36))
 have hn2:=fW (gU C jZ (sU key 0x5c))
 unfold MC
 generalize DS.cs (gU C jZ (sU key 0x36))=D1 at *
 generalize DS.cs (gU C jZ (sU key 0x5c))=D2 at *
 rw[show ((0x36:UInt8).toNat:Int)=54 from rfl] at c1
 rw[show ((0x5c:UInt8).toNat:Int)=92 from rfl] at c2
 refine dB Tryz.func249 rfl rfl Tryz.ntmps249 (rts:=#[319]) rfl Tryz.results249 (by simp) ?_
 simp only[seval,aZ]
 refine kq ?_
 refine kr [1000004,1000006] fun K hK=>?_
 refine aAp (by simp[fH,iV,aH,aJ]) c1 (by simpa[eH] using hn1) ?_
 simp only[seval,kT]
 refine aAp (by simp[fH,iV,aH,aJ]) c2 (by simpa[eH] using hn2) ?_
 simp only[seval,kT]
 refine hK _ ?_
 clear hK K
 refine kp [2] ?_
 apply aS
 exact⟨.inr rfl,[2,0,1],_,_,⟨by simp,by simp,by decide,by simp,by simp[fU,eV,ref,bM _ _ hn1,bM _ _ hn2]⟩,rfl,⟨trivial,trivial⟩,rfl,by simp[GHd,gJ,gH,ren,cY _ _ hn1,cY _ _ hn2]<;>decide,rfl⟩
theorem aFZ [Gv] {C:List Nat→List UInt8→List Nat} (hC:COk C) (w a:DS) (hw:DOk w) (b:List UInt8) (p:Perm) (hm:w.many+b.length≤1000000000) :
  ACalls Tryz.prog GP 250 [.ptr 0 0,.sl b.length (Bs b) p] (MC w a) (fun r os=>os=MC (gU C w b) a∧r=.tup []):=by
 have cW:=yB hC w hw b (bW p) hm
 change ACalls _ _ _ _ [.cells (DS.cs w)] (fun v os=>os=[.cells (DS.cs (gU C w b))]∧v=.tup []) at cW
 have hn0:=fW w
 have hn1:=fW (gU C w b)
 have hn2:=fW a
 unfold MC
 generalize DS.cs (gU C w b)=D1 at *
 generalize DS.cs w=D0 at *
 generalize DS.cs a=D2 at *
 refine dB Tryz.func250 rfl rfl Tryz.ntmps250 (rts:=#[]) rfl Tryz.results250 (by simp) ?_
 simp only[seval,aZ]
 refine ko [1000009] ?_
 refine gR (v':=.tup []) 1 (.cells D0) rfl (by simpa[eH] using hn0) (by simp[fH,iV,aJ]) cW (by simp[eH,hn1]) (by simp[iL,aH,aM]) ?_
 simp only[seval,kT]
 exact⟨.inl rfl,[0,1,2],_,_,⟨by simp,by decide,by decide,by simp,by simp[fU,eV,ref,bM _ _ hn1,bM _ _ hn2]⟩,rfl,trivial,rfl,by simp[GHd,gJ,gH,ren,cY _ _ hn1,cY _ _ hn2]<;>decide,rfl⟩
theorem aLX (a b:List UInt8) (p q:Perm) (ha:a.length≤9223372036854775807):ACalls Tryz.prog G0 73 [.sl a.length (Bs a) p,.sl b.length (Bs b) q] [] (fun r os=>os=[]∧r=.val (.bool (decide (a=b)))):=by
 refine ke Tryz.func73 Tryz.ntmps73 Tryz.results73 #[4] ?_
 refine aC fun K hK=>aA [] ?_
 simp only[qq,aF,Nat.reduceLT,aB,cav,aG,aI]
 (repeat' apply And.intro)<;>try (first|exact True.intro|omega)
 refine hK _ ?_
 clear hK K
 refine aC fun K1 hK1=>?_
 refine aC fun K hK=>aA [] ?_
 simp only[qq,aF,Nat.reduceLT,aB,reduceCtorEq,bI,Nat.reduceEqDiff,bV,eN,Tryz.underlying54,aL,aG,aI,aP,bH,aLS]
 (repeat' apply And.intro)<;>try (first|exact True.intro|omega)
 refine hK _ ?_
 clear hK K
 refine fB rfl rfl (fun h=>?_) (fun h=>?_)
 ·have hne:a.length≠b.length:=by simpa using h
  refine kp [0,1] ?_
  refine aC fun K hK=>aA [] ?_
  simp only[qq,aF,Nat.reduceLT,aB,cav,aG,aI]
  (repeat' apply And.intro)<;>try (first|exact True.intro|omega)
  refine hK _ ?_
  clear hK K
  apply aS
  simp only[seval,kT,kF]
  congr 2
  simp
  rintro rfl
  exact hne rfl
 have hl:a.length=b.length:=by simpa using h
 refine bC (hK1 _ ?_)
 clear hK1 K1
 refine kp [0,1] ?_
 refine aC fun K hK=>aA [] ?_
 simp only[qq,aF,Nat.reduceLT,aB,cav,aG,aI]
 (repeat' apply And.intro)<;>try (first|exact True.intro|omega)
 refine hK _ ?_
 clear hK K
 refine aC fun K1 hK1=>?_
 refine aC fun K hK=>aA [] ?_
 simp only[qq,aF,Nat.reduceLT,aB,reduceCtorEq,bI,Nat.reduceEqDiff,bV,eN,Tryz.underlying54,cav,aG,aI]
 (repeat' apply And.intro)<;>try (first|exact True.intro|omega)
 refine hK _ ?_
 clear hK K
 refine aE [1,5,13,14,15] ?_
 simp only[aD,aB,Nat.reduceEqDiff,if_true,if_false]
 refine bK ?_
 refine bZ (fun x:Nat×Nat=>⟨31,[(1,.sl b.length (Bs b) q),(5,.val (.int .u8 (x.2:Int))),(13,.sl a.length (Bs a) p),(14,.val (.int .i64 (a.length:Int))),(15,.val (.int .i64 (x.1:Int)))],[]⟩)
  (fun x=>x.1≤a.length∧x.2<256∧(x.2=0↔∀ k,k<x.1→a.getD k 0=b.getD k 0)) (fun x=>a.length - x.1) (0,0) ⟨by omega,by omega,by simp⟩ (.of_keep [1,5,13,14,15] (by exact rfl)) ?_
 rintro⟨i,u⟩ ⟨hi,hu,hiff⟩
 simp only at hi hu hiff
 refine ky @jM ?_
 refine bJ ?_
 refine fB rfl rfl (fun h=>?_) (fun h=>?_)
 ·have hlt:i<a.length:=of_decide_eq_true h
  have hpa:0<a.length - i:=by omega
  have hpb:0<b.length - i:=by omega
  apply bC
  simp only[aI]
  refine aE [1,5,13,14,15] ?_
  simp only[aD,aB,Nat.reduceEqDiff,if_true,if_false]
  refine bJ ?_
  refine bK ?_
  refine aC fun K hK=>aA [] ?_
  simp only[qq,aF,Nat.reduceLT,aB,Nat.reduceEqDiff,dN,Tryz.underlying54,bD,aX,Nat.mul_one,Int.toNat_natCast,eA,aY,apart,aO,Tryz.underlying5,aG,aI,List.length_drop,hpa,kP,B,fL]
  (repeat' apply And.intro)<;>try (first|exact True.intro|omega)
  refine hK _ ?_
  clear hK K
  refine aE [1,5,6,7,13,14,15] ?_
  simp only[aD,aB,Nat.reduceEqDiff,if_true,if_false]
  refine aA [] ?_
  simp only[qq,aF,Nat.reduceLT,aB,Nat.reduceEqDiff,dN,Tryz.underlying54,bD,aX,Nat.mul_one,Int.toNat_natCast,eA,aY,apart,aO,Tryz.underlying5,aL,aG,List.length_drop,hpb,kP,B,fL,aP,bH,aMH,aOo]
  refine⟨by omega,?_⟩
  simp only[seval,kT,kF]
  refine aE [1,5,13,14,15] ?_
  simp only[aD,aB,Nat.reduceEqDiff,if_true,if_false]
  have h6:IntKind.i64.wrap ((i+1:Nat):Int)=((i+1:Nat):Int):=fD (by omega)
  refine ku [] (kI @gO h6) ?_
  have hst:=aNh u (a.getD i 0) (b.getD i 0) hu
  refine⟨(i+1,(u ||| ((a.getD i 0).toNat ^^^ (b.getD i 0).toNat)%256)%256),⟨by omega,hst.1,?_⟩,by omega,.of_keep [1,5,13,14,15] rfl⟩
  rw[hst.2,hiff]
  constructor
  ·rintro⟨h1,h2⟩ k hk
   by_cases e:k=i
   ·subst e;exact h2
   ·exact h1 k (by omega)
  ·intro h1
   exact⟨fun k hk=>h1 k (by omega),h1 i (by omega)⟩
 ·have hge:i=a.length:=by have:=of_decide_eq_false h;omega
  subst hge
  apply dR
  simp only[seval,kT,kF]
  refine hK1 _ ?_
  refine ky @wY ?_
  apply aS
  simp only[seval,kT,kF]
  congr 2
  rw[Bool.eq_iff_iff]
  simp only[beq_iff_eq,decide_eq_true_eq]
  rw[hiff,← aGF hl]
end Go.Proofs.YtefdnmeopbkflaaGreatDoor
namespace Go.Proofs.YtefdnmeopbkflaaGreatDoor
open Go Go.V
set_option linter.unusedSimpArgs false
set_option linter.unusedVariables false
set_option maxRecDepth 20000
end Go.Proofs.YtefdnmeopbkflaaGreatDoor
namespace Go.Proofs.YtefdnmeopbkflaaGreatDoor
open Go Go.V
set_option linter.unusedSimpArgs false
set_option linter.unusedVariables false
set_option maxRecDepth 100000
theorem aGq (n:Nat):be8 n 8=be4 (n/4294967296%4294967296)++be4 (n%4294967296):=by
 simp only[be8,be4,List.range_succ,List.range_zero,List.nil_append,List.cons_append,List.map_cons,List.map_nil]
 repeat' (apply congr (congrArg List.cons (aPm (by omega))))
 rfl
theorem aCw (n:Nat) (hn:n<18446744073709551616):ACalls Tryz.prog G0 129 [.val (.int .u64 (n:Int))] [] (fun r os=>os=[]∧r=.sl 8 (Bs (be8 n 8)) .no):=by
 refine ke Tryz.func129 Tryz.ntmps129 Tryz.results129 #[54] ?_
 refine kq ?_
 refine aC fun K hK=>aA [] ?_
 simp only[qq,aF,Nat.reduceLT,aB,reduceCtorEq,Nat.reduceEqDiff,cav,aL,aP,bH,Int.reduceLE,Int.reduceToNat,IntKind.bits,Nat.min_def,Nat.reduceLeDiff,rV,eL,Tryz.underlying279,eG,bA,aH,fF,Tryz.underlying30,Option.isSome_some,qV,aU,Nat.reduceAdd,bF,aT,aM,bW]
 have hp:(2:Nat)^32=4294967296:=rfl
 rw[hp]
 generalize hga:n/4294967296%4294967296=a
 have h1:=aBY [] .full a (by simp)
 refine kv (h1) @qV ?_
 have h2:=aBY (be4 a) .no (n%4294967296) (by simp[be4])
 refine kc (h2) (hK _ ?_)
 apply aS
 simp only[seval,kT,kF]
 rw[aGq n,hga]
 rfl
theorem aGk [Gv] {P:Program} {ty:TypeId} {nt:Nat} {s:List (Nat×AV)} {os:List AObj} {x r n:Nat} {cs:List AV} (hx:lk s x=.ptr r 0) (ho:os[r]? = some (.cells cs)) (hn:tsz P ty=some n) (hag:aO (P.underlying ty)=some true) (hl:cs.length=n) :
  gB P [.cell x ty] ⟨nt,s,os⟩=some ((0+n≤cs.length)∧True,.agg cs):=by
 have ht:(cs.drop 0).take n=cs:=by rw[List.drop_zero];exact List.take_of_length_le (by omega)
 simp only[gB,fJ,fR,hx,aY,ho,apart,hag,hn,ht]
theorem id3 [Gv]:∀ i,i<3→([0,1,2]:List Nat).getD i 0=i:=by decide
theorem aEa [Gv] (objs:List AObj):σn objs []=fun i=>objs.length+i:=by
 funext i
 simp[σn]
theorem yC [Gv] (objs os:List AObj):jD objs [] os=objs++os.map (gJ fun i=>objs.length+i):=by
 simp[jD,gG,aEa]
theorem aHG [Gv] (hs:List Nat) (hh:hs.length≤3) (w a:DS) (r:AV) (hr:ref (fun r=>decide (r<3)) r=true):aNJ hs false r (MC w a):=
 ⟨hh,fun o ho=>by
  simp only[MC,List.mem_cons,List.not_mem_nil,or_false] at ho
  rcases ho with rfl|rfl|rfl
  ·rfl
  ·exact bM _ _ (fW w)
  ·exact bM _ _ (fW a),hr,fun h=>by cases h⟩
def MO (n:Nat) (w a:DS):List AObj:=[.cells [.ptr (n+1) 0,.ptr (n+2) 0],.cells (DS.cs w),.cells (DS.cs a)]
theorem aOA [Gv] (objs:List AObj) (w a:DS):jD objs [] (MC w a)=objs++MO objs.length w a:=by
 rw[yC]
 simp[MC,MO,gJ,gH,ren,cY _ _ (fW w),cY _ _ (fW a)]
theorem aJb [Gv] {C:List Nat→List UInt8→List Nat} (hC:COk C) (w a:DS) (hw:DOk w) (ha:DOk a) (hm:w.many≤900000000) (hm2:a.many≤800000000) :
  ACalls Tryz.prog GP 251 [.ptr 0 0] (MC w a) (fun r os=>os=MC w a∧r=.agg (Bs (mA C (gU C a (mA C w))))):=by
 have hsl:(mA C w).length=32:=pT hC w hw
 have hok2:=mV hC.1 ha (mA C w)
 have hmr:=mQ C a (mA C w)
 have cS:=aIb hC w hw hm
 have cS2:=aIb hC (gU C a (mA C w)) hok2 (by omega)
 have cCl:=(aFE a.h a.rest a.many (iQ ha.1) ha.2).g (G:=GP)
 have cW:=yB hC a ha (mA C w) .full (by omega)
 have hsl2:(mA C (gU C a (mA C w))).length=32:=pT hC _ hok2
 change ACalls _ _ _ _ [.cells (DS.cs w)] (fun v os=>os=[.cells (DS.cs w)]∧v=_) at cS
 change ACalls _ _ _ _ [.cells (DS.cs (gU C a (mA C w)))] (fun v os=>os=[.cells (DS.cs (gU C a (mA C w)))]∧v=_) at cS2
 change ACalls _ _ _ _ [.cells (DS.cs a)] (fun v os=>os=[.cells (DS.cs a),.cells (DS.cs a)]∧v=_) at cCl
 change ACalls _ _ _ _ [.cells (DS.cs a)] (fun v os=>os=[.cells (DS.cs (gU C a (mA C w)))]∧v=.tup []) at cW
 have hn0:=fW w
 have hn1:=fW a
 have hn2:=fW (gU C a (mA C w))
 unfold MC
 clear hok2 hmr hm hm2 hw ha
 generalize mA C (gU C a (mA C w))=S2 at *
 generalize DS.cs (gU C a (mA C w))=D2 at *
 generalize mA C w=S1 at *
 generalize DS.cs w=D0 at *
 generalize DS.cs a=D1 at *
 rw[hsl] at cW
 obtain⟨z,hz,hzl⟩:∃ z:List UInt8,(zvs .u8 32).map cav=Bs z∧z.length=32:=⟨List.replicate 32 0,by simp[zvs,Bs,B,cav],by simp⟩
 have zd:z.drop 32=[]:=List.drop_eq_nil_of_le (by omega)
 have ht1:S1.take 32=S1:=List.take_of_length_le (by omega)
 have ht2:S2.take 32=S2:=List.take_of_length_le (by omega)
 refine dB Tryz.func251 rfl rfl Tryz.ntmps251 (rts:=#[23]) rfl Tryz.results251 (by simp) ?_
 simp only[aZ,Nat.reduceAdd]
 refine aC fun K hK=>aA [] ?_
 simp only[qq,Nat.reduceAdd,aF,dF,bS,hz,Nat.reduceLT,aG,aI,aB]
 (repeat' apply And.intro)<;>try (first|exact True.intro|omega)
 refine hK _ ?_
 clear hK K
 refine aE [0,2] ?_
 simp only[aD,aB,Nat.reduceEqDiff,if_true,if_false]
 refine aC fun K hK=>aA [1000009] ?_
 simp only[qq,Nat.reduceAdd,aF,Nat.reduceLT,aB,reduceCtorEq,fY,Nat.reduceEqDiff,aN,Tryz.underlying349,bD,ne_eq,aY,List.contains_cons,Nat.reduceBEq,apart,aO,Tryz.underlying346,aU,beq_self_eq_true,bF,aT,bA,bW,List.headD_cons]
 refine gR (v':=.agg (Bs S1)) 1 (.cells D0) rfl (by simpa[eH] using hn0) (by simp[fH,iV]) cS (by simp[eH,hn0]) (by simp[iL,aH,aJ]) ?_
 simp only[qq,dE,aF,dF,bS,Nat.reduceAdd,hz,Nat.reduceLT,bQ,bX,aB,Nat.reduceEqDiff,reduceCtorEq,bD,bB,eR,aX,hsl,spl,aG,aI,hzl,eA,zd,gV]
 refine hK _ ?_
 clear hK K
 refine iH 3 4 (Bs S1) rfl rfl (by rw[aX];omega) (aJ _) ?_
 refine aE [0,2,3] ?_
 simp only[aD,aB,Nat.reduceEqDiff,if_true,if_false]
 refine aC fun K hK=>aA [1000014] ?_
 simp only[qq,Nat.reduceAdd,aF,Nat.reduceLT,aB,reduceCtorEq,fY,Nat.reduceEqDiff,aN,Tryz.underlying349,bD,ne_eq,aY,List.contains_cons,Nat.reduceBEq,apart,aO,Tryz.underlying346,aU,beq_self_eq_true,bF,aT,bA,bW,List.headD_cons,List.getD_cons_succ]
 refine gR (v':=.ptr 5 0) 2 (.cells D1) rfl (by simpa[eH] using hn1) (by simp[fH,iV]) cCl (by simp[eH,hn1]) (by simp[iL]) ?_
 simp only[qq,dE,aF,Nat.reduceLT,aB,Nat.reduceEqDiff,reduceCtorEq,aG,aI]
 refine hK _ ?_
 clear hK K
 refine aE [2,3,4] ?_
 simp only[aD,aB,Nat.reduceEqDiff,if_true,if_false]
 refine aC fun K hK=>aA [1000017] ?_
 simp only[qq,Nat.reduceAdd,aF,Nat.reduceLT,aB,Nat.reduceEqDiff,eY,iR,Option.map_none,Tryz.underlying23,bD,aX,hsl,Nat.mul_one,aU,List.contains_cons,beq_self_eq_true,bF,Nat.reduceBEq,aT,bA,bW,List.tail_cons,List.headD_cons,Tryz.underlying54]
 refine gR (v':=.tup []) 5 (.cells D1) rfl (by simpa[eH] using hn1) (by simp[fH,iV,aJ,bW]) cW (by simp[eH,hn2]) (by simp[iL,aH,aM]) ?_
 simp only[List.set_cons_succ,List.set_cons_zero,List.append_nil,dE,aG,aI]
 refine hK _ ?_
 clear hK K
 refine aE [2,4] ?_
 simp only[aD,aB,Nat.reduceEqDiff,if_true,if_false]
 refine aC fun K hK=>aA [1000019] ?_
 simp only[qq,Nat.reduceAdd,aF,Nat.reduceLT,aB,Nat.reduceEqDiff,aU,List.contains_cons,beq_self_eq_true,bF,Nat.reduceBEq,aT,bA]
 refine gR (v':=.agg (Bs S2)) 5 (.cells D2) rfl (by simpa[eH] using hn2) (by simp[fH,iV]) cS2 (by simp[eH,hn2]) (by simp[iL,aH,aJ]) ?_
 simp only[qq,dE,bQ,bX,aB,Nat.reduceEqDiff,bD,bB,eR,aX,hsl2,hzl,Nat.reduceLT,spl,eA,zd,gV,aG,aI]
 refine hK _ ?_
 clear hK K
 refine aE [2] ?_
 simp only[aD,aB,Nat.reduceEqDiff,if_true,if_false]
 refine aS ?_
 exact⟨.inr rfl,[0,1,2],_,_,⟨by simp,fun i hi=>id3 i hi,by decide,by simp,by simp[fU,eV,ref,bM _ _ hn0,bM _ _ hn1]⟩,aGk (n:=32) rfl rfl (by simp only[bD]) (by rw[Tryz.underlying23];rfl) (by rw[aX,hsl2]),⟨by rw[aX];omega,trivial⟩,by simp[ref,bM,aJ],by simp[GHd,gJ,gH,ren,cY _ _ hn0,cY _ _ hn1]<;>decide,by simp[ren,cY,aJ]⟩
def aHE (C:List Nat→List UInt8→List Nat) (key m:List UInt8):List UInt8:=aPu C (sU key 0x5c++aPu C (sU key 0x36++m))
theorem aMB [Gv] (x:AObj) (w a:DS):aKc [x,.cells [.ptr 2 0,.ptr 3 0],.cells (DS.cs w),.cells (DS.cs a)] [1,2,3]:=
 ⟨by decide,by simp,by simp[fU,eV,ref,bM _ _ (fW w),bM _ _ (fW a)]⟩
theorem aOn [Gv] (x:AObj) (w a:DS):GHd [x,.cells [.ptr 2 0,.ptr 3 0],.cells (DS.cs w),.cells (DS.cs a)] [1,2,3]=MC w a:=by
 simp[GHd,MC,gJ,gH,ren,cY _ _ (fW w),cY _ _ (fW a)]<;>decide
theorem aOm [Gv] (x:AObj) (w a w' a':DS):jD [x,.cells [.ptr 2 0,.ptr 3 0],.cells (DS.cs w),.cells (DS.cs a)] [1,2,3] (MC w' a')=[x,.cells [.ptr 2 0,.ptr 3 0],.cells (DS.cs w'),.cells (DS.cs a')]:=by
 simp[jD,gG,MC,gJ,gH,ren,σn,cY _ _ (fW w'),cY _ _ (fW a')]
theorem aMA [Gv] {C:List Nat→List UInt8→List Nat} (hC:COk C) (key:List UInt8) (p q:Perm) (hk:key.length=32) (l:List (List UInt8)) (hl:l.flatten.length≤800000000) (hl2:l.length≤900000000) :
  ACalls Tryz.prog GP 196 [.sl key.length (Bs key) p,.sl l.length (PS l) q] [] (fun r os=>os=[]∧r=.agg (Bs (aHE C key l.flatten))):=by
 have cN:=aJa hC key (bW p) hk
 have hpl:=aIn l
 have k1:=tL key 0x36 (by omega)
 have k2:=tL key 0x5c (by omega)
 obtain⟨W,hW⟩:∃ W,gU C jZ (sU key 0x36)=W:=⟨_,rfl⟩
 obtain⟨A0,hA0⟩:∃ A0,gU C jZ (sU key 0x5c)=A0:=⟨_,rfl⟩
 have hWok:DOk W:=hW ▸ mV hC.1 uR _
 have hAok:DOk A0:=hA0 ▸ mV hC.1 uR _
 have hWm:W.many=64:=by rw[← hW,mQ,k1];rfl
 have hAm:A0.many=64:=by rw[← hA0,mQ,k2];rfl
 rw[hW,hA0] at cN
 have iL:mA C (gU C A0 (mA C (gU C W l.flatten)))=aHE C key l.flatten:=by
  unfold aHE aPu
  rw[← hW,← hA0,← pR,← pR]
 rw[← iL]
 obtain⟨z,hz,hzl⟩:∃ z:List UInt8,(zvs .u8 32).map cav=Bs z∧z.length=32:=⟨List.replicate 32 0,by simp[zvs,Bs,B,cav],by simp⟩
 have zd:z.drop 32=[]:=List.drop_eq_nil_of_le (by omega)
 refine aQ Tryz.func196 rfl rfl Tryz.ntmps196 (rts:=#[23]) rfl Tryz.results196 (by simp) ?_
 simp only[aZ,Nat.reduceAdd]
 refine aC fun K hK=>aA [] ?_
 simp only[qq,aF,dF,bS,hz,Nat.reduceLT,aG,aI,aB]
 (repeat' apply And.intro)<;>try (first|exact True.intro|omega)
 refine hK _ ?_
 clear hK K
 refine aC fun K hK=>aA [1000009] ?_
 simp only[qq,aF,Nat.reduceLT,aB,reduceCtorEq,aU,Nat.reduceAdd,List.contains_cons,beq_self_eq_true,Nat.reduceEqDiff,bF,Nat.reduceBEq,aT,bA,aJ,bW]
 refine gF [] false [54] ⟨by decide,by simp,by simp⟩ (C:=aM (Bs key)=true∧True) rfl ⟨aJ _,trivial⟩ cN (aHG _ (by simp) _ _ _ rfl) ?_
 rw[aOA,aEa]
 simp only[qq,ren,dE,aF,Nat.reduceLT,aB,Nat.reduceEqDiff,reduceCtorEq,aG,aI]
 refine hK _ ?_
 clear hK K
 simp only[MO]
 refine aE [1,4,5] ?_
 simp only[aD,aB,Nat.reduceEqDiff,if_true,if_false]
 refine aC fun K1 hK1=>?_
 refine aC fun K hK=>aA [] ?_
 simp only[qq,Nat.reduceAdd,aF,Nat.reduceLT,aB,Nat.reduceEqDiff,bI,bV,eN,Tryz.underlying318,cav,aG,aI]
 (repeat' apply And.intro)<;>try (first|exact True.intro|omega)
 refine hK _ ?_
 clear hK K
 refine aE [4,5,10,11,12] ?_
 simp only[aD,aB,Nat.reduceEqDiff,if_true,if_false]
 refine bK ?_
 refine bZ (fun i:Nat=>⟨22,[(4,.ptr 0 0),(5,.ptr 1 0),(10,.sl l.length (PS l) q),(11,.val (.int .i64 (l.length:Int))),(12,.val (.int .i64 (i:Int)))],[.cells (Bs z),.cells [.ptr 2 0,.ptr 3 0],.cells (DS.cs (gU C W (l.take i).flatten)),.cells (DS.cs A0)]⟩)
  (fun i=>i≤l.length) (fun i=>l.length - i) 0 (by omega) (.of_keep [4,5,10,11,12] rfl) ?_
 intro i hi
 refine aC fun K hK=>aA [] ?_
 simp only[qq,aF,aB,Nat.reduceEqDiff,aL,aP,bH,jM,Nat.reduceLT,aG,aI]
 (repeat' apply And.intro)<;>try (first|exact True.intro|omega)
 refine hK _ ?_
 clear hK K
 refine bJ ?_
 refine fB rfl rfl (fun hq=>?_) (fun hq=>?_)
 ·have hlt:i<l.length:=of_decide_eq_true hq
  refine bC ?_
  simp only[aI]
  refine aE [4,5,10,11,12] ?_
  simp only[aD,aB,Nat.reduceEqDiff,if_true,if_false]
  have hget:=aNN l i hlt
  have hfl:=aKD l i hlt
  have hle:=xV l i
  have hle1:=xV l (i+1)
  have hrm:=mQ C W (l.take i).flatten
  have hflen:((l.take (i+1)).flatten).length=((l.take i).flatten).length+(l.getD i []).length:=by rw[hfl,List.length_append]
  have cW:=aFZ hC (gU C W (l.take i).flatten) A0 (mV hC.1 hWok _) (l.getD i []) .no (by rw[hrm,hWm];omega)
  rw[← pR,← hfl] at cW
  generalize l.getD i []=b at *
  refine bJ ?_
  refine bK ?_
  refine aC fun K hK=>aA [] ?_
  simp only[qq,aF,dN,aB,Nat.reduceEqDiff,Tryz.underlying318,bD,hpl,Nat.mul_one,Nat.reduceLT,Int.toNat_natCast,aY,apart,aO,Tryz.underlying54,aG,aI,List.length_drop,fL,hget]
  (repeat' apply And.intro)<;>try (first|exact True.intro|omega)
  refine hK _ ?_
  clear hK K
  refine aE [4,5,7,10,11,12] ?_
  simp only[aD,aB,Nat.reduceEqDiff,if_true,if_false]
  refine aA [1000018] ?_
  simp only[qq,aF,Nat.reduceLT,aB,Nat.reduceEqDiff,aU,Nat.reduceAdd,List.contains_cons,beq_self_eq_true,bF,Nat.reduceBEq,aT,bA,aJ,bW]
  refine gF [1,2,3] false [319,54] (aMB _ _ _) (C:=True∧aM (Bs b)=true∧True) rfl ⟨trivial,aJ _,trivial⟩ (by rw[aOn];exact cW) (aHG _ (by simp) _ _ _ rfl) ?_
  rw[aOm]
  simp only[ren,gH,dE,aG]
  simp only[bL,aI]
  refine aE [4,5,10,11,12] ?_
  simp only[aD,aB,Nat.reduceEqDiff,if_true,if_false]
  have h6:IntKind.i64.wrap ((i+1:Nat):Int)=((i+1:Nat):Int):=fD (by omega)
  refine aA [] ?_
  simp only[qq,aF,aB,Nat.reduceEqDiff,cav,aL,aP,bH,gO,h6,Nat.reduceLT,aG,aI]
  refine⟨i+1,by omega,by omega,.of_keep [4,5,10,11,12] rfl⟩
 ·have he:i=l.length:=by have:=of_decide_eq_false hq;omega
  subst he
  refine dR ?_
  simp only[aI,bL,if_true]
  refine hK1 _ ?_
  clear hK1 K1
  rw[List.take_length]
  have hrm:=mQ C W l.flatten
  have cS:=aJb hC (gU C W l.flatten) A0 (mV hC.1 hWok _) hAok (by rw[hrm,hWm];omega) (by omega)
  have hsl:(mA C (gU C A0 (mA C (gU C W l.flatten)))).length=32:=pT hC _ (mV hC.1 hAok _)
  generalize mA C (gU C A0 (mA C (gU C W l.flatten)))=S at *
  refine aE [4,5] ?_
  simp only[aD,aB,Nat.reduceEqDiff,if_true,if_false]
  have ht2:S.take 32=S:=List.take_of_length_le (by omega)
  refine aC fun K hK=>aA [1000021] ?_
  simp only[qq,aF,Nat.reduceLT,aB,Nat.reduceEqDiff,aU,Nat.reduceAdd,List.contains_cons,beq_self_eq_true,bF,Nat.reduceBEq,aT,bA]
  refine gF [1,2,3] false [319] (aMB _ _ _) (C:=True∧True) rfl ⟨trivial,trivial⟩ (by rw[aOn];exact cS) (aHG _ (by simp) _ _ _ (by simp[ref,bM,aJ])) ?_
  rw[aOm,uL _ _ (by simp[aH,aJ])]
  simp only[qq,dE,bQ,bX,aB,Nat.reduceEqDiff,bD,bB,eR,aX,hsl,hzl,Nat.reduceLT,spl,eA,zd,gV,aG,aI]
  refine hK _ ?_
  clear hK K
  refine aE [4] ?_
  simp only[aD,aB,Nat.reduceEqDiff,if_true,if_false]
  refine aS ?_
  have hsz:tsz Tryz.prog 23=some 32:=by simp only[bD]
  exact(by
   simp only[V.Fin]
   exact⟨_,_,uE rfl rfl hsz (by rw[Tryz.underlying23];rfl) (by rw[aX,hsl]),⟨⟨by rw[aX,hsl];omega,by simp[aH,aJ]⟩,trivial⟩,trivial,rfl⟩)
theorem zS [Gv] {C:List Nat→List UInt8→List Nat} (hC:COk C) (key m:List UInt8):(aHE C key m).length=32:=pT hC _ (mV hC.1 uR _)
def SS (l:List (List UInt8)):List AV:=l.map fun s=>.val (.string ⟨s.toArray⟩)
theorem aIo [Gv] (l:List (List UInt8)):(SS l).length=l.length:=List.length_map _
theorem aNR [Gv] (l:List (List UInt8)) (i:Nat) (h:i<l.length):(SS l).getD i .top=.val (.string ⟨(l.getD i []).toArray⟩):=by
 simp[SS,List.getD_eq_getElem?_getD,List.getElem?_map,List.getElem?_eq_getElem h]
theorem aJk [Gv] (l:List (List UInt8)):aM (SS l)=true:=by
 induction l with
 | nil=>rfl
 | cons b l ih=>rw[show SS (b::l)=.val (.string ⟨b.toArray⟩)::SS l from rfl];simp[aM,aH,ih]
theorem aPD [Gv] (b:List UInt8):SS [b]=[.val (.string ⟨b.toArray⟩)]:=rfl
def aBK (s:List UInt8):List UInt8:=be8 s.length 8++s
def fS (l:List (List UInt8)):List UInt8:=l.flatMap aBK
theorem aHA [Gv] (l:List (List UInt8)) (i:Nat) (h:i<l.length):fS (l.take (i+1))=fS (l.take i)++(be8 (l.getD i []).length 8++l.getD i []):=by
 unfold fS
 rw[List.take_add_one,List.getElem?_eq_getElem h,List.flatMap_append,List.getD_eq_getElem?_getD,List.getElem?_eq_getElem h]
 simp[aBK]
theorem aFN [Gv] (l:List (List UInt8)) (i:Nat):(fS (l.take i)).length≤(fS l).length:=by
 conv=>rhs;rw[← List.take_append_drop i l]
 unfold fS
 rw[List.flatMap_append,List.length_append]
 omega
theorem aFO [Gv] (l:List (List UInt8)) (p:Perm) (hl:(fS l).length≤100000000) (hl2:l.length≤900000000) :
  ACalls Tryz.prog G0 197 [.sl l.length (SS l) p] [] (fun r os=>os=[]∧r=.sl (fS l).length (Bs (fS l)) .no):=by
 have hpl:=aIo l
 refine ke Tryz.func197 Tryz.ntmps197 Tryz.results197 #[54] ?_
 refine kq ?_
 refine kq ?_
 refine oA 1 3 rfl ?_
 refine kp [0,3] ?_
 refine aC fun K1 hK1=>?_
 refine aC fun K hK=>aA [] ?_
 simp only[qq,aF,Nat.reduceLT,aB,reduceCtorEq,bI,Nat.reduceEqDiff,bV,eN,Tryz.underlying43,cav,aG,aI]
 (repeat' apply And.intro)<;>try (first|exact True.intro|omega)
 refine hK _ ?_
 clear hK K
 refine aE [3,6,7,8] ?_
 simp only[aD,aB,Nat.reduceEqDiff,if_true,if_false]
 refine bK ?_
 refine bZ (fun i:Nat=>⟨23,[(3,.sl (fS (l.take i)).length (Bs (fS (l.take i))) (.tok 0)),(6,.sl l.length (SS l) p),(7,.val (.int .i64 (l.length:Int))),(8,.val (.int .i64 (i:Int)))],[.tok 1 (fS (l.take i)).length]⟩)
  (fun i=>i≤l.length) (fun i=>l.length - i) 0 (by omega) (.of_keep [3,6,7,8] rfl) ?_
 intro i hi
 refine ky @jM ?_
 refine bJ ?_
 refine fB rfl rfl (fun hq=>?_) (fun hq=>?_)
 ·have hlt:i<l.length:=of_decide_eq_true hq
  apply bC
  simp only[seval,kT]
  refine kp [3,6,7,8] ?_
  have hget:=aNR l i hlt
  have hfl:=aHA l i hlt
  have hle:=aFN l i
  have hle1:=aFN l (i+1)
  have hb8:∀ n,(be8 n 8).length=8:=fun n=>oQ n 8
  have hflen:(fS (l.take (i+1))).length=(fS (l.take i)).length+(8+(l.getD i []).length):=by rw[hfl,List.length_append,List.length_append,hb8]
  have cN:=(aCw (l.getD i []).length (by omega)).g (G:=G0)
  refine bJ ?_
  refine bK ?_
  generalize l.getD i []=b at *
  generalize hF1:fS (l.take (i+1))=F1 at *
  generalize fS (l.take i)=F0 at *
  refine aC fun K hK=>aA [] ?_
  simp only[qq,aF,dN,aB,Nat.reduceEqDiff,Tryz.underlying43,bD,hpl,Nat.mul_one,Nat.reduceLT,Int.toNat_natCast,aY,apart,aO,Tryz.underlying9,aG,aI,List.length_drop,fL,hget]
  (repeat' apply And.intro)<;>try (first|exact True.intro|omega)
  refine hK _ ?_
  clear hK K
  refine aE [3,5,6,7,8] ?_
  simp only[aD,aB,Nat.reduceEqDiff,if_true,if_false]
  have hbl:=hb8 b.length
  generalize be8 b.length 8=n8 at *
  have hw1:IntKind.u64.wrap (b.length:Int)=(b.length:Int):=by rw[tN,Nat.mod_eq_of_lt (by omega)]
  refine aC fun K hK=>aA [] ?_
  simp only[qq,aF,Nat.reduceLT,aB,Nat.reduceEqDiff,bI,bV,eN,Tryz.underlying9,dJ,eL,Tryz.underlying30,eG,bA,bW,Tryz.underlying3,fF,Option.isSome_some,aU,Nat.reduceAdd,bF,aT,List.headD_cons,hw1,aH]
  refine kv (cN) hbl ?_
  refine⟨⟨by omega,by omega⟩,hK _ ?_⟩
  clear hK K
  refine kp [3,5,6,7,8] ?_
  refine ko [] ?_
  refine⟨⟨by rw[List.length_append,aX,aX,hbl],by omega,by omega⟩,?_⟩
  rw[← iD,← iD,List.append_assoc,← hfl,show F0.length+8+b.length=F1.length by omega]
  subst hF1
  simp only[seval,kT,kF]
  refine kp [3,6,7,8] ?_
  have h6:IntKind.i64.wrap ((i+1:Nat):Int)=((i+1:Nat):Int):=fD (by omega)
  refine ku [] (kI @gO h6) ?_
  refine⟨i+1,by omega,by omega,.of_keep [3,6,7,8] rfl⟩
 ·have he:i=l.length:=by have:=of_decide_eq_false hq;omega
  subst he
  apply dR
  simp only[seval,kT,kF]
  refine hK1 _ ?_
  clear hK1 K1
  rw[List.take_length]
  refine lH 3 rfl ?_
  refine kp [3] ?_
  refine ks [2] ?_
  apply aS
  simp only[seval,kT,kF]
def pL (C:List Nat→List UInt8→List Nat) (key use:List UInt8) (parts:List (List UInt8)):List UInt8:=aHE C key (fS [use]++fS parts)
theorem aCa [Gv] {C:List Nat→List UInt8→List Nat} (hC:COk C) (key use:List UInt8) (hk:key.length=32) (parts:List (List UInt8)) (p:Perm) (hu:use.length≤1000) (hl:(fS parts).length≤100000000) (hl2:parts.length≤900000000) :
  ACalls Tryz.prog GP 128 [.agg (Bs key),.val (.string ⟨use.toArray⟩),.sl parts.length (SS parts) p] [] (fun r os=>os=[]∧r=.agg (Bs (pL C key use parts))):=by
 have hfu:(fS [use]).length=8+use.length:=by simp[fS,aBK,oQ]
 have c1:=(aFO [use] .full (by omega) (by simp)).g (G:=GP)
 have c2:=(aFO parts (bW p) hl hl2).g (G:=GP)
 have c3:=aMA hC key .full .full hk [fS [use],fS parts] (by simp;omega) (by simp)
 have hd:pL C key use parts=aHE C key ([fS [use],fS parts]:List (List UInt8)).flatten:=by simp[pL]
 rw[hd]
 have hml:=zS hC key ([fS [use],fS parts]:List (List UInt8)).flatten
 generalize aHE C key ([fS [use],fS parts]:List (List UInt8)).flatten=S at *
 rw[aPD] at c1
 rw[show PS [fS [use],fS parts]=[.sl (fS [use]).length (Bs (fS [use])) .no,.sl (fS parts).length (Bs (fS parts)) .no] from rfl,hk] at c3
 obtain⟨z,hz,hzl⟩:∃ z:List UInt8,(zvs .u8 32).map cav=Bs z∧z.length=32:=⟨List.replicate 32 0,by simp[zvs,Bs,B,cav],by simp⟩
 have zd:z.drop 32=[]:=List.drop_eq_nil_of_le (by omega)
 have hk32:key.take 32=key:=List.take_of_length_le (by omega)
 refine ke Tryz.func128 Tryz.ntmps128 Tryz.results128 #[23] ?_
 refine ky hz ?_
 refine iH 3 0 (Bs key) rfl rfl (by rw[aX];omega) (aJ _) ?_
 refine kp [1,2,3,6] ?_
 refine aC fun K hK=>?_
 have hz1:kZ [Value.string ⟨#[]⟩] 1=[cav (.string ⟨#[]⟩)]:=rfl
 have hz2:kZ [Value.slice none 0 0] 2=[cav (.slice none 0 0),cav (.slice none 0 0)]:=rfl
 refine kde [] (kI hk hz1) ?_
 refine aV trivial c1 (by simp[aH,aJ]) ?_
 simp only[seval,kT]
 refine aV (aJk _) c2 (by simp[aH,aJ]) ?_
 simp only[seval,kT,hz2]
 refine aV (by simp[aM,aH,aJ]) c3 (by simp[aH,aJ]) ?_
 simp only[seval,kT,hml,hzl,zd]
 refine hK _ ?_
 clear hK K
 refine kp [6] ?_
 apply aS
 have hsz:tsz Tryz.prog 23=some 32:=by simp only[bD]
 exact(by
  simp only[V.Fin]
  exact⟨_,_,uE rfl rfl hsz (by rw[Tryz.underlying23];rfl) (by rw[aX,hml]),⟨⟨by rw[aX,hml];omega,by simp[aH,aJ]⟩,trivial⟩,trivial,rfl⟩)
theorem fO [Gv] {C:List Nat→List UInt8→List Nat} (hC:COk C) (key use:List UInt8) (parts:List (List UInt8)):(pL C key use parts).length=32:=zS hC _ _
theorem aOc (l:List UInt8) (p:Perm) (n:Nat) (hn:n<18446744073709551616) (hl:l.length≤70368744177664):ACalls Tryz.prog G0 107 [.sl l.length (Bs l) p,.val (.int .u64 (n:Int))] [] (fun r os=>os=[]∧r=.sl (l++vb n).length (Bs (l++vb n)) .no):=by
 refine ke Tryz.func107 Tryz.ntmps107 Tryz.results107 #[54] ?_
 refine kq ?_
 refine kr [] fun K1 hK1=>?_
 refine aV trivial (aDt l _) (by simp[aH,aJ]) ?_
 simp only[seval,kT]
 refine hK1 _ ?_
 clear hK1 K1
 refine kp [0,1] ?_
 refine aC fun K hK=>?_
 apply bK
 refine oA 1 0 rfl ?_
 refine bZ (fun x:List UInt8×Nat=>⟨22,[(0,.sl x.1.length (Bs x.1) (.tok 0)),(1,.val (.int .u64 (x.2:Int)))],[.tok 1 x.1.length]⟩) (fun x=>x.2<18446744073709551616∧x.1++vb x.2=l++vb n) (fun x=>x.2) (l,n) ⟨hn,rfl⟩ (.of_keep [0,1] (by exact rfl)) ?_
 rintro⟨m,x⟩ ⟨hx,he⟩
 simp only at hx he
 refine bJ (bJ ?_)
 refine ko [] ?_
 and_intros<;>try omega
 refine fB rfl rfl (fun h=>?_) (fun h=>?_)
 ·have hge:128≤x:=by simp at h;omega
  apply bC
  simp only[seval,kT]
  refine kp [0,1] ?_
  apply bJ
  apply bK
  refine ku [] (kI @aJf @aMF) ?_
  have hlen:=congrArg List.length he
  have h10:=jI hn
  simp only[List.length_append] at hlen
  have hpos:=List.length_pos_iff.2 (aBp x)
  refine⟨⟨by omega,by omega⟩,?_⟩
  simp only[seval,kT,kF]
  refine kp [0,1] ?_
  refine aA [] ?_
  simp only[qq,aF,Nat.reduceLT,aB,reduceCtorEq,Nat.reduceEqDiff,cav,aL,aP,bH,Int.reduceLE,Int.reduceToNat,IntKind.bits,Nat.min_def,Nat.reduceLeDiff,rV,aG,aI]
  rw[aNB,aHy]
  refine⟨(m++[UInt8.ofNat (x%256 ||| 128)],x/128),⟨by omega,?_⟩,by omega,?_⟩
  ·rw[← he,List.append_assoc,xY hge]
   congr 1
   have h8:∀ y:Nat,y<256→y ||| 128=y%128+128:=by decide +kernel
   rw[h8 _ (by omega),show x%256%128=x%128 by omega]
   rfl
  ·rw[show m.length+1=(m++[UInt8.ofNat (x%256 ||| 128)]).length by simp]
   exact .of_keep [0,1] rfl
 ·have hlt:x<128:=by have:=of_decide_eq_false h;omega
  apply dR
  simp only[seval,kT,kF]
  refine hK _ ?_
  clear hK K
  refine kp [0,1] ?_
  have hlen:=congrArg List.length he
  have h10:=jI hn
  simp only[List.length_append] at hlen
  have hpos:=List.length_pos_iff.2 (aBp x)
  refine aC fun K hK=>aA [] ?_
  simp only[qq,aF,Nat.reduceLT,aB,reduceCtorEq,Nat.reduceEqDiff,eL,Tryz.underlying5,eG,bA,aH,fF,Tryz.underlying30,Option.isSome_some,aJf,dV,Tryz.underlying54,bD,bS,Nat.mul_one,jJ,List.replicate_succ,List.replicate_zero,dO,eM,spl,bB,eA,List.drop_nil,gV,aX,List.all_cons,dC,Value.oneCell',List.all_nil,Nat.reduceLeDiff,dL,bI,fP,lX,gC,eQ,aG,aI]
  (repeat' apply And.intro)<;>try (first|exact True.intro|omega)
  refine hK _ ?_
  clear hK K
  refine aE [4] ?_
  simp only[aD,aB,Nat.reduceEqDiff,if_true,if_false]
  rw[aNB,aHy]
  apply aS
  simp only[seval,kT,kF]
  rw[← he,rD hlt]
  simp
def aOZ (x:Nat×Nat):AV:=.tup [.val (.int .u64 (x.1:Int)),.val (.int .i64 (x.2:Int))]
theorem aIg (b:List UInt8) (p:Perm) (hb:b.length≤70368744177664):ACalls Tryz.prog G0 216 [.sl b.length (Bs b) p] [] (fun r os=>os=[]∧r=aOZ (G b)):=by
 refine ke Tryz.func216 Tryz.ntmps216 Tryz.results216 #[30,3] ?_
 refine ks [0,2,3] ?_
 refine aC fun K1 hK1=>?_
 refine aC fun K hK=>aA [] ?_
 simp only[qq,aF,Nat.reduceLT,aB,reduceCtorEq,bI,Nat.reduceEqDiff,bV,eN,Tryz.underlying54,cav,wP,eY,iR,Option.map_none,Option.map_some,bD,aX,Nat.mul_one,eJ,dH,ne_eq,eA,eS,iC,aG,aI,Int.le_refl,true_or,Int.sub_zero,Int.toNat_zero]
 (repeat' apply And.intro)<;>try (first|exact True.intro|omega)
 refine hK _ ?_
 clear hK K
 rw[show (if (10:Int) < ↑b.length then (10:Int) else ↑b.length)=((min b.length 10:Nat):Int) by split<;>omega]
 simp only[Int.toNat_natCast]
 obtain⟨m,hm⟩:∃ m,m=min b.length 10:=⟨_,rfl⟩
 obtain⟨c,hc⟩:∃ c,c=b.take m:=⟨_,rfl⟩
 have hcl:c.length=m:=by rw[hc,List.length_take];omega
 have hcg:∀ k,k<m→c.getD k 0=b.getD k 0:=fun k hk=>by
  rw[hc]
  simp[List.getD_eq_getElem?_getD,List.getElem?_take,hk]
 rw[← hm,← hc]
 refine kp [2,3,10,11,12] ?_
 refine bK ?_
 refine bZ (fun i:Nat=>⟨43,[(2,.val (.int .u64 (val (b.take i):Int))),(3,.val (.int .i64 0)),(10,.sl m (Bs c) .no),(11,.val (.int .i64 (m:Int))),(12,.val (.int .i64 (i:Int)))],[]⟩)
  (fun i=>i≤m∧∀ k,k<i→128≤(b.getD k 0).toNat) (fun i=>10 - i) 0 ⟨by omega,fun k h=>by omega⟩ (.of_keep [2,3,10,11,12] (by exact rfl)) ?_
 rintro i ⟨hi,hall⟩
 have done:∀ s:St,G b=(0,0)→gE G0 s ⟨43,[],[]⟩→K1 s:=by
  intro s he hw
  refine hK1 s (eX hw ?_)
  refine kq ?_
  apply aS
  simp only[seval,kT,kF]
  rw[he]
  rfl
 refine ky @jM ?_
 refine bJ ?_
 refine fB rfl rfl (fun h=>?_) (fun h=>?_)
 ·have hlt:i<m:=of_decide_eq_true h
  have hg:=hcg i hlt
  refine bC ?_
  simp only[aI]
  refine kp [2,3,10,11,12] ?_
  refine bJ ?_
  refine bK ?_
  have hpos:0<m - i:=by omega
  refine aC fun K hK=>aA [] ?_
  simp only[qq,aF,Nat.reduceLT,aB,Nat.reduceEqDiff,dN,Tryz.underlying54,bD,aX,hcl,Nat.mul_one,Int.toNat_natCast,eA,aY,apart,aO,Tryz.underlying5,aG,aI,List.length_drop,hpos,kP,B,fL,hg]
  (repeat' apply And.intro)<;>try (first|exact True.intro|omega)
  refine hK _ ?_
  clear hK K
  refine aE [2,3,4,5,10,11,12] ?_
  simp only[aD,aB,Nat.reduceEqDiff,if_true,if_false]
  have hat:=aQn b i hall (by omega) (by omega)
  have hor:=aPo b i (by omega) (by omega)
  generalize hx:b.getD i 0=x at hat hor
  refine bJ ?_
  refine aC fun K hK=>?_
  have next:∀ (t:Bool) (s:St),t=decide (i=9∧1<x.toNat)→gE G0 s ⟨43,[(22,.val (.bool t)),(2,.val (.int .u64 (val (b.take i):Int))),(3,.val (.int .i64 0)),(4,.val (.int .i64 (i:Int))),(5,.val (.int .u8 (x.toNat:Int))),(10,.sl m (Bs c) .no),(11,.val (.int .i64 (m:Int))),(12,.val (.int .i64 (i:Int)))],[]⟩→K s:=by
   intro t s ht hw
   refine hK s (eX hw ?_)
   clear hw hK K
   refine fB rfl rfl (fun h=>?_) (fun h=>?_)
   ·have h91:i=9∧1<x.toNat:=of_decide_eq_true (ht.symm.trans h)
    rw[if_pos h91] at hat
    apply dR
    simp only[seval,kT,kF]
    exact done _ hat (.of_keep [] (by exact rfl))
   ·have h91:¬ (i=9∧1<x.toNat):=of_decide_eq_false (ht.symm.trans h)
    rw[if_neg h91] at hat
    refine bC ?_
    simp only[aI]
    refine aE [2,3,4,5,10,11,12] ?_
    simp only[aD,aB,Nat.reduceEqDiff,if_true,if_false]
    have hor:=hor (by omega)
    have h7:IntKind.i64.wrap ((7*i:Nat):Int)=((7*i:Nat):Int):=fD (by omega)
    have h64:(if 7*i≤64 then 7*i else 64)=7*i:=if_pos (by omega)
    have h8:x.toNat%128%18446744073709551616=x.toNat%128:=by omega
    refine aC fun K hK=>aA [] ?_
    simp only[qq,aF,Nat.reduceLT,aB,Nat.reduceEqDiff,cav,aL,aP,bH,ne_eq,Int.reduceEq,aHJ,eL,Tryz.underlying30,eG,bA,aH,fF,Tryz.underlying5,Option.isSome_some,tN,h8,aPe,h7,Int.toNat_natCast,IntKind.bits,Nat.min_def,h64,aCq,aPd,hor,aG,aI]
    (repeat' apply And.intro)<;>try (first|exact True.intro|omega)
    refine hK _ ?_
    clear hK K
    refine aE [2,3,4,5,10,11,12] ?_
    simp only[aD,aB,Nat.reduceEqDiff,if_true,if_false]
    refine aC fun K hK=>aA [] ?_
    simp only[qq,aF,Nat.reduceLT,aB,Nat.reduceEqDiff,cav,aL,aP,bH,aCB,aG,aI]
    (repeat' apply And.intro)<;>try (first|exact True.intro|omega)
    refine hK _ ?_
    clear hK K
    refine fB rfl rfl (fun h=>?_) (fun h=>?_)
    ·have hx8:x.toNat<128:=of_decide_eq_true h
     rw[if_pos hx8] at hat
     refine aE [2,3,4,5,10,11,12] ?_
     simp only[aD,aB,Nat.reduceEqDiff,if_true,if_false]
     refine bJ ?_
     refine aC fun K hK=>?_
     have next:∀ (t:Bool) (s:St),t=decide (0<i∧x.toNat=0)→gE G0 s ⟨43,[(38,.val (.bool t)),(2,.val (.int .u64 (val (b.take (i+1)):Int))),(4,.val (.int .i64 (i:Int)))],[]⟩→K s:=by
      intro t s ht hw
      refine hK s (eX hw ?_)
      clear hw hK K
      refine fB rfl rfl (fun h=>?_) (fun h=>?_)
      ·have h91:0<i∧x.toNat=0:=of_decide_eq_true (ht.symm.trans h)
       rw[if_pos h91] at hat
       apply dR
       simp only[seval,kT,kF]
       exact done _ hat (.of_keep [] (by exact rfl))
      ·have h91:¬ (0<i∧x.toNat=0):=of_decide_eq_false (ht.symm.trans h)
       rw[if_neg h91] at hat
       refine bC ?_
       simp only[aI]
       have h6:IntKind.i64.wrap ((i+1:Nat):Int)=((i+1:Nat):Int):=fD (by omega)
       refine kx [2,3] (kI @gO h6) ?_
       apply aS
       simp only[seval,kT,kF]
       rw[hat]
       rfl
     by_cases h0:0<i
     ·have h0':decide (0<i)=true:=by simpa using h0
      refine ku [] (kI @yM (kI h0' @wY)) ?_
      and_intros<;>try omega
      refine next _ _ ?_ (.of_keep [38,2,4] (by exact rfl))
      rw[Bool.eq_iff_iff]
      simp[h0]
     ·have h0':decide (0<i)=false:=by simpa using h0
      refine ku [] (kI @yM h0') ?_
      and_intros<;>try omega
      refine next _ _ ?_ (.of_keep [38,2,4] (by exact rfl))
      simp[h0]
    ·have hx8:128≤x.toNat:=by have:=of_decide_eq_false h;omega
     refine bC ?_
     simp only[seval,kT,kF]
     refine kp [2,3,10,11,12] ?_
     have h6:IntKind.i64.wrap ((i+1:Nat):Int)=((i+1:Nat):Int):=fD (by omega)
     refine ku [] (kI @gO h6) ?_
     and_intros<;>try omega
     refine⟨i+1,⟨by omega,fun k hk=>?_⟩,by omega,.of_keep [2,3,10,11,12] rfl⟩
     by_cases e:k=i
     ·subst e;rw[hx];exact hx8
     ·exact hall k (by omega)
  by_cases h9:i=9
  ·apply aA []
   have h9':(i == 9)=true:=by simpa using h9
   simp only[seval,kT,wY,h9',yM]
   and_intros<;>try omega
   refine next _ _ ?_ (.of_keep [22,2,3,4,5,10,11,12] (by exact rfl))
   simp[h9]
  ·have h9':(i == 9)=false:=by simpa using h9
   refine ku [] (kI @wY h9') ?_
   and_intros<;>try omega
   refine next _ _ ?_ (.of_keep [22,2,3,4,5,10,11,12] (by exact rfl))
   simp[h9]
 ·have hge:i=m:=by have:=of_decide_eq_false h;omega
  apply dR
  simp only[seval,kT,kF]
  exact done _ (aQI b i hall (by omega)) (.of_keep [] rfl)
end Go.Proofs.YtefdnmeopbkflaaGreatDoor
namespace Go.Proofs.YtefdnmeopbkflaaGreatDoor
open Go Go.V
set_option linter.unusedSimpArgs false
set_option linter.unusedVariables false
set_option maxRecDepth 20000
@[simp] theorem aPi (x:Nat×Nat):aH (aOZ x)=true:=rfl
@[simp] theorem aQF (x:Nat×Nat):flat (aOZ x)=true:=rfl
theorem aId (x:Nat×Nat):aOZ x=.tup [.val (.int .u64 (x.1:Int)),.val (.int .i64 (x.2:Int))]:=rfl
end Go.Proofs.YtefdnmeopbkflaaGreatDoor
namespace Go.Proofs.YtefdnmeopbkflaaGreatDoor
open Go Go.V
set_option linter.unusedSimpArgs false
set_option linter.unusedVariables false
set_option maxRecDepth 100000
theorem aGK (l:List UInt8) (p:Perm) (n:Nat) (hn:n<18446744073709551616) (hl:l.length≤70368744177664):ACalls Tryz.prog G0 107 [.sl l.length (Bs l) p,.val (.int .u64 (n:Int))] [] (fun r os=>os=[.tok 1 (l++vb n).length]∧r=.sl (l++vb n).length (Bs (l++vb n)) (.tok 0)):=by
 refine gQ Tryz.func107 rfl rfl Tryz.ntmps107 (rts:=#[54]) rfl Tryz.results107 (by simp) ?_
 simp only[seval,aZ]
 refine kq ?_
 refine kr [] fun K1 hK1=>?_
 refine aV trivial (aDt l _) (by simp[aH,aJ]) ?_
 simp only[seval,kT]
 refine hK1 _ ?_
 clear hK1 K1
 refine kp [0,1] ?_
 refine aC fun K hK=>?_
 apply bK
 refine oA 1 0 rfl ?_
 refine bZ (fun x:List UInt8×Nat=>⟨22,[(0,.sl x.1.length (Bs x.1) (.tok 0)),(1,.val (.int .u64 (x.2:Int)))],[.tok 1 x.1.length]⟩) (fun x=>x.2<18446744073709551616∧x.1++vb x.2=l++vb n) (fun x=>x.2) (l,n) ⟨hn,rfl⟩ (.of_keep [0,1] (by exact rfl)) ?_
 rintro⟨m,x⟩ ⟨hx,he⟩
 simp only at hx he
 refine bJ (bJ ?_)
 refine ko [] ?_
 and_intros<;>try omega
 refine fB rfl rfl (fun h=>?_) (fun h=>?_)
 ·have hge:128≤x:=by simp at h;omega
  apply bC
  simp only[seval,kT]
  refine kp [0,1] ?_
  apply bJ
  apply bK
  refine ku [] (kI @aJf @aMF) ?_
  have hlen:=congrArg List.length he
  have h10:=jI hn
  simp only[List.length_append] at hlen
  have hpos:=List.length_pos_iff.2 (aBp x)
  refine⟨⟨by omega,by omega⟩,?_⟩
  simp only[seval,kT,kF]
  refine kp [0,1] ?_
  refine aA [] ?_
  simp only[qq,aF,Nat.reduceLT,aB,reduceCtorEq,Nat.reduceEqDiff,cav,aL,aP,bH,Int.reduceLE,Int.reduceToNat,IntKind.bits,Nat.min_def,Nat.reduceLeDiff,rV,aG,aI]
  rw[aNB,aHy]
  refine⟨(m++[UInt8.ofNat (x%256 ||| 128)],x/128),⟨by omega,?_⟩,by omega,?_⟩
  ·rw[← he,List.append_assoc,xY hge]
   congr 1
   have h8:∀ y:Nat,y<256→y ||| 128=y%128+128:=by decide +kernel
   rw[h8 _ (by omega),show x%256%128=x%128 by omega]
   rfl
  ·rw[show m.length+1=(m++[UInt8.ofNat (x%256 ||| 128)]).length by simp]
   exact .of_keep [0,1] rfl
 ·have hlt:x<128:=by have:=of_decide_eq_false h;omega
  apply dR
  simp only[seval,kT,kF]
  refine hK _ ?_
  clear hK K
  refine kp [0,1] ?_
  have hlen:=congrArg List.length he
  have h10:=jI hn
  simp only[List.length_append] at hlen
  have hpos:=List.length_pos_iff.2 (aBp x)
  refine aC fun K hK=>aA [] ?_
  simp only[qq,aF,Nat.reduceLT,aB,reduceCtorEq,Nat.reduceEqDiff,eL,Tryz.underlying5,eG,bA,aH,fF,Tryz.underlying30,Option.isSome_some,aJf,dV,Tryz.underlying54,bD,bS,Nat.mul_one,jJ,List.replicate_succ,List.replicate_zero,dO,eM,spl,bB,eA,List.drop_nil,gV,aX,List.all_cons,dC,Value.oneCell',List.all_nil,Nat.reduceLeDiff,dL,bI,fP,lX,gC,eQ,aG,aI]
  (repeat' apply And.intro)<;>try (first|exact True.intro|omega)
  refine hK _ ?_
  clear hK K
  refine aE [4] ?_
  simp only[aD,aB,Nat.reduceEqDiff,if_true,if_false]
  rw[aNB,aHy]
  have e1:m++[UInt8.ofNat x]=l++vb n:=by rw[← he,rD hlt]
  have e2:m.length+1=(l++vb n).length:=by rw[← e1];simp
  rw[e1,e2]
  apply aS
  exact oM 4 0 1 rfl rfl (aJ _) ⟨rfl,rfl⟩
theorem aNm (l:List UInt8) (p:Perm) (f:eK) (hl:l.length≤35184372088832) (hf:f.2.length≤35184372088832):ACalls Tryz.prog G0 51 [.sl l.length (Bs l) p,.agg (FA f)] [] (fun r os=>os=[]∧r=.sl (l++fby f).length (Bs (l++fby f)) .no):=by
 obtain⟨k,v⟩:=f
 simp only at hf
 have hv10:=jI (n:=v.length) (by omega)
 have lt:l.take l.length=l:=List.take_of_length_le (Nat.le_refl _)
 refine ke Tryz.func51 Tryz.ntmps51 Tryz.results51 #[54] ?_
 refine ky @FA.eq_1 ?_
 refine iH 3 0 [AV.val (Value.int IntKind.u8 (k.toNat:Int)),AV.val (Value.string { data:=v.toArray })] rfl rfl (by simp) rfl ?_
 refine kp [0,3] ?_
 refine aC fun K hK=>?_
 refine dW [12] (by kernel_rfl) (by kernel_rfl) ?_
 simp only[qq,aF,Nat.reduceLT,aB,reduceCtorEq,bI,Nat.reduceEqDiff,List.contains_cons,Nat.reduceBEq,bV,eN,Tryz.underlying54,eY,iR,Option.map_none,Option.map_some,bD,aX,Nat.mul_one,eJ,dH,ne_eq,eA,eS,iC,aN,Tryz.underlying124,Nat.reduceAdd,Nat.reduceLeDiff,aY,beq_self_eq_true,apart,aO,Tryz.underlying5,dV,bS,jJ,List.replicate_succ,List.replicate_zero,dO,eM,spl,bB,dL,fP,lX,gC,eQ,aG,aI,List.all_cons,dC,Value.oneCell',List.all_nil,List.drop_nil,gV,Int.le_refl,or_true,Int.sub_zero,Int.toNat_natCast,Int.toNat_zero,lt]
 refine⟨by omega,⟨by omega,by omega⟩,hK _ ?_⟩
 clear hK K
 refine kp [0,3] ?_
 obtain⟨L,hL⟩:∃ L,L=l++[k]:=⟨_,rfl⟩
 have hLl:l.length+1=L.length:=by rw[hL,List.length_append];rfl
 have hLb:Bs l++[AV.val (Value.int IntKind.u8 (k.toNat:Int))]=Bs L:=by rw[hL,iD];rfl
 rw[hLl,hLb]
 have hvn:v.length%18446744073709551616=v.length:=Nat.mod_eq_of_lt (by omega)
 have cP:=fun q=>aGK L q v.length (by omega) (by omega)
 have iL:l++fby (k,v)=(L++vb v.length)++v:=by rw[hL];simp[fby]
 rw[iL]
 generalize hQ:L++vb v.length=Q at cP ⊢
 have hQl:Q.length≤35184372088832+11:=by rw[← hQ,List.length_append];omega
 refine aC fun K hK=>?_
 refine kde [1000020,17,22] (kI @tN hvn) ?_
 refine oO (by simp[fH,iV,aH,aM,aJ,bW]) (cP .no) (by simp[aJ]) ?_
 simp only[seval,kT,← iD]
 refine⟨⟨by omega,by omega⟩,hK _ ?_⟩
 clear hK K
 refine kp [4] ?_
 rw[show Q.length+v.length=(Q++v).length by simp]
 apply aS
 simp only[seval,kT,kF]
theorem aBk (l:List eK) (i:Nat) (h:i<l.length):l.take (i+1)=l.take i++[l.getD i (0,[])]:=by
 rw[List.take_add_one,List.getD_eq_getElem?_getD,List.getElem?_eq_getElem h]
 rfl
def aNq:Option (eK×Nat)→AV
 | none=>.tup [.agg (FA (0,[])),.val (.int .i64 0),.val (.bool false)]
 | some (f,k)=>.tup [.agg (FA f),.val (.int .i64 (k:Int)),.val (.bool true)]
theorem aNj (b:List UInt8) (hb:b.length≤70368744177664):ACalls Tryz.prog G0 166 [.sl b.length (Bs b) .no] [] (fun r os=>os=[]∧r=aNq (yQ b)):=by
 obtain⟨fs,hu,hs⟩:∃ fs,Tryz.prog.underlying 124=some (.struct fs)∧uO Tryz.prog fs=some [(0,1),(1,1)]:=⟨_,Tryz.underlying124,by kernel_rfl⟩
 have cG:=aIg (b.drop 1) .no (by rw[List.length_drop];omega)
 have hgle:=aQJ (b.drop 1)
 have hget:yQ b=if b.length=0∨(G (b.drop 1)).2=0∨b.length - 1 - (G (b.drop 1)).2<(G (b.drop 1)).1 then none
   else some ((b.getD 0 0,(b.drop (1+(G (b.drop 1)).2)).take (G (b.drop 1)).1),1+(G (b.drop 1)).2+(G (b.drop 1)).1):=rfl
 rw[List.length_drop] at cG hgle
 rw[aId] at cG
 obtain⟨n,hn⟩:∃ n,n=(G (b.drop 1)).1:=⟨_,rfl⟩
 obtain⟨k,hk⟩:∃ k,k=(G (b.drop 1)).2:=⟨_,rfl⟩
 rw[← hn,← hk] at cG hgle hget
 clear hn hk
 refine ke Tryz.func166 Tryz.ntmps166 Tryz.results166 #[124,3,4] ?_
 refine kq ?_
 refine aC fun K1 hK1=>?_
 refine aC fun K hK=>aA [] ?_
 simp only[qq,aF,Nat.reduceLT,aB,reduceCtorEq,bI,Nat.reduceEqDiff,bV,eN,Tryz.underlying54,cav,aL,aG,aI,aP,bH,wY]
 refine hK _ ?_
 clear hK K
 refine fB rfl rfl (fun h=>?_) (fun h=>?_)
 ·have h0:b.length=0:=by simpa using h
  rw[if_pos (.inl h0)] at hget
  rw[hget]
  refine kp [2] ?_
  refine ky hu ?_
  apply aS
  simp only[seval,kT,kF,hu]
  rfl
 have h0:b.length≠0:=by simpa using h
 refine bC (hK1 _ ?_)
 clear hK1 K1 h
 refine kp [0,2] ?_
 have e1:((b.length:Int) - 1).toNat=b.length - 1:=by omega
 have e2:(b.drop 1).take (b.length - 1)=b.drop 1:=List.take_of_length_le (by rw[List.length_drop];exact Nat.le_refl _)
 refine kw [] (kI e1 e2) fun K hK=>?_
 refine⟨by omega,?_⟩
 refine kc (cG) (hK _ ?_)
 clear hK K
 refine kp [0,2,5,6] ?_
 have e3:IntKind.i64.wrap ((1+k:Nat):Int)=((1+k:Nat):Int):=fD (by omega)
 have e4:((b.length:Int) - ((1+k:Nat):Int)).toNat=b.length - (1+k):=by omega
 have e5:(b.drop (1+k)).take (b.length - (1+k))=b.drop (1+k):=List.take_of_length_le (by rw[List.length_drop];exact Nat.le_refl _)
 refine kw [] (kI (kI @aMG e3) (kI e4 e5)) fun K hK=>?_
 refine⟨by omega,hK _ ?_⟩
 clear hK K
 refine aE [0,2,5,6,7] ?_
 simp only[aD,aB,Nat.reduceEqDiff,if_true,if_false]
 refine aC fun K1 hK1=>?_
 refine aC fun K hK=>?_
 have next:∀ (t:Bool) (s:St),t=decide (k=0∨b.length - 1 - k<n)→gE G0 s ⟨45,[(30,.val (.bool t)),(0,.sl b.length (Bs b) .no),(2,.ptr 0 0),(5,.val (.int .u64 (n:Int))),(6,.val (.int .i64 (k:Int))),(7,.sl (b.length - (1+k)) (Bs (b.drop (1+k))) .no)],[.cells [.val (.int .u8 0),.val (.string ⟨#[]⟩)]]⟩→K s:=by
  intro t s ht hw
  refine hK s (eX hw ?_)
  clear hw hK K
  refine fB rfl rfl (fun h=>?_) (fun h=>?_)
  ·have hbad:k=0∨b.length - 1 - k<n:=of_decide_eq_true (ht.symm.trans h)
   rw[if_pos (.inr hbad)] at hget
   rw[hget]
   refine kp [2] ?_
   refine ky hu ?_
   apply aS
   simp only[seval,kT,kF,hu]
   rfl
  ·have hok:¬ (k=0∨b.length - 1 - k<n):=of_decide_eq_false (ht.symm.trans h)
   rw[if_neg (by rintro(e|e);exact h0 e;exact hok e)] at hget
   refine bC (hK1 _ ?_)
   clear hK1 K1
   refine aE [0,2,5,6,7] ?_
   simp only[aD,aB,Nat.reduceEqDiff,if_true,if_false]
   have e6:0<b.length:=by omega
   have e7:(n:Int).toNat=n:=Int.toNat_natCast n
   have e8:IntKind.i64.wrap (n:Int)=(n:Int):=fD (by omega)
   have e9:IntKind.i64.wrap ((1+k+n:Nat):Int)=((1+k+n:Nat):Int):=fD (by omega)
   have e10:((b.drop (1+k)).take n).length=n:=by rw[List.length_take,List.length_drop];omega
   refine aC fun K hK=>?_
   refine dW [] (by kernel_rfl) (by kernel_rfl) ?_
   simp only[qq,aF,Nat.reduceLT,aB,reduceCtorEq,dN,cav,Tryz.underlying54,Nat.reduceEqDiff,bD,aX,Nat.mul_one,Int.le_refl,Int.toNat_zero,aY,apart,aO,Tryz.underlying5,eY,iR,Option.map_none,Option.map_some,List.length_drop,eJ,dH,ne_eq,true_or,Int.sub_zero,Int.toNat_natCast,eS,iC,eL,Tryz.underlying9,eG,bA,bW,fF,fA,bS,hu,kO,dO,eM,spl,bB,Nat.reduceAdd,Nat.reduceLeDiff,aL,aP,bH,aMG,e3,Tryz.underlying3,aH,Tryz.underlying30,Option.isSome_some,e8,oW,e9,bQ,bX,aG,aI,e10,jG,kJ,List.all_cons,dC,Value.oneCell',List.all_nil,e6,kP,B,List.drop_nil]
   refine⟨by omega,by omega,hK _ ?_⟩
   clear hK K
   refine kp [2,3,4] ?_
   apply aS
   simp only[seval,kT,kF,hu]
   rw[hget]
   rfl
 by_cases hk0:k=0
 ·have hd:((k:Int) == 0)=true:=by simp[hk0]
  refine aA [] ?_
  simp only[qq,aF,Nat.reduceLT,aB,reduceCtorEq,Nat.reduceEqDiff,cav,aL,aP,bH,hd,dD,bT,Option.bind_some,aW,eW,gok,bU,aG,aI]
  refine next _ _ ?_ (.of_keep [30,0,2,5,6,7] (by exact rfl))
  simp[hk0]
 ·have hd:((k:Int) == 0)=false:=by simp[hk0]
  have m1:(b.length - (1+k))%18446744073709551616=b.length - (1+k):=Nat.mod_eq_of_lt (by omega)
  refine aA [] ?_
  simp only[qq,aF,Nat.reduceLT,aB,reduceCtorEq,Nat.reduceEqDiff,cav,aL,aP,bH,hd,dD,bT,Option.bind_some,aW,Bool.not_false,dQ,gok,bI,bV,eN,Tryz.underlying54,eL,Tryz.underlying30,eG,bA,bW,Tryz.underlying3,fF,Option.isSome_some,bU,aG,aI,tN,m1,jM]
  refine next _ _ ?_ (.of_keep [30,0,2,5,6,7] (by exact rfl))
  rw[Bool.eq_iff_iff]
  simp
  omega
theorem aNi (f:eK) (h:f.2.length≤35184372088832):(fby f).length≤f.2.length+11:=by
 have hv:=jI (n:=f.2.length) (by omega)
 simp only[fby,List.length_cons,List.length_append]
 omega
theorem oV:∀ l:List eK,kK l≤35184372088832→(V.join l).length≤11*kK l
 | [],_=>by simp[V.join]
 | f::l,h=>by
  rw[qO] at h ⊢
  have h1:=aNi f (by omega)
  have h2:=oV l (by omega)
  rw[join_cons,List.length_append]
  omega
theorem aDQ (f:eK):(FA f).take 2=FA f:=rfl
theorem xC (l:List eK) (p:Perm) (hb:kK l≤1048576):ACalls Tryz.prog G0 50 [.sl l.length (Fs l) p] [] (fun r os=>os=[]∧r=.sl (V.join l).length (Bs (V.join l)) .no):=by
 have hlb:=tM l
 refine ke Tryz.func50 Tryz.ntmps50 Tryz.results50 #[54] ?_
 refine kq ?_
 refine kq ?_
 refine lH 3 rfl ?_
 refine kp [0,3] ?_
 refine aC fun K1 hK1=>?_
 refine aC fun K hK=>aA [] ?_
 simp only[qq,aF,Nat.reduceLT,aB,reduceCtorEq,bI,Nat.reduceEqDiff,bV,eN,Tryz.underlying186,cav,aG,aI]
 (repeat' apply And.intro)<;>try (first|exact True.intro|omega)
 refine hK _ ?_
 clear hK K
 refine aE [3,6,7,8] ?_
 simp only[aD,aB,Nat.reduceEqDiff,if_true,if_false]
 refine bK ?_
 refine bZ (fun i:Nat=>⟨17,[(3,.sl (V.join (l.take i)).length (Bs (V.join (l.take i))) .no),(6,.sl l.length (Fs l) p),(7,.val (.int .i64 (l.length:Int))),(8,.val (.int .i64 (i:Int)))],dd i⟩)
  (fun i=>i≤l.length) (fun i=>l.length - i) 0 (by omega) (.of_keep [3,6,7,8] rfl) ?_
 intro i hi
 refine ky @jM ?_
 refine bJ ?_
 refine fB rfl rfl (fun h=>?_) (fun h=>?_)
 ·have hlt:i<l.length:=of_decide_eq_true h
  apply bC
  simp only[seval,kT]
  refine kp [3,6,7,8] ?_
  refine bJ ?_
  refine bK ?_
  have hg:=aKa hlt (0,[])
  have hj1:V.join (l.take (i+1))=V.join (l.take i)++fby (l.getD i (0,[])):=by
   rw[aBk l i hlt,nF,join_cons,join_nil,List.append_nil]
  have hjl:=oV (l.take i) (by have:=oC l i;omega)
  have hbt:=oC l i
  have hmem:(l.getD i (0,[])).2.length+1≤kK l:=aFD (by rw[List.getD_eq_getElem?_getD,List.getElem?_eq_getElem hlt];exact List.getElem_mem hlt)
  generalize hf:l.getD i (0,[])=f at hg hj1 hmem
  have cP:=aNm (V.join (l.take i)) .no f (by omega) (by omega)
  have hfl:(Fs l).length=l.length*2:=qE l
  refine aC fun K hK=>aA [] ?_
  simp only[qq,aF,dN,aB,Nat.reduceEqDiff,Tryz.underlying186,bD,hfl,Nat.reduceLT,Int.toNat_natCast,aY,apart,aO,Tryz.underlying124,dF,bS,iS,cav,bQ,bX,bB,spl,aG,aI,oR,Nat.reduceAdd,lU,List.length_drop,hg,wH,lM,List.drop_nil]
  refine⟨by omega,by omega,hK _ ?_⟩
  clear hK K
  refine kp [3,5,6,7,8] ?_
  refine ku [] (kI (kI @oR @lM) (kI @aDQ @yU)) ?_
  refine aV (by simp[aJ]) cP (by simp[aH,aJ]) ?_
  simp only[seval,kT]
  simp only[seval,kT,kF]
  refine lT i ?_
  rw[lU,rN,← hj1]
  refine kp [3,6,7,8] ?_
  have h6:IntKind.i64.wrap ((i+1:Nat):Int)=((i+1:Nat):Int):=fD (by omega)
  refine ku [] (kI @gO h6) ?_
  exact⟨i+1,by omega,by omega,.of_keep [3,6,7,8] rfl⟩
 ·have he:i=l.length:=by have:=of_decide_eq_false h;omega
  subst he
  apply dR
  simp only[seval,kT,kF]
  refine hK1 _ ?_
  clear hK1 K1
  rw[List.take_length]
  refine kp [3] ?_
  refine kq ?_
  apply aS
  simp only[seval,kT,kF]
structure CavV where
 third:Bool
 text:List UInt8
 party:Nat
 id:List UInt8
 vault:List UInt8
 deriving DecidableEq
structure TokV where
 key:Nat
 id:List UInt8
 cavs:List CavV
 bound:Bool
 tag:List UInt8
 deriving DecidableEq
def str (s:List UInt8):AV:=.val (.string ⟨s.toArray⟩)
def CA (c:CavV):List AV:=[.val (.bool c.third),str c.text,.val (.int .u64 (c.party:Int)),str c.id,str c.vault]
def CS (l:List CavV):List AV:=l.flatMap CA
theorem mD [Gv] (l:List CavV):(CS l).length=l.length*5:=by
 induction l with
 | nil=>rfl
 | cons c l ih=>rw[show CS (c::l)=CA c++CS l from rfl,List.length_append,ih];simp[CA];omega
theorem mL [Gv] (c:CavV):aM (CA c)=true:=rfl
theorem gZ [Gv] (l:List CavV):aM (CS l)=true:=by
 induction l with
 | nil=>rfl
 | cons c l ih=>rw[show CS (c::l)=CA c++CS l from rfl,dK,ih,mL];rfl
theorem aDO [Gv] {l:List CavV} {i:Nat} (h:i<l.length) (d:CavV):((CS l).drop (i*5)).take 5=CA (l.getD i d):=by
 induction l generalizing i with
 | nil=>simp at h
 | cons c l ih=>
  rw[show CS (c::l)=CA c++CS l from rfl]
  cases i with
  | zero=>rfl
  | succ i=>
   rw[show (i+1)*5=(CA c).length+i*5 by simp[CA];omega,← List.drop_drop,List.drop_left]
   simpa using ih (by simpa using h)
theorem uA [Gv] (c:CavV):(CA c).all dC=true:=rfl
def aGr (c:CavV):Bool:=if c.third then c.text == []&&decide (c.id.length≤1024)&&decide (c.vault.length≤1024) else decide (c.text.length≤512)&&(c.party == 0&&c.id == []&&c.vault == [])
def okT (t:TokV):Bool:=decide (t.id.length≤1024)&&decide (t.cavs.length≤64)&&t.cavs.all aGr
def TA (t:TokV) (p:Perm):List AV:=[.val (.int .u64 (t.key:Int)),str t.id,.sl t.cavs.length (CS t.cavs) p,.val (.bool t.bound)]++Bs t.tag
theorem aPM [Gv] (c:CavV) (hi:c.id.length≤9223372036854775807) (hv:c.vault.length≤9223372036854775807) (ht:c.text.length≤9223372036854775807):ACalls Tryz.prog G0 132 [.agg (CA c)] [] (fun r os=>os=[]∧r=.val (.bool (aGr c))):=by
 obtain⟨third,text,party,id,vault⟩:=c
 simp only[CA,aGr,str] at *
 refine ke Tryz.func132 Tryz.ntmps132 Tryz.results132 #[4] ?_
 refine ks [1] ?_
 refine aC fun K1 hK1=>?_
 refine kq ?_
 cases third with
 | true=>
  apply bG rfl
  refine kp [1] ?_
  refine aC fun K hK=>aA [] ?_
  have fin:∀ b:Bool,b=(text == []&&decide (id.length≤1024)&&decide (vault.length≤1024))→∀ s,awp Tryz.prog G0 .ret ⟨31,(2,.val (.bool b))::s,[.cells [.val (.bool true),.val (.string ⟨text.toArray⟩),.val (.int .u64 (party:Int)),.val (.string ⟨id.toArray⟩),.val (.string ⟨vault.toArray⟩)]]⟩ (aI K1 (V.Fin Tryz.prog [4] [ResultVar.tmp 2] fun r os=>os=[]∧r=.val (.bool (text == []&&decide (id.length≤1024)&&decide (vault.length≤1024))))):=by
   intro b hb s
   subst hb
   apply aS
   exact⟨_,_,rfl,⟨rfl,trivial⟩,rfl,rfl⟩
  cases h1:(text == []) with
  | false=>
   simp only[seval,kT,h1]
   exact hK _ (fin false (by simp[h1]) _)
  | true=>
   cases h2:decide (id.length≤1024) with
   | false=>
    simp only[seval,kT,h1,aLQ,h2]
    exact hK _ (fin false (by simp[h1,h2]) _)
   | true=>
    simp only[seval,kT,h1,aLQ,h2]
    exact hK _ (fin (decide (vault.length≤1024)) (by simp[h1,h2]) _)
 | false=>
  refine aR rfl (bC (hK1 _ ?_))
  clear hK1 K1
  refine kp [1] ?_
  refine aC fun K hK=>aA [] ?_
  have fin:∀ b:Bool,b=(decide (text.length≤512)&&(party == 0&&id == []&&vault == []))→∀ s,awp Tryz.prog G0 .ret ⟨31,(2,.val (.bool b))::s,[.cells [.val (.bool false),.val (.string ⟨text.toArray⟩),.val (.int .u64 (party:Int)),.val (.string ⟨id.toArray⟩),.val (.string ⟨vault.toArray⟩)]]⟩ (V.Fin Tryz.prog [4] [ResultVar.tmp 2] fun r os=>os=[]∧r=.val (.bool (decide (text.length≤512)&&(party == 0&&id == []&&vault == [])))):=by
   intro b hb s
   subst hb
   apply aS
   simp only[seval,kT,kF]
  cases h1:decide (text.length≤512) with
  | false=>
   simp only[seval,kT,aLQ,h1]
   exact hK _ (fin false (by simp[h1]) _)
  | true=>
   simp only[qq,Bool.true_and,aF,aN,Tryz.underlying74,bD,aB,ne_eq,reduceCtorEq,Nat.reduceLT,aY,Nat.reduceEqDiff,apart,aO,Tryz.underlying9,bI,bV,eN,cav,aL,Nat.reduceAdd,List.getD_cons_succ,dJ,aP,bH,aLQ,h1,dD,bT,Option.bind_some,aW,dQ,gok,List.take_nil,fA,bS,kO,dO,eM,spl,bB,Nat.reduceLeDiff,bU,aG,aI,List.all_cons,dC,Value.oneCell',List.all_nil,aDW,tC,aGG,aDJ]
   refine⟨?_,hK _ (fin _ ?_ _)⟩
   ·exact .inl (by simp[aFL,pK,Tryz.underlying4,Tryz.underlying9,Tryz.underlying30])
   ·have hpz:((party:Int) == 0)=(party == 0):=by
     rw[Bool.eq_iff_iff]
     simp
    simp[h1,iN,vQ,hpz,Bool.and_assoc]
theorem aJI [Gv] (c:CavV) (hi:c.id.length≤9223372036854775807) (hv:c.vault.length≤9223372036854775807) (ht:c.text.length≤9223372036854775807):ACalls Tryz.prog G0 131 [.agg (CA c)] [] (fun r os=>os=[]∧r=.val (.bool (!aGr c))):=by
 have cC:=aPM c hi hv ht
 have ho:=uA c
 have hl:(CA c).length=5:=rfl
 have hn:=mL c
 generalize CA c=cs at *
 have ht5:cs.take 5=cs:=List.take_of_length_le (by omega)
 refine ke Tryz.func131 Tryz.ntmps131 Tryz.results131 #[4] ?_
 refine kx [1] ho ?_
 refine kw [] (kI hl ht5) fun K hK=>?_
 refine aV (by simp[aH,hn]) cC rfl ?_
 simp only[seval,kT]
 refine hK _ ?_
 clear hK K
 refine kp [2] ?_
 apply aS
 simp only[seval,kT,kF]
theorem aNt [Gv] (l:List CavV) (p:Perm) (g:FuncId) (q:CavV→Bool) (hl:l.length≤1000000) (hg:∀ c∈l,ACalls Tryz.prog G0 g [.agg (CA c)] [] (fun r os=>os=[]∧r=.val (.bool (q c)))) :
  ACalls Tryz.prog G0 199 [.sl l.length (CS l) p,.val (.func (.func g) #[] #[])] [] (fun r os=>os=[]∧∃ z:Int,r=.val (.int .i64 z)∧decide (0≤z)=l.any q):=by
 have hCl:=mD l
 refine ke Tryz.func199 Tryz.ntmps199 Tryz.results199 #[3] ?_
 refine ks [0,1] ?_
 refine aC fun K1 hK1=>?_
 refine aC fun K hK=>aA [] ?_
 simp only[qq,aF,Nat.reduceLT,aB,reduceCtorEq,bI,Nat.reduceEqDiff,bV,eN,Tryz.underlying65,cav,aG,aI]
 (repeat' apply And.intro)<;>try (first|exact True.intro|omega)
 refine hK _ ?_
 clear hK K
 refine aE [0,1,7,8] ?_
 simp only[aD,aB,Nat.reduceEqDiff,if_true,if_false]
 refine bK ?_
 refine bZ (fun i:Nat=>⟨19,[(0,.sl l.length (CS l) p),(1,.val (.func (.func g) #[] #[])),(7,.val (.int .i64 (l.length:Int))),(8,.val (.int .i64 (i:Int)))],[]⟩)
  (fun i=>i≤l.length∧(l.take i).any q=false) (fun i=>l.length - i) 0 (by simp) (.of_keep [0,1,7,8] rfl) ?_
 rintro i ⟨hi,hno⟩
 refine ky @jM ?_
 apply bJ
 refine fB rfl rfl (fun hq=>?_) (fun hq=>?_)
 ·have hlt:i<l.length:=of_decide_eq_true hq
  apply bC
  simp only[seval,kT]
  refine kp [0,1,7,8] ?_
  apply bJ
  refine bK ?_
  refine aC fun K hK=>aA [] ?_
  simp only[qq,aF,Nat.reduceLT,aB,reduceCtorEq,Nat.reduceEqDiff,aG,aI]
  (repeat' apply And.intro)<;>try (first|exact True.intro|omega)
  refine hK _ ?_
  clear hK K
  refine aE [0,1,5,7,8] ?_
  simp only[aD,aB,Nat.reduceEqDiff,if_true,if_false]
  have hget:=aDO hlt (l[i])
  rw[List.getD_eq_getElem?_getD,List.getElem?_eq_getElem hlt] at hget
  simp only[Option.getD_some] at hget
  have hg1:=hg l[i] (List.getElem_mem hlt)
  have htake:(l.take (i+1)).any q=((l.take i).any q || q l[i]):=by
   rw[List.take_add_one,List.getElem?_eq_getElem hlt,List.any_append]
   simp
  have hany:q l[i]=true→l.any q=true:=fun h=>List.any_eq_true.2 ⟨_,List.getElem_mem hlt,h⟩
  generalize l[i]=c at *
  refine aC fun K hK=>aA [] ?_
  simp only[qq,aF,Nat.reduceLT,aB,reduceCtorEq,Nat.reduceEqDiff,dN,Tryz.underlying65,bD,hCl,Int.toNat_natCast,aY,apart,aO,Tryz.underlying74,aU,Nat.reduceAdd,bF,aT,bA,bW,List.headD_cons,List.length_drop,hget,aH]
  refine⟨⟨by omega,by omega⟩,by omega,?_⟩
  refine aV (mL _) hg1 rfl ?_
  simp only[seval,kT]
  refine hK _ ?_
  clear hK K
  cases hqc:q c with
  | true=>
   refine bG (by simp only[aB,lk];simp[hqc]) ?_
   refine kp [5] ?_
   refine ks [4] ?_
   apply aS
   exact⟨_,_,rfl,⟨rfl,trivial⟩,rfl,(i:Int),rfl,by rw[hany hqc];simp⟩
  | false=>
   refine aR (by simp only[aB,lk];simp[hqc]) (bC ?_)
   simp only[seval,kT,kF]
   refine kp [0,1,7,8] ?_
   have h6:IntKind.i64.wrap ((i+1:Nat):Int)=((i+1:Nat):Int):=fD (by omega)
   refine ku [] (kI @gO h6) ?_
   exact⟨i+1,⟨by omega,by rw[htake,hno,hqc];rfl⟩,by omega,.of_keep [0,1,7,8] rfl⟩
 ·have he:i=l.length:=by have:=of_decide_eq_false hq;omega
  subst he
  apply dR
  simp only[seval,kT,kF]
  refine hK1 _ ?_
  clear hK1 K1
  rw[List.take_length] at hno
  refine kp [0] ?_
  refine ks [4] ?_
  apply aS
  exact⟨_,_,rfl,⟨rfl,trivial⟩,rfl,-1,rfl,by rw[hno];rfl⟩
theorem aNs [Gv] (l:List CavV) (p:Perm) (g:FuncId) (q:CavV→Bool) (hl:l.length≤1000000) (hg:∀ c∈l,ACalls Tryz.prog G0 g [.agg (CA c)] [] (fun r os=>os=[]∧r=.val (.bool (q c)))) :
  ACalls Tryz.prog G0 130 [.sl l.length (CS l) p,.val (.func (.func g) #[] #[])] [] (fun r os=>os=[]∧r=.val (.bool (l.any q))):=by
 have cI:=aNt l (bW p) g q hl hg
 refine ke Tryz.func130 Tryz.ntmps130 Tryz.results130 #[4] ?_
 refine kq ?_
 refine kr [] fun K hK=>?_
 refine aNT (gZ _) cI ⟨.val (.int .i64 (if l.any q then 0 else -1)),rfl,_,rfl,by cases l.any q<;>rfl⟩ ?_
 rintro r os ⟨rfl,z,rfl,hz⟩
 refine⟨rfl,rfl,?_⟩
 simp only[seval,kT,hz]
 refine hK _ ?_
 clear hK K
 refine kp [4] ?_
 apply aS
 simp only[seval,kT,kF]
theorem eP [Gv] (t:TokV) (p:Perm) (ht:t.tag.length=32):(TA t p).length=36:=by simp[TA,aX,ht]
theorem gP [Gv] (t:TokV) (p:Perm):(TA t p).all dC=true:=by
 simp only[TA,List.all_append,List.all_cons,List.all_nil,str,dC,Value.oneCell',Bool.and_true,Bool.true_and]
 rw[List.all_eq_true]
 intro x hx
 obtain⟨z,_,rfl⟩:=List.mem_map.1 hx
 rfl
theorem fQ [Gv] (t:TokV) (p:Perm) (hp:(match p with | .tok _=>false|_=>true)=true):aM (TA t p)=true:=by
 cases p<;>simp_all [TA,dK,aM,aH,str,gZ,aJ]
theorem sZ [Gv] (t:TokV) (p:Perm):(TA t p).getD 0 .top=.val (.int .u64 (t.key:Int))∧(TA t p).getD 1 .top=str t.id∧(TA t p).getD 2 .top=.sl t.cavs.length (CS t.cavs) p∧(TA t p).getD 3 .top=.val (.bool t.bound):=⟨rfl,rfl,rfl,rfl⟩
theorem aGR [Gv] (t:TokV) (p:Perm):(TA t p).drop 4=Bs t.tag:=rfl
def small (t:TokV):Prop:=t.id.length≤200000∧t.cavs.length≤1000000∧(∀ c∈t.cavs,c.text.length≤200000∧c.id.length≤200000∧c.vault.length≤200000)∧t.tag.length=32∧t.key<18446744073709551616∧∀ c∈t.cavs,c.party<18446744073709551616
theorem rA [Gv] (t:TokV) (p:Perm) (hs:small t) (hp:(match p with | .tok _=>false|_=>true)=true) :
  ACalls Tryz.prog G0 64 [.agg (TA t p)] [] (fun r os=>os=[]∧r=.val (.int .i64 (if okT t then 0 else 1))):=by
 have hoc:=gP t p
 have hlen:=eP t p hs.2.2.2.1
 obtain⟨g0,g1,g2,g3⟩:=sZ t p
 have cH:=aNs t.cavs (bW p) 131 (fun c=>!aGr c) hs.2.1 (fun c hc=>aJI c (by have:=hs.2.2.1 c hc;omega) (by have:=hs.2.2.1 c hc;omega) (by have:=hs.2.2.1 c hc;omega))
 generalize hT:TA t p=T at *
 simp only[str] at g1
 refine ke Tryz.func64 Tryz.ntmps64 Tryz.results64 #[37] ?_
 refine kx [1] hoc ?_
 refine aC fun K1 hK1=>?_
 refine aC fun K hK=>?_
 have next:∀ (b:Bool) (s:St),b = !okT t→gE G0 s ⟨18,[(17,.val (.bool b)),(1,.ptr 0 0)],[.cells T]⟩→K s:=by
  intro b s hb hw
  refine hK s (eX hw ?_)
  clear hw hK K
  cases ho:okT t with
  | true=>
   rw[ho] at hb
   subst hb
   refine aR rfl (bC (hK1 _ ?_))
   clear hK1 K1
   refine ks [2] ?_
   apply aS
   exact⟨_,_,rfl,⟨rfl,trivial⟩,rfl,by rw[ho];rfl⟩
  | false=>
   rw[ho] at hb
   subst hb
   apply bG rfl
   refine kp [1] ?_
   refine ks [2] ?_
   apply aS
   exact⟨_,_,rfl,⟨rfl,trivial⟩,rfl,rfl⟩
 apply aA []
 cases h1:decide (1024<t.id.length) with
 | true=>
  simp only[seval,kT,hlen,g1,yM,h1]
  refine next true _ ?_ (.of_keep [17,1] (by exact rfl))
  have:=of_decide_eq_true h1
  simp[okT]
  omega
 | false=>
  cases h2:decide (64<t.cavs.length) with
  | true=>
   simp only[qq,aF,aN,Tryz.underlying67,bD,aB,ne_eq,reduceCtorEq,Nat.reduceLT,aY,Nat.reduceEqDiff,apart,aO,Tryz.underlying9,bI,bV,eN,cav,aL,hlen,g1,dJ,aP,bH,yM,h1,dD,bT,Option.bind_some,aW,Bool.not_false,dQ,gok,Tryz.underlying65,bU,g2,h2,eW,aG,aI]
   refine next true _ ?_ (.of_keep [17,1] (by exact rfl))
   have:=of_decide_eq_true h2
   have h3:decide (t.cavs.length≤64)=false:=by simp;omega
   simp[okT,h3]
  | false=>
   simp only[qq,aF,aN,Tryz.underlying67,bD,aB,ne_eq,reduceCtorEq,Nat.reduceLT,aY,Nat.reduceEqDiff,apart,aO,Tryz.underlying9,bI,bV,eN,cav,aL,hlen,g1,dJ,aP,bH,yM,h1,dD,bT,Option.bind_some,aW,Bool.not_false,dQ,gok,Tryz.underlying65,bU,g2,h2,aU,Nat.reduceAdd,bF,aT,bA,bW,List.headD_cons,aH]
   refine aV (gZ _) cH rfl ?_
   simp only[seval,kT]
   have h3:okT t=t.cavs.all aGr:=by
    have h4:=of_decide_eq_false h1
    have h5:=of_decide_eq_false h2
    have h6:decide (t.id.length≤1024)=true:=by simp;omega
    have h7:decide (t.cavs.length≤64)=true:=by simp;omega
    simp[okT,h6,h7]
   refine next _ _ ?_ (.of_keep [17,1] (by exact rfl))
   rw[h3,List.all_eq_not_any_not,Bool.not_not]
theorem aLc [Gv] (l:List UInt8) (p:Perm) (f:eK) (hl:l.length≤35184372088832) (hf:f.2.length≤35184372088832):ACalls Tryz.prog G0 51 [.sl l.length (Bs l) p,.agg (FA f)] [] (fun r os=>os=[.tok 1 (l++fby f).length]∧r=.sl (l++fby f).length (Bs (l++fby f)) (.tok 0)):=by
 obtain⟨k,v⟩:=f
 simp only at hf
 have hv10:=jI (n:=v.length) (by omega)
 have lt:l.take l.length=l:=List.take_of_length_le (Nat.le_refl _)
 refine gQ Tryz.func51 rfl rfl Tryz.ntmps51 (rts:=#[54]) rfl Tryz.results51 (by simp) ?_
 simp only[seval,aZ]
 refine ky @FA.eq_1 ?_
 refine iH 3 0 [AV.val (Value.int IntKind.u8 (k.toNat:Int)),AV.val (Value.string { data:=v.toArray })] rfl rfl (by simp) rfl ?_
 refine kp [0,3] ?_
 refine aC fun K hK=>?_
 refine dW [12] (by kernel_rfl) (by kernel_rfl) ?_
 simp only[qq,aF,Nat.reduceLT,aB,reduceCtorEq,bI,Nat.reduceEqDiff,List.contains_cons,Nat.reduceBEq,bV,eN,Tryz.underlying54,eY,iR,Option.map_none,Option.map_some,bD,aX,Nat.mul_one,eJ,dH,ne_eq,eA,eS,iC,aN,Tryz.underlying124,Nat.reduceAdd,Nat.reduceLeDiff,aY,beq_self_eq_true,apart,aO,Tryz.underlying5,dV,bS,jJ,List.replicate_succ,List.replicate_zero,dO,eM,spl,bB,dL,fP,lX,gC,eQ,aG,aI,List.all_cons,dC,Value.oneCell',List.all_nil,List.drop_nil,gV,Int.le_refl,or_true,Int.sub_zero,Int.toNat_natCast,Int.toNat_zero,lt]
 refine⟨by omega,⟨by omega,by omega⟩,hK _ ?_⟩
 clear hK K
 refine kp [0,3] ?_
 obtain⟨L,hL⟩:∃ L,L=l++[k]:=⟨_,rfl⟩
 have hLl:l.length+1=L.length:=by rw[hL,List.length_append];rfl
 have hLb:Bs l++[AV.val (Value.int IntKind.u8 (k.toNat:Int))]=Bs L:=by rw[hL,iD];rfl
 rw[hLl,hLb]
 have hvn:v.length%18446744073709551616=v.length:=Nat.mod_eq_of_lt (by omega)
 have cP:=fun q=>aGK L q v.length (by omega) (by omega)
 have iL:l++fby (k,v)=(L++vb v.length)++v:=by rw[hL];simp[fby]
 rw[iL]
 generalize hQ:L++vb v.length=Q at cP ⊢
 have hQl:Q.length≤35184372088832+11:=by rw[← hQ,List.length_append];omega
 refine aC fun K hK=>?_
 refine kde [1000020,17,22] (kI @tN hvn) ?_
 refine oO (by simp[fH,iV,aH,aM,aJ,bW]) (cP .no) (by simp[aJ]) ?_
 simp only[seval,kT,← iD]
 refine⟨⟨by omega,by omega⟩,hK _ ?_⟩
 clear hK K
 refine aE [4] ?_
 simp only[aD,aB,Nat.reduceEqDiff,if_true,if_false]
 rw[show Q.length+v.length=(Q++v).length by simp]
 apply aS
 exact oM 4 2 1 rfl rfl (aJ _) ⟨rfl,rfl⟩
def zA (c:CavV):Prop:=c.text.length≤200000∧c.id.length≤200000∧c.vault.length≤200000∧c.party<18446744073709551616
def jo (i n:Nat):List AObj:=match i with
 | 0=>[]
 | i+1=>dd (2*i+1)++[.tok 1 n]
def jp (i:Nat):Perm:=match i with
 | 0=>.full
 | i+1=>.tok (2*i+1)
theorem aNv [Gv] (i n:Nat) (b:List UInt8) (x y z:AV):gE G0 ⟨17,[(3,.sl b.length (Bs b) (jp i)),(6,x),(7,y),(8,z)],jo i n⟩ ⟨17,[(3,.sl b.length (Bs b) .no),(6,x),(7,y),(8,z)],dd (2*i)⟩:=by
 cases i with
 | zero=>exact .trans (.noperm 3 _ _ _ rfl) (.of_keep [3,6,7,8] (by exact rfl))
 | succ i=>
  refine .trans (.noperm 3 _ _ _ rfl) (.trans (.dead (2*i+1)) ?_)
  rw[show (jo (i+1) n).set (2*i+1) .dead=dd (2*(i+1)) by rw[show jo (i+1) n=dd (2*i+1)++[.tok 1 n] from rfl,lU,rN];rfl]
  exact .of_keep [3,6,7,8] rfl
theorem aJS [Gv] (l:List eK) (p:Perm) (hb:kK l≤1048576) (h0:l≠[]):ACalls Tryz.prog G0 50 [.sl l.length (Fs l) p] [] (fun r os=>os=[.tok 1 (V.join l).length]∧r=.sl (V.join l).length (Bs (V.join l)) (.tok 0)):=by
 have hlb:=tM l
 refine gQ Tryz.func50 rfl rfl Tryz.ntmps50 (rts:=#[54]) rfl Tryz.results50 (by simp) ?_
 simp only[seval,aZ]
 refine kq ?_
 refine ks [0,3] ?_
 refine aC fun K1 hK1=>?_
 refine aC fun K hK=>aA [] ?_
 simp only[qq,aF,Nat.reduceLT,aB,reduceCtorEq,bI,Nat.reduceEqDiff,bV,eN,Tryz.underlying186,cav,aG,aI]
 (repeat' apply And.intro)<;>try (first|exact True.intro|omega)
 refine hK _ ?_
 clear hK K
 refine aE [3,6,7,8] ?_
 simp only[aD,aB,Nat.reduceEqDiff,if_true,if_false]
 refine bK ?_
 refine bZ (fun i:Nat=>⟨17,[(3,.sl (V.join (l.take i)).length (Bs (V.join (l.take i))) (jp i)),(6,.sl l.length (Fs l) p),(7,.val (.int .i64 (l.length:Int))),(8,.val (.int .i64 (i:Int)))],jo i (V.join (l.take i)).length⟩)
  (fun i=>i≤l.length) (fun i=>l.length - i) 0 (by omega) (.of_keep [3,6,7,8] rfl) ?_
 intro i hi
 refine ky @jM ?_
 refine bJ ?_
 refine fB rfl rfl (fun h=>?_) (fun h=>?_)
 ·have hlt:i<l.length:=of_decide_eq_true h
  apply bC
  simp only[seval,kT]
  refine kp [3,6,7,8] ?_
  refine eX (aNv i _ _ _ _ _) ?_
  refine bJ ?_
  refine bK ?_
  have hg:=aKa hlt (0,[])
  have hj1:V.join (l.take (i+1))=V.join (l.take i)++fby (l.getD i (0,[])):=by
   rw[aBk l i hlt,nF,join_cons,join_nil,List.append_nil]
  have hjl:=oV (l.take i) (by have:=oC l i;omega)
  have hbt:=oC l i
  have hmem:(l.getD i (0,[])).2.length+1≤kK l:=aFD (by rw[List.getD_eq_getElem?_getD,List.getElem?_eq_getElem hlt];exact List.getElem_mem hlt)
  generalize hf:l.getD i (0,[])=f at hg hj1 hmem
  have cP:=aLc (V.join (l.take i)) .no f (by omega) (by omega)
  have hfl:(Fs l).length=l.length*2:=qE l
  refine aC fun K hK=>aA [] ?_
  simp only[qq,aF,dN,aB,Nat.reduceEqDiff,Tryz.underlying186,bD,hfl,Nat.reduceLT,Int.toNat_natCast,aY,apart,aO,Tryz.underlying124,dF,bS,iS,cav,bQ,bX,bB,spl,aG,aI,oR,Nat.reduceAdd,lU,List.length_drop,hg,wH,lM,List.drop_nil]
  refine⟨by omega,by omega,hK _ ?_⟩
  clear hK K
  refine kp [3,5,6,7,8] ?_
  refine ku [1000014] (kI @oR (kI @lM @aDQ)) ?_
  refine oO (by simp[fH,iV,aH,aM,aJ,bW,yU]) cP (aJ _) ?_
  simp only[seval,kT]
  simp only[seval,kT,kF]
  refine lT (2*i) ?_
  have hset:(dd (2*i)++[AObj.cells (FA f)]++[AObj.tok 1 (V.join (l.take i)++fby f).length]).set (2*i) .dead=dd (2*i+1)++[AObj.tok 1 (V.join (l.take i)++fby f).length]:=by
   rw[List.set_append_left _ _ (by simp[iS]),lU,rN]
  have hlen1:(dd (2*i)++[AObj.cells (FA f)]).length=2*i+1:=by simp[iS]
  rw[hset,hlen1,← hj1]
  refine kp [3,6,7,8] ?_
  have h6:IntKind.i64.wrap ((i+1:Nat):Int)=((i+1:Nat):Int):=fD (by omega)
  refine ku [] (kI @gO h6) ?_
  exact⟨i+1,by omega,by omega,.of_keep [3,6,7,8] rfl⟩
 ·have he:i=l.length:=by have:=of_decide_eq_false h;omega
  subst he
  apply dR
  simp only[seval,kT,kF]
  refine hK1 _ ?_
  clear hK1 K1
  rw[List.take_length]
  obtain⟨m,hm⟩:∃ m,l.length=m+1:=⟨l.length - 1,by have:=List.length_pos_iff.2 h0;omega⟩
  rw[hm,show jo (m+1) (V.join l).length=dd (2*m+1)++[.tok 1 (V.join l).length] from rfl,show jp (m+1)=.tok (2*m+1) from rfl]
  refine kp [3] ?_
  refine ks [2] ?_
  apply aS
  exact oM 2 (2*m+1) 1 rfl (oR _ _) (aJ _) ⟨rfl,rfl⟩
def kU (c:CavV):List UInt8:=if c.third then V.join [(4,vb c.party),(5,c.id),(6,c.vault)] else V.join [(3,c.text)]
def oS (t:TokV):List UInt8:=V.join [(1,vb t.key),(2,t.id)]++t.cavs.flatMap kU++V.join [(7,[if t.bound then 1 else 0]),(8,t.tag)]
theorem aBX [Gv] (n:Nat) (hn:n<18446744073709551616):ACalls Tryz.prog G0 105 [.val (.int .u64 (n:Int))] [] (fun r os=>os=[]∧r=.val (.string ⟨(vb n).toArray⟩)):=by
 have cP:=aOc [] .full n hn (by simp)
 rw[List.nil_append] at cP
 refine ke Tryz.func105 Tryz.ntmps105 Tryz.results105 #[9] ?_
 refine kq ?_
 refine kr [] fun K hK=>?_
 refine kc (cP) (hK _ ?_)
 clear hK K
 refine kp [2] ?_
 apply aS
 simp only[seval,kT,kF]
theorem aIV [Gv] (c:CavV) (hs:zA c):ACalls Tryz.prog G0 106 [.agg (CA c)] [] (fun r os=>os=[]∧r=.sl (kU c).length (Bs (kU c)) .no):=by
 obtain⟨third,text,party,id,vault⟩:=c
 obtain⟨ht,hi,hv,hp⟩:=hs
 simp only[CA,str] at *
 have hv10:=jI (n:=party) hp
 have cN:=aBX party hp
 have cJ1:=xC [(3,text)] .full (by simp[kK];omega)
 have cJ2:=xC [(4,vb party),(5,id),(6,vault)] .full (by simp[kK];omega)
 have hE:kU ⟨third,text,party,id,vault⟩=if third then V.join [(4,vb party),(5,id),(6,vault)] else V.join [(3,text)]:=rfl
 rw[hE]
 clear hE
 generalize V.join [(3,text)]=J1 at *
 generalize V.join [(4,vb party),(5,id),(6,vault)]=J2 at *
 generalize vb party=vp at *
 simp only[Fs,FA,List.flatMap_cons,List.flatMap_nil,List.append_nil,List.cons_append,List.nil_append,B,UInt8.reduceToNat,Int.cast_ofNat_Int] at cJ1 cJ2
 refine ke Tryz.func106 Tryz.ntmps106 Tryz.results106 #[54] ?_
 refine ks [1] ?_
 refine aC fun K1 hK1=>?_
 refine kq ?_
 cases third with
 | false=>
  apply bG rfl
  refine kp [1] ?_
  refine kw [] @qC fun K hK=>?_
  refine kc (cJ1) (hK _ ?_)
  clear hK K
  refine kp [2] ?_
  apply aS
  simp only[seval,kT,kF]
 | true=>
  refine aR rfl (bC (hK1 _ ?_))
  clear hK1 K1
  refine kp [1] ?_
  refine aC fun K hK=>?_
  refine kd [] ?_
  refine kv (cN) @aQE ?_
  refine kc (cJ2) (hK _ ?_)
  clear hK K
  refine kp [2] ?_
  apply aS
  simp only[seval,kT,kF]
theorem uP [Gv] {t:TokV} (h:small t) {c:CavV} (hc:c∈t.cavs):zA c:=⟨(h.2.2.1 c hc).1,(h.2.2.1 c hc).2.1,(h.2.2.1 c hc).2.2,h.2.2.2.2.2 c hc⟩
theorem aBF [Gv] (c:CavV) (h:zA c):(kU c).length≤8000000:=by
 obtain⟨ht,hi,hv,hp⟩:=h
 have hv10:=jI (n:=c.party) hp
 unfold kU
 split
 ·refine Nat.le_trans (oV _ (by simp[kK];omega)) ?_
  simp[kK]
  omega
 ·refine Nat.le_trans (oV _ (by simp[kK];omega)) ?_
  simp[kK]
  omega
theorem aCc [Gv] (l:List CavV) (h:∀ c∈l,zA c):(l.flatMap kU).length≤8000000*l.length:=by
 induction l with
 | nil=>simp
 | cons c l ih=>
  have h1:=aBF c (h c (List.mem_cons_self ..))
  have h2:=ih fun d hd=>h d (List.mem_cons_of_mem _ hd)
  rw[List.flatMap_cons,List.length_append,List.length_cons]
  omega
theorem aHV [Gv] (t:TokV) (p:Perm) (hs:small t) (hp:(match p with | .tok _=>false|_=>true)=true) :
  ACalls Tryz.prog G0 49 [.agg (TA t p)] [] (fun r os=>os=[]∧r=if okT t then .tup [.sl (oS t).length (Bs (oS t)) .no,.val (.int .i64 0)] else .tup [.sl 0 [] .full,.val (.int .i64 1)]):=by
 have hoc:=gP t p
 have hlen:=eP t p hs.2.2.2.1
 obtain⟨g0,g1,g2,g3⟩:=sZ t p
 have g4:=aGR t p
 have hnT:=fQ t p hp
 have cK:=rA t p hs hp
 have cN:=aBX t.key hs.2.2.2.2.1
 have hv10:=jI (n:=t.key) hs.2.2.2.2.1
 have cJ1:=aJS [(1,vb t.key),(2,t.id)] .full (by have:=hs.1;simp[kK];omega) (by simp)
 have cJ2:=fun b:Bool=>xC [(7,[if b then 1 else 0]),(8,t.tag)] .full (by have:=hs.2.2.2.1;simp[kK];omega)
 have hj1:(V.join [(1,vb t.key),(2,t.id)]).length≤3000000:=by
  refine Nat.le_trans (oV _ (by have:=hs.1;simp[kK];omega)) ?_
  have:=hs.1
  simp[kK]
  omega
 have hj2:∀ b:Bool,(V.join [(7,[if b then 1 else 0]),(8,t.tag)]).length≤3000000:=by
  intro b
  refine Nat.le_trans (oV _ (by have:=hs.2.2.2.1;simp[kK];omega)) ?_
  have:=hs.2.2.2.1
  simp[kK]
  omega
 have hE:oS t=V.join [(1,vb t.key),(2,t.id)]++t.cavs.flatMap kU++V.join [(7,[if t.bound then 1 else 0]),(8,t.tag)]:=rfl
 have ht32:=hs.2.2.2.1
 simp only[Fs,FA,List.flatMap_cons,List.flatMap_nil,List.append_nil,List.cons_append,List.nil_append,B,UInt8.reduceToNat,Int.cast_ofNat_Int,List.length_cons,List.length_nil,Nat.reduceAdd] at cJ1 cJ2
 generalize hT:TA t p=T at *
 simp only[str] at g1
 have hTk:T.take 36=T:=List.take_of_length_le (by omega)
 refine ke Tryz.func49 Tryz.ntmps49 Tryz.results49 #[54,37] ?_
 refine kx [1,2,3] hoc ?_
 refine aC fun K1 hK1=>?_
 refine kw [] (kI hlen hTk) fun K hK=>?_
 refine aV hnT cK rfl ?_
 simp only[seval,kT]
 refine hK _ ?_
 clear hK K
 refine kp [1,4] ?_
 refine aC fun K hK=>aA [] ?_
 simp only[qq,aF,Nat.reduceLT,aB,Nat.reduceEqDiff,cav,aL,aP,bH,aG,aI]
 (repeat' apply And.intro)<;>try (first|exact True.intro|omega)
 refine hK _ ?_
 clear hK K
 cases ho:okT t with
 | false=>
  refine bG (by simp only[aB,lk];simp[ho]) ?_
  refine aE [4] ?_
  simp only[aD,aB,Nat.reduceEqDiff,if_true,if_false]
  refine aC fun K hK=>aA [] ?_
  simp only[qq,aF,Nat.reduceLT,aB,cav,Nat.reduceEqDiff,aG,aI]
  (repeat' apply And.intro)<;>try (first|exact True.intro|omega)
  refine hK _ ?_
  clear hK K
  rw[if_neg (by simp)]
  apply aS
  simp only[seval,kT,kF]
 | true=>
 refine aR (by simp only[aB,lk];simp[ho]) (bC (hK1 _ ?_))
 clear hK1 K1
 refine kp [1] ?_
 refine aC fun K hK=>?_
 refine kde [1000022] (kI hlen g0) ?_
 refine kv (cN) (kI @aHv (kI hlen g1)) ?_
 refine oO (by simp[fH,iV,aH,aM,aJ,bW]) cJ1 (aJ _) ?_
 simp only[seval,kT]
 refine hK _ ?_
 clear hK K
 refine kp [1,5] ?_
 rw[if_pos ho]
 rw[hE]
 generalize V.join [(1,vb t.key),(2,t.id)]=J1 at *
 refine aC fun K1 hK1=>?_
 refine aC fun K hK=>aA [] ?_
 simp only[qq,aF,aN,Tryz.underlying67,bD,aB,Nat.reduceEqDiff,ne_eq,reduceCtorEq,Nat.reduceLT,aY,apart,aO,Tryz.underlying65,bI,bV,eN,cav,aG,aI,hlen,g2]
 (repeat' apply And.intro)<;>try (first|exact True.intro|omega)
 refine hK _ ?_
 clear hK K
 refine aE [1,5,24,25,26] ?_
 simp only[aD,aB,Nat.reduceEqDiff,if_true,if_false]
 have hCl:=mD t.cavs
 refine bK ?_
 refine bZ (fun i:Nat=>⟨47,[(1,.ptr 0 0),(5,.sl (J1++(t.cavs.take i).flatMap kU).length (Bs (J1++(t.cavs.take i).flatMap kU)) (.tok 1)),(24,.sl t.cavs.length (CS t.cavs) p),(25,.val (.int .i64 (t.cavs.length:Int))),(26,.val (.int .i64 (i:Int)))],.cells T::.tok 1 (J1++(t.cavs.take i).flatMap kU).length::dd i⟩)
  (fun i=>i≤t.cavs.length) (fun i=>t.cavs.length - i) 0 (by omega) (by simp only[List.take_zero,List.flatMap_nil,List.append_nil];exact .of_keep [1,5,24,25,26] rfl) ?_
 intro i hi
 refine ky @jM ?_
 refine bJ ?_
 refine fB rfl rfl (fun hq=>?_) (fun hq=>?_)
 ·have hlt:i<t.cavs.length:=of_decide_eq_true hq
  apply bC
  simp only[seval,kT]
  refine kp [1,5,24,25,26] ?_
  have hget:=aDO hlt (t.cavs[i])
  rw[List.getD_eq_getElem?_getD,List.getElem?_eq_getElem hlt] at hget
  simp only[Option.getD_some] at hget
  have hsm:=uP hs (List.getElem_mem hlt)
  have cC:=aIV t.cavs[i] hsm
  have hcl:=aBF t.cavs[i] hsm
  have htl:=aCc (t.cavs.take i) (fun c hc=>uP hs (List.mem_of_mem_take hc))
  have hmx:=hs.2.1
  rw[List.length_take,Nat.min_eq_left hi] at htl
  have hE1:J1++(t.cavs.take (i+1)).flatMap kU=J1++(t.cavs.take i).flatMap kU++kU t.cavs[i]:=by
   rw[List.take_add_one,List.getElem?_eq_getElem hlt,List.flatMap_append,List.append_assoc]
   simp
  have hlA:(J1++(t.cavs.take i).flatMap kU).length≤3000000+8000000*i:=by rw[List.length_append];omega
  generalize hA1:J1++(t.cavs.take (i+1)).flatMap kU=A1 at *
  generalize J1++(t.cavs.take i).flatMap kU=A at *
  generalize t.cavs[i]=c at *
  have hco:=uA c
  have hcn:=mL c
  have hc5:(CA c).length=5:=rfl
  generalize CA c=cs at *
  refine bJ ?_
  refine bK ?_
  refine aC fun K hK=>aA [] ?_
  simp only[qq,aF,dN,aB,Nat.reduceEqDiff,Tryz.underlying65,bD,hCl,Nat.reduceLT,Int.toNat_natCast,aY,apart,aO,Tryz.underlying74,dF,bS,iS,cav,bQ,bX,bB,spl,aG,aI,oR,Nat.reduceAdd,lU,List.length_drop,hget,hco,hc5,List.drop_nil]
  refine⟨⟨by omega,by omega⟩,by omega,hK _ ?_⟩
  clear hK K
  refine kp [1,5,7,24,25,26] ?_
  have hct:cs.take 5=cs:=List.take_of_length_le (by omega)
  refine ku [] (kI @oR (kI hc5 hct)) ?_
  refine aV hcn cC (by simp[aH,aJ]) ?_
  simp only[seval,kT]
  refine⟨⟨by omega,by omega⟩,?_⟩
  simp only[seval,kT,kF]
  refine lT (i+2) ?_
  rw[← iD,show A.length+(kU c).length=(A++kU c).length by simp,← hE1]
  rw[List.set_cons_succ,List.set_cons_succ,lU,rN]
  refine kp [1,5,24,25,26] ?_
  have h6:IntKind.i64.wrap ((i+1:Nat):Int)=((i+1:Nat):Int):=fD (by omega)
  refine ku [] (kI @gO h6) ?_
  subst hA1
  exact⟨i+1,by omega,by omega,.of_keep [1,5,24,25,26] rfl⟩
 ·have he:i=t.cavs.length:=by have:=of_decide_eq_false hq;omega
  subst he
  apply dR
  simp only[seval,kT,kF]
  refine hK1 _ ?_
  clear hK1 K1
  have htl:=aCc t.cavs (fun c hc=>uP hs hc)
  have hmx:=hs.2.1
  rw[List.take_length]
  have hlA:(J1++t.cavs.flatMap kU).length≤3000000+8000000*t.cavs.length:=by rw[List.length_append];omega
  generalize J1++t.cavs.flatMap kU=A at *
  refine kp [1,5] ?_
  refine ks [1,5,8] ?_
  refine aC fun K2 hK2=>?_
  refine ky (kI hlen g3) ?_
  have next:∀ s,gE G0 s ⟨47,[(1,.ptr 0 0),(5,.sl A.length (Bs A) (.tok 1)),(8,str [if t.bound then 1 else 0])],.cells T::.tok 1 A.length::dd t.cavs.length⟩→K2 s:=by
   intro s hw
   refine hK2 s (eX hw ?_)
   clear hK2 K2 hw
   simp only[str]
   have cJ:=cJ2 t.bound
   have hl2:=hj2 t.bound
   generalize (if t.bound then 1 else 0:UInt8)=bb at *
   generalize V.join [(7,[bb]),(8,t.tag)]=J2 at *
   have hbl:(Bs t.tag).length=32:=by rw[aX,ht32]
   have hbt:(Bs t.tag).take 32=Bs t.tag:=List.take_of_length_le (by omega)
   refine aC fun K hK=>?_
   refine aA [42] ?_
   simp only[qq,aF,Nat.reduceLT,aB,Nat.reduceEqDiff,fA,bS,Tryz.underlying124,kO,cav,dO,eM,spl,bB,Nat.reduceAdd,List.drop_nil,List.all_cons,dC,Value.oneCell',List.all_nil,Nat.reduceLeDiff,aN,Tryz.underlying67,bD,ne_eq,reduceCtorEq,eY,iR,Option.map_none,Tryz.underlying23,eJ,Int.le_refl,dH,not_true_eq_false,or_false,Int.sub_zero,Int.toNat_natCast,Int.toNat_zero,Nat.zero_mul,iC,eL,Tryz.underlying9,List.contains_cons,beq_self_eq_true,eG,bA,bW,Tryz.underlying54,fF,Tryz.underlying5,Nat.reduceBEq,dV,Tryz.underlying186,aHv,Nat.reduceMul,dL,aU,bF,aT,dK,Bool.true_and,aM,aH,Int.cast_ofNat_Int,Int.reduceLE,Nat.mul_one,hlen,g4,hbt,aJ,hbl,jG,kJ]
   refine aV (by simp[aJ,aM,aH]) (cJ) (by simp[aH,aM,aJ,flat]) ?_
   simp only[qq,aK,aF,bI,aB,Nat.reduceEqDiff,fP,Tryz.underlying54,bD,lX,bS,gC,eQ,aX,Nat.mul_one,Nat.reduceLT,eR,← iD,cav,aG,aI]
   refine⟨by omega,hK _ ?_⟩
   clear hK K
   refine lH 2 rfl ?_
   refine kp [2,3] ?_
   rw[show A.length+J2.length=(A++J2).length by simp]
   apply aS
   simp only[seval,kT,kF]
  cases hbd:t.bound with
  | true=>
   refine bG (by simp only[aB,lk];simp[hbd]) ?_
   refine kp [1,5] ?_
   refine ko [] ?_
   rw[hbd] at next
   exact next _ (.of_keep [1,5,8] (by exact rfl))
  | false=>
   refine aR (by simp only[aB,lk];simp[hbd]) (bC ?_)
   rw[hbd] at next
   exact next _ (.of_keep [1,5,8] (by exact rfl))
def fG:Perm→Bool
 | .tok _=>false
 | _=>true
theorem aDF [Gv] (l:List CavV) (p:Perm) (hp:fG p=true) (hl:l.length≤1000000):ACalls Tryz.prog G0 133 [.sl l.length (CS l) p] [] (fun r os=>os=[.tok 5 l.length]∧r=.sl l.length (CS l) (.tok 0)):=by
 have hCl:=mD l
 have hnC:=gZ l
 have hoc:(CS l).all dC=true:=by
  rw[List.all_eq_true]
  intro x hx
  obtain⟨c,_,hc⟩:=List.mem_flatMap.1 hx
  exact List.all_eq_true.1 (uA c) x hc
 have hnil:CS l=[]→l=[]:=fun h=>by rw[h] at hCl;simp only[List.length_nil] at hCl;exact List.length_eq_zero_iff.1 (by omega)
 have hcs:CS l=[]∨CS l≠[]:=by cases CS l<;>simp
 refine gQ Tryz.func133 rfl rfl Tryz.ntmps133 (rts:=#[65]) rfl Tryz.results133 (by simp) ?_
 simp only[seval,aZ]
 refine kq ?_
 refine aC fun K1 hK1=>?_
 refine aC fun K hK=>?_
 refine aCS (ht:=Tryz.underlying65) (hs:=rfl) (by omega) (by omega) fun b hb=>hK _ ?_
 clear hK K
 cases b with
 | true=>
  apply bG rfl
  have h0:=hnil (hb rfl)
  subst h0
  refine kp [0] ?_
  refine ks [2] ?_
  refine oA 5 2 rfl ?_
  refine aS ?_
  exact oM 2 0 5 rfl rfl rfl ⟨rfl,rfl⟩
 | false=>
  refine aR rfl (bC (hK1 _ ?_))
  clear hK1 K1
  refine kp [0] ?_
  refine kw [] (kI @aHu (kI hCl hoc)) fun K hK=>?_
  refine⟨⟨by omega,by omega⟩,hK _ ?_⟩
  clear hK K
  refine kp [2] ?_
  refine aS ?_
  exact oM 2 0 5 rfl rfl (gZ _) ⟨rfl,rfl⟩
theorem aIZ [Gv] (σ:Nat→Nat) (t:TokV) (r:Nat):gH σ (TA t (.tok r))=TA t (.tok (σ r)):=by
 have h1:=cY σ _ (gZ t.cavs)
 have h2:=cY σ _ (aJ t.tag)
 unfold TA str
 rw[tS,List.map_append,← tS,← tS,h2]
 simp only[gH,ren,h1,rB]
theorem aPk [Gv] (t:TokV) (p:Perm):nps (TA t p)=TA t (bW p):=by
 have h1:=iG _ (gZ t.cavs)
 have h2:=iG _ (aJ t.tag)
 unfold TA str
 rw[vZ,h2]
 simp only[nps,np,h1]
theorem aIX [Gv] (p:Nat→Bool) (t:TokV) (r:Nat) (h:p r=true):eV p (TA t (.tok r))=true:=by
 have h1:=bM p _ (gZ t.cavs)
 have h2:=bM p _ (aJ t.tag)
 unfold TA str
 simp only[eV,ref,h1,h2,jH,h,Bool.and_true,Bool.true_and,List.cons_append,List.nil_append]
theorem aJu [Gv] (t:TokV) (p:Perm) (hs:small t) (hp:fG p=true) :
  ACalls Tryz.prog G0 65 [.agg (TA t p)] [] (fun r os=>os=[.tok 5 t.cavs.length]∧r=.agg (TA t (.tok 0))):=by
 have hoc:=gP t p
 have hlen:=eP t p hs.2.2.2.1
 obtain⟨g0,g1,g2,g3⟩:=sZ t p
 have hset:(TA t p).take 2++[.sl t.cavs.length (CS t.cavs) (.tok 2)]++(TA t p).drop 3=TA t (.tok 2):=rfl
 have cC:=aDF t.cavs (bW p) (by cases p<;>rfl) hs.2.1
 generalize hT:TA t p=T at *
 refine dB Tryz.func65 rfl rfl Tryz.ntmps65 (rts:=#[67]) rfl Tryz.results65 (by simp) ?_
 simp only[seval,aZ]
 refine kx [1,2] hoc ?_
 refine kw [1000005] (kI hlen g2) fun K hK=>?_
 refine oO (by simp[fH,iV,aH,aM,aJ,bW,gZ]) cC (gZ _) ?_
 simp only[seval,kT,hlen]
 refine hK _ ?_
 clear hK K
 have hl2:=eP t (.tok 2) hs.2.2.2.1
 have ho2:=gP t (.tok 2)
 have hr2:gH (fun r=>[2].idxOf r) (TA t (.tok 2))=TA t (.tok 0):=aIZ _ t 2
 have hf2:∀ p:Nat→Bool,p 2=true→eV p (TA t (.tok 2))=true:=fun p h=>aIX p t 2 h
 rw[hset]
 generalize TA t (.tok 0)=T0 at *
 generalize TA t (.tok 2)=T2 at *
 have ht2:T2.take 36=T2:=List.take_of_length_le (by omega)
 have hd2:T2.drop 36=[]:=List.drop_eq_nil_of_le (by omega)
 refine kp [1,2] ?_
 refine kx [2] (kI hl2 (kI ht2 ho2)) ?_
 refine aS ?_
 refine nW [2] ⟨by simp,by simp,by decide,by simp,by simp[fU]⟩ ?_
 simp only[seval,kT,kN,hl2,ht2]
 exact⟨hf2 _ rfl,rfl,by simp only[ren];rw[hr2]⟩
theorem aMV [Gv] (t:TokV) (p:Perm) (hs:small t) (hp:fG p=true) :
  ACalls Tryz.prog G0 65 [.agg (TA t p)] [] (fun r os=>os=[]∧r=.agg (TA t .no)):=by
 have hoc:=gP t p
 have hlen:=eP t p hs.2.2.2.1
 obtain⟨g0,g1,g2,g3⟩:=sZ t p
 have hset:(TA t p).take 2++[.sl t.cavs.length (CS t.cavs) (.tok 2)]++(TA t p).drop 3=TA t (.tok 2):=rfl
 have cC:=aDF t.cavs (bW p) (by cases p<;>rfl) hs.2.1
 generalize hT:TA t p=T at *
 refine ke Tryz.func65 Tryz.ntmps65 Tryz.results65 #[67] ?_
 refine kx [1,2] hoc ?_
 refine kw [1000005] (kI hlen g2) fun K hK=>?_
 refine oO (by simp[fH,iV,aH,aM,aJ,bW,gZ]) cC (gZ _) ?_
 simp only[seval,kT,hlen]
 refine hK _ ?_
 clear hK K
 rw[hset]
 refine kp [1,2] ?_
 refine aLC ?_
 have hnp:nps (TA t (.tok 2))=TA t .no:=aPk t (.tok 2)
 have hl2:=eP t .no hs.2.2.2.1
 have ho2:=gP t .no
 have hn2:=fQ t .no rfl
 simp only[List.map_cons,List.map_nil,np,npO,nps,bW,hnp]
 generalize TA t .no=T2 at *
 have ht2:T2.take 36=T2:=List.take_of_length_le (by omega)
 have hd2:T2.drop 36=[]:=List.drop_eq_nil_of_le (by omega)
 refine kx [2] (kI hl2 (kI ht2 ho2)) ?_
 refine aS ?_
 simp only[seval,kT,kF,hl2,ht2,hn2]
def lL (C:List Nat→List UInt8→List Nat) (key:List UInt8) (n:Nat) (id:List UInt8):List UInt8:=pL C key [109,105,110,116] [be8 n 8,id]
def qW (C:List Nat→List UInt8→List Nat) (tag:List UInt8) (c:CavV):List UInt8:=pL C tag [99,97,118,101,97,116] [kU c]
theorem aBH [Gv] {Q:AV→List AObj→Prop} {nt:Nat} {s:List (Nat×AV)} {os:List AObj} {x r:Nat} {R:List UInt8} (h:lk s x=.ptr r 0) (ho:os[r]? = some (.cells (Bs R))) (hl:R.length=32) (hq:Q (.agg (Bs R)) []) :
  V.Fin Tryz.prog [23] [.cell x 23] Q .ret ⟨nt,s,os⟩:=by
 have hsz:tsz Tryz.prog 23=some 32:=by simp only[bD]
 exact⟨_,_,uE h ho hsz (by rw[Tryz.underlying23];rfl) (by rw[aX,hl]),⟨⟨by rw[aX,hl];omega,by simp[aH,aJ]⟩,trivial⟩,hq⟩
theorem aCY [Gv] {C:List Nat→List UInt8→List Nat} (hC:COk C) (key:List UInt8) (hk:key.length=32) (n:Nat) (hn:n<18446744073709551616) (id:List UInt8) (hi:id.length≤200000) :
  ACalls Tryz.prog GP 63 [.agg (Bs key),.val (.int .u64 (n:Int)),str id] [] (fun r os=>os=[]∧r=.agg (Bs (lL C key n id))):=by
 have cN:=(aCw n hn).g (G:=GP)
 have cD:=aCa hC key [109,105,110,116] hk [be8 n 8,id] .full (by simp) (by simp[fS,aBK,oQ];omega) (by simp)
 have hl:=fO hC key [109,105,110,116] [be8 n 8,id]
 unfold lL
 generalize pL C key [109,105,110,116] [be8 n 8,id]=R at *
 have hb8:=oQ n 8
 generalize be8 n 8=n8 at *
 simp only[SS,List.map_cons,List.map_nil,List.length_cons,List.length_nil,Nat.reduceAdd] at cD
 have hkt:key.take 32=key:=List.take_of_length_le (by omega)
 have hkl:(Bs key).length=32:=by rw[aX];omega
 have hRl:(Bs R).length=32:=by rw[aX];omega
 simp only[str]
 refine ke Tryz.func63 Tryz.ntmps63 Tryz.results63 #[23] ?_
 refine ks [1,2,3,6] ?_
 refine aC fun K hK=>?_
 refine kde [] (kI hkl hkt) ?_
 refine kv (cN) (kI hb8 @aHv) ?_
 refine aV (by simp[aM,aH,aJ]) cD (by simp[aH,aJ]) ?_
 simp only[seval,kT,hRl]
 refine hK _ ?_
 clear hK K
 rw[show (Z 32).drop 32=[] from List.drop_eq_nil_of_le (by rw[eZ];exact Nat.le_refl _),gV,List.append_nil]
 refine kp [6] ?_
 refine aS ?_
 exact aBH rfl rfl hl ⟨rfl,rfl⟩
theorem aFF [Gv] {C:List Nat→List UInt8→List Nat} (hC:COk C) (tag:List UInt8) (hk:tag.length=32) (c:CavV) (hc:zA c) :
  ACalls Tryz.prog GP 66 [.agg (Bs tag),.agg (CA c)] [] (fun r os=>os=[]∧r=.agg (Bs (qW C tag c))):=by
 have cN:=(aIV c hc).g (G:=GP)
 have hcl:=aBF c hc
 have cD:=aCa hC tag [99,97,118,101,97,116] hk [kU c] .full (by simp) (by simp[fS,aBK,oQ];omega) (by simp)
 have hl:=fO hC tag [99,97,118,101,97,116] [kU c]
 unfold qW
 generalize pL C tag [99,97,118,101,97,116] [kU c]=R at *
 generalize kU c=e at *
 simp only[SS,List.map_cons,List.map_nil,List.length_cons,List.length_nil,Nat.reduceAdd] at cD
 have hkt:tag.take 32=tag:=List.take_of_length_le (by omega)
 have hkl:(Bs tag).length=32:=by rw[aX];omega
 have hRl:(Bs R).length=32:=by rw[aX];omega
 have ho:=uA c
 have hcl:(CA c).length=5:=rfl
 have hcn:=mL c
 generalize CA c=cs at *
 have hct:cs.take 5=cs:=List.take_of_length_le (by omega)
 refine ke Tryz.func66 Tryz.ntmps66 Tryz.results66 #[23] ?_
 refine kx [2,3,4] ho ?_
 refine aC fun K hK=>?_
 refine kde [] (kI (kI hkl hkt) (kI hcl hct)) ?_
 refine aV (by simp[aM,aH,hcn]) cN (by simp[aH,aJ]) ?_
 simp only[seval,kT,qC]
 refine aV (by simp[aM,aH,aJ]) cD (by simp[aH,aJ]) ?_
 simp only[seval,kT,hRl]
 refine hK _ ?_
 clear hK K
 rw[show (Z 32).drop 32=[] from List.drop_eq_nil_of_le (by rw[eZ];exact Nat.le_refl _),gV,List.append_nil]
 refine kp [4] ?_
 refine aS ?_
 exact aBH rfl rfl hl ⟨rfl,rfl⟩
def pU (C:List Nat→List UInt8→List Nat) (t0:List UInt8) (l:List CavV):List UInt8:=l.foldl (qW C) t0
theorem aHn [Gv] (C:List Nat→List UInt8→List Nat) (t0:List UInt8) (l:List CavV) (i:Nat) (h:i<l.length):pU C t0 (l.take (i+1))=qW C (pU C t0 (l.take i)) l[i]:=by
 unfold pU
 rw[List.take_add_one,List.getElem?_eq_getElem h,List.foldl_append]
 rfl
theorem sH [Gv] {C:List Nat→List UInt8→List Nat} (hC:COk C) (t0:List UInt8) (h0:t0.length=32) (l:List CavV):(pU C t0 l).length=32:=by
 induction l generalizing t0 with
 | nil=>exact h0
 | cons c l ih=>exact ih _ (fO hC _ _ _)
def pV (C:List Nat→List UInt8→List Nat) (t0:List UInt8) (l:List CavV) (i:Nat):List UInt8:=(List.range (i+1)).flatMap fun j=>pU C t0 (l.take j)
theorem wE [Gv] (C:List Nat→List UInt8→List Nat) (t0:List UInt8) (l:List CavV) (i:Nat):pV C t0 l (i+1)=pV C t0 l i++pU C t0 (l.take (i+1)):=by
 unfold pV
 rw[List.range_succ,List.flatMap_append]
 simp
theorem lW [Gv] {C:List Nat→List UInt8→List Nat} (hC:COk C) (t0:List UInt8) (h0:t0.length=32) (l:List CavV) (i:Nat):(pV C t0 l i).length=(i+1)*32:=by
 induction i with
 | zero=>simpa[pV] using sH hC t0 h0 (l.take 0)
 | succ i ih=>rw[wE,List.length_append,ih,sH hC t0 h0];omega
theorem aBj [Gv] {C:List Nat→List UInt8→List Nat} (hC:COk C) (t0:List UInt8) (h0:t0.length=32) (l:List CavV) (i:Nat):(pV C t0 l i).drop (i*32)=pU C t0 (l.take i):=by
 cases i with
 | zero=>simp[pV]
 | succ i=>
  rw[wE,List.drop_append_of_le_length (by rw[lW hC t0 h0];omega),List.drop_eq_nil_of_le (by rw[lW hC t0 h0];omega)]
  rfl
theorem aLP [Gv] {C:List Nat→List UInt8→List Nat} (hC:COk C) (key:List UInt8) (hk:key.length=32) (t:TokV) (p:Perm) (hs:small t) (hp:fG p=true) :
  ACalls Tryz.prog GP 72 [.agg (Bs key),.agg (TA t p)] [] (fun r os=>os=[]∧r=.sl (t.cavs.length+1) (Bs (pV C (lL C key t.key t.id) t.cavs t.cavs.length)) .no):=by
 have hoc:=gP t p
 have hlen:=eP t p hs.2.2.2.1
 obtain⟨g0,g1,g2,g3⟩:=sZ t p
 have cS:=aCY hC key hk t.key hs.2.2.2.2.1 t.id hs.1
 have hsl:(lL C key t.key t.id).length=32:=fO hC _ _ _
 generalize lL C key t.key t.id=t0 at *
 generalize hT:TA t p=T at *
 simp only[str] at g1 cS
 have hkt:key.take 32=key:=List.take_of_length_le (by omega)
 have hkl:(Bs key).length=32:=by rw[aX];omega
 have hbt:(Bs t0).length=32:=by rw[aX];omega
 have hCl:=mD t.cavs
 have ht1:pV C t0 t.cavs 0=t0:=by simp[pV,pU]
 refine ke Tryz.func72 Tryz.ntmps72 Tryz.results72 #[148] ?_
 refine kx [2,3,4] hoc ?_
 refine kw [] (kI (kI hkl hkt) (kI hlen (kI g1 g0))) fun K hK=>?_
 refine aV (by simp[aM,aH,aJ]) cS (by simp[aH,aJ]) ?_
 simp only[seval,kT,qC,hbt]
 rw[show (Z 32).drop 32=[] from List.drop_eq_nil_of_le (by rw[eZ];exact Nat.le_refl _),gV,List.append_nil]
 refine hK _ ?_
 clear hK K
 refine oA 32 5 rfl ?_
 refine kp [3,5] ?_
 refine aC fun K1 hK1=>?_
 refine aC fun K hK=>aA [] ?_
 simp only[qq,Nat.reduceAdd,aF,aN,Tryz.underlying67,bD,aB,Nat.reduceEqDiff,ne_eq,reduceCtorEq,Nat.reduceLT,aY,apart,aO,Tryz.underlying65,bI,bV,eN,cav,aG,aI,hlen,g2]
 (repeat' apply And.intro)<;>try (first|exact True.intro|omega)
 refine hK _ ?_
 clear hK K
 refine aE [5,16,17,18] ?_
 simp only[aD,aB,Nat.reduceEqDiff,if_true,if_false]
 rw[← ht1]
 refine bK ?_
 refine bZ (fun i:Nat=>⟨34,[(5,.sl (i+1) (Bs (pV C t0 t.cavs i)) (.tok 2)),(16,.sl t.cavs.length (CS t.cavs) p),(17,.val (.int .i64 (t.cavs.length:Int))),(18,.val (.int .i64 (i:Int)))],.cells (Bs key)::.cells T::.tok 32 (i+1)::dd i⟩)
  (fun i=>i≤t.cavs.length) (fun i=>t.cavs.length - i) 0 (by omega) (.of_keep [5,16,17,18] rfl) ?_
 intro i hi
 refine ky @jM ?_
 refine bJ ?_
 refine fB rfl rfl (fun hq=>?_) (fun hq=>?_)
 ·have hlt:i<t.cavs.length:=of_decide_eq_true hq
  apply bC
  simp only[seval,kT]
  refine aE [5,16,17,18] ?_
  simp only[aD,aB,Nat.reduceEqDiff,if_true,if_false]
  have hget:=aDO hlt (t.cavs[i])
  rw[List.getD_eq_getElem?_getD,List.getElem?_eq_getElem hlt] at hget
  simp only[Option.getD_some] at hget
  have hsm:=uP hs (List.getElem_mem hlt)
  have hmx:=hs.2.1
  have htl:=lW hC t0 hsl t.cavs i
  have htl1:=lW hC t0 hsl t.cavs (i+1)
  have hE1:=wE C t0 t.cavs i
  rw[aHn C t0 t.cavs i hlt] at hE1
  have hlast:=aBj hC t0 hsl t.cavs i
  have hal:=sH hC t0 hsl (t.cavs.take i)
  have cX:=aFF hC (pU C t0 (t.cavs.take i)) hal t.cavs[i] hsm
  have hnl:(qW C (pU C t0 (t.cavs.take i)) t.cavs[i]).length=32:=fO hC _ _ _
  generalize qW C (pU C t0 (t.cavs.take i)) t.cavs[i]=nx at *
  generalize pU C t0 (t.cavs.take i)=at' at *
  generalize hA1:pV C t0 t.cavs (i+1)=A1 at *
  generalize pV C t0 t.cavs i=A at *
  generalize t.cavs[i]=c at *
  have hco:=uA c
  have hcn:=mL c
  have hc5:(CA c).length=5:=rfl
  generalize CA c=cs at *
  have hct:cs.take 5=cs:=List.take_of_length_le (by omega)
  have hnb:(Bs nx).length=32:=by rw[aX];omega
  refine bJ ?_
  refine bK ?_
  refine aC fun K hK=>aA [] ?_
  simp only[qq,aF,Nat.reduceLT,aB,Nat.reduceEqDiff,dN,Tryz.underlying65,bD,hCl,Int.toNat_natCast,aY,apart,aO,Tryz.underlying74,dF,bS,iS,cav,bQ,bX,bB,spl,aG,aI,oR,Nat.reduceAdd,lU,List.length_drop,hget,hco,hc5,List.drop_nil]
  refine⟨⟨by omega,by omega⟩,by omega,hK _ ?_⟩
  clear hK K
  refine aE [5,6,7,16,17,18] ?_
  simp only[aD,aB,Nat.reduceEqDiff,if_true,if_false]
  have hat:at'.take 32=at':=List.take_of_length_le (by omega)
  have hz:(Z 32).drop 32=[]:=List.drop_eq_nil_of_le (by rw[eZ];exact Nat.le_refl _)
  refine dW [] (by kernel_rfl) (by kernel_rfl) ?_
  simp only[qq,aF,Nat.reduceLT,aB,Nat.reduceEqDiff,dN,Tryz.underlying148,bD,aX,htl,Int.toNat_natCast,eA,hlast,aY,apart,aO,Tryz.underlying23,oR,Tryz.underlying74,hct,aU,Nat.reduceAdd,bF,aT,bA,bW,List.headD_cons,List.tail_cons,aH,hal,eS,hat,aJ]
  refine⟨⟨by omega,by omega⟩,by omega,?_⟩
  refine aV hcn cX (by simp[aH,aJ]) ?_
  simp only[seval,kT,qC,hnb,hz,htl]
  refine⟨⟨by omega,by omega⟩,?_⟩
  simp only[seval,kT,kF]
  refine lT (i+3) ?_
  rw[← iD,← hE1]
  rw[List.set_cons_succ,List.set_cons_succ,List.set_cons_succ,lU,rN]
  refine aE [5,16,17,18] ?_
  simp only[aD,aB,Nat.reduceEqDiff,if_true,if_false]
  have h6:IntKind.i64.wrap ((i+1:Nat):Int)=((i+1:Nat):Int):=fD (by omega)
  refine ku [] (kI @gO h6) ?_
  subst hA1
  exact⟨i+1,by omega,by omega,.of_keep [5,16,17,18] rfl⟩
 ·have he:i=t.cavs.length:=by have:=of_decide_eq_false hq;omega
  subst he
  apply dR
  simp only[seval,kT,kF]
  refine hK1 _ ?_
  clear hK1 K1
  refine lH 5 rfl ?_
  refine aE [5] ?_
  simp only[aD,aB,Nat.reduceEqDiff,if_true,if_false]
  refine aC fun K hK=>aA [] ?_
  simp only[qq,aF,Nat.reduceLT,aB,Nat.reduceEqDiff,aG,aI]
  (repeat' apply And.intro)<;>try (first|exact True.intro|omega)
  refine hK _ ?_
  clear hK K
  refine aE [4] ?_
  simp only[aD,aB,Nat.reduceEqDiff,if_true,if_false]
  refine aS ?_
  simp only[qq,bR,eU,bN,bO,dA,aB,aJ,bW]
def fK:TokV:=⟨0,[],[],false,List.replicate 32 0⟩
theorem uT [Gv]:([.val (.int .u64 0),.val (.string ⟨#[]⟩),.sl 0 [] .full,.val (.bool false),.val (.int .u8 0),.val (.int .u8 0),.val (.int .u8 0),.val (.int .u8 0),.val (.int .u8 0),.val (.int .u8 0),.val (.int .u8 0),.val (.int .u8 0),.val (.int .u8 0),.val (.int .u8 0),.val (.int .u8 0),.val (.int .u8 0),.val (.int .u8 0),.val (.int .u8 0),.val (.int .u8 0),.val (.int .u8 0),.val (.int .u8 0),.val (.int .u8 0),.val (.int .u8 0),.val (.int .u8 0),.val (.int .u8 0),.val (.int .u8 0),.val (.int .u8 0),.val (.int .u8 0),.val (.int .u8 0),.val (.int .u8 0),.val (.int .u8 0),.val (.int .u8 0),.val (.int .u8 0),.val (.int .u8 0),.val (.int .u8 0),.val (.int .u8 0)]:List AV)=TA fK .full:=rfl
def gN (C:List Nat→List UInt8→List Nat) (key:List UInt8) (n:Nat) (id:List UInt8):TokV:=⟨n,id,[],false,lL C key n id⟩
theorem tU [Gv] {C:List Nat→List UInt8→List Nat} (hC:COk C) (key:List UInt8) (n:Nat) (hn:n<18446744073709551616) (id:List UInt8) (hi:id.length≤200000):small (gN C key n id):=by
 refine⟨hi,by simp[gN],by simp[gN],fO hC _ _ _,hn,by simp[gN]⟩
theorem aLM [Gv] {C:List Nat→List UInt8→List Nat} (hC:COk C) (key:List UInt8) (hk:key.length=32) (n:Nat) (hn:n<18446744073709551616) (id:List UInt8) (hi:id.length≤200000) :
  ACalls Tryz.prog GP 25 [.agg (Bs key),.val (.int .u64 (n:Int)),str id] [] (fun r os=>os=[]∧r=if okT (gN C key n id) then .tup [.agg (TA (gN C key n id) .full),.val (.int .i64 0)] else .tup [.agg (TA fK .full),.val (.int .i64 1)]):=by
 have cS:=aCY hC key hk n hn id hi
 have cK:=(rA (gN C key n id) .full (tU hC key n hn id hi) rfl).g (G:=GP)
 have hlT:=eP (gN C key n id) .full (fO hC _ _ _)
 have hoT:=gP (gN C key n id) .full
 have hnT:=fQ (gN C key n id) .full rfl
 have hT:TA (gN C key n id) .full=[.val (.int .u64 (n:Int)),str id,.sl 0 [] .full,.val (.bool false)]++Bs (lL C key n id):=rfl
 have hsl:(lL C key n id).length=32:=fO hC _ _ _
 have hz0:=uT
 have hlz:=eP fK .full (by simp[fK])
 have hoz:=gP fK .full
 have hzt:(TA fK .full).take 36=TA fK .full:=List.take_of_length_le (Nat.le_of_eq hlz)
 have hnz:=fQ fK .full rfl
 have hbs:(Bs (lL C key n id)).length=32:=by rw[aX];omega
 generalize okT (gN C key n id)=ok at *
 generalize lL C key n id=s0 at *
 generalize TA (gN C key n id) .full=T at *
 generalize TA fK .full=T0 at *
 simp only[str] at *
 have hkt:key.take 32=key:=List.take_of_length_le (by omega)
 have hTt:T.take 36=T:=List.take_of_length_le (by omega)
 have hTd:T.drop 36=[]:=List.drop_eq_nil_of_le (by omega)
 refine ke Tryz.func25 Tryz.ntmps25 Tryz.results25 #[67,37] ?_
 refine ks [1,2,3,6,7] ?_
 refine kw [] (kI hk hkt) fun K hK=>?_
 refine aV (by simp[aM,aH,aJ]) cS (by simp[aH,aJ]) ?_
 simp only[seval,kT,hbs]
 refine hK _ ?_
 clear hK K
 simp only[List.cons_append,List.nil_append] at hT
 rw[← hT]
 refine kp [6,7,8] ?_
 refine aC fun K1 hK1=>?_
 refine kw [] (kI hlT hTt) fun K hK=>?_
 refine aV hnT cK rfl ?_
 simp only[seval,kT]
 refine hK _ ?_
 clear hK K
 refine kp [6,7,8,9] ?_
 refine kq ?_
 cases ok with
 | true=>
  refine aR rfl (bC (hK1 _ ?_))
  clear hK1 K1
  refine kp [6,8] ?_
  refine kx [6,7] (kI hlT (kI hTt hoT)) ?_
  apply aS
  simp only[seval,kT,kF,hlT,hTt,hnT]
 | false=>
  apply bG rfl
  refine kp [6,9] ?_
  refine ks [6,7] ?_
  simp only[hz0]
  apply aS
  simp only[seval,kT,kF,hlz,hzt,hnz]
def gK (C:List Nat→List UInt8→List Nat) (t:TokV) (c:CavV):TokV:={ t with cavs:=t.cavs++[c],tag:=qW C t.tag c }
theorem aCE [Gv] (a b:List CavV):CS (a++b)=CS a++CS b:=List.flatMap_append
theorem aKV [Gv] (c:CavV):CS [c]=CA c:=by simp[CS]
theorem aNZ [Gv] {C:List Nat→List UInt8→List Nat} (hC:COk C) (t:TokV) (p:Perm) (hs:small t) (hp:fG p=true) (hb:t.bound=false) (c:CavV) (hc:zA c) (hs':small (gK C t c)) :
  ACalls Tryz.prog GP 26 [.agg (TA t p),.agg (CA c)] [] (fun r os=>os=[]∧r=if okT (gK C t c) then .tup [.agg (TA (gK C t c) .no),.val (.int .i64 0)] else .tup [.agg (TA fK .full),.val (.int .i64 1)]):=by
 have hoc:=gP t p
 have hlen:=eP t p hs.2.2.2.1
 have hnT:=fQ t p (by cases p<;>simp_all [fG])
 obtain⟨g0,g1,g2,g3⟩:=sZ t p
 rw[hb] at g3
 have g4:=aGR t p
 have cC:=(aJu t p hs hp).g (G:=GP)
 have cN:=aFF hC t.tag hs.2.2.2.1 c hc
 have cK:=(rA (gK C t c) .no hs' rfl).g (G:=GP)
 have hz0:=uT
 have hlz:=eP fK .full (by simp[fK])
 have hoz:=gP fK .full
 have hzt:(TA fK .full).take 36=TA fK .full:=List.take_of_length_le (Nat.le_of_eq hlz)
 have hnz:=fQ fK .full rfl
 have hco:=uA c
 have hcn:=mL c
 have hc5:(CA c).length=5:=rfl
 have hct:(CA c).take 5=CA c:=List.take_of_length_le (by omega)
 have hTt:(TA t p).take 36=TA t p:=List.take_of_length_le (by omega)
 have hr0:∀ σ,gH σ (TA t (.tok 0))=TA t (.tok (σ 0)):=fun σ=>aIZ σ t 0
 have hf0:∀ q:Nat→Bool,q 0=true→eV q (TA t (.tok 0))=true:=fun q h=>aIX q t 0 h
 have hfin:(TA (gK C t c) .no)=[.val (.int .u64 (t.key:Int)),str t.id,.sl (t.cavs.length+1) (CS t.cavs++CA c) .no,.val (.bool t.bound)]++Bs (qW C t.tag c):=by
  rw[← aKV c,← aCE]
  simp[TA,gK]
 have hnl:(qW C t.tag c).length=32:=fO hC _ _ _
 have hmid:∀ r,TA t (.tok r)=[.val (.int .u64 (t.key:Int)),str t.id,.sl t.cavs.length (CS t.cavs) (.tok r),.val (.bool t.bound)]++Bs t.tag:=fun r=>rfl
 have ht32:=hs.2.2.2.1
 generalize okT (gK C t c)=ok at *
 generalize TA fK .full=T0 at *
 refine ke Tryz.func26 Tryz.ntmps26 Tryz.results26 #[67,37] ?_
 refine kx [2,3,4,5] (kI hoc hco) ?_
 rw[hz0]
 refine aC fun K1 hK1=>?_
 refine ky (kI hlen g3) ?_
 refine aR rfl (bC (hK1 _ ?_))
 clear hK1 K1
 refine kp [2,3,4,5] ?_
 refine kw [1000012] (kI hlen hTt) fun K hK=>?_
 refine aIt [67] (C:=True∧True) (by simp[gT,nR,bM _ _ hnT,cY _ _ hnT]) ⟨trivial,trivial⟩ cC (hf0 _ rfl) ?_
 have hl3:=eP t (.tok 3) hs.2.2.2.1
 have ho3:=gP t (.tok 3)
 have hd3:∀ l:List AV,l.length=36→l.drop 36=[]:=fun l h=>List.drop_eq_nil_of_le (by omega)
 simp only[seval,kT,ren,hr0,ho3,hl3]
 refine hK _ ?_
 clear hK K
 refine aE [2,3,4,5,6] ?_
 simp only[aD,aB,Nat.reduceEqDiff,if_true,if_false]
 have g32:(TA t (.tok 3)).getD 2 .top=.sl t.cavs.length (CS t.cavs) (.tok 3):=rfl
 have hs4:∀ x,(TA t (.tok 3)).take 2++[x]++(TA t (.tok 3)).drop 3=[.val (.int .u64 (t.key:Int)),str t.id,x,.val (.bool t.bound)]++Bs t.tag:=fun x=>rfl
 have hCl:=mD t.cavs
 have hmx:=hs.2.1
 refine kw [] (kI (kI hc5 (kI hct @qC)) (kI (kI hco hl3) (kI g32 hCl))) fun K hK=>?_
 rw[hs4]
 refine⟨⟨by omega,by omega⟩,hK _ ?_⟩
 clear hK K
 refine aE [2,3,4,5,6] ?_
 simp only[aD,aB,Nat.reduceEqDiff,if_true,if_false]
 obtain⟨T4,hT4⟩:∃ T4:List AV,T4=[.val (.int .u64 (t.key:Int)),str t.id,.sl (t.cavs.length+1) (CS t.cavs++CA c) (.tok 3),.val (.bool t.bound)]++Bs t.tag:=⟨_,rfl⟩
 rw[← hT4]
 have hl4:T4.length=36:=by rw[hT4];simp[aX,ht32]
 have hs5:∀ x,T4.take 4++x++T4.drop 36=[.val (.int .u64 (t.key:Int)),str t.id,.sl (t.cavs.length+1) (CS t.cavs++CA c) (.tok 3),.val (.bool t.bound)]++x:=by
  intro x
  rw[hd3 _ hl4,hT4]
  simp
 have hbt:(Bs t.tag).take 32=Bs t.tag:=List.take_of_length_le (by rw[aX];omega)
 have htt:t.tag.take 32=t.tag:=List.take_of_length_le (by omega)
 have hbl:(Bs (qW C t.tag c)).length=32:=by rw[aX];omega
 have hbo:(Bs (qW C t.tag c)).all dC=true:=by
  rw[List.all_eq_true]
  intro x hx
  obtain⟨z,_,rfl⟩:=List.mem_map.1 hx
  rfl
 generalize qW C t.tag c=nx at *
 refine kw [] (kI (kI hc5 hct) (kI hlen (kI g4 hbt))) fun K hK=>?_
 refine aV (by simp[aH,hcn]) cN (by simp[aH,aJ]) ?_
 simp only[seval,kT,hbo,hbl,hl4]
 refine hK _ ?_
 clear hK K
 rw[hs5]
 refine aE [4,6] ?_
 simp only[aD,aB,Nat.reduceEqDiff,if_true,if_false]
 refine aLC ?_
 have hnp5:nps ([.val (.int .u64 (t.key:Int)),str t.id,.sl (t.cavs.length+1) (CS t.cavs++CA c) (.tok 3),.val (.bool t.bound)]++Bs nx)=TA (gK C t c) .no:=by
  rw[hfin,vZ,iG _ (aJ nx)]
  simp only[nps,np,str,bW,vZ,iG _ (gZ t.cavs),iG _ hcn]
 simp only[List.map_cons,List.map_nil,np,npO,iG _ hnT,iG _ hcn,iG _ hnz,hnp5]
 clear hs5 hT4 hnp5 hfin hl4 T4
 have hl6:=eP (gK C t c) .no hs'.2.2.2.1
 have ho6:=gP (gK C t c) .no
 have hn6:=fQ (gK C t c) .no rfl
 generalize TA (gK C t c) .no=T6 at *
 have ht6:T6.take 36=T6:=List.take_of_length_le (by omega)
 have hd6:T6.drop 36=[]:=List.drop_eq_nil_of_le (by omega)
 refine aC fun K1 hK1=>?_
 refine aC fun K hK=>aA [] ?_
 simp only[qq,aF,aY,aB,Nat.reduceEqDiff,apart,aO,Tryz.underlying67,bD,hl6,ht6,Nat.reduceLT,aU,Nat.reduceAdd,bF,aT,bA,bW,List.headD_cons,aH]
 refine aV hn6 cK rfl ?_
 simp only[seval,kT]
 refine hK _ ?_
 clear hK K
 refine kp [4,6,7] ?_
 refine kq ?_
 cases ok with
 | true=>
  refine aR rfl (bC (hK1 _ ?_))
  clear hK1 K1
  refine aE [4,6] ?_
  simp only[aD,aB,Nat.reduceEqDiff,if_true,if_false]
  refine aC fun K hK=>aA [] ?_
  simp only[seval,kT,hl6,ht6,hlz,ho6,hd3 _ hlz]
  refine hK _ ?_
  clear hK K
  refine kp [4,5] ?_
  apply aS
  simp only[seval,kT,kF,hl6,ht6,hn6]
 | false=>
  apply bG rfl
  refine kp [4,7] ?_
  refine aC fun K hK=>aA [] ?_
  simp only[seval,kT,hlz,hd3 _ hlz]
  refine hK _ ?_
  clear hK K
  refine kp [4,5] ?_
  simp only[hz0]
  apply aS
  simp only[seval,kT,kF,hlz,hzt,hnz]
def eO (s:List UInt8):CavV:=⟨false,s,0,[],[]⟩
theorem aNa [Gv] {C:List Nat→List UInt8→List Nat} (hC:COk C) (t:TokV) (p:Perm) (hs:small t) (hp:fG p=true) (hb:t.bound=false) (text:List UInt8) (ht:text.length≤200000) (hs':small (gK C t (eO text)))
  (PR:List AV) (hPl:PR.length=23) (hPo:PR.all dC=true) (hPn:aM PR=true) (hP:ACalls Tryz.prog GP 24 [str text] [] (fun r os=>os=[]∧r=.tup [.agg PR,.val (.bool true)])) :
  ACalls Tryz.prog GP 158 [.agg (TA t p),str text] [] (fun r os=>os=[]∧r=if okT (gK C t (eO text)) then .tup [.agg (TA (gK C t (eO text)) .no),.val (.int .i64 0)] else .tup [.agg (TA fK .full),.val (.int .i64 1)]):=by
 have hoc:=gP t p
 have hlen:=eP t p hs.2.2.2.1
 have hnT:=fQ t p (by cases p<;>simp_all [fG])
 have hTt:(TA t p).take 36=TA t p:=List.take_of_length_le (by omega)
 obtain⟨g0,g1,g2,g3⟩:=sZ t p
 rw[hb] at g3
 have cA:=aNZ hC t p hs hp hb (eO text) ⟨ht,by simp[eO],by simp[eO],by simp[eO]⟩ hs'
 have hca:CA (eO text)=[.val (.bool false),.val (.string ⟨text.toArray⟩),.val (.int .u64 0),.val (.string ⟨#[]⟩),.val (.string ⟨#[]⟩)]:=rfl
 rw[hca] at cA
 simp only[str] at *
 have hz0:=uT
 have hlz:=eP fK .full (by simp[fK])
 have hl6:=eP (gK C t (eO text)) .no hs'.2.2.2.1
 have ho6:=gP (gK C t (eO text)) .no
 have hn6:=fQ (gK C t (eO text)) .no rfl
 have hoz:=gP fK .full
 have hnz:=fQ fK .full rfl
 generalize okT (gK C t (eO text))=ok at *
 generalize TA (gK C t (eO text)) .no=T6 at *
 generalize TA t p=T at *
 generalize TA fK .full=T0 at *
 obtain⟨V,e,hV,cA',hVl,hVo,hVn⟩:∃ V e,(if ok then AV.tup [.agg T6,.val (.int .i64 0)] else .tup [.agg T0,.val (.int .i64 1)])=.tup [.agg V,.val (.int .i64 e)]∧ACalls Tryz.prog GP 26 [.agg T,.agg [.val (.bool false),.val (.string ⟨text.toArray⟩),.val (.int .u64 0),.val (.string ⟨#[]⟩),.val (.string ⟨#[]⟩)]] [] (fun r os=>os=[]∧r=.tup [.agg V,.val (.int .i64 e)])∧V.length=36∧V.all dC=true∧aM V=true:=by
  cases ok with
  | true=>exact⟨T6,0,rfl,cA,hl6,ho6,hn6⟩
  | false=>exact⟨T0,1,rfl,cA,hlz,hoz,hnz⟩
 rw[hV]
 clear cA hV
 have hVt:V.take 36=V:=List.take_of_length_le (by omega)
 have hd3:∀ l:List AV,l.length=36→l.drop 36=[]:=fun l h=>List.drop_eq_nil_of_le (by omega)
 refine ke Tryz.func158 Tryz.ntmps158 Tryz.results158 #[67,37] ?_
 refine kx [1,2,4,5] hoc ?_
 rw[hz0]
 refine aC fun K1 hK1=>?_
 refine kr [] fun K hK=>?_
 refine aV trivial hP (by simp[aH,aM,hPn]) ?_
 simp only[seval,kT,hPo,hPl]
 refine hK _ ?_
 clear hK K
 refine kp [1,2,4,5,7] ?_
 refine kq ?_
 refine aR rfl (bC (hK1 _ ?_))
 clear hK1 K1
 refine kp [1,2,4,5] ?_
 refine kw [] (kI hlen hTt) fun K hK=>?_
 refine aV (by simp[aM,aH,hnT]) cA' (by simp[aH,aM,hVn]) ?_
 simp only[seval,kT,hlz,hVo,hVl,hd3 _ hlz]
 refine hK _ ?_
 clear hK K
 refine kp [4,5] ?_
 apply aS
 simp only[seval,kT,kF,hVl,hVt,hVn]
def BA (t:TokV) (p:Perm):List AV:=TA t p++[.sl 0 [] .full]
theorem fV [Gv] (t:TokV) (p:Perm) (ht:t.tag.length=32):(BA t p).length=37:=by rw[BA,List.length_append,eP t p ht];rfl
theorem kG [Gv] (t:TokV) (p:Perm):(BA t p).all dC=true:=by rw[BA,List.all_append,gP];rfl
theorem iF [Gv] (t:TokV) (p:Perm) (hp:fG p=true):aM (BA t p)=true:=by
 rw[BA,dK,fQ t p (by cases p<;>simp_all [fG])]
 rfl
theorem aDN [Gv] (t:TokV) (p:Perm) (ht:t.tag.length=32):(BA t p).take 36=TA t p:=by rw[BA,← eP t p ht,List.take_left]
theorem aHx [Gv] (t:TokV) (p:Perm) (ht:t.tag.length=32):(BA t p).getD 36 .top=.sl 0 [] .full:=by
 rw[BA,List.getD_eq_getElem?_getD,List.getElem?_append_right (by rw[eP t p ht];omega),eP t p ht]
 rfl
theorem aKU [Gv] (t:TokV) (p:Perm):(BA t p).getD 3 .top=.val (.bool t.bound):=rfl
theorem aNA [Gv] (t:TokV) (p:Perm):(BA t p).getD 2 .top=.sl t.cavs.length (CS t.cavs) p:=rfl
theorem aOu [Gv] (t:TokV) (p:Perm):(BA t p).getD 0 .top=.val (.int .u64 (t.key:Int)):=rfl
theorem aOv [Gv] (t:TokV) (p:Perm) (ht:t.tag.length=32):((BA t p).drop 4).take 32=Bs t.tag:=by
 rw[BA,List.drop_append_of_le_length (by rw[eP t p ht];omega),aGR,List.take_append_of_le_length (by rw[aX];omega),List.take_of_length_le (by rw[aX];omega)]
theorem aLH [Gv] (t:TokV) (p q:Perm) (hs:small t) (hp:fG p=true) :
  ACalls Tryz.prog G0 29 [.agg (TA t p),.sl 0 [] q] [] (fun r os=>os=[]∧r=.agg (BA t .no)):=by
 have hoc:=gP t p
 have hlen:=eP t p hs.2.2.2.1
 have hTt:(TA t p).take 36=TA t p:=List.take_of_length_le (by omega)
 have hnT:=fQ t p (by cases p<;>simp_all [fG])
 have cC:=aMV t p hs hp
 have hlB:=fV t .no hs.2.2.2.1
 have hoB:=kG t .no
 have hnB:=iF t .no rfl
 have hB:BA t .no=TA t .no++[.sl 0 [] .full]:=rfl
 have hl2:=eP t .no hs.2.2.2.1
 have ho2:=gP t .no
 have hn2:=fQ t .no rfl
 have hBt:(BA t .no).take 37=BA t .no:=List.take_of_length_le (by omega)
 have hBd:(BA t .no).drop 37=[]:=List.drop_eq_nil_of_le (by omega)
 generalize TA t p=T at *
 generalize BA t .no=Bd at *
 generalize TA t .no=T2 at *
 refine ke Tryz.func29 Tryz.ntmps29 Tryz.results29 #[70] ?_
 refine kx [1,2,4] hoc ?_
 refine kw [] (kI hlen hTt) fun K hK=>?_
 refine aV hnT cC (by simp[aH,hn2]) ?_
 simp only[seval,kT,hl2,ho2]
 simp only[← hB]
 simp only[seval,kT,hoB,hlB]
 refine hK _ ?_
 clear hK K
 refine kp [1,4,5] ?_
 refine aC fun K1 hK1=>?_
 refine aC fun K hK=>aA [] ?_
 simp only[qq,aF,Nat.reduceLT,aB,Nat.reduceEqDiff,bI,bV,eN,Tryz.underlying68,Int.cast_ofNat_Int,cav,aG,aI]
 (repeat' apply And.intro)<;>try (first|exact True.intro|omega)
 refine hK _ ?_
 clear hK K
 refine aE [4,5,12,13] ?_
 simp only[aD,aB,Nat.reduceEqDiff,if_true,if_false]
 refine bK ?_
 refine bZ (fun _:Unit=>_) (fun _=>True) (fun _=>0) () trivial (.refl _) ?_
 intro _ _
 refine ky (kI @Int.lt_irrefl @decide_false) ?_
 apply bJ
 apply aR rfl
 apply dR
 simp only[seval,kT,kF]
 refine hK1 _ ?_
 clear hK1 K1
 refine kp [4,5] ?_
 refine kx [4] (kI hlB (kI hBt hoB)) ?_
 apply aS
 simp only[seval,kT,kF,hlB,hBt,hnB]
theorem uF [Gv] (t:TokV) (p:Perm) (hs:small t) (hp:fG p=true) (hb:t.bound=false) :
  ACalls Tryz.prog G0 48 [.agg (BA t p)] [] (fun r os=>os=[]∧r=.val (.int .i64 (if okT t then 0 else 1))):=by
 have hoc:=kG t p
 have hlen:=fV t p hs.2.2.2.1
 have g3:=aKU t p
 rw[hb] at g3
 have g36:=aHx t p hs.2.2.2.1
 have htk:=aDN t p hs.2.2.2.1
 have cK:=rA t p hs (by cases p<;>simp_all [fG])
 have hnT:=fQ t p (by cases p<;>simp_all [fG])
 generalize BA t p=Bd at *
 generalize TA t p=T at *
 generalize okT t=ok at *
 refine ke Tryz.func48 Tryz.ntmps48 Tryz.results48 #[37] ?_
 refine kx [1] hoc ?_
 refine aC fun K1 hK1=>?_
 refine aC fun K hK=>aA [] ?_
 simp only[qq,aF,aN,Tryz.underlying70,bD,aB,ne_eq,reduceCtorEq,Nat.reduceLT,Tryz.underlying67,Nat.reduceEqDiff,aY,apart,aO,Tryz.underlying4,hlen,g3,dD,bT,Option.bind_some,aW,Bool.not_false,dQ,gok,Tryz.underlying68,bI,bV,eN,cav,aL,bU,g36,Int.cast_ofNat_Int,aP,bH,Int.reduceGT,decide_false,aU,Nat.reduceAdd,bF,aT,bA,bW,List.headD_cons,Nat.reduceLeDiff,htk,aH]
 refine aV hnT cK rfl ?_
 simp only[seval,kT]
 refine hK _ ?_
 clear hK K
 refine kp [1,19] ?_
 cases ok with
 | false=>
  apply bG rfl
  refine aE [1] ?_
  simp only[aD,aB,Nat.reduceEqDiff,if_true,if_false]
  refine ks [2] ?_
  apply aS
  exact⟨_,_,rfl,⟨rfl,trivial⟩,rfl,rfl⟩
 | true=>
  refine aR rfl (bC (hK1 _ ?_))
  clear hK1 K1
  refine aE [1] ?_
  simp only[aD,aB,Nat.reduceEqDiff,if_true,if_false]
  refine aC fun K1 hK1=>?_
  refine aC fun K hK=>aA [] ?_
  simp only[qq,aF,aN,Tryz.underlying70,bD,aB,ne_eq,reduceCtorEq,Nat.reduceLT,aY,Nat.reduceEqDiff,apart,aO,Tryz.underlying68,bI,bV,eN,cav,aG,aI,hlen,g36,Int.cast_ofNat_Int]
  (repeat' apply And.intro)<;>try (first|exact True.intro|omega)
  refine hK _ ?_
  clear hK K
  refine aE [21,22,23] ?_
  simp only[aD,aB,Nat.reduceEqDiff,if_true,if_false]
  refine bK ?_
  refine bZ (fun _:Unit=>_) (fun _=>True) (fun _=>0) () trivial (.refl _) ?_
  intro _ _
  refine ky (kI @Int.lt_irrefl @decide_false) ?_
  apply bJ
  apply aR rfl
  apply dR
  simp only[seval,kT,kF]
  refine hK1 _ ?_
  clear hK1 K1
  refine kp [21] ?_
  refine ks [2] ?_
  apply aS
  exact⟨_,_,rfl,⟨rfl,trivial⟩,rfl,rfl⟩
def gM (t:TokV):List UInt8:=V.join [(16,oS t)]
theorem aAy [Gv] (t:TokV) (p:Perm) (hs:small t) (hp:fG p=true) (hb:t.bound=false) (hok:okT t=true) (hl:(gM t).length≤65536) :
  ACalls Tryz.prog G0 20 [.agg (BA t p)] [] (fun r os=>os=[]∧r=.tup [.sl (gM t).length (Bs (gM t)) .no,.val (.int .i64 0)]):=by
 have hoc:=kG t p
 have hlen:=fV t p hs.2.2.2.1
 have hnB:=iF t p hp
 have hBt:(BA t p).take 37=BA t p:=List.take_of_length_le (by omega)
 have g36:=aHx t p hs.2.2.2.1
 have htk:=aDN t p hs.2.2.2.1
 have hnT:=fQ t p (by cases p<;>simp_all [fG])
 have cK:=uF t p hs hp hb
 have cE:=aHV t p hs (by cases p<;>simp_all [fG])
 simp only[hok,if_true] at cK cE
 have hle:(oS t).length+1≤(gM t).length:=by simp[gM,V.join,fby]
 have cJ:=xC [(16,oS t)] .full (by simp[kK];omega)
 rw[show V.join [(16,oS t)]=gM t from rfl] at cJ
 generalize oS t=e at *
 generalize gM t=eB at *
 simp only[Fs,FA,List.flatMap_cons,List.flatMap_nil,List.append_nil,List.cons_append,List.nil_append,B,UInt8.reduceToNat,Int.cast_ofNat_Int,List.length_cons,List.length_nil,Nat.reduceAdd] at cJ
 generalize BA t p=Bd at *
 generalize TA t p=T at *
 refine ke Tryz.func20 Tryz.ntmps20 Tryz.results20 #[54,37] ?_
 refine kx [1,2,3] hoc ?_
 refine aC fun K1 hK1=>?_
 refine kw [] (kI hlen hBt) fun K hK=>?_
 refine aV hnB cK rfl ?_
 simp only[seval,kT]
 refine hK _ ?_
 clear hK K
 refine kp [1,4] ?_
 refine kq ?_
 refine aR rfl (bC (hK1 _ ?_))
 clear hK1 K1
 refine aE [1] ?_
 simp only[aD,aB,Nat.reduceEqDiff,if_true,if_false]
 refine kw [] (kI hlen htk) fun K hK=>?_
 refine aV hnT cE (by simp[aH,aM,aJ]) ?_
 simp only[seval,kT]
 refine hK _ ?_
 clear hK K
 refine kp [1,5] ?_
 refine kw [] @qC fun K hK=>?_
 refine aV (by simp[aM,aH]) cJ (by simp[aH,aJ]) ?_
 simp only[seval,kT]
 refine hK _ ?_
 clear hK K
 refine kp [1,7] ?_
 refine aC fun K1 hK1=>?_
 refine aC fun K hK=>aA [] ?_
 simp only[qq,aF,aN,Tryz.underlying70,bD,aB,Nat.reduceEqDiff,ne_eq,reduceCtorEq,Nat.reduceLT,aY,apart,aO,Tryz.underlying68,bI,bV,eN,cav,aG,aI,hlen,g36,Int.cast_ofNat_Int]
 (repeat' apply And.intro)<;>try (first|exact True.intro|omega)
 refine hK _ ?_
 clear hK K
 refine aE [7,29,30,31] ?_
 simp only[aD,aB,Nat.reduceEqDiff,if_true,if_false]
 refine bK ?_
 refine bZ (fun _:Unit=>_) (fun _=>True) (fun _=>0) () trivial (.refl _) ?_
 intro _ _
 refine ky (kI @Int.lt_irrefl @decide_false) ?_
 apply bJ
 apply aR rfl
 apply dR
 simp only[seval,kT,kF]
 refine hK1 _ ?_
 clear hK1 K1
 refine aE [7] ?_
 simp only[aD,aB,Nat.reduceEqDiff,if_true,if_false]
 refine aC fun K1 hK1=>?_
 refine aC fun K hK=>aA [] ?_
 simp only[qq,aF,Nat.reduceLT,aB,bI,Nat.reduceEqDiff,bV,eN,Tryz.underlying54,cav,aL,aG,aI,aP,bH,yM]
 (repeat' apply And.intro)<;>try (first|exact True.intro|omega)
 refine hK _ ?_
 clear hK K
 refine aR (by simp only[aB,lk];simp;omega) (bC (hK1 _ ?_))
 clear hK1 K1
 refine aE [7] ?_
 simp only[aD,aB,Nat.reduceEqDiff,if_true,if_false]
 refine ks [2,3] ?_
 apply aS
 simp only[seval,kT,kF]
def aNV:Option (List eK)→AV
 | none=>.tup [.sl 0 [] .full,.val (.bool false)]
 | some l=>.tup [.sl l.length (Fs l) .no,.val (.bool true)]
theorem aII (b:List UInt8) (hb:b.length≤1048576):ACalls Tryz.prog G0 102 [.sl b.length (Bs b) .no] [] (fun r os=>os=[]∧r=aNV (mB b)):=by
 obtain⟨fs,hu,hs⟩:∃ fs,Tryz.prog.underlying 124=some (.struct fs)∧uO Tryz.prog fs=some [(0,1),(1,1)]:=⟨_,Tryz.underlying124,by kernel_rfl⟩
 refine ke Tryz.func102 Tryz.ntmps102 Tryz.results102 #[186,4] ?_
 refine kq ?_
 refine ks [0,4] ?_
 refine oA 2 4 rfl ?_
 refine aC fun K1 hK1=>?_
 apply bK
 refine bZ (fun x:List UInt8×List eK×Nat=>⟨27,[(0,.sl x.1.length (Bs x.1) .no),(4,.sl x.2.1.length (Fs x.2.1) (.tok 0))],.tok 2 x.2.1.length::dd x.2.2⟩)
  (fun x=>x.1.length+x.2.1.length≤1048576∧mB b=(mB x.1).map (x.2.1 ++ ·)) (fun x=>x.1.length) (b,[],0) ⟨by simpa using hb,by cases mB b<;>simp⟩ (.of_keep [0,4] (by exact rfl)) ?_
 rintro⟨r,out,d⟩ ⟨hlen,hall⟩
 simp only at hlen hall
 refine aC fun K2 hK2=>?_
 refine aC fun K hK=>aA [] ?_
 simp only[qq,aF,Nat.reduceLT,aB,reduceCtorEq,bI,Nat.reduceEqDiff,bV,eN,Tryz.underlying54,cav,aL,aG,aI,aP,bH,yM]
 refine hK _ ?_
 clear hK K
 by_cases hr0:r.length=0
 ·refine aR (by simp only[aB,lk];simp[hr0]) ?_
  apply dR
  simp only[seval,kT,kF]
  refine hK1 _ ?_
  clear hK1 K1 hK2 K2
  rw[aCN hr0] at hall
  have hall':mB b=some out:=by rw[hall];simp
  rw[hall']
  refine kp [4] ?_
  refine kq ?_
  apply aS
  simp only[qq,bR,eU,bN,bO,dA,aB,Nat.reduceEqDiff,qX,bW,aH]
  rfl
 refine bG (by simp only[aB,lk];simp;omega) (bC (hK2 _ ?_))
 clear hK2 K2
 refine kp [0,4] ?_
 have cG:=aNj r (by omega)
 have ha9:aH (aNq (yQ r))=true:=by
  cases yQ r with
  | none=>rfl
  | some x=>rfl
 apply bK
 cases hg:yQ r with
 | none=>
  rw[hg] at cG
  simp only[aNq] at cG
  refine kr [] fun K hK=>?_
  refine aV (by simp[aJ]) cG rfl ?_
  simp only[seval,kT,iS,oR,lU,wH,lM]
  refine hK _ ?_
  clear hK K
  rw[aGf hr0 hg] at hall
  have hall':mB b=none:=by rw[hall];rfl
  rw[hall']
  refine kp [7] ?_
  refine aC fun K3 hK3=>?_
  refine kq ?_
  apply bG rfl
  refine kq ?_
  apply aS
  simp only[seval,kT,kF]
  rfl
 | some x=>
  obtain⟨f,k⟩:=x
  have hk:=yR hg
  rw[hg] at cG
  simp only[aNq] at cG
  refine kr [] fun K hK=>?_
  refine aV (by simp[aJ]) cG rfl ?_
  simp only[seval,kT,iS,oR,lU,wH,lM]
  refine hK _ ?_
  clear hK K
  refine kp [0,4,5,6,7] ?_
  refine aC fun K3 hK3=>?_
  refine kq ?_
  refine aR rfl (bC (hK3 _ ?_))
  clear hK3 K3
  refine kp [0,4,5,6] ?_
  have hzr:kZ [Value.int IntKind.u8 0,Value.string ⟨#[]⟩] 1=[AV.val (.int .u8 0),AV.val (.string ⟨#[]⟩)]:=rfl
  have hfo:(Fs out).length=out.length*2:=qE out
  have hob:out.length+1≤1048576:=by omega
  refine kw [] (kI (kI @oR (kI hu @lM)) (kI (kI @aDQ hzr) (kI hfo @wH))) fun K hK=>?_
  refine⟨⟨by omega,by omega⟩,hK _ ?_⟩
  clear hK K
  refine lT (d+1) ?_
  rw[List.set_cons_succ,lU,rN,show Fs out++FA f=Fs (out++[f]) by rw[aIk,aOw],show out.length+1=(out++[f]).length by simp]
  refine kp [0,4,6] ?_
  have e1:((r.length:Int) - (k:Int)).toNat=(r.drop k).length:=by rw[List.length_drop];omega
  have e2:(r.drop k).take (r.length - k)=r.drop k:=List.take_of_length_le (by rw[List.length_drop];exact Nat.le_refl _)
  refine ku [] (kI e1 e2) ?_
  refine⟨by omega,?_⟩
  simp only[seval,kT,kF]
  refine⟨(r.drop k,out++[f],d+1),⟨?_,?_⟩,?_,?_⟩
  ·simp only[List.length_drop,List.length_append,List.length_cons,List.length_nil];omega
  ·rw[hall,aAl hg]
   cases mB (r.drop k)<;>simp
  ·simp only[List.length_drop];omega
  ·rw[show r.length - k=(r.drop k).length by rw[List.length_drop]]
   exact .of_keep [0,4] rfl
theorem aQa (b:List UInt8) (p:Perm):ACalls Tryz.prog G0 170 [.sl b.length (Bs b) p] [] (fun r os=>os=[]∧r=.tup [.agg (Bs (if b.length=32 then b else Z 32)),.val (.bool (decide (b.length=32)))]):=by
 refine ke Tryz.func170 Tryz.ntmps170 Tryz.results170 #[23,4] ?_
 refine kq ?_
 refine aC fun K1 hK1=>?_
 refine aC fun K hK=>aA [] ?_
 simp only[qq,aF,Nat.reduceLT,aB,reduceCtorEq,bI,Nat.reduceEqDiff,bV,eN,Tryz.underlying54,cav,aL,aG,aI,aP,bH,aLR]
 refine hK _ ?_
 clear hK K
 refine fB rfl rfl (fun h=>?_) (fun h=>?_)
 ·have hne:b.length≠32:=by simpa using h
  refine kp [2] ?_
  refine kq ?_
  refine aS ?_
  simp only[seval,kT,kF]
  rw[if_neg hne,decide_eq_false hne]
  have e:List.take 32 (Bs (Z 32)++Bs (List.drop 32 (Z 32)))=Bs (Z 32):=rfl
  rw[e]
  simp[aJ,aX,eZ]
 have hl:b.length=32:=by simpa using h
 refine bC (hK1 _ ?_)
 clear hK1 K1
 refine aE [0,2] ?_
 simp only[aD,aB,Nat.reduceEqDiff,if_true,if_false]
 have ht:List.take 32 b=b:=List.take_of_length_le (by omega)
 refine aC fun K hK=>aA [] ?_
 simp only[qq,hl,aF,Nat.reduceLT,aB,reduceCtorEq,qI,Tryz.underlying23,Nat.reduceEqDiff,aX,aY,apart,aO,bD,bQ,bX,bB,eZ,spl,eA,cav,aG,aI,eS,ht,eR]
 (repeat' apply And.intro)<;>try (first|exact True.intro|omega)
 refine hK _ ?_
 clear hK K
 have hd:List.drop 32 (Z 32)=[]:=rfl
 refine aS ?_
 simp only[seval,kT,kF,hl,hd,ht]
 simp
def uH (c:CavV):List eK:=if c.third then [(4,vb c.party),(5,c.id),(6,c.vault)] else [(3,c.text)]
def mT (t:TokV):List eK:=[(1,vb t.key),(2,t.id)]++t.cavs.flatMap uH++[(7,[if t.bound then 1 else 0]),(8,t.tag)]
theorem aEH [Gv] (c:CavV):V.join (uH c)=kU c:=by unfold uH kU;split<;>rfl
theorem aJX [Gv] (l:List CavV):V.join (l.flatMap uH)=l.flatMap kU:=by
 induction l with
 | nil=>rfl
 | cons c l ih=>rw[List.flatMap_cons,List.flatMap_cons,V.nF,ih,aEH]
theorem xG [Gv] (t:TokV):V.join (mT t)=oS t:=by unfold mT oS;rw[V.nF,V.nF,aJX]
def RD (l:List eK) (b:Bool):List AV:=[.sl l.length (Fs l) .no,.val (.bool b)]
theorem qX [Gv] (l:List eK):aM (Fs l)=true:=by
 induction l with
 | nil=>rfl
 | cons f l ih=>rw[show Fs (f::l)=FA f++Fs l from rfl,dK,yU,ih];rfl
theorem mM [Gv] (l:List eK) (b:Bool):aM (RD l b)=true:=by simp[RD,aM,aH,qX]
def tH (l:List eK) (k:UInt8):Bool:=match l with
 | []=>false
 | f::_=>f.1 == k
theorem aIM [Gv] (l:List eK) (b:Bool) (k:UInt8):ACalls Tryz.prog G0 217 [.ptr 0 0,.val (.int .u8 (k.toNat:Int))] [.cells (RD l b)] (fun r os=>os=[.cells (RD l b)]∧r=.val (.bool (tH l k))):=by
 have hR:RD l b=[.sl l.length (Fs l) .no,.val (.bool b)]:=rfl
 have hnR:=mM l b
 rw[hR] at *
 cases l with
 | nil=>
  refine dB Tryz.func217 rfl rfl Tryz.ntmps217 (rts:=#[4]) rfl Tryz.results217 (by simp) ?_
  simp only[seval,aZ]
  refine ks [0,1] ?_
  refine aC fun K hK=>aA [] ?_
  simp only[qq,aF,Nat.reduceLT,aB,reduceCtorEq,fY,Nat.reduceEqDiff,aN,Tryz.underlying251,bD,ne_eq,aY,apart,aO,Tryz.underlying186,bI,bV,eN,cav,aL,Nat.reduceAdd,Nat.zero_lt_succ,Int.cast_ofNat_Int,aP,bH,Int.lt_irrefl,decide_false,dD,bT,Option.bind_some,aW,Bool.not_true,eW,gok,bU,aG,aI]
  (repeat' apply And.intro)<;>try (first|exact True.intro|omega)
  refine hK _ ?_
  clear hK K
  refine aE [4] ?_
  simp only[aD,aB,Nat.reduceEqDiff,if_true,if_false]
  refine aS ?_
  refine sW _ rfl hnR ?_
  simp only[seval,kT,kN]
  rfl
 | cons f l=>
  obtain⟨k',v⟩:=f
  have hF:Fs ((k',v)::l)=.val (.int .u8 (k'.toNat:Int))::.val (.string ⟨v.toArray⟩)::Fs l:=rfl
  have hFl:(Fs l).length=l.length*2:=qE l
  rw[hF] at *
  refine dB Tryz.func217 rfl rfl Tryz.ntmps217 (rts:=#[4]) rfl Tryz.results217 (by simp) ?_
  simp only[seval,aZ]
  refine ks [0,1] ?_
  refine aC fun K hK=>aA [] ?_
  simp only[qq,aF,Nat.reduceLT,aB,reduceCtorEq,fY,Nat.reduceEqDiff,aN,Tryz.underlying251,bD,ne_eq,aY,apart,aO,Tryz.underlying186,bI,bV,eN,cav,aL,Nat.reduceAdd,Nat.zero_lt_succ,aP,bH,yM,decide_true,dD,bT,Option.bind_some,aW,dQ,gok,dN,Int.le_refl,Int.toNat_zero,Nat.zero_mul,Tryz.underlying124,Tryz.underlying5,bU,aG,aI,hFl,Nat.reduceLeDiff,aOj]
  refine⟨⟨by omega,by omega⟩,hK _ ?_⟩
  clear hK K
  refine kp [0,4] ?_
  refine aS ?_
  refine sW _ rfl hnR ?_
  simp only[seval,kT,kN]
  have hk:((k'.toNat == k.toNat):Bool)=(k' == k):=by
   rw[Bool.eq_iff_iff]
   simp only[beq_iff_eq]
   exact⟨fun h=>UInt8.toNat_inj.1 h,fun h=>by rw[h]⟩
  simp[tH,hk]
theorem xW [Gv] (l:List eK) (b:Bool) (k:UInt8) (v:List UInt8) (hl:l.length≤1000000000):ACalls Tryz.prog G0 168 [.ptr 0 0,.val (.int .u8 (k.toNat:Int))] [.cells (RD ((k,v)::l) b)] (fun r os=>os=[.cells (RD l b)]∧r=str v):=by
 have cI:=aIM ((k,v)::l) b k
 have hnR:=mM ((k,v)::l) b
 have hnR':=mM l b
 have hR:RD ((k,v)::l) b=[.sl (l.length+1) (.val (.int .u8 (k.toNat:Int))::.val (.string ⟨v.toArray⟩)::Fs l) .no,.val (.bool b)]:=rfl
 have hR':RD l b=[.sl l.length (Fs l) .no,.val (.bool b)]:=rfl
 have hFl:(Fs l).length=l.length*2:=qE l
 have hFt:(Fs l).take (l.length*2)=Fs l:=List.take_of_length_le (by omega)
 have hnF:=qX l
 rw[show tH ((k,v)::l) k=true by simp[tH]] at cI
 refine dB Tryz.func168 rfl rfl Tryz.ntmps168 (rts:=#[9]) rfl Tryz.results168 (by simp) ?_
 simp only[seval,aZ]
 refine ks [0,1] ?_
 refine aC fun K1 hK1=>?_
 refine kr [1000008] fun K hK=>?_
 refine gR (v':=.val (.bool true)) 0 (.cells (RD ((k,v)::l) b)) rfl (by simpa[eH] using hnR) (by simp[fH,iV,aH]) cI (by simp[eH,hnR]) (by simp[iL,aH]) ?_
 simp only[seval,kT]
 refine hK _ ?_
 clear hK K
 refine aR rfl (bC (hK1 _ ?_))
 clear hK1 K1
 refine kp [0] ?_
 rw[hR]
 refine aC fun K hK=>aA [] ?_
 simp only[qq,aF,Nat.reduceLT,aB,fY,reduceCtorEq,aN,Tryz.underlying251,bD,Nat.reduceEqDiff,ne_eq,aY,apart,aO,Tryz.underlying186,dN,cav,Int.le_refl,Int.toNat_zero,Nat.zero_mul,Tryz.underlying124,Tryz.underlying9,aG,aI,Nat.reduceAdd,Nat.zero_lt_succ,hFl,Nat.reduceLeDiff]
 refine⟨⟨by omega,by omega⟩,hK _ ?_⟩
 clear hK K
 refine kp [0,5] ?_
 have e1:((((l.length+1:Nat):Int) - 1).toNat)=l.length:=by omega
 refine kw [] (kI (kI @Nat.zero_lt_succ hFl) (kI e1 hFt)) fun K hK=>?_
 refine⟨⟨by omega,by omega⟩,hK _ ?_⟩
 clear hK K
 refine kp [0,5] ?_
 refine aC fun K hK=>aA [] ?_
 simp only[qq,aF,Nat.reduceLT,aB,reduceCtorEq,Nat.reduceEqDiff,aG,aI]
 (repeat' apply And.intro)<;>try (first|exact True.intro|omega)
 refine hK _ ?_
 clear hK K
 refine aE [0,4] ?_
 simp only[aD,aB,Nat.reduceEqDiff,if_true,if_false]
 rw[hR'] at hnR'
 refine aS ?_
 refine sW _ rfl hnR' ?_
 simp only[seval,kT,kN]
 exact⟨rfl,rfl⟩
theorem aHZ [Gv] (l:List eK) (k:UInt8) (n:Nat) (hn:n<18446744073709551616) (hl:l.length≤1000000000):ACalls Tryz.prog G0 167 [.ptr 0 0,.val (.int .u8 (k.toNat:Int))] [.cells (RD ((k,vb n)::l) false)] (fun r os=>os=[.cells (RD l false)]∧r=.val (.int .u64 (n:Int))):=by
 have cT:=xW l false k (vb n) hl
 have hG:=aQK [] hn
 rw[List.append_nil] at hG
 have h10:=jI hn
 have hne:=List.length_pos_iff.2 (aBp n)
 have cG:=aIg (vb n) .no (by omega)
 rw[hG,aId] at cG
 have hnR:=mM ((k,vb n)::l) false
 have hnR':=mM l false
 have hR':RD l false=[.sl l.length (Fs l) .no,.val (.bool false)]:=rfl
 generalize vb n=v at *
 simp only[str] at cT
 refine dB Tryz.func167 rfl rfl Tryz.ntmps167 (rts:=#[30]) rfl Tryz.results167 (by simp) ?_
 simp only[seval,aZ]
 refine ks [0,1] ?_
 refine kr [1000010] fun K hK=>?_
 refine gR (v':=.val (.string ⟨v.toArray⟩)) 0 (.cells (RD ((k,v)::l) false)) rfl (by simpa[eH] using hnR) (by simp[fH,iV,aH]) cT (by simp[eH,hnR']) (by simp[iL,aH]) ?_
 simp only[seval,kT]
 refine hK _ ?_
 clear hK K
 refine kp [0,5] ?_
 refine kr [] fun K hK=>?_
 refine kc (cG) (hK _ ?_)
 clear hK K
 refine kp [0,5,6,7] ?_
 have d1:((v.length:Int) == 0)=false:=by rw[beq_eq_false_iff_ne];omega
 have d2:((v.length:Int) != (v.length:Int))=false:=by simp
 rw[hR'] at *
 refine aC fun K hK=>aA [] ?_
 simp only[qq,aF,Nat.reduceLT,aB,reduceCtorEq,fY,Nat.reduceEqDiff,aN,Tryz.underlying251,bD,ne_eq,aY,apart,aO,Tryz.underlying4,Nat.reduceAdd,List.getD_cons_succ,dD,bT,Option.bind_some,aW,Bool.not_false,dQ,gok,cav,aL,aP,bH,d1,bU,bI,bV,eN,Tryz.underlying54,bQ,bX,bB,spl,aG,aI,d2,List.all_cons,dC,Value.oneCell',List.all_nil,List.drop_nil]
 refine hK _ ?_
 clear hK K
 refine aE [0,6] ?_
 simp only[aD,aB,Nat.reduceEqDiff,if_true,if_false]
 refine aC fun K hK=>aA [] ?_
 simp only[qq,aF,Nat.reduceLT,aB,reduceCtorEq,Nat.reduceEqDiff,aG,aI]
 (repeat' apply And.intro)<;>try (first|exact True.intro|omega)
 refine hK _ ?_
 clear hK K
 refine aE [0,4] ?_
 simp only[aD,aB,Nat.reduceEqDiff,if_true,if_false]
 refine aS ?_
 refine sW _ rfl hnR' ?_
 simp only[seval,kT,kN]
def tf (l:List (List UInt8)):List eK:=l.map fun s=>(3,s)
theorem aDP [Gv] (l:List (List UInt8)):(CS (l.map eO)).length=l.length*5:=by rw[mD,List.length_map]
theorem aMc [Gv] (ts:List (List UInt8)) (rest:List eK) (h3:tH rest 3=false) (h4:tH rest 4=false) (hl:(tf ts++rest).length≤1000000000) :
  ACalls Tryz.prog G0 169 [.ptr 0 0] [.cells (RD (tf ts++rest) false)] (fun r os=>os=[.cells (RD rest false)]∧r=.sl ts.length (CS (ts.map eO)) .no):=by
 have hnR:∀ l,aM (RD l false)=true:=fun l=>mM l false
 have hR:∀ l,RD l false=[.sl l.length (Fs l) .no,.val (.bool false)]:=fun l=>rfl
 refine dB Tryz.func169 rfl rfl Tryz.ntmps169 (rts:=#[65]) rfl Tryz.results169 (by simp) ?_
 simp only[seval,aZ]
 refine kq ?_
 refine kq ?_
 refine oA 5 3 rfl ?_
 refine kp [0,3] ?_
 refine aC fun K1 hK1=>?_
 apply bK
 refine bZ (fun i:Nat=>⟨36,[(0,.ptr 0 0),(3,.sl i (CS ((ts.take i).map eO)) (.tok 1))],[.cells (RD (tf (ts.drop i)++rest) false),.tok 5 i]⟩)
  (fun i=>i≤ts.length) (fun i=>ts.length - i) 0 (by omega) (.of_keep [0,3] rfl) ?_
 intro i hi
 clear hK1
 apply bJ
 apply bJ
 rw[hR]
 refine ko [] ?_
 refine bG rfl (bC ?_)
 simp only[seval,kT]
 refine kp [0,3] ?_
 apply bK
 apply bK
 apply bJ
 rw[← hR]
 rcases Nat.lt_or_ge i ts.length with hlt|hge
 ·have hdr:ts.drop i=ts[i]::ts.drop (i+1):=List.drop_eq_getElem_cons hlt
  have htk:(ts.take (i+1)).map eO=(ts.take i).map eO++[eO ts[i]]:=by rw[List.take_add_one,List.getElem?_eq_getElem hlt,List.map_append];rfl
  have hlr:(tf (ts.drop (i+1))++rest).length≤1000000000:=by
   simp only[tf,List.length_append,List.length_map,List.length_drop] at hl ⊢
   omega
  have hlt2:ts.length≤1000000000:=by simp only[tf,List.length_append,List.length_map] at hl;omega
  rw[hdr]
  generalize ts[i]=v at *
  rw[show tf (v::ts.drop (i+1))++rest=(3,v)::(tf (ts.drop (i+1))++rest) from rfl]
  have cI:=aIM ((3,v)::(tf (ts.drop (i+1))++rest)) false 3
  have cT:=xW (tf (ts.drop (i+1))++rest) false 3 v hlr
  rw[show tH ((3,v)::(tf (ts.drop (i+1))++rest)) 3=true by simp[tH]] at cI
  have hCl:(CS ((ts.take i).map eO)).length=i*5:=by rw[aDP,List.length_take];omega
  generalize hfl:tf (ts.drop (i+1))++rest=fl at *
  refine ko [1000013] ?_
  refine gR (v':=.val (.bool true)) 0 (.cells (RD ((3,v)::fl) false)) rfl (by simpa[eH] using hnR _) (by simp[fH,iV,aH]) cI (by simp[eH,hnR]) (by simp[iL,aH]) ?_
  simp only[seval,kT]
  apply bG rfl
  refine kp [0,3] ?_
  refine ko [1000016] ?_
  refine gR (v':=str v) 0 (.cells (RD ((3,v)::fl) false)) rfl (by simpa[eH] using hnR _) (by simp[fH,iV,aH]) cT (by simp[eH,hnR]) (by simp[iL,aH,str]) ?_
  simp only[seval,kT,str,qC,hCl]
  refine⟨⟨by omega,by omega⟩,?_⟩
  simp only[seval,kT,kF]
  rw[show CS ((ts.take i).map eO)++[.val (.bool false),.val (.string ⟨v.toArray⟩),.val (.int .u64 0),.val (.string ⟨#[]⟩),.val (.string ⟨#[]⟩)]=CS ((ts.take (i+1)).map eO) from by rw[htk,aCE,aKV];rfl]
  subst hfl
  exact⟨i+1,by omega,by omega,.of_keep [0,3] rfl⟩
 ·have he:i=ts.length:=by omega
  subst he
  rw[List.drop_length,List.take_length]
  rw[show tf []++rest=rest from rfl]
  have cI:=aIM rest false 3
  have cJ:=aIM rest false 4
  rw[h3] at cI
  rw[h4] at cJ
  refine ko [1000013] ?_
  refine gR (v':=.val (.bool false)) 0 (.cells (RD rest false)) rfl (by simpa[eH] using hnR _) (by simp[fH,iV,aH]) cI (by simp[eH,hnR]) (by simp[iL,aH]) ?_
  simp only[seval,kT]
  apply aR rfl
  refine kp [0,3] ?_
  apply bJ
  refine ko [1000022] ?_
  refine gR (v':=.val (.bool false)) 0 (.cells (RD rest false)) rfl (by simpa[eH] using hnR _) (by simp[fH,iV,aH]) cJ (by simp[eH,hnR]) (by simp[iL,aH]) ?_
  simp only[seval,kT]
  apply aR rfl
  refine kp [3] ?_
  refine lH 3 rfl ?_
  refine kp [3] ?_
  refine ks [2] ?_
  refine aS ?_
  simp only[seval,kT,kF]
  refine sW _ rfl (hnR _) ?_
  exact⟨⟨trivial,trivial⟩,by simp[aH,gZ,lk],rfl,rfl⟩
def wC (t:TokV) (ts:List (List UInt8)):Prop:=t.cavs=ts.map eO
theorem aGw [Gv] (ts:List (List UInt8)):(ts.map eO).flatMap uH=tf ts:=by
 induction ts with
 | nil=>rfl
 | cons s l ih=>rw[List.map_cons,List.flatMap_cons,ih];rfl
theorem aCC [Gv] {t:TokV} {ts:List (List UInt8)} (h:wC t ts):mT t=(1,vb t.key)::(2,t.id)::(tf ts++[(7,[if t.bound then 1 else 0]),(8,t.tag)]):=by
 have:t.cavs.flatMap uH=tf ts:=by rw[h,aGw]
 simp[mT,this]
theorem aHU [Gv] (t:TokV) (ts:List (List UInt8)) (hs:small t) (hpl:wC t ts) (hok:okT t=true) (hl:(oS t).length≤1048576) :
  ACalls Tryz.prog G0 103 [.sl (oS t).length (Bs (oS t)) .no] [] (fun r os=>os=[]∧r=.tup [.agg (TA t .no),.val (.int .i64 0)]):=by
 have cA:=aII (oS t) hl
 have hbk:kK (mT t)≤1048576:=by
  have h1:=aJD (mT t)
  rw[xG] at h1
  omega
 have hal:mB (oS t)=some (mT t):=by
  rw[← xG]
  exact vJ _ (by omega)
 rw[hal] at cA
 have hff:=aCC hpl
 have hfl:(tf ts).length≤1048576:=by
  have h1:=tM (mT t)
  have h2:(mT t).length≤1048576:=by omega
  rw[hff] at h2
  simp only[List.length_cons,List.length_append] at h2
  omega
 have hR:∀ l b,RD l b=[.sl l.length (Fs l) .no,.val (.bool b)]:=fun l b=>rfl
 have hnR:∀ l b,aM (RD l b)=true:=mM
 have c1:=aHZ ((2,t.id)::(tf ts++[(7,[if t.bound then 1 else 0]),(8,t.tag)])) 1 t.key hs.2.2.2.2.1 (by simp only[List.length_cons,List.length_append,List.length_nil];omega)
 have c2:=xW (tf ts++[(7,[if t.bound then 1 else 0]),(8,t.tag)]) false 2 t.id (by simp only[List.length_cons,List.length_append,List.length_nil];omega)
 have c3:=aMc ts [(7,[if t.bound then 1 else 0]),(8,t.tag)] rfl rfl (by simp only[List.length_cons,List.length_append,List.length_nil];omega)
 have c4:=xW [(8,t.tag)] false 7 [if t.bound then 1 else 0] (by simp)
 have c5:=xW [] false 8 t.tag (by simp)
 rw[← hff] at c1
 have cK:=rA t .no hs rfl
 rw[hok,if_pos rfl] at cK
 have hz0:=uT
 have hlz:=eP fK .full (by simp[fK])
 have hT:TA t .no=[.val (.int .u64 (t.key:Int)),str t.id,.sl ts.length (CS (ts.map eO)) .no,.val (.bool t.bound)]++Bs t.tag:=by
  rw[TA,hpl,List.length_map]
 have hlT:=eP t .no hs.2.2.2.1
 have hoT:=gP t .no
 have hnT:=fQ t .no rfl
 have ht32:=hs.2.2.2.1
 generalize mT t=ff at *
 generalize TA t .no=T at *
 generalize TA fK .full=T0 at *
 generalize oS t=e at *
 simp only[str] at *
 refine ke Tryz.func103 Tryz.ntmps103 Tryz.results103 #[67,37] ?_
 refine kq ?_
 rw[hz0]
 refine kr [] fun K hK=>?_
 refine aV (by simp[aJ]) cA (by simp[aNV,aH,aM,qX]) ?_
 simp only[seval,kT,aNV]
 refine hK _ ?_
 clear hK K
 refine kp [2,3,4,5] ?_
 refine ks [2,3,6] ?_
 rw[← hR]
 refine kr [1000022,1000024] fun K hK=>?_
 refine gR (v':=.val (.int .u64 (t.key:Int))) 1 (.cells (RD ff false)) rfl (by simpa[eH] using hnR _ _) (by simp[fH,iV,aH]) c1 (by simp[eH,hnR]) (by simp[iL,aH]) ?_
 simp only[seval,kT]
 refine gR (v':=.val (.string ⟨t.id.toArray⟩)) 1 (.cells (RD _ false)) rfl (by simpa[eH] using hnR _ _) (by simp[fH,iV,aH]) c2 (by simp[eH,hnR]) (by simp[iL,aH]) ?_
 simp only[seval,kT]
 refine hK _ ?_
 clear hK K
 refine kp [2,3,6,7] ?_
 have e1:([(if t.bound=true then 1 else 0:UInt8)] == [1])=t.bound:=by cases t.bound<;>rfl
 have e2:(!([(if t.bound=true then 1 else 0:UInt8)] == [0]))=t.bound:=by cases t.bound<;>rfl
 generalize (if t.bound=true then 1 else 0:UInt8)=bb at *
 refine kr [1000027] fun K hK=>?_
 refine gR (v':=.sl ts.length (CS (ts.map eO)) .no) 1 (.cells (RD _ false)) rfl (by simpa[eH] using hnR _ _) (by simp[fH,iV,aH]) c3 (by simp[eH,hnR]) (by simp[iL,aH,gZ]) ?_
 simp only[seval,kT]
 refine hK _ ?_
 clear hK K
 refine kp [2,3,6,7] ?_
 refine kr [1000030] fun K hK=>?_
 refine gR (v':=.val (.string ⟨#[bb]⟩)) 1 (.cells (RD _ false)) rfl (by simpa[eH] using hnR _ _) (by simp[fH,iV,aH]) c4 (by simp[eH,hnR]) (by simp[iL,aH]) ?_
 simp only[seval,kT]
 refine hK _ ?_
 clear hK K
 refine kp [2,3,6,7,8] ?_
 refine kx [2,3,6,7,8] e1 ?_
 have cO:=aQa t.tag .no
 rw[if_pos ht32,decide_eq_true ht32,ht32] at cO
 have hbt:(Bs t.tag).length=32:=by rw[aX];omega
 have hbo:(Bs t.tag).all dC=true:=by
  rw[List.all_eq_true]
  intro x hx
  obtain⟨z,_,rfl⟩:=List.mem_map.1 hx
  rfl
 have htt:t.tag.take 32=t.tag:=List.take_of_length_le (by omega)
 have hz:(Z 32).drop 32=[]:=List.drop_eq_nil_of_le (by rw[eZ];exact Nat.le_refl _)
 refine kr [1000036] fun K hK=>?_
 refine gR (v':=.val (.string ⟨t.tag.toArray⟩)) 1 (.cells (RD _ false)) rfl (by simpa[eH] using hnR _ _) (by simp[fH,iV,aH]) c5 (by simp[eH,hnR]) (by simp[iL,aH]) ?_
 simp only[seval,kT,ht32]
 refine aV (by simp[aJ]) cO (by simp[aH,aM,aJ]) ?_
 simp only[seval,kT,hbo,hbt,hz]
 refine hK _ ?_
 clear hK K
 refine kp [2,3,6,7,8,9,10] ?_
 refine ky (kI hbt (kI htt hbo)) ?_
 simp only[List.cons_append,List.nil_append] at hT
 rw[← hT]
 rw[hR]
 refine kp [2,3,6,7,8,10] ?_
 have gT3:T.getD 3 .top=.val (.bool t.bound):=by rw[hT];rfl
 have hTt:T.take 36=T:=List.take_of_length_le (by omega)
 have hTd:T.drop 36=[]:=List.drop_eq_nil_of_le (by omega)
 refine aC fun K1 hK1=>?_
 refine aC fun K hK=>?_
 have next:∀ s,gE G0 s ⟨75,[(72,.val (.bool false)),(2,.ptr 0 0),(7,.ptr 2 0)],[.cells T0,.cells [.sl 0 (Fs []) .no,.val (.bool false)],.cells T,.cells (Bs t.tag)]⟩→K s:=by
  intro s hw
  refine hK s (eX hw ?_)
  clear hw hK K
  refine aR rfl (bC (hK1 _ ?_))
  clear hK1 K1
  refine kp [2,7] ?_
  refine kx [2,3] (kI (kI hlT hTt) (kI hlz hoT)) ?_
  refine aS ?_
  simp only[seval,kT,kF,List.drop_eq_nil_of_le (Nat.le_of_eq hlz),hlT,hTt,hnT]
 apply aA []
 cases hbd:t.bound with
 | true=>
  rw[hbd] at e2 gT3
  simp only[qq,aF,Nat.reduceLT,aB,Nat.reduceEqDiff,fY,aN,Tryz.underlying251,bD,ne_eq,reduceCtorEq,aY,apart,aO,Tryz.underlying4,Nat.reduceAdd,List.getD_cons_succ,dD,bT,Option.bind_some,aW,Bool.not_false,dQ,gok,aun,Bool.not_true,bU,cav,Tryz.underlying186,bI,bV,eN,aL,Nat.zero_lt_succ,Int.cast_ofNat_Int,aP,bH,Int.lt_irrefl,decide_false,gL,ByteArray.toList_mk,e2,Tryz.underlying67,hlT,gT3,hTt,aU,bF,aT,bA,bW,List.headD_cons,aH]
  refine aV hnT cK rfl ?_
  simp only[seval,kT]
  exact next _ (.of_keep [72,2,7] (by exact rfl))
 | false=>
  rw[hbd] at e2 gT3
  simp only[qq,aF,Nat.reduceLT,aB,Nat.reduceEqDiff,fY,aN,Tryz.underlying251,bD,ne_eq,reduceCtorEq,aY,apart,aO,Tryz.underlying4,Nat.reduceAdd,List.getD_cons_succ,dD,bT,Option.bind_some,aW,Bool.not_false,dQ,gok,aun,Bool.not_true,bU,cav,Tryz.underlying186,bI,bV,eN,aL,Nat.zero_lt_succ,Int.cast_ofNat_Int,aP,bH,Int.lt_irrefl,decide_false,gL,ByteArray.toList_mk,e2,eW,Tryz.underlying67,hlT,hTt,aU,bF,aT,bA,bW,List.headD_cons,aH]
  refine aV hnT cK rfl ?_
  simp only[seval,kT]
  exact next _ (.of_keep [72,2,7] (by exact rfl))
theorem oL [Gv]:([.val (.int .u64 0),.val (.string ⟨#[]⟩),.sl 0 [] .full,.val (.bool false),.val (.int .u8 0),.val (.int .u8 0),.val (.int .u8 0),.val (.int .u8 0),.val (.int .u8 0),.val (.int .u8 0),.val (.int .u8 0),.val (.int .u8 0),.val (.int .u8 0),.val (.int .u8 0),.val (.int .u8 0),.val (.int .u8 0),.val (.int .u8 0),.val (.int .u8 0),.val (.int .u8 0),.val (.int .u8 0),.val (.int .u8 0),.val (.int .u8 0),.val (.int .u8 0),.val (.int .u8 0),.val (.int .u8 0),.val (.int .u8 0),.val (.int .u8 0),.val (.int .u8 0),.val (.int .u8 0),.val (.int .u8 0),.val (.int .u8 0),.val (.int .u8 0),.val (.int .u8 0),.val (.int .u8 0),.val (.int .u8 0),.val (.int .u8 0),.sl 0 [] .full]:List AV)=BA fK .full:=rfl
theorem aAx [Gv] (t:TokV) (ts:List (List UInt8)) (hs:small t) (hpl:wC t ts) (hok:okT t=true) (hb:t.bound=false) (hl:(gM t).length≤65536) :
  ACalls Tryz.prog G0 43 [.sl (gM t).length (Bs (gM t)) .no] [] (fun r os=>os=[]∧r=.tup [.agg (BA t .no),.val (.int .i64 0)]):=by
 have cA:=aII (gM t) (by omega)
 have hle:(oS t).length+1≤(gM t).length:=by simp[gM,V.join,fby]
 have hal:mB (gM t)=some [(16,oS t)]:=vJ [(16,oS t)] (by simp[kK];omega)
 rw[hal] at cA
 simp only[aNV,Fs,FA,List.flatMap_cons,List.flatMap_nil,List.append_nil,List.cons_append,List.nil_append,B,UInt8.reduceToNat,Int.cast_ofNat_Int,List.length_cons,List.length_nil,Nat.reduceAdd] at cA
 have cD:=aHU t ts hs hpl hok (by omega)
 have cK:=uF t .no hs rfl hb
 rw[hok,if_pos rfl] at cK
 have hlT:=eP t .no hs.2.2.2.1
 have hoT:=gP t .no
 have hnT:=fQ t .no rfl
 have hTt:(TA t .no).take 36=TA t .no:=List.take_of_length_le (by omega)
 have hTd:(TA t .no).drop 36=[]:=List.drop_eq_nil_of_le (by omega)
 have hB:BA t .no=TA t .no++[.sl 0 [] .full]:=rfl
 have hlB:=fV t .no hs.2.2.2.1
 have hoB:=kG t .no
 have hnB:=iF t .no rfl
 have hBt:(BA t .no).take 37=BA t .no:=List.take_of_length_le (by omega)
 have hBd:(BA t .no).drop 37=[]:=List.drop_eq_nil_of_le (by omega)
 have hz0:=oL
 have hlz:=fV fK .full (by simp[fK])
 have hzd:(BA fK .full).drop 36=[.sl 0 [] .full]:=rfl
 have hzd7:(BA fK .full).drop 37=[]:=rfl
 have hz36:(TA fK .full).length=36:=rfl
 generalize BA t .no=Bd at *
 generalize TA t .no=T at *
 generalize BA fK .full=B0 at *
 generalize hEB:gM t=eB at *
 generalize oS t=eT at *
 refine ke Tryz.func43 Tryz.ntmps43 Tryz.results43 #[70,37] ?_
 refine kq ?_
 rw[hz0]
 refine aC fun K1 hK1=>?_
 refine aC fun K hK=>aA [] ?_
 simp only[qq,aF,Nat.reduceLT,aB,reduceCtorEq,bI,Nat.reduceEqDiff,bV,eN,Tryz.underlying54,cav,aL,aG,aI,aP,bH,yM]
 (repeat' apply And.intro)<;>try (first|exact True.intro|omega)
 refine hK _ ?_
 clear hK K
 refine aR (by simp only[aB,lk];simp;omega) (bC (hK1 _ ?_))
 clear hK1 K1
 refine kp [0,2,3] ?_
 refine kr [] fun K hK=>?_
 refine aV (by simp[aJ]) cA (by simp[aH,aM]) ?_
 simp only[seval,kT]
 refine hK _ ?_
 clear hK K
 refine aE [2,3,4,5] ?_
 simp only[aD,aB,Nat.reduceEqDiff,if_true,if_false]
 refine aC fun K1 hK1=>?_
 refine aC fun K hK=>aA [] ?_
 simp only[qq,aF,Nat.reduceLT,aB,Nat.reduceEqDiff,aun,Bool.not_true,dD,bT,Option.bind_some,aW,Bool.not_false,dQ,gok,bI,bV,eN,Tryz.underlying186,Int.cast_ofNat_Int,cav,aL,bU,aG,aI,aP,bH,Int.reduceBEq]
 (repeat' apply And.intro)<;>try (first|exact True.intro|omega)
 refine hK _ ?_
 clear hK K
 refine aR rfl (bC (hK1 _ ?_))
 clear hK1 K1
 refine aE [2,3,4] ?_
 simp only[aD,aB,Nat.reduceEqDiff,if_true,if_false]
 refine aC fun K hK=>aA [] ?_
 simp only[qq,aF,dF,bS,cav,Nat.reduceLT,aG,aI,aB]
 (repeat' apply And.intro)<;>try (first|exact True.intro|omega)
 refine hK _ ?_
 clear hK K
 rw[hz0]
 refine aE [2,3,4,6] ?_
 simp only[aD,aB,Nat.reduceEqDiff,if_true,if_false]
 refine aC fun K1 hK1=>?_
 refine aC fun K hK=>aA [] ?_
 simp only[qq,aF,Nat.reduceLT,aB,Nat.reduceEqDiff,bI,bV,eN,Tryz.underlying186,Int.cast_ofNat_Int,cav,aG,aI]
 (repeat' apply And.intro)<;>try (first|exact True.intro|omega)
 refine hK _ ?_
 clear hK K
 refine aE [2,3,6,28,29,30] ?_
 simp only[aD,aB,Nat.reduceEqDiff,if_true,if_false]
 refine bK ?_
 obtain⟨FS,hFS⟩:∃ FS:List AV,FS=[.val (.int .u8 16),.val (.string ⟨eT.toArray⟩)]:=⟨_,rfl⟩
 refine bZ (fun b:Bool=>⟨81,[(2,.ptr 0 0),(3,.val (.int .i64 0)),(6,.ptr 1 0),(28,.sl 1 [.val (.int .u8 16),.val (.string ⟨eT.toArray⟩)] .no),(29,.val (.int .i64 1)),(30,.val (.int .i64 (if b then 1 else 0)))],if b then [.cells B0,.cells Bd,.dead,.dead] else [.cells B0,.cells B0]⟩)
  (fun _=>True) (fun b=>if b then 0 else 1) false trivial (.of_keep [2,3,6,28,29,30] (by exact rfl)) ?_
 intro b _
 cases b with
 | true=>
  refine ky (kI @Int.lt_irrefl @decide_false) ?_
  refine bJ ?_
  apply aR rfl
  apply dR
  simp only[seval,kT,kF]
  refine hK1 _ ?_
  clear hK1 K1
  refine kp [2,6] ?_
  refine aC fun K1 hK1=>?_
  refine kw [] (kI hlB hBt) fun K hK=>?_
  refine aV hnB cK rfl ?_
  simp only[seval,kT]
  refine hK _ ?_
  clear hK K
  refine aR rfl (bC (hK1 _ ?_))
  clear hK1 K1
  refine kp [2,6] ?_
  refine kx [2,3] (kI (kI hlB hBt) (kI hlz (kI hoB hzd7))) ?_
  refine aS ?_
  simp only[qq,bR,eU,bN,bO,aY,aB,Nat.reduceEqDiff,apart,aO,Tryz.underlying70,bD,hlB,hBt,dA,aH,hnB]
 | false=>
  refine aC fun K hK=>aA [] ?_
  simp only[qq,aF,aB,Nat.reduceEqDiff,aL,aP,bH,Int.reduceLT,decide_true,Nat.reduceLT,aG,aI]
  (repeat' apply And.intro)<;>try (first|exact True.intro|omega)
  refine hK _ ?_
  clear hK K
  refine bJ ?_
  refine bG rfl (bC ?_)
  simp only[aI]
  refine aE [2,3,6,28,29,30] ?_
  simp only[aD,aB,Nat.reduceEqDiff,if_true,if_false]
  refine bJ ?_
  refine bK ?_
  refine aC fun K hK=>aA [] ?_
  simp only[qq,aF,Nat.reduceLT,aB,Nat.reduceEqDiff,dN,Tryz.underlying186,bD,Nat.reduceAdd,Nat.reduceMul,Int.le_refl,Int.cast_ofNat_Int,Int.reduceLT,Int.toNat_zero,Nat.zero_mul,aY,apart,aO,Tryz.underlying124,dF,bS,cav,bQ,bX,bB,spl,aG,aI,List.take_nil,List.all_cons,dC,Value.oneCell',List.all_nil,List.drop_nil]
  (repeat' apply And.intro)<;>try (first|exact True.intro|omega)
  refine hK _ ?_
  clear hK K
  refine aE [2,3,6,7,8,28,29,30] ?_
  simp only[aD,aB,Nat.reduceEqDiff,if_true,if_false]
  refine aC fun K hK=>aA [] ?_
  simp only[qq,aF,aN,Tryz.underlying124,bD,aB,Nat.reduceEqDiff,ne_eq,reduceCtorEq,Nat.reduceLT,aY,apart,aO,Tryz.underlying9,eL,Tryz.underlying54,mG,Tryz.underlying5,aU,Nat.reduceAdd,bF,aT,bA,bW,List.headD_cons,List.getD_cons_succ,dJ,aJ]
  refine aV (by simp[aJ]) cD (by simp[aH,aM,hnT]) ?_
  simp only[seval,kT,hoT,hlT]
  refine hK _ ?_
  clear hK K
  refine kp [2,3,6,7,8,9,10,28,29,30] ?_
  refine bK ?_
  refine bJ ?_
  refine ku [] (kI @Nat.zero_lt_succ (kI @Int.lt_irrefl @decide_false)) ?_
  apply aR rfl
  refine kp [2,3,6,7,8,9,10,28,29,30] ?_
  refine bJ ?_
  refine ko [] ?_
  apply bG rfl
  refine kp [2,3,6,9,28,29,30] ?_
  refine ku [] (kI (kI hlT hTt) (kI hlz (kI hoT hzd))) ?_
  rw[← hB]
  simp only[seval,kT,kF]
  refine lT 2 ?_
  refine lT 3 ?_
  refine aE [2,3,6,28,29,30] ?_
  simp only[aD,aB,Nat.reduceEqDiff,if_true,if_false]
  refine ko [] ?_
  exact⟨true,by decide,.of_keep [2,3,6,28,29,30] rfl⟩
def KO (most last:Nat) (m:Nat):AObj:=.cells [.val (.int .i64 (most:Int)),.val (.int .u64 (last:Int)),.mref m]
def KY (tag:List UInt8) (u:Nat):List AV:=.val (.int .i64 1)::(Bs tag++[.val (.int .u64 (u:Int)),.val (.bool false)])
theorem aCG [Gv] (tag:List UInt8) (u:Nat) (h:tag.length=32):(KY tag u).length=35:=by simp[KY,aX,h]
theorem aIA [Gv] (tag:List UInt8) (u:Nat):(KY tag u).all dC=true:=by
 simp only[KY,List.all_cons,List.all_append,List.all_nil,dC,Value.oneCell',Bool.and_true,Bool.true_and]
 rw[List.all_eq_true]
 intro x hx
 obtain⟨z,_,rfl⟩:=List.mem_map.1 hx
 rfl
theorem oJ [Gv] (tag:List UInt8) (u:Nat):aM (KY tag u)=true:=by simp[KY,aM,aH,dK,aJ]
theorem aNw [Gv] (most:Nat) (h:most≤1024):ACalls Tryz.prog GP 35 [.val (.int .i64 (most:Int))] [] (fun r os=>os=[KO most 0 1,.map []]∧r=.ptr 0 0):=by
 have h1:(if (0:Int) > (most:Int) then 0 else (most:Int))=most:=by split<;>omega
 have h2:(if (1024:Int)<(most:Int) then 1024 else (most:Int))=most:=by split<;>omega
 refine dB Tryz.func35 rfl rfl Tryz.ntmps35 (rts:=#[103]) rfl Tryz.results35 (by simp) ?_
 simp only[seval,aZ]
 refine kq ?_
 refine kx [2] (kI h1 h2) ?_
 apply aS
 refine nW [1,0] ⟨by simp,by simp,by decide,by simp,by simp[fU,eV,ref]⟩ ?_
 exact⟨⟨trivial,trivial⟩,rfl,rfl,rfl⟩
theorem aNy [Gv] (tag:List UInt8) (ht:tag.length=32) (u c:Nat):ACalls Tryz.prog GP 104 [.agg (KY tag u),.val (.int .u64 (c:Int))] [] (fun r os=>os=[]∧r=.val (.bool (decide (c<u)))):=by
 have hl:=aCG tag u ht
 have ho:=aIA tag u
 have g33:(KY tag u).getD 33 .top=.val (.int .u64 (u:Int)):=by
  rw[KY,List.getD_cons_succ,List.getD_eq_getElem?_getD,List.getElem?_append_right (by rw[aX];omega),aX,ht];rfl
 have g34:(KY tag u).getD 34 .top=.val (.bool false):=by
  rw[KY,List.getD_cons_succ,List.getD_eq_getElem?_getD,List.getElem?_append_right (by rw[aX];omega),aX,ht];rfl
 generalize KY tag u=T at *
 refine ke Tryz.func104 Tryz.ntmps104 Tryz.results104 #[4] ?_
 refine kx [1,2] ho ?_
 refine kx [4] (kI (kI hl g34) (kI g33 @jM)) ?_
 apply aS
 simp only[seval,kT,kF]
theorem aLs [Gv] (most:Nat) (h:0<most) (tag:List UInt8) (ht:tag.length=32) (u:Nat) :
  ACalls Tryz.prog GP 97 [.ptr 0 0,.val (.int .i64 1),.agg (Bs tag),.val (.int .u64 (u:Int))] [KO most 0 1,.map []]
   (fun r os=>os=[KO most 1 1,.map [(.int .u64 1,.agg (KY tag u))]]∧r=.tup [.val (.int .u64 1),.val (.int .i64 0)]):=by
 have hbl:(Bs tag).length=32:=by rw[aX];omega
 have htt:tag.take 32=tag:=List.take_of_length_le (by omega)
 have hbo:(Bs tag).all dC=true:=by
  rw[List.all_eq_true]
  intro x hx
  obtain⟨z,_,rfl⟩:=List.mem_map.1 hx
  rfl
 have hT1:∀ r:List AV,(Bs tag++r).take 32=Bs tag:=fun r=>List.take_left' hbl
 have hD1:∀ a b:AV,(Bs tag++[a,b]).drop 33=[b]:=fun a b=>by
  rw[show Bs tag++[a,b]=(Bs tag++[a])++[b] by simp,List.drop_left' (by simp[hbl])]
 have hL1:∀ a b:AV,33≤(Bs tag++[a,b]).length:=fun a b=>by simp[hbl]
 have hw:IntKind.u64.wrap (0+1)=1:=by decide
 have hKY:KY tag u=.val (.int .i64 1)::(Bs tag++[.val (.int .u64 (u:Int)),.val (.bool false)]):=rfl
 simp only[KO]
 refine dB Tryz.func97 rfl rfl Tryz.ntmps97 (rts:=#[30,37]) rfl Tryz.results97 (by simp) ?_
 simp only[seval,aZ]
 refine kx [0,1,3,6] hbo ?_
 refine aC fun K1 hK1=>?_
 apply bK
 apply bJ
 refine ko [] ?_
 apply aR rfl
 refine kp [0,1,3,6] ?_
 apply bJ
 refine kde [22] (kI @Nat.zero_lt_succ @aLQ) ?_
 refine aR (by simp only[aB,lk];simp;omega) (bC ?_)
 simp only[seval,kT,kF]
 refine hK1 _ ?_
 clear hK1 K1
 refine kp [0,1,3,6] ?_
 refine kx [0,1,3,6] hw ?_
 refine aC fun K hK=>?_
 refine kde [] (kI (kI (kI hbl htt) (kI @aKd (kI @MapKept.IsKey.eq_1 @MapKept.IsKey.eq_2))) (kI (kI @MapKept.IsKey.eq_3 (kI @MapKept.IsKey.eq_4 hbo)) (kI hL1 (kI hT1 hD1)))) ?_
 refine hK _ ?_
 clear hK K
 refine kp [0] ?_
 refine ks [8,9] ?_
 simp only[List.append_assoc,List.cons_append,List.nil_append]
 rw[← hKY]
 apply aS
 refine fE (by simp) (by simp[fU,eV,ref,bM _ _ (oJ tag u)]) ?_
 exact⟨⟨trivial,trivial,trivial⟩,rfl,rfl,rfl⟩
def KM (tag:List UInt8) (u:Nat):AObj:=.map [(.int .u64 1,.agg (KY tag u))]
theorem aFW [Gv] (most:Nat) (tag:List UInt8) (ht:tag.length=32) (u c:Nat) :
  ACalls Tryz.prog GP 44 [.ptr 0 0,.val (.int .i64 1),.val (.int .u64 1),.val (.int .u64 (c:Int))] [KO most 1 1,KM tag u]
   (fun r os=>os=[KO most 1 1,KM tag u]∧r=if c<u then .tup [.agg (Bs tag),.val (.int .i64 0)] else .tup [.agg (Bs (Z 32)),.val (.int .i64 4)]):=by
 have cL:=aNy tag ht u c
 have hl:=aCG tag u ht
 have ho:=aIA tag u
 have hn:=oJ tag u
 have g0:(KY tag u).getD 0 .top=.val (.int .i64 1):=rfl
 have g34:(KY tag u).getD 34 .top=.val (.bool false):=by
  rw[KY,List.getD_cons_succ,List.getD_eq_getElem?_getD,List.getElem?_append_right (by rw[aX];omega),aX,ht];rfl
 have g1:((KY tag u).drop 1).take 32=Bs tag:=by
  rw[KY,List.drop_succ_cons,List.drop_zero,List.take_left' (by rw[aX];omega)]
 have htk:(KY tag u).take 35=KY tag u:=List.take_of_length_le (by omega)
 have htd:(KY tag u).drop 35=[]:=List.drop_eq_nil_of_le (by omega)
 have hbl:(Bs tag).length=32:=by rw[aX];omega
 have htt:tag.take 32=tag:=List.take_of_length_le (by omega)
 have hbo:(Bs tag).all dC=true:=by
  rw[List.all_eq_true]
  intro x hx
  obtain⟨z,_,rfl⟩:=List.mem_map.1 hx
  rfl
 have hz:(Z 32).drop 32=[]:=List.drop_eq_nil_of_le (by rw[eZ];exact Nat.le_refl _)
 simp only[KO,KM]
 generalize KY tag u=T at *
 refine dB Tryz.func44 rfl rfl Tryz.ntmps44 (rts:=#[23,38]) rfl Tryz.results44 (by simp) ?_
 simp only[seval,aZ]
 refine ks [0,1,2,3,8] ?_
 refine kx [0,1,2,3,8,10,11] (kI (kI (kI @MapKept.IsKey.eq_1 @MapKept.IsKey.eq_2) (kI @MapKept.IsKey.eq_3 (kI @MapKept.IsKey.eq_4 @Instr.sameNow.eq_1))) (kI (kI @Instr.sameNow.eq_2 @Instr.sameNow.eq_3) (kI @Instr.sameNow.eq_4 (kI ho hl)))) ?_
 refine aC fun K1 hK1=>?_
 apply bK
 apply bJ
 refine ku [] (kI hl (kI @Nat.zero_lt_succ g0)) ?_
 apply aR rfl
 refine kp [0,3,8,10] ?_
 apply bJ
 refine ku [] (kI hl g34) ?_
 apply aR rfl
 refine kp [0,3,8,10] ?_
 apply bJ
 refine ku [] (kI hl htk) ?_
 refine aV (by simp[hn]) cL rfl ?_
 simp only[seval,kT]
 rcases Nat.lt_or_ge c u with hcu|hcu
 ·refine aR (by simp only[aB,lk];simp;omega) (bC ?_)
  simp only[seval,kT,kF]
  refine hK1 _ ?_
  clear hK1 K1
  refine kp [8,10] ?_
  refine kx [8,9] (kI (kI hl g1) (kI hbo (kI hbl hz))) ?_
  apply aS
  refine fE (by simp) (by simp[fU,eV,ref,bM _ _ hn]) ?_
  simp only[seval,kT,kN,hbl,htt]
  exact⟨by simp[ref,eV,bM _ _ (aJ tag)],(if_pos hcu).symm⟩
 ·refine bG (by simp only[aB,lk];simp;omega) ?_
  refine kp [8] ?_
  refine kx [8,9] hz ?_
  apply aS
  simp only[seval,kT,kF]
  refine fE (by simp) (by simp[fU,eV,ref,bM _ _ hn]) ?_
  have hzt:(Z 32).take 32=Z 32:=List.take_of_length_le (by rw[eZ];exact Nat.le_refl _)
  simp only[seval,kT,kN,hzt]
  exact⟨by simp[ref,eV,bM _ _ (aJ (Z 32))],(if_neg (by omega)).symm⟩
structure OutV where
 bytes:List UInt8
 whole:Bool
 pub:Bool
def OA (o:OutV):List AV:=[str o.bytes,.val (.bool o.whole),.val (.bool o.pub)]
def OS (l:List OutV):List AV:=l.flatMap OA
theorem uB [Gv] (l:List OutV):(OS l).length=l.length*3:=by
 induction l with
 | nil=>rfl
 | cons c l ih=>rw[show OS (c::l)=OA c++OS l from rfl,List.length_append,ih];simp[OA];omega
theorem yV [Gv] (c:OutV):aM (OA c)=true:=rfl
theorem gA [Gv] (l:List OutV):aM (OS l)=true:=by
 induction l with
 | nil=>rfl
 | cons c l ih=>rw[show OS (c::l)=OA c++OS l from rfl,dK,ih,yV];rfl
theorem aAJ [Gv] (c:OutV):(OA c).all dC=true:=rfl
theorem aAK [Gv] (l:List OutV):(OS l).all dC=true:=by
 rw[List.all_eq_true]
 intro x hx
 obtain⟨c,_,hc⟩:=List.mem_flatMap.1 hx
 exact List.all_eq_true.1 (aAJ c) x hc
theorem aKh [Gv] {l:List OutV} {i:Nat} (h:i<l.length):((OS l).drop (i*3)).take 3=OA l[i]:=by
 induction l generalizing i with
 | nil=>simp at h
 | cons c l ih=>
  rw[show OS (c::l)=OA c++OS l from rfl]
  cases i with
  | zero=>rfl
  | succ i=>
   rw[show (i+1)*3=(OA c).length+i*3 by simp[OA];omega,← List.drop_drop,List.drop_left]
   simpa using ih (by simpa using h)
theorem aIm [Gv] (a b:List OutV):OS (a++b)=OS a++OS b:=List.flatMap_append
theorem aPC [Gv] (c:OutV):OS [c]=OA c:=by simp[OS]
def SO (l:List OutV) (k:Nat):AObj:=.cells [.sl l.length (OS l) (.tok k)]
theorem aOV [Gv]:ACalls Tryz.prog GP 36 [] [] (fun r os=>os=[SO [] 1,.tok 3 0]∧r=.ptr 0 0):=by
 refine dB Tryz.func36 rfl rfl Tryz.ntmps36 (rts:=#[50]) rfl Tryz.results36 (by simp) ?_
 simp only[aZ,Nat.reduceAdd]
 refine kq ?_
 refine kq ?_
 refine aLE 3 0 rfl ?_
 refine kp [0] ?_
 refine aS ?_
 refine nW [0,1] ⟨by simp,by simp,by decide,by simp,by simp[fU,eV,ref,jH]⟩ ?_
 exact⟨⟨trivial,trivial⟩,rfl,rfl,rfl⟩
theorem aOW [Gv] (l:List OutV) (hl:l.length≤1000000) (o:OutV):ACalls Tryz.prog GP 94 [.ptr 0 0,.agg (OA o)] [SO l 1,.tok 3 l.length] (fun r os=>os=[SO (l++[o]) 1,.tok 3 (l.length+1)]∧r=.val (.int .i64 (l.length:Int))):=by
 have hOl:=uB l
 have hOo:=aAK l
 have hao:=aAJ o
 have hal:(OA o).length=3:=rfl
 have hat:(OA o).take 3=OA o:=rfl
 have hE:OS (l++[o])=OS l++OA o:=by rw[aIm,aPC]
 have hnO:=gA (l++[o])
 simp only[SO,List.length_append,List.length_cons,List.length_nil,Nat.zero_add]
 rw[hE] at *
 generalize OA o=oa at *
 refine dB Tryz.func94 rfl rfl Tryz.ntmps94 (rts:=#[3]) rfl Tryz.results94 (by simp) ?_
 simp only[aZ,Nat.reduceAdd]
 refine kx [0,3] hao ?_
 refine aC fun K hK=>?_
 refine kde [] (kI (kI hal hat) (kI @qC (kI hao hOl))) ?_
 refine⟨⟨by omega,by omega⟩,hK _ ?_⟩
 clear hK K
 have h1:IntKind.i64.wrap (((l.length+1:Nat):Int) - 1)=(l.length:Int):=by
  rw[show ((l.length+1:Nat):Int) - 1=((l.length:Nat):Int) by omega]
  exact fD (by omega)
 refine kp [0] ?_
 refine aC fun K hK=>aA [] ?_
 simp only[qq,Nat.reduceAdd,aF,Nat.reduceLT,aB,fY,reduceCtorEq,aN,Tryz.underlying113,bD,Nat.reduceEqDiff,ne_eq,aY,apart,aO,Tryz.underlying111,bI,bV,eN,cav,aL,aG,aI,aP,bH,h1]
 refine hK _ ?_
 clear hK K
 refine aE [4] ?_
 simp only[aD,aB,Nat.reduceEqDiff,if_true,if_false]
 refine aS ?_
 refine fE (by simp) (by simp[fU,eV,ref,jH,bM _ _ hnO]) ?_
 exact⟨⟨trivial,trivial⟩,rfl,rfl,rfl⟩
theorem aOU [Gv] (l:List OutV) (hl:l.length≤1000000) (i:Nat) (hi:i<l.length):ACalls Tryz.prog GP 13 [.ptr 0 0,.val (.int .i64 (i:Int))] [SO l 1,.tok 3 l.length] (fun r os=>os=[SO l 1,.tok 3 l.length]∧r=.tup [.agg (OA l[i]),.val (.bool true)]):=by
 have hOl:=uB l
 have hOo:=aAK l
 have hnO:=gA l
 have hget:=aKh hi
 generalize l[i]=o at *
 have hao:=aAJ o
 have hno:=yV o
 have hal:(OA o).length=3:=rfl
 have hat:(OA o).take 3=OA o:=rfl
 have had:(OA o).drop 3=[]:=rfl
 generalize OA o=oa at *
 simp only[SO]
 have d1:decide ((i:Int)<0)=false:=by simp
 have d2:decide ((i:Int)≥(l.length:Int))=false:=by simp;omega
 refine dB Tryz.func13 rfl rfl Tryz.ntmps13 (rts:=#[48,4]) rfl Tryz.results13 (by simp) ?_
 simp only[aZ,Nat.reduceAdd]
 refine ks [0,1,4] ?_
 refine aC fun K1 hK1=>?_
 refine aC fun K hK=>aA [] ?_
 simp only[qq,Nat.reduceAdd,aF,Nat.reduceLT,aB,reduceCtorEq,Nat.reduceEqDiff,cav,aL,aP,bH,d1,dD,bT,Option.bind_some,aW,Bool.not_false,dQ,gok,fY,aN,Tryz.underlying113,bD,ne_eq,aY,apart,aO,Tryz.underlying111,bI,bV,eN,bU,aG,aI,d2]
 refine hK _ ?_
 clear hK K
 refine aR rfl (bC (hK1 _ ?_))
 clear hK1 K1
 refine aE [0,1,4] ?_
 simp only[aD,aB,Nat.reduceEqDiff,if_true,if_false]
 refine aC fun K hK=>aA [] ?_
 simp only[qq,Nat.reduceAdd,aF,Nat.reduceLT,aB,reduceCtorEq,fY,Nat.reduceEqDiff,aN,Tryz.underlying113,bD,ne_eq,aY,apart,aO,Tryz.underlying111,dN,Int.toNat_natCast,Tryz.underlying48,bQ,bX,bB,spl,cav,aG,aI,hOl,List.length_drop,hget,hao,hal,List.drop_nil]
 refine⟨⟨by omega,by omega⟩,by omega,hK _ ?_⟩
 clear hK K
 refine kp [4,5] ?_
 refine aS ?_
 refine fE (by simp) (by simp[fU,eV,ref,jH,bM _ _ hnO]) ?_
 simp only[seval,kT,kN,hal,hat]
 simp[ref,eV,bM _ _ hno]
theorem aHi [Gv] (l:List OutV) (p:Perm) (hp:fG p=true) (hl:l.length≤1000000):ACalls Tryz.prog GP 101 [.sl l.length (OS l) p] [] (fun r os=>os=[.tok 3 l.length]∧r=.sl l.length (OS l) (.tok 0)):=by
 have hCl:=uB l
 have hnC:=gA l
 have hoc:=aAK l
 have hnil:OS l=[]→l=[]:=fun h=>by rw[h] at hCl;simp only[List.length_nil] at hCl;exact List.length_eq_zero_iff.1 (by omega)
 refine gQ Tryz.func101 rfl rfl Tryz.ntmps101 (rts:=#[111]) rfl Tryz.results101 (by simp) ?_
 simp only[aZ,Nat.reduceAdd]
 refine kq ?_
 refine aC fun K1 hK1=>?_
 refine aC fun K hK=>?_
 refine aCS (ht:=Tryz.underlying111) (hs:=rfl) (by omega) (by omega) fun b hb=>hK _ ?_
 clear hK K
 cases b with
 | true=>
  apply bG rfl
  have h0:=hnil (hb rfl)
  subst h0
  refine kp [0] ?_
  refine ks [2] ?_
  refine oA 3 2 rfl ?_
  refine aS ?_
  exact oM 2 0 3 rfl rfl rfl ⟨rfl,rfl⟩
 | false=>
  refine aR rfl (bC (hK1 _ ?_))
  clear hK1 K1
  refine kp [0] ?_
  refine kw [] (kI @aHu (kI hCl hoc)) fun K hK=>?_
  refine⟨⟨by omega,by omega⟩,hK _ ?_⟩
  clear hK K
  refine aE [2] ?_
  simp only[aD,aB,Nat.reduceEqDiff,if_true,if_false]
  refine aS ?_
  exact oM 2 0 3 rfl rfl (gA _) ⟨rfl,rfl⟩
theorem aHf [Gv] (l:List OutV) (hl:l.length≤1000000):ACalls Tryz.prog GP 42 [.ptr 0 0] [SO l 1,.tok 3 l.length] (fun r os=>os=[SO l 1,.tok 3 l.length,SO l 3,.tok 3 l.length]∧r=.ptr 2 0):=by
 have cC:=aHi l .no rfl hl
 have hnC:=gA l
 simp only[SO]
 refine dB Tryz.func42 rfl rfl Tryz.ntmps42 (rts:=#[50]) rfl Tryz.results42 (by simp) ?_
 simp only[aZ,Nat.reduceAdd]
 refine aC fun K hK=>aA [] ?_
 simp only[qq,Nat.reduceAdd,aF,Nat.reduceLT,aB,cav,aG,aI]
 (repeat' apply And.intro)<;>try (first|exact True.intro|omega)
 refine hK _ ?_
 clear hK K
 refine aE [0] ?_
 simp only[aD,aB,Nat.reduceEqDiff,if_true,if_false]
 refine aC fun K hK=>aA [1000007] ?_
 simp only[qq,Nat.reduceAdd,aF,Nat.reduceLT,aB,fY,reduceCtorEq,aN,Tryz.underlying113,bD,Nat.reduceEqDiff,ne_eq,aY,List.contains_cons,Nat.reduceBEq,apart,aO,Tryz.underlying111,aU,beq_self_eq_true,bF,aT,bA,bW,List.headD_cons]
 refine oO (by simp[fH,iV,aH,aM,aJ,bW,gA]) cC (gA _) ?_
 simp only[qq,Nat.reduceAdd,dE,aF,fA,bS,Tryz.underlying113,kO,cav,dO,aB,Nat.reduceEqDiff,reduceCtorEq,eM,spl,bB,List.drop_nil,List.all_cons,dC,List.all_nil,Nat.reduceLT,List.contains_cons,Nat.reduceBEq,eF,fN,aG,aI]
 refine hK _ ?_
 clear hK K
 refine aE [2] ?_
 simp only[aD,aB,Nat.reduceEqDiff,if_true,if_false]
 refine aS ?_
 refine nW [0,1,3,2] ⟨by simp,fun i hi=>?_,by decide,by simp,by simp[fU,eV,ref,jH,bM _ _ hnC]⟩ ?_
 ·simp only[List.length_cons,List.length_nil] at hi
  rcases i with _|_|i
  ·rfl
  ·rfl
  ·omega
 ·exact⟨⟨trivial,trivial⟩,rfl,by simp[GHd,gJ,gH,ren,rB,cY _ _ hnC]<;>decide,rfl⟩
def isB (o:OutV) (t:TokV) (ts:List (List UInt8)):Prop:=o.whole=true∧o.bytes=gM t∧small t∧wC t ts∧okT t=true∧t.bound=false∧(gM t).length≤65536
theorem aMk [Gv] (l:List OutV) (hl:l.length≤1000000) (i:Nat) (hi:i<l.length) (t:TokV) (ts:List (List UInt8)) (ho:isB l[i] t ts) :
  ACalls Tryz.prog GP 46 [.ptr 0 0,.val (.int .i64 (i:Int)),.val (.bool true),.val (.func (.func 43) #[] #[])] [SO l 1,.tok 3 l.length] (fun r os=>os=[SO l 1,.tok 3 l.length]∧r=.tup [.agg (BA t .no),.val (.int .i64 0)]):=by
 have cG:=aOU l hl i hi
 obtain⟨o1,o2,hs,hpl,hok,hb,hlen⟩:=ho
 have cD:=(aAx t ts hs hpl hok hb hlen).g (G:=GP)
 have hOA:OA l[i]=[.val (.string ⟨(gM t).toArray⟩),.val (.bool true),.val (.bool l[i].pub)]:=by rw[OA,o1,o2];rfl
 rw[hOA] at cG
 have hnC:=gA l
 have hlB:=fV t .no hs.2.2.2.1
 have hoB:=kG t .no
 have hnB:=iF t .no rfl
 have hBt:(BA t .no).take 37=BA t .no:=List.take_of_length_le (by omega)
 have hBd:(BA t .no).drop 37=[]:=List.drop_eq_nil_of_le (by omega)
 have hz0:=oL
 have hlz:=fV fK .full (by simp[fK])
 have hzd7:(BA fK .full).drop 37=[]:=rfl
 generalize BA fK .full=B0 at *
 generalize BA t .no=Bd at *
 generalize gM t=eB at *
 generalize l[i].pub=pub at *
 simp only[SO] at *
 refine dB Tryz.func46 rfl rfl Tryz.ntmps46 (rts:=#[70,37]) rfl Tryz.results46 (by simp) ?_
 simp only[aZ,Nat.reduceAdd]
 refine kq ?_
 rw[hz0]
 refine kp [0,1,2,3,8] ?_
 refine kr [1000016] fun K hK=>?_
 refine gF [0,1] false [50,3] ⟨by decide,by simp,by simp[fU,eV,ref,jH,bM _ _ hnC]⟩ rfl (by simp[aH]) (by simp only[GHd,List.map_cons,List.map_nil,List.getD_cons_zero,List.getD_cons_succ,gJ,gH,ren,rB,cY _ _ hnC];exact cG) ⟨by simp,by simp[fU,eV,ref,jH,bM _ _ hnC],by simp[eV,ref],fun h=>by cases h⟩ ?_
 simp only[seval,kT,ren,gH,jD,gG,gJ,cY _ _ hnC,rB,σn]
 refine hK _ ?_
 clear hK K
 refine kp [0,2,3,8,10,11] ?_
 refine aC fun K1 hK1=>?_
 refine kq ?_
 refine aR rfl (bC (hK1 _ ?_))
 clear hK1 K1
 refine kp [0,3,8,10] ?_
 refine kr [] fun K hK=>?_
 refine aV (by simp[aJ]) cD (by simp[aH,aM,hnB]) ?_
 simp only[seval,kT,hlz,hoB,hlB,hzd7]
 refine hK _ ?_
 clear hK K
 refine kp [8,9] ?_
 refine aS ?_
 refine fE (by simp) (by simp[fU,eV,ref,jH,bM _ _ hnC]) ?_
 simp only[seval,kT,kN,hlB,hBt]
 simp[ref,eV,bM _ _ hnB]
theorem aHe [Gv] (l:List OutV) (hl:l.length≤1000000) (i:Nat) (hi:i<l.length) (t:TokV) (ts:List (List UInt8)) (ho:isB l[i] t ts) :
  ACalls Tryz.prog GP 16 [.ptr 0 0,.val (.int .i64 (i:Int))] [SO l 1,.tok 3 l.length] (fun r os=>os=[SO l 1,.tok 3 l.length]∧r=.tup [.agg (BA t .no),.val (.int .i64 0)]):=by
 have cR:=aMk l hl i hi t ts ho
 obtain⟨o1,o2,hs,hpl,hok,hb,hlen⟩:=ho
 have hnC:=gA l
 have hlB:=fV t .no hs.2.2.2.1
 have hoB:=kG t .no
 have hnB:=iF t .no rfl
 have hBt:(BA t .no).take 37=BA t .no:=List.take_of_length_le (by omega)
 have hBd:(BA t .no).drop 37=[]:=List.drop_eq_nil_of_le (by omega)
 have hz0:=oL
 have hlz:=fV fK .full (by simp[fK])
 have hzd7:(BA fK .full).drop 37=[]:=rfl
 generalize BA fK .full=B0 at *
 generalize BA t .no=Bd at *
 simp only[SO] at *
 refine dB Tryz.func16 rfl rfl Tryz.ntmps16 (rts:=#[70,37]) rfl Tryz.results16 (by simp) ?_
 simp only[aZ,Nat.reduceAdd]
 refine kq ?_
 rw[hz0]
 refine aE [0,1,4] ?_
 simp only[aD,aB,Nat.reduceEqDiff,if_true,if_false]
 refine kr [1000008] fun K hK=>?_
 refine gF [0,1] false [50,3,4,114] ⟨by decide,by simp,by simp[fU,eV,ref,jH,bM _ _ hnC]⟩ rfl (by simp[aH]) (by simp only[GHd,List.map_cons,List.map_nil,List.getD_cons_zero,List.getD_cons_succ,gJ,gH,ren,rB,cY _ _ hnC];exact cR) ⟨by simp,by simp[fU,eV,ref,jH,bM _ _ hnC],by simp[eV,ref,bM _ _ hnB],fun h=>by cases h⟩ ?_
 simp only[seval,kT,ren,gH,cY _ _ hnB,jD,gG,gJ,cY _ _ hnC,rB,σn,hlz,hoB,hlB,hzd7]
 refine hK _ ?_
 clear hK K
 refine kp [4,5] ?_
 refine aS ?_
 refine fE (by simp) (by simp[fU,eV,ref,jH,bM _ _ hnC]) ?_
 simp only[seval,kT,kN,hlB,hBt]
 simp[ref,eV,bM _ _ hnB]
end Go.Proofs.YtefdnmeopbkflaaGreatDoor
