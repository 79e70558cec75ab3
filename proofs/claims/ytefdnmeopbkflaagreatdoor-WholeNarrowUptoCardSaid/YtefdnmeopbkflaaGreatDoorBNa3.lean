/-
  Texts of one proof, merged: T, Wa, Dp, Wl, Wm, Wn, Wo, Db, Wp, Df, Dd, Dg, Dh, Ea, Eb, Hb, Ec, Ed, Ga, We, Wr, Ws, Wt, Gb, Gc, Wb, Wc, Wd, Xa, Xb, Xc, Gd, Ge, Gf, Gg, Gh, Xd, Wk, Gi.
-/
import Derived.Test.YtefdnmeopbkflaaGreatDoorBNa2
import Derived.Test.YtefdnmeopbkflaaGreatDoorProg
import Derived.KernelRfl
import Derived.Laws.BitsLemmas
import Derived.WalkKit
import Derived.Lib.Walk
import Derived.Lib.Strings
import Derived.Lib.Bytealg
import Derived.Laws.Externs
set_option linter.unusedSimpArgs false
set_option linter.unusedVariables false
namespace Go.Proofs.YtefdnmeopbkflaaGreatDoor
open Go Go.V
theorem bD:tsz Tryz.prog 2=some 1∧
 tsz Tryz.prog 3=some 1∧
 tsz Tryz.prog 4=some 1∧
 tsz Tryz.prog 5=some 1∧
 tsz Tryz.prog 6=some 1∧
 tsz Tryz.prog 8=some 4∧
 tsz Tryz.prog 9=some 1∧
 tsz Tryz.prog 16=some 1∧
 tsz Tryz.prog 21=some 1∧
 tsz Tryz.prog 23=some 32∧
 tsz Tryz.prog 24=some 16∧
 tsz Tryz.prog 26=some 17∧
 tsz Tryz.prog 27=some 1∧
 tsz Tryz.prog 29=some 20∧
 tsz Tryz.prog 30=some 1∧
 tsz Tryz.prog 32=some 22∧
 tsz Tryz.prog 35=some 1∧
 tsz Tryz.prog 37=some 1∧
 tsz Tryz.prog 38=some 1∧
 tsz Tryz.prog 40=some 4∧
 tsz Tryz.prog 42=some 96∧
 tsz Tryz.prog 43=some 1∧
 tsz Tryz.prog 44=some 1∧
 tsz Tryz.prog 46=some 129∧
 tsz Tryz.prog 48=some 3∧
 tsz Tryz.prog 50=some 1∧
 tsz Tryz.prog 54=some 1∧
 tsz Tryz.prog 62=some 130∧
 tsz Tryz.prog 64=some 133∧
 tsz Tryz.prog 65=some 1∧
 tsz Tryz.prog 67=some 36∧
 tsz Tryz.prog 68=some 1∧
 tsz Tryz.prog 70=some 37∧
 tsz Tryz.prog 74=some 5∧
 tsz Tryz.prog 79=some 18∧
 tsz Tryz.prog 81=some 23∧
 tsz Tryz.prog 103=some 1∧
 tsz Tryz.prog 106=some 3∧
 tsz Tryz.prog 108=some 2∧
 tsz Tryz.prog 111=some 1∧
 tsz Tryz.prog 113=some 1∧
 tsz Tryz.prog 124=some 2∧
 tsz Tryz.prog 129=some 1∧
 tsz Tryz.prog 146=some 1∧
 tsz Tryz.prog 147=some 1∧
 tsz Tryz.prog 148=some 1∧
 tsz Tryz.prog 151=some 37∧
 tsz Tryz.prog 152=some 1∧
 tsz Tryz.prog 154=some 39∧
 tsz Tryz.prog 160=some 1∧
 tsz Tryz.prog 162=some 1∧
 tsz Tryz.prog 164=some 3∧
 tsz Tryz.prog 173=some 130∧
 tsz Tryz.prog 186=some 1∧
 tsz Tryz.prog 191=some 35∧
 tsz Tryz.prog 206=some 1∧
 tsz Tryz.prog 249=some 1∧
 tsz Tryz.prog 251=some 2∧
 tsz Tryz.prog 269=some 1∧
 tsz Tryz.prog 271=some 1∧
 tsz Tryz.prog 279=some 1∧
 tsz Tryz.prog 293=some 24∧
 tsz Tryz.prog 297=some 1∧
 tsz Tryz.prog 299=some 2∧
 tsz Tryz.prog 318=some 1∧
 tsz Tryz.prog 319=some 1∧
 tsz Tryz.prog 330=some 20∧
 tsz Tryz.prog 331=some 65∧
 tsz Tryz.prog 334=some 1∧
 tsz Tryz.prog 336=some 64∧
 tsz Tryz.prog 346=some 1∧
 tsz Tryz.prog 349=some 2∧
 tsz Tryz.prog 362=some 8∧
 tsz Tryz.prog 364=some 73∧
 tsz Tryz.prog 366=some 256∧
 tsz Tryz.prog 368=some 2∧
 tsz Tryz.prog 369=some 32∧
 tsz Tryz.prog 371=some 64∧
 tsz Tryz.prog 378=some 4∧
 tsz Tryz.prog 381=some 0∧
 tsz Tryz.prog 383=some 0:=⟨by kernel_rfl,by kernel_rfl,by kernel_rfl,by kernel_rfl,by kernel_rfl,by kernel_rfl,by kernel_rfl,by kernel_rfl,by kernel_rfl,by kernel_rfl,by kernel_rfl,by kernel_rfl,by kernel_rfl,by kernel_rfl,by kernel_rfl,by kernel_rfl,by kernel_rfl,by kernel_rfl,by kernel_rfl,by kernel_rfl,by kernel_rfl,by kernel_rfl,by kernel_rfl,by kernel_rfl,by kernel_rfl,by kernel_rfl,by kernel_rfl,by kernel_rfl,by kernel_rfl,by kernel_rfl,by kernel_rfl,by kernel_rfl,by kernel_rfl,by kernel_rfl,by kernel_rfl,by kernel_rfl,by kernel_rfl,by kernel_rfl,by kernel_rfl,by kernel_rfl,by kernel_rfl,by kernel_rfl,by kernel_rfl,by kernel_rfl,by kernel_rfl,by kernel_rfl,by kernel_rfl,by kernel_rfl,by kernel_rfl,by kernel_rfl,by kernel_rfl,by kernel_rfl,by kernel_rfl,by kernel_rfl,by kernel_rfl,by kernel_rfl,by kernel_rfl,by kernel_rfl,by kernel_rfl,by kernel_rfl,by kernel_rfl,by kernel_rfl,by kernel_rfl,by kernel_rfl,by kernel_rfl,by kernel_rfl,by kernel_rfl,by kernel_rfl,by kernel_rfl,by kernel_rfl,by kernel_rfl,by kernel_rfl,by kernel_rfl,by kernel_rfl,by kernel_rfl,by kernel_rfl,by kernel_rfl,by kernel_rfl,by kernel_rfl,by kernel_rfl,by kernel_rfl⟩
theorem lX:tby Tryz.prog 2=some 8∧
 tby Tryz.prog 3=some 8∧
 tby Tryz.prog 4=some 1∧
 tby Tryz.prog 5=some 1∧
 tby Tryz.prog 6=some 1∧
 tby Tryz.prog 8=some 24∧
 tby Tryz.prog 9=some 16∧
 tby Tryz.prog 16=some 8∧
 tby Tryz.prog 21=some 4∧
 tby Tryz.prog 23=some 32∧
 tby Tryz.prog 24=some 16∧
 tby Tryz.prog 26=some 17∧
 tby Tryz.prog 27=some 8∧
 tby Tryz.prog 29=some 64∧
 tby Tryz.prog 30=some 8∧
 tby Tryz.prog 32=some 80∧
 tby Tryz.prog 35=some 8∧
 tby Tryz.prog 37=some 8∧
 tby Tryz.prog 38=some 8∧
 tby Tryz.prog 40=some 32∧
 tby Tryz.prog 42=some 96∧
 tby Tryz.prog 43=some 24∧
 tby Tryz.prog 44=some 24∧
 tby Tryz.prog 46=some 296∧
 tby Tryz.prog 48=some 24∧
 tby Tryz.prog 50=some 8∧
 tby Tryz.prog 54=some 24∧
 tby Tryz.prog 62=some 152∧
 tby Tryz.prog 64=some 200∧
 tby Tryz.prog 65=some 24∧
 tby Tryz.prog 67=some 88∧
 tby Tryz.prog 68=some 24∧
 tby Tryz.prog 70=some 112∧
 tby Tryz.prog 74=some 64∧
 tby Tryz.prog 79=some 32∧
 tby Tryz.prog 81=some 96∧
 tby Tryz.prog 103=some 8∧
 tby Tryz.prog 106=some 24∧
 tby Tryz.prog 108=some 16∧
 tby Tryz.prog 111=some 24∧
 tby Tryz.prog 113=some 24∧
 tby Tryz.prog 124=some 24∧
 tby Tryz.prog 129=some 8∧
 tby Tryz.prog 146=some 8∧
 tby Tryz.prog 147=some 24∧
 tby Tryz.prog 148=some 24∧
 tby Tryz.prog 151=some 112∧
 tby Tryz.prog 152=some 24∧
 tby Tryz.prog 154=some 160∧
 tby Tryz.prog 160=some 8∧
 tby Tryz.prog 162=some 8∧
 tby Tryz.prog 164=some 24∧
 tby Tryz.prog 173=some 152∧
 tby Tryz.prog 186=some 24∧
 tby Tryz.prog 191=some 56∧
 tby Tryz.prog 206=some 16∧
 tby Tryz.prog 249=some 8∧
 tby Tryz.prog 251=some 32∧
 tby Tryz.prog 269=some 8∧
 tby Tryz.prog 271=some 2∧
 tby Tryz.prog 279=some 4∧
 tby Tryz.prog 293=some 24∧
 tby Tryz.prog 297=some 8∧
 tby Tryz.prog 299=some 32∧
 tby Tryz.prog 318=some 24∧
 tby Tryz.prog 319=some 8∧
 tby Tryz.prog 330=some 160∧
 tby Tryz.prog 331=some 65∧
 tby Tryz.prog 334=some 8∧
 tby Tryz.prog 336=some 64∧
 tby Tryz.prog 346=some 8∧
 tby Tryz.prog 349=some 16∧
 tby Tryz.prog 362=some 32∧
 tby Tryz.prog 364=some 104∧
 tby Tryz.prog 366=some 256∧
 tby Tryz.prog 368=some 2∧
 tby Tryz.prog 369=some 32∧
 tby Tryz.prog 371=some 256∧
 tby Tryz.prog 378=some 4∧
 tby Tryz.prog 381=some 0∧
 tby Tryz.prog 383=some 0:=⟨by kernel_rfl,by kernel_rfl,by kernel_rfl,by kernel_rfl,by kernel_rfl,by kernel_rfl,by kernel_rfl,by kernel_rfl,by kernel_rfl,by kernel_rfl,by kernel_rfl,by kernel_rfl,by kernel_rfl,by kernel_rfl,by kernel_rfl,by kernel_rfl,by kernel_rfl,by kernel_rfl,by kernel_rfl,by kernel_rfl,by kernel_rfl,by kernel_rfl,by kernel_rfl,by kernel_rfl,by kernel_rfl,by kernel_rfl,by kernel_rfl,by kernel_rfl,by kernel_rfl,by kernel_rfl,by kernel_rfl,by kernel_rfl,by kernel_rfl,by kernel_rfl,by kernel_rfl,by kernel_rfl,by kernel_rfl,by kernel_rfl,by kernel_rfl,by kernel_rfl,by kernel_rfl,by kernel_rfl,by kernel_rfl,by kernel_rfl,by kernel_rfl,by kernel_rfl,by kernel_rfl,by kernel_rfl,by kernel_rfl,by kernel_rfl,by kernel_rfl,by kernel_rfl,by kernel_rfl,by kernel_rfl,by kernel_rfl,by kernel_rfl,by kernel_rfl,by kernel_rfl,by kernel_rfl,by kernel_rfl,by kernel_rfl,by kernel_rfl,by kernel_rfl,by kernel_rfl,by kernel_rfl,by kernel_rfl,by kernel_rfl,by kernel_rfl,by kernel_rfl,by kernel_rfl,by kernel_rfl,by kernel_rfl,by kernel_rfl,by kernel_rfl,by kernel_rfl,by kernel_rfl,by kernel_rfl,by kernel_rfl,by kernel_rfl,by kernel_rfl,by kernel_rfl⟩
theorem bS:dS Tryz.prog 2=some ([.int .i64 0])∧
 dS Tryz.prog 3=some ([.int .i64 0])∧
 dS Tryz.prog 4=some ([.bool false])∧
 dS Tryz.prog 5=some ([.int .u8 0])∧
 dS Tryz.prog 6=some ([.int .u8 0])∧
 dS Tryz.prog 8=some ([.int .i64 0,.int .i64 0,.bool false,.int .u8 0])∧
 dS Tryz.prog 9=some ([.string ⟨#[]⟩])∧
 dS Tryz.prog 16=some ([.pointer none])∧
 dS Tryz.prog 21=some ([.int .i32 0])∧
 dS Tryz.prog 23=some (zvs .u8 32)∧
 dS Tryz.prog 24=some (zvs .u8 16)∧
 dS Tryz.prog 26=some ([.bool false,.int .u8 0,.int .u8 0,.int .u8 0,.int .u8 0,.int .u8 0,.int .u8 0,.int .u8 0,.int .u8 0,.int .u8 0,.int .u8 0,.int .u8 0,.int .u8 0,.int .u8 0,.int .u8 0,.int .u8 0,.int .u8 0])∧
 dS Tryz.prog 27=some ([.float .f64 0])∧
 dS Tryz.prog 29=some ([.string ⟨#[]⟩,.string ⟨#[]⟩,.bool false,.int .u8 0,.int .u8 0,.int .u8 0,.int .u8 0,.int .u8 0,.int .u8 0,.int .u8 0,.int .u8 0,.int .u8 0,.int .u8 0,.int .u8 0,.int .u8 0,.int .u8 0,.int .u8 0,.int .u8 0,.int .u8 0,.float .f64 0])∧
 dS Tryz.prog 30=some ([.int .u64 0])∧
 dS Tryz.prog 32=some ([.string ⟨#[]⟩,.string ⟨#[]⟩,.bool false,.int .u8 0,.int .u8 0,.int .u8 0,.int .u8 0,.int .u8 0,.int .u8 0,.int .u8 0,.int .u8 0,.int .u8 0,.int .u8 0,.int .u8 0,.int .u8 0,.int .u8 0,.int .u8 0,.int .u8 0,.int .u8 0,.float .f64 0,.int .u64 0,.int .u64 0])∧
 dS Tryz.prog 35=some ([.pointer none])∧
 dS Tryz.prog 37=some ([.int .i64 0])∧
 dS Tryz.prog 38=some ([.int .i64 0])∧
 dS Tryz.prog 40=some ([.int .i64 0,.int .i64 0,.int .u64 0,.int .i64 0])∧
 dS Tryz.prog 42=some (zvs .u8 96)∧
 dS Tryz.prog 43=some ([.slice none 0 0])∧
 dS Tryz.prog 44=some ([.slice none 0 0])∧
 dS Tryz.prog 46=some ([.int .i64 0,.int .u64 0,.int .u64 0,.int .u64 0,.int .u64 0,.int .u8 0,.int .u8 0,.int .u8 0,.int .u8 0,.int .u8 0,.int .u8 0,.int .u8 0,.int .u8 0,.int .u8 0,.int .u8 0,.int .u8 0,.int .u8 0,.int .u8 0,.int .u8 0,.int .u8 0,.int .u8 0,.int .u8 0,.int .u8 0,.int .u8 0,.int .u8 0,.int .u8 0,.int .u8 0,.int .u8 0,.int .u8 0,.int .u8 0,.int .u8 0,.int .u8 0,.int .u8 0,.int .u8 0,.int .u8 0,.int .u8 0,.int .u8 0,.int .u8 0,.int .u8 0,.int .u8 0,.int .u8 0,.int .u8 0,.int .u8 0,.int .u8 0,.int .u8 0,.int .u8 0,.int .u8 0,.int .u8 0,.int .u8 0,.int .u8 0,.int .u8 0,.int .u8 0,.int .u8 0,.int .u8 0,.int .u8 0,.int .u8 0,.int .u8 0,.int .u8 0,.int .u8 0,.int .u8 0,.int .u8 0,.int .u8 0,.int .u8 0,.int .u8 0,.int .u8 0,.int .u8 0,.int .u8 0,.int .u8 0,.int .u8 0,.int .u8 0,.int .u8 0,.int .u8 0,.int .u8 0,.int .u8 0,.int .u8 0,.int .u8 0,.int .u8 0,.int .u8 0,.int .u8 0,.int .u8 0,.int .u8 0,.int .u8 0,.int .u8 0,.int .u8 0,.int .u8 0,.int .u8 0,.int .u8 0,.int .u8 0,.int .u8 0,.int .u8 0,.int .u8 0,.int .u8 0,.int .u8 0,.int .u8 0,.int .u8 0,.int .u8 0,.int .u8 0,.int .u8 0,.int .u8 0,.int .u8 0,.int .u8 0,.string ⟨#[]⟩,.slice none 0 0,.string ⟨#[]⟩,.int .i64 0,.slice none 0 0,.string ⟨#[]⟩,.string ⟨#[]⟩,.bool false,.int .u8 0,.int .u8 0,.int .u8 0,.int .u8 0,.int .u8 0,.int .u8 0,.int .u8 0,.int .u8 0,.int .u8 0,.int .u8 0,.int .u8 0,.int .u8 0,.int .u8 0,.int .u8 0,.int .u8 0,.int .u8 0,.float .f64 0,.bool false,.bool false,.bool false])∧
 dS Tryz.prog 48=some ([.string ⟨#[]⟩,.bool false,.bool false])∧
 dS Tryz.prog 50=some ([.pointer none])∧
 dS Tryz.prog 54=some ([.slice none 0 0])∧
 dS Tryz.prog 62=some ([.int .u64 0,.int .u8 0,.int .u8 0,.int .u8 0,.int .u8 0,.int .u8 0,.int .u8 0,.int .u8 0,.int .u8 0,.int .u8 0,.int .u8 0,.int .u8 0,.int .u8 0,.int .u8 0,.int .u8 0,.int .u8 0,.int .u8 0,.int .u8 0,.int .u8 0,.int .u8 0,.int .u8 0,.int .u8 0,.int .u8 0,.int .u8 0,.int .u8 0,.int .u8 0,.int .u8 0,.int .u8 0,.int .u8 0,.int .u8 0,.int .u8 0,.int .u8 0,.int .u8 0,.int .u8 0,.int .u8 0,.int .u8 0,.int .u8 0,.int .u8 0,.int .u8 0,.int .u8 0,.int .u8 0,.int .u8 0,.int .u8 0,.int .u8 0,.int .u8 0,.int .u8 0,.int .u8 0,.int .u8 0,.int .u8 0,.int .u8 0,.int .u8 0,.int .u8 0,.int .u8 0,.int .u8 0,.int .u8 0,.int .u8 0,.int .u8 0,.int .u8 0,.int .u8 0,.int .u8 0,.int .u8 0,.int .u8 0,.int .u8 0,.int .u8 0,.int .u8 0,.string ⟨#[]⟩,.int .u8 0,.int .u8 0,.int .u8 0,.int .u8 0,.int .u8 0,.int .u8 0,.int .u8 0,.int .u8 0,.int .u8 0,.int .u8 0,.int .u8 0,.int .u8 0,.int .u8 0,.int .u8 0,.int .u8 0,.int .u8 0,.int .u8 0,.int .u8 0,.int .u8 0,.int .u8 0,.int .u8 0,.int .u8 0,.int .u8 0,.int .u8 0,.int .u8 0,.int .u8 0,.int .u8 0,.int .u8 0,.int .u8 0,.int .u8 0,.int .u8 0,.int .u8 0,.int .u8 0,.int .u8 0,.int .u8 0,.int .u8 0,.int .u8 0,.int .u8 0,.int .u8 0,.int .u8 0,.int .u8 0,.int .u8 0,.int .u8 0,.int .u8 0,.int .u8 0,.int .u8 0,.int .u8 0,.int .u8 0,.int .u8 0,.int .u8 0,.int .u8 0,.int .u8 0,.int .u8 0,.int .u8 0,.int .u8 0,.int .u8 0,.int .u8 0,.int .u8 0,.int .u8 0,.int .u8 0,.int .u8 0,.int .u8 0,.int .u8 0,.int .u8 0])∧
 dS Tryz.prog 64=some ([.bool false,.string ⟨#[]⟩,.int .u64 0,.int .u8 0,.int .u8 0,.int .u8 0,.int .u8 0,.int .u8 0,.int .u8 0,.int .u8 0,.int .u8 0,.int .u8 0,.int .u8 0,.int .u8 0,.int .u8 0,.int .u8 0,.int .u8 0,.int .u8 0,.int .u8 0,.int .u8 0,.int .u8 0,.int .u8 0,.int .u8 0,.int .u8 0,.int .u8 0,.int .u8 0,.int .u8 0,.int .u8 0,.int .u8 0,.int .u8 0,.int .u8 0,.int .u8 0,.int .u8 0,.int .u8 0,.int .u8 0,.int .u8 0,.int .u8 0,.int .u8 0,.int .u8 0,.int .u8 0,.int .u8 0,.int .u8 0,.int .u8 0,.int .u8 0,.int .u8 0,.int .u8 0,.int .u8 0,.int .u8 0,.int .u8 0,.int .u8 0,.int .u8 0,.int .u8 0,.int .u8 0,.int .u8 0,.int .u8 0,.int .u8 0,.int .u8 0,.int .u8 0,.int .u8 0,.int .u8 0,.int .u8 0,.int .u8 0,.int .u8 0,.int .u8 0,.int .u8 0,.int .u8 0,.int .u8 0,.string ⟨#[]⟩,.int .u8 0,.int .u8 0,.int .u8 0,.int .u8 0,.int .u8 0,.int .u8 0,.int .u8 0,.int .u8 0,.int .u8 0,.int .u8 0,.int .u8 0,.int .u8 0,.int .u8 0,.int .u8 0,.int .u8 0,.int .u8 0,.int .u8 0,.int .u8 0,.int .u8 0,.int .u8 0,.int .u8 0,.int .u8 0,.int .u8 0,.int .u8 0,.int .u8 0,.int .u8 0,.int .u8 0,.int .u8 0,.int .u8 0,.int .u8 0,.int .u8 0,.int .u8 0,.int .u8 0,.int .u8 0,.int .u8 0,.int .u8 0,.int .u8 0,.int .u8 0,.int .u8 0,.int .u8 0,.int .u8 0,.int .u8 0,.int .u8 0,.int .u8 0,.int .u8 0,.int .u8 0,.int .u8 0,.int .u8 0,.int .u8 0,.int .u8 0,.int .u8 0,.int .u8 0,.int .u8 0,.int .u8 0,.int .u8 0,.int .u8 0,.int .u8 0,.int .u8 0,.int .u8 0,.int .u8 0,.int .u8 0,.int .u8 0,.int .u8 0,.int .u8 0,.slice none 0 0])∧
 dS Tryz.prog 65=some ([.slice none 0 0])∧
 dS Tryz.prog 67=some ([.int .u64 0,.string ⟨#[]⟩,.slice none 0 0,.bool false,.int .u8 0,.int .u8 0,.int .u8 0,.int .u8 0,.int .u8 0,.int .u8 0,.int .u8 0,.int .u8 0,.int .u8 0,.int .u8 0,.int .u8 0,.int .u8 0,.int .u8 0,.int .u8 0,.int .u8 0,.int .u8 0,.int .u8 0,.int .u8 0,.int .u8 0,.int .u8 0,.int .u8 0,.int .u8 0,.int .u8 0,.int .u8 0,.int .u8 0,.int .u8 0,.int .u8 0,.int .u8 0,.int .u8 0,.int .u8 0,.int .u8 0,.int .u8 0])∧
 dS Tryz.prog 68=some ([.slice none 0 0])∧
 dS Tryz.prog 70=some ([.int .u64 0,.string ⟨#[]⟩,.slice none 0 0,.bool false,.int .u8 0,.int .u8 0,.int .u8 0,.int .u8 0,.int .u8 0,.int .u8 0,.int .u8 0,.int .u8 0,.int .u8 0,.int .u8 0,.int .u8 0,.int .u8 0,.int .u8 0,.int .u8 0,.int .u8 0,.int .u8 0,.int .u8 0,.int .u8 0,.int .u8 0,.int .u8 0,.int .u8 0,.int .u8 0,.int .u8 0,.int .u8 0,.int .u8 0,.int .u8 0,.int .u8 0,.int .u8 0,.int .u8 0,.int .u8 0,.int .u8 0,.int .u8 0,.slice none 0 0])∧
 dS Tryz.prog 74=some ([.bool false,.string ⟨#[]⟩,.int .u64 0,.string ⟨#[]⟩,.string ⟨#[]⟩])∧
 dS Tryz.prog 79=some ([.bool false,.int .u8 0,.int .u8 0,.int .u8 0,.int .u8 0,.int .u8 0,.int .u8 0,.int .u8 0,.int .u8 0,.int .u8 0,.int .u8 0,.int .u8 0,.int .u8 0,.int .u8 0,.int .u8 0,.int .u8 0,.int .u8 0,.int .i64 0])∧
 dS Tryz.prog 81=some ([.int .i64 0,.int .u64 0,.slice none 0 0,.string ⟨#[]⟩,.bool false,.int .u8 0,.int .u8 0,.int .u8 0,.int .u8 0,.int .u8 0,.int .u8 0,.int .u8 0,.int .u8 0,.int .u8 0,.int .u8 0,.int .u8 0,.int .u8 0,.int .u8 0,.int .u8 0,.int .u8 0,.int .u8 0,.int .i64 0,.float .f64 0])∧
 dS Tryz.prog 103=some ([.pointer none])∧
 dS Tryz.prog 106=some ([.int .u64 0,.pointer none,.pointer none])∧
 dS Tryz.prog 108=some ([.int .i64 0,.int .i64 0])∧
 dS Tryz.prog 111=some ([.slice none 0 0])∧
 dS Tryz.prog 113=some ([.slice none 0 0])∧
 dS Tryz.prog 124=some ([.int .u8 0,.string ⟨#[]⟩])∧
 dS Tryz.prog 129=some ([.pointer none])∧
 dS Tryz.prog 146=some ([.pointer none])∧
 dS Tryz.prog 147=some ([.slice none 0 0])∧
 dS Tryz.prog 148=some ([.slice none 0 0])∧
 dS Tryz.prog 151=some ([.int .u64 0,.string ⟨#[]⟩,.slice none 0 0,.bool false,.int .u8 0,.int .u8 0,.int .u8 0,.int .u8 0,.int .u8 0,.int .u8 0,.int .u8 0,.int .u8 0,.int .u8 0,.int .u8 0,.int .u8 0,.int .u8 0,.int .u8 0,.int .u8 0,.int .u8 0,.int .u8 0,.int .u8 0,.int .u8 0,.int .u8 0,.int .u8 0,.int .u8 0,.int .u8 0,.int .u8 0,.int .u8 0,.int .u8 0,.int .u8 0,.int .u8 0,.int .u8 0,.int .u8 0,.int .u8 0,.int .u8 0,.int .u8 0,.slice none 0 0])∧
 dS Tryz.prog 152=some ([.slice none 0 0])∧
 dS Tryz.prog 154=some ([.int .u64 0,.string ⟨#[]⟩,.slice none 0 0,.bool false,.int .u8 0,.int .u8 0,.int .u8 0,.int .u8 0,.int .u8 0,.int .u8 0,.int .u8 0,.int .u8 0,.int .u8 0,.int .u8 0,.int .u8 0,.int .u8 0,.int .u8 0,.int .u8 0,.int .u8 0,.int .u8 0,.int .u8 0,.int .u8 0,.int .u8 0,.int .u8 0,.int .u8 0,.int .u8 0,.int .u8 0,.int .u8 0,.int .u8 0,.int .u8 0,.int .u8 0,.int .u8 0,.int .u8 0,.int .u8 0,.int .u8 0,.int .u8 0,.slice none 0 0,.slice none 0 0,.slice none 0 0])∧
 dS Tryz.prog 160=some ([.int .u64 0])∧
 dS Tryz.prog 162=some ([.map none])∧
 dS Tryz.prog 164=some ([.int .i64 0,.int .u64 0,.map none])∧
 dS Tryz.prog 173=some ([.int .u64 0,.int .u8 0,.int .u8 0,.int .u8 0,.int .u8 0,.int .u8 0,.int .u8 0,.int .u8 0,.int .u8 0,.int .u8 0,.int .u8 0,.int .u8 0,.int .u8 0,.int .u8 0,.int .u8 0,.int .u8 0,.int .u8 0,.int .u8 0,.int .u8 0,.int .u8 0,.int .u8 0,.int .u8 0,.int .u8 0,.int .u8 0,.int .u8 0,.int .u8 0,.int .u8 0,.int .u8 0,.int .u8 0,.int .u8 0,.int .u8 0,.int .u8 0,.int .u8 0,.int .u8 0,.int .u8 0,.int .u8 0,.int .u8 0,.int .u8 0,.int .u8 0,.int .u8 0,.int .u8 0,.int .u8 0,.int .u8 0,.int .u8 0,.int .u8 0,.int .u8 0,.int .u8 0,.int .u8 0,.int .u8 0,.int .u8 0,.int .u8 0,.int .u8 0,.int .u8 0,.int .u8 0,.int .u8 0,.int .u8 0,.int .u8 0,.int .u8 0,.int .u8 0,.int .u8 0,.int .u8 0,.int .u8 0,.int .u8 0,.int .u8 0,.int .u8 0,.string ⟨#[]⟩,.int .u8 0,.int .u8 0,.int .u8 0,.int .u8 0,.int .u8 0,.int .u8 0,.int .u8 0,.int .u8 0,.int .u8 0,.int .u8 0,.int .u8 0,.int .u8 0,.int .u8 0,.int .u8 0,.int .u8 0,.int .u8 0,.int .u8 0,.int .u8 0,.int .u8 0,.int .u8 0,.int .u8 0,.int .u8 0,.int .u8 0,.int .u8 0,.int .u8 0,.int .u8 0,.int .u8 0,.int .u8 0,.int .u8 0,.int .u8 0,.int .u8 0,.int .u8 0,.int .u8 0,.int .u8 0,.int .u8 0,.int .u8 0,.int .u8 0,.int .u8 0,.int .u8 0,.int .u8 0,.int .u8 0,.int .u8 0,.int .u8 0,.int .u8 0,.int .u8 0,.int .u8 0,.int .u8 0,.int .u8 0,.int .u8 0,.int .u8 0,.int .u8 0,.int .u8 0,.int .u8 0,.int .u8 0,.int .u8 0,.int .u8 0,.int .u8 0,.int .u8 0,.int .u8 0,.int .u8 0,.int .u8 0,.int .u8 0,.int .u8 0,.int .u8 0])∧
 dS Tryz.prog 186=some ([.slice none 0 0])∧
 dS Tryz.prog 191=some ([.int .i64 0,.int .u8 0,.int .u8 0,.int .u8 0,.int .u8 0,.int .u8 0,.int .u8 0,.int .u8 0,.int .u8 0,.int .u8 0,.int .u8 0,.int .u8 0,.int .u8 0,.int .u8 0,.int .u8 0,.int .u8 0,.int .u8 0,.int .u8 0,.int .u8 0,.int .u8 0,.int .u8 0,.int .u8 0,.int .u8 0,.int .u8 0,.int .u8 0,.int .u8 0,.int .u8 0,.int .u8 0,.int .u8 0,.int .u8 0,.int .u8 0,.int .u8 0,.int .u8 0,.int .u64 0,.bool false])∧
 dS Tryz.prog 206=some ([.nilIface])∧
 dS Tryz.prog 249=some ([.pointer none])∧
 dS Tryz.prog 251=some ([.slice none 0 0,.bool false])∧
 dS Tryz.prog 269=some ([.nilFunc])∧
 dS Tryz.prog 271=some ([.int .u16 0])∧
 dS Tryz.prog 279=some ([.int .u32 0])∧
 dS Tryz.prog 293=some (zvs .u8 24)∧
 dS Tryz.prog 297=some ([.pointer none])∧
 dS Tryz.prog 299=some ([.pointer none,.slice none 0 0])∧
 dS Tryz.prog 318=some ([.slice none 0 0])∧
 dS Tryz.prog 319=some ([.pointer none])∧
 dS Tryz.prog 330=some (zvs .u64 20)∧
 dS Tryz.prog 331=some (zvs .u8 65)∧
 dS Tryz.prog 334=some ([.pointer none])∧
 dS Tryz.prog 336=some (zvs .u8 64)∧
 dS Tryz.prog 346=some ([.pointer none])∧
 dS Tryz.prog 349=some ([.pointer none,.pointer none])∧
 dS Tryz.prog 362=some (zvs .u32 8)∧
 dS Tryz.prog 364=some ([.int .u32 0,.int .u32 0,.int .u32 0,.int .u32 0,.int .u32 0,.int .u32 0,.int .u32 0,.int .u32 0,.int .u8 0,.int .u8 0,.int .u8 0,.int .u8 0,.int .u8 0,.int .u8 0,.int .u8 0,.int .u8 0,.int .u8 0,.int .u8 0,.int .u8 0,.int .u8 0,.int .u8 0,.int .u8 0,.int .u8 0,.int .u8 0,.int .u8 0,.int .u8 0,.int .u8 0,.int .u8 0,.int .u8 0,.int .u8 0,.int .u8 0,.int .u8 0,.int .u8 0,.int .u8 0,.int .u8 0,.int .u8 0,.int .u8 0,.int .u8 0,.int .u8 0,.int .u8 0,.int .u8 0,.int .u8 0,.int .u8 0,.int .u8 0,.int .u8 0,.int .u8 0,.int .u8 0,.int .u8 0,.int .u8 0,.int .u8 0,.int .u8 0,.int .u8 0,.int .u8 0,.int .u8 0,.int .u8 0,.int .u8 0,.int .u8 0,.int .u8 0,.int .u8 0,.int .u8 0,.int .u8 0,.int .u8 0,.int .u8 0,.int .u8 0,.int .u8 0,.int .u8 0,.int .u8 0,.int .u8 0,.int .u8 0,.int .u8 0,.int .u8 0,.int .u8 0,.int .u64 0])∧
 dS Tryz.prog 366=some (zvs .u8 256)∧
 dS Tryz.prog 368=some ([.int .u8 0,.int .u8 0])∧
 dS Tryz.prog 369=some (zvs .u8 32)∧
 dS Tryz.prog 371=some (zvs .u32 64)∧
 dS Tryz.prog 378=some ([.int .u8 0,.int .u8 0,.int .u8 0,.int .u8 0])∧
 dS Tryz.prog 381=some ([])∧
 dS Tryz.prog 383=some ([]):=⟨by kernel_rfl,by kernel_rfl,by kernel_rfl,by kernel_rfl,by kernel_rfl,by kernel_rfl,by kernel_rfl,by kernel_rfl,by kernel_rfl,by kernel_rfl,by kernel_rfl,by kernel_rfl,by kernel_rfl,by kernel_rfl,by kernel_rfl,by kernel_rfl,by kernel_rfl,by kernel_rfl,by kernel_rfl,by kernel_rfl,by kernel_rfl,by kernel_rfl,by kernel_rfl,by kernel_rfl,by kernel_rfl,by kernel_rfl,by kernel_rfl,by kernel_rfl,by kernel_rfl,by kernel_rfl,by kernel_rfl,by kernel_rfl,by kernel_rfl,by kernel_rfl,by kernel_rfl,by kernel_rfl,by kernel_rfl,by kernel_rfl,by kernel_rfl,by kernel_rfl,by kernel_rfl,by kernel_rfl,by kernel_rfl,by kernel_rfl,by kernel_rfl,by kernel_rfl,by kernel_rfl,by kernel_rfl,by kernel_rfl,by kernel_rfl,by kernel_rfl,by kernel_rfl,by kernel_rfl,by kernel_rfl,by kernel_rfl,by kernel_rfl,by kernel_rfl,by kernel_rfl,by kernel_rfl,by kernel_rfl,by kernel_rfl,by kernel_rfl,by kernel_rfl,by kernel_rfl,by kernel_rfl,by kernel_rfl,by kernel_rfl,by kernel_rfl,by kernel_rfl,by kernel_rfl,by kernel_rfl,by kernel_rfl,by kernel_rfl,by kernel_rfl,by kernel_rfl,by kernel_rfl,by kernel_rfl,by kernel_rfl,by kernel_rfl,by kernel_rfl,by kernel_rfl⟩
theorem aGG:Tryz.prog.eqGuardType Tryz.prog.depth 23=false∧
 Tryz.prog.eqGuardType Tryz.prog.depth 22=false∧
 Tryz.prog.eqGuardType Tryz.prog.depth 74=false∧
 Tryz.prog.eqGuardType Tryz.prog.depth 73=false∧
 Tryz.prog.eqGuardType Tryz.prog.depth 24=false∧
 Tryz.prog.eqGuardType Tryz.prog.depth 79=false∧
 Tryz.prog.eqGuardType Tryz.prog.depth 26=false:=⟨by kernel_rfl,by kernel_rfl,by kernel_rfl,by kernel_rfl,by kernel_rfl,by kernel_rfl,by kernel_rfl⟩
theorem aDJ:Tryz.prog.stoodInHeld 23=false∧
 Tryz.prog.stoodInHeld 22=false∧
 Tryz.prog.stoodInHeld 74=false∧
 Tryz.prog.stoodInHeld 73=false∧
 Tryz.prog.stoodInHeld 24=false∧
 Tryz.prog.stoodInHeld 79=false∧
 Tryz.prog.stoodInHeld 26=false:=⟨by kernel_rfl,by kernel_rfl,by kernel_rfl,by kernel_rfl,by kernel_rfl,by kernel_rfl,by kernel_rfl⟩
theorem kO:sfT Tryz.prog 8=some [(0,1),(1,1),(2,1),(3,1)]∧
 sfT Tryz.prog 26=some [(0,1),(1,16)]∧
 sfT Tryz.prog 29=some [(0,1),(1,1),(2,17),(19,1)]∧
 sfT Tryz.prog 32=some [(0,20),(20,1),(21,1)]∧
 sfT Tryz.prog 40=some [(0,1),(1,1),(2,1),(3,1)]∧
 sfT Tryz.prog 46=some [(0,1),(1,1),(2,1),(3,1),(4,1),(5,96),(101,1),(102,1),(103,1),(104,1),(105,1),(106,20),(126,1),(127,1),(128,1)]∧
 sfT Tryz.prog 48=some [(0,1),(1,1),(2,1)]∧
 sfT Tryz.prog 62=some [(0,1),(1,32),(33,32),(65,1),(66,32),(98,32)]∧
 sfT Tryz.prog 64=some [(0,1),(1,1),(2,130),(132,1)]∧
 sfT Tryz.prog 67=some [(0,1),(1,1),(2,1),(3,1),(4,32)]∧
 sfT Tryz.prog 70=some [(0,36),(36,1)]∧
 sfT Tryz.prog 74=some [(0,1),(1,1),(2,1),(3,1),(4,1)]∧
 sfT Tryz.prog 79=some [(0,17),(17,1)]∧
 sfT Tryz.prog 81=some [(0,1),(1,1),(2,1),(3,1),(4,18),(22,1)]∧
 sfT Tryz.prog 106=some [(0,1),(1,1),(2,1)]∧
 sfT Tryz.prog 108=some [(0,1),(1,1)]∧
 sfT Tryz.prog 113=some [(0,1)]∧
 sfT Tryz.prog 124=some [(0,1),(1,1)]∧
 sfT Tryz.prog 151=some [(0,36),(36,1)]∧
 sfT Tryz.prog 154=some [(0,37),(37,1),(38,1)]∧
 sfT Tryz.prog 164=some [(0,1),(1,1),(2,1)]∧
 sfT Tryz.prog 173=some [(0,1),(1,32),(33,32),(65,1),(66,32),(98,32)]∧
 sfT Tryz.prog 191=some [(0,1),(1,32),(33,1),(34,1)]∧
 sfT Tryz.prog 251=some [(0,1),(1,1)]∧
 sfT Tryz.prog 299=some [(0,1),(1,1)]∧
 sfT Tryz.prog 349=some [(0,1),(1,1)]∧
 sfT Tryz.prog 364=some [(0,8),(8,64),(72,1)]∧
 sfT Tryz.prog 368=some [(0,1),(1,1)]∧
 sfT Tryz.prog 383=some [(0,0)]:=⟨by kernel_rfl,by kernel_rfl,by kernel_rfl,by kernel_rfl,by kernel_rfl,by kernel_rfl,by kernel_rfl,by kernel_rfl,by kernel_rfl,by kernel_rfl,by kernel_rfl,by kernel_rfl,by kernel_rfl,by kernel_rfl,by kernel_rfl,by kernel_rfl,by kernel_rfl,by kernel_rfl,by kernel_rfl,by kernel_rfl,by kernel_rfl,by kernel_rfl,by kernel_rfl,by kernel_rfl,by kernel_rfl,by kernel_rfl,by kernel_rfl,by kernel_rfl,by kernel_rfl⟩
end Go.Proofs.YtefdnmeopbkflaaGreatDoor
namespace Go.Proofs.YtefdnmeopbkflaaGreatDoor
open Go Go.V
set_option linter.unusedSimpArgs false
theorem aDt (l:List UInt8) (p:Perm):ACalls Tryz.prog G0 171 [.sl l.length (Bs l) p] [] (fun r os=>os=[]∧r=.sl l.length (Bs l) .full):=by
 refine aQ Tryz.func171 rfl rfl Tryz.ntmps171 (rts:=#[54]) rfl Tryz.results171 (by simp) ?_
 simp only[aZ,Nat.reduceAdd]
 refine aC fun K hK=>aA [] ?_
 simp only[qq,aF,Nat.reduceLT,aB,cav,aG,aI]
 and_intros<;>try first|exact⟨⟩|omega
 refine hK _ ?_
 clear hK K
 refine aC fun K hK=>aA [] ?_
 simp only[seval,kZs,bI,bV,eN,Tryz.underlying54,eY,iR,Option.map_none,Option.map_some,bD,aX,Nat.mul_one,eJ,dH,ne_eq,eA,eS,iC,aI,Int.le_refl,or_true,Int.sub_zero,Int.toNat_natCast,Int.toNat_zero,List.take_of_length_le]
 and_intros<;>try first|exact⟨⟩|omega
 refine hK _ ?_
 clear hK K
 refine aS ?_
 simp only[seval,qq,bR,cQ,bN,bO,dA,aB,aJ,bW]
def be4 (x:Nat):List UInt8:=[UInt8.ofNat (x/16777216),UInt8.ofNat (x/65536),UInt8.ofNat (x/256),UInt8.ofNat x]
theorem aOa (n:Nat):IntKind.u8.wrap (n:Int)=((UInt8.ofNat n).toNat:Int):=by
 rw[IntKind.wrap_u8]
 simp
theorem aFJ (a k:Nat):Int.fdiv (a:Int) (2^k)=((a/2^k:Nat):Int):=by
 rw[Int.fdiv_eq_ediv_of_nonneg _ (by exact Int.le_of_lt (Int.pow_pos (by omega)))]
 rw[show (2:Int)^k=((2^k:Nat):Int) from by simp]
 rfl
theorem aQm (b:UInt8):AV.val (.int .u8 (b.toNat:Int))=B b:=rfl
theorem aNC (b:UInt8) (l:List UInt8):B b::Bs l=Bs (b::l):=rfl
theorem aBY (l:List UInt8) (p:Perm) (x:Nat) (hl:l.length≤70368744177664):ACalls Tryz.prog G0 198 [.sl l.length (Bs l) p,.val (.int .u32 (x:Int))] [] (fun r os=>os=[]∧r=.sl (l.length+4) (Bs (l++be4 x)) .no):=by
 refine aQ Tryz.func198 rfl rfl Tryz.ntmps198 (rts:=#[54]) rfl Tryz.results198 (by simp) ?_
 simp only[aZ,Nat.reduceAdd]
 refine aC fun K hK=>aA [] ?_
 simp only[qq,aF,Nat.reduceLT,aB,cav,aG,aI]
 and_intros<;>try first|exact⟨⟩|omega
 refine hK _ ?_
 clear hK K
 refine aC fun K hK=>aA [] ?_
 simp only[qq,aF,Nat.reduceLT,aB,reduceCtorEq,aU,Nat.reduceAdd,Nat.reduceEqDiff,bF,aT,bA,aJ,bW]
 refine aV trivial (aDt l _) (by simp[aH,aJ]) ?_
 simp only[qq,aK,aF,Nat.reduceLT,aB,Nat.reduceEqDiff,reduceCtorEq,cav,aL,aP,bH,Int.reduceLE,Int.reduceToNat,IntKind.bits,Nat.min_def,Nat.reduceLeDiff,aFJ,eL,Tryz.underlying5,eG,bA,aH,fF,Tryz.underlying279,Option.isSome_some,aOa,dV,Tryz.underlying54,bD,bS,Nat.mul_one,jJ,List.replicate_succ,List.replicate_zero,dO,eM,spl,bB,eA,Nat.reduceAdd,List.drop_nil,gV,aX,List.all_cons,dC,Value.oneCell',List.all_nil,dL,bI,fP,lX,gC,eQ,aG,aI]
 refine⟨by omega,hK _ ?_⟩
 refine aE [4] ?_
 simp only[aD,aB,Nat.reduceEqDiff,if_true,if_false]
 simp only[aQm,← gV,aNC,← iD]
 refine aS ?_
 simp only[qq,aI,bL,bR,cQ,bN,bO,dA,bW,aH,eq_self,aB,Nat.reduceEqDiff,List.headD_cons,List.tail_cons,aJ]
 simp[be4]
def tQ (n:Nat):Nat:=(119 - n%64)%64
def aAH (n:Nat):List UInt8:=128::(List.replicate (tQ n) 0++be4 (n/536870912%4294967296)++be4 (n*8%4294967296))
theorem xX (n:Nat):IntKind.u64.wrap (n:Int)=((n%18446744073709551616:Nat):Int):=by
 simp[IntKind.wrap,IntKind.bits,IntKind.signed]
theorem aGI (n:Nat):IntKind.u32.wrap (n:Int)=((n%4294967296:Nat):Int):=by
 simp[IntKind.wrap,IntKind.bits,IntKind.signed]
theorem aMo (a b:Nat):Int.tmod (a:Int) (b:Int)=((a%b:Nat):Int):=rfl
theorem aMT (n k:Nat) (hk:k≤tQ n):((IntKind.u64.wrap (IntKind.u64.wrap ((n:Int)+IntKind.u64.wrap ((1+k:Nat):Int))+8)).tmod 64 != 0)=decide (k<tQ n):=by
 have e1:IntKind.u64.wrap ((1+k:Nat):Int)=((1+k:Nat):Int):=by
  rw[xX]
  unfold tQ at hk
  omega
 rw[e1,show (n:Int)+((1+k:Nat):Int)=((n+(1+k):Nat):Int) from by omega,xX,show (((n+(1+k))%18446744073709551616:Nat):Int)+8=(((n+(1+k))%18446744073709551616+8:Nat):Int) from by omega,xX]
 rw[show ((64:Int))=((64:Nat):Int) from rfl,aMo]
 unfold tQ at *
 rw[Bool.eq_iff_iff]
 simp only[bne_iff_ne,ne_eq,decide_eq_true_eq]
 omega
theorem aPq (n:Nat) (hn:n<18446744073709551616):ACalls Tryz.prog G0 294 [.val (.int .u64 (n:Int))] [] (fun r os=>os=[]∧r=.sl (aAH n).length (Bs (aAH n)) .no):=by
 have hz:tQ n<64:=by unfold tQ;omega
 refine aQ Tryz.func294 rfl rfl Tryz.ntmps294 (rts:=#[54]) rfl Tryz.results294 (by simp) ?_
 simp only[aZ,Nat.reduceAdd]
 refine aC fun K hK=>aA [] ?_
 simp only[qq,aF,Nat.reduceLT,aB,cav,aG,aI]
 and_intros<;>try first|exact⟨⟩|omega
 refine hK _ ?_
 clear hK K
 refine aC fun K hK=>aA [] ?_
 simp only[qq,aF,dV,Tryz.underlying54,bD,bS,Nat.mul_one,jJ,List.replicate_succ,List.replicate_zero,dO,aB,cav,eM,spl,bB,eA,List.drop_nil,gV,aX,List.all_cons,dC,Value.oneCell',List.all_nil,Nat.reduceLeDiff,dL,Nat.reduceLT,Nat.reduceEqDiff,reduceCtorEq,aG,aI]
 and_intros<;>try first|exact⟨⟩|omega
 refine hK _ ?_
 clear hK K
 refine aE [0,3] ?_
 simp only[aD,aB,Nat.reduceEqDiff,if_true,if_false]
 refine aC fun K hK=>?_
 refine bK ?_
 refine oA 1 3 rfl ?_
 refine bZ (fun k=>⟨26,[(0,.val (.int .u64 (n:Int))),(3,.sl (1+k) (Bs (128::List.replicate k 0)) (.tok 0))],[.tok 1 (1+k)]⟩) (fun k=>k≤tQ n) (fun k=>tQ n - k) 0 (Nat.zero_le _) (.of_keep [0,3] (by exact rfl)) ?_
 intro k hk
 refine bJ (bJ ?_)
 refine aA [] ?_
 simp only[qq,aF,Nat.reduceLT,aB,reduceCtorEq,Nat.reduceEqDiff,bI,bV,eN,Tryz.underlying54,eL,Tryz.underlying30,eG,bA,bW,Tryz.underlying3,fF,Option.isSome_some,aL,cav,aG,aI,aP,bH,ne_eq,Int.reduceEq,aMT n k hk]
 and_intros<;>try first|exact⟨⟩|omega
 refine fB rfl rfl (fun h=>?_) (fun h=>?_)
 ·have hlt:k<tQ n:=by simpa using h
  refine bC ?_
  simp only[aI]
  refine aE [0,3] ?_
  simp only[aD,aB,Nat.reduceEqDiff,if_true,if_false]
  refine bK ?_
  refine aA [] ?_
  simp only[qq,aF,Nat.reduceLT,aB,reduceCtorEq,dV,Tryz.underlying54,bD,bS,Nat.mul_one,jJ,List.replicate_succ,List.replicate_zero,dO,cav,eM,spl,bB,eA,List.drop_nil,gV,aX,List.all_cons,dC,Value.oneCell',List.all_nil,Nat.reduceLeDiff,dL,bI,Nat.reduceEqDiff,fP,lX,gC,eQ,aG]
  and_intros<;>try first|exact⟨⟩|omega
  all_goals try (simp;omega)
  simp only[bL]
  refine⟨k+1,by omega,by omega,?_⟩
  have e:Bs (128::List.replicate k 0)++[AV.val (Value.int IntKind.u8 0)]=Bs (128::List.replicate (k+1) 0):=by
   rw[List.replicate_succ',← List.cons_append,iD]
   rfl
  rw[e]
  exact .of_keep [0,3] rfl
 ·have hge:k=tQ n:=by
   have:¬ k<tQ n:=by simpa using h
   omega
  subst hge
  refine dR ?_
  simp only[aI,bL,if_true]
  refine hK _ ?_
  clear hK K
  refine aE [0,3] ?_
  simp only[aD,aB,Nat.reduceEqDiff,if_true,if_false]
  refine aC fun K hK=>aA [] ?_
  simp only[qq,aF,Nat.reduceLT,aB,reduceCtorEq,Nat.reduceEqDiff,cav,aL,aP,bH,Int.reduceLE,Int.reduceToNat,IntKind.bits,Nat.min_def,Nat.reduceLeDiff,aFJ,eL,Tryz.underlying279,eG,bA,aH,fF,Tryz.underlying30,Option.isSome_some,aGI,aU,Nat.reduceAdd,bF,aT,aJ,bW]
  rw[show 1+tQ n=(128::List.replicate (tQ n) (0:UInt8)).length from by simp;omega]
  refine aV (by simp[aJ,aM,aH]) (aBY _ _ _ (by simp;omega)) (by simp[aH,aM,aJ,flat]) ?_
  simp only[qq,aK,aF,Nat.reduceLT,aB,Nat.reduceEqDiff,reduceCtorEq,aG,aI]
  and_intros<;>try first|exact⟨⟩|omega
  refine hK _ ?_
  clear hK K
  refine aE [0,3] ?_
  simp only[aD,aB,Nat.reduceEqDiff,if_true,if_false]
  refine aC fun K hK=>aA [] ?_
  simp only[qq,aF,Nat.reduceLT,aB,reduceCtorEq,Nat.reduceEqDiff,cav,aL,aP,bH,Int.reduceLE,Int.reduceToNat,IntKind.bits,Nat.min_def,Nat.reduceLeDiff,eL,Tryz.underlying279,eG,bA,aH,fF,Tryz.underlying30,Option.isSome_some,aU,Nat.reduceAdd,bF,aT,aJ,bW]
  rw[show ((n:Int)*2^3)=((n*8:Nat):Int) from by omega,xX,aGI]
  rw[show (List.replicate (tQ n) (0:UInt8)).length+1+4=(128::(List.replicate (tQ n) 0++be4 (n/2^29%4294967296))).length from by simp[be4]]
  refine aV (by simp[aJ,aM,aH]) (aBY _ _ _ (by simp[be4];omega)) (by simp[aH,aM,aJ,flat]) ?_
  simp only[qq,aK,aF,Nat.reduceLT,aB,Nat.reduceEqDiff,reduceCtorEq,aG,aI]
  and_intros<;>try first|exact⟨⟩|omega
  refine hK _ ?_
  clear hK K
  refine aE [2] ?_
  simp only[aD,aB,Nat.reduceEqDiff,if_true,if_false]
  refine aS ?_
  simp only[qq,aI,bL,bR,cQ,bN,bO,dA,bW,aH,eq_self,aB,Nat.reduceEqDiff,List.headD_cons,List.tail_cons,aJ]
  have e1:n*8%18446744073709551616%4294967296=n*8%4294967296:=by omega
  have e2:n/2^29%4294967296=n/536870912%4294967296:=rfl
  rw[e1,e2]
  simp only[aAH]
  congr 1
  simp[be4]
def be8 (x:Nat) (j:Nat):List UInt8:=(List.range j).map fun i=>UInt8.ofNat (x/2^(8*(7 - i)))
theorem oQ (x j:Nat):(be8 x j).length=j:=by simp[be8]
theorem aPm {a b:Nat} (h:a%256=b%256):UInt8.ofNat a=UInt8.ofNat b:=by
 apply UInt8.toNat_inj.1
 simpa using h
theorem qS {n:Int} (h0:-9223372036854775808≤n) (h1:n≤9223372036854775807):IntKind.i64.wrap n=n:=by
 simp[IntKind.wrap,IntKind.bits,IntKind.signed]
 omega
end Go.Proofs.YtefdnmeopbkflaaGreatDoor
namespace Go.Proofs.YtefdnmeopbkflaaGreatDoor
open Go Go.V
set_option linter.unusedSimpArgs false
set_option linter.unusedVariables false
set_option maxRecDepth 20000
class Gv where
 most:Int
 synT:TypeId
 synP:Value
 rngT:TypeId
 rngP:Value
def aHm:List Int:=[1,10,100,1000,10000,100000,1000000,10000000,100000000,1000000000,10000000000,100000000000,1000000000000,10000000000000,100000000000000,1000000000000000,10000000000000000,100000000000000000,1000000000000000000,10000000000000000000]
def aHl:List Int:=[0,1,56,2,57,49,28,3,61,58,42,50,38,29,17,4,62,47,59,36,45,43,51,22,53,39,33,30,24,18,12,5,63,55,48,27,60,41,37,16,46,35,44,21,52,32,23,11,54,26,40,15,34,20,31,10,25,14,19,9,13,8,7,6]
def GP [Gv]:Gl:=⟨[(9,Is .u32 aGE),(5,[.val (.int .i64 Gv.most)]),(3,[.val (.iface Gv.synT Gv.synP)]),(4,[.val (.iface Gv.rngT Gv.rngP)]),(1,Is .u64 aHm),(2,Is .u8 aHl)],[]⟩
theorem gp0 [Gv]:gav GP 9=.cptr (Is .u32 aGE):=rfl
theorem gp2 [Gv]:gav GP 2=.cptr (Is .u8 aHl):=rfl
theorem aKS [Gv] (i:Int):ACalls Tryz.prog GP 301 [.val (.int .i64 i)] [] (fun r os=>os=[]∧r=.val (.int .u32 (if 0≤i∧i<64 then aGE.getD i.toNat 0 else 0))):=by
 refine aQ Tryz.func301 rfl rfl Tryz.ntmps301 (rts:=#[279]) rfl Tryz.results301 (by simp) ?_
 simp only[seval,aZ]
 refine aC fun K hK=>aA [] ?_
 simp only[seval,kZs,cav,aI]
 and_intros<;>try first|exact⟨⟩|omega
 refine hK _ ?_
 clear hK K
 refine aC fun K1 hK1=>?_
 refine aC fun K hK=>?_
 have next:∀ (t:Bool) (s:St),t=decide (¬ (0≤i∧i<64))→gE GP s ⟨12,[(8,.val (.bool t)),(0,.val (.int .i64 i))],[]⟩→K s:=by
  intro t s ht hw
  refine hK s (eX hw ?_)
  clear hw hK K
  refine fB rfl rfl (fun h=>?_) (fun h=>?_)
  ·have hn:¬ (0≤i∧i<64):=of_decide_eq_true (ht.symm.trans h)
   refine aE [0] ?_
   simp only[seval,kZq]
   refine aC fun K hK=>aA [] ?_
   simp only[seval,kZs,cav,aI]
   and_intros<;>try first|exact⟨⟩|omega
   refine hK _ ?_
   clear hK K
   refine aE [2] ?_
   simp only[seval,kZq]
   refine aS ?_
   simp only[seval,qq,aI,bL,bR,cQ,bN,bO,dA,bW,aH,eq_self,aB,List.headD_cons,List.tail_cons]
   rw[if_neg hn]
  ·have hn:0≤i∧i<64:=by
    have:=of_decide_eq_false (ht.symm.trans h)
    omega
   refine bC (hK1 _ ?_)
   clear hK1 K1
   obtain⟨j,rfl⟩:∃ j:Nat,i=j:=⟨i.toNat,by omega⟩
   have hl:aGE.length=64:=rfl
   have hj:j<64:=by omega
   have hj2:0<64 - j:=by omega
   have hj3:j≤64:=by omega
   refine aE [0] ?_
   simp only[seval,kZq]
   refine aC fun K hK=>aA [] ?_
   simp only[seval,kZs,Int.toNat_natCast,dN,Tryz.underlying371,gp0,bD,Int.cast_ofNat_Int,Nat.mul_one,dZ,hl,hj3,mS,aY,apart,aO,Tryz.underlying279,aI,List.length_drop,hj2,kQ,fL,aQL]
   refine⟨⟨by omega,by omega⟩,hK _ ?_⟩
   refine aE [2] ?_
   simp only[seval,kZq]
   refine aS ?_
   simp only[seval,qq,aI,bL,bR,cQ,bN,bO,dA,bW,aH,eq_self,aB,List.headD_cons,List.tail_cons]
   rw[if_pos hn,Int.toNat_natCast]
 by_cases h0:i<0
 ·have h0':decide (i<0)=true:=by simpa using h0
  refine aA [] ?_
  simp only[seval,kZs,cav,aL,aP,bH,h0',dD,bT,Option.bind_some,aW,eW,gok,bU,aI]
  and_intros<;>try first|exact⟨⟩|omega
  refine next _ _ ?_ (.of_keep [8,0] (by exact rfl))
  simp
  omega
 ·have h0':decide (i<0)=false:=by simpa using h0
  refine aA [] ?_
  simp only[seval,kZs,cav,aL,aP,bH,h0',dD,bT,Option.bind_some,aW,Bool.not_false,dQ,gok,bU,aI]
  and_intros<;>try first|exact⟨⟩|omega
  refine next _ _ ?_ (.of_keep [8,0] (by exact rfl))
  rw[Bool.eq_iff_iff]
  simp
  omega
theorem aQA (n:Int):∃ m:Nat,IntKind.u64.wrap n=(m:Int)∧m%32=(n%32).toNat:=by
 refine⟨(n%18446744073709551616).toNat,?_,by omega⟩
 simp[IntKind.wrap,IntKind.signed,IntKind.bits]
 omega
theorem aPs (x:Nat) (n:Int) (hx:x<4294967296):ACalls Tryz.prog G0 306 [.val (.int .u32 (x:Int)),.val (.int .i64 n)] [] (fun r os=>os=[]∧r=.val (.int .u32 (aFo x (n%32).toNat:Int))):=by
 obtain⟨m,hm,hm32⟩:=aQA n
 generalize hk:(n%32).toNat=k at hm32
 have hk32:k<32:=by omega
 have ha:bits BinOp.and IntKind.u64 (m:Int) 31=(k:Int):=by
  have h:=aOF m 31
  rw[show m &&& 31=m%32 from Nat.and_two_pow_sub_one_eq_mod m 5,hm32,Nat.mod_eq_of_lt (by omega)] at h
  exact h
 have hw:IntKind.u64.wrap (32 - (k:Int))=((32 - k:Nat):Int):=by
  rw[show (32:Int) - (k:Int)=((32 - k:Nat):Int) by omega,tN,Nat.mod_eq_of_lt (by omega)]
 have e1:(if k≤32 then k else 32)=k:=if_pos (by omega)
 have e2:(if 32 - k≤32 then 32 - k else 32)=32 - k:=if_pos (by omega)
 refine aQ Tryz.func306 rfl rfl Tryz.ntmps306 (rts:=#[279]) rfl Tryz.results306 (by simp) ?_
 simp only[seval,aZ]
 refine aC fun K hK=>aA [] ?_
 simp only[seval,kZs,cav,aI]
 and_intros<;>try first|exact⟨⟩|omega
 refine hK _ ?_
 clear hK K
 refine aC fun K hK=>aA [] ?_
 simp only[seval,kZs,eL,Tryz.underlying160,eG,bA,aH,fF,Tryz.underlying3,Option.isSome_some,hm,cav,aL,aP,bH,ha,aI]
 and_intros<;>try first|exact⟨⟩|omega
 refine hK _ ?_
 clear hK K
 refine aC fun K hK=>aA [] ?_
 simp only[seval,kZs,aL,aP,bH,Int.toNat_natCast,IntKind.bits,Nat.min_def,e1,aCq,qV,cav,hw,e2,rV,aME,aI]
 and_intros<;>try first|exact⟨⟩|omega
 refine hK _ ?_
 clear hK K
 have hr:aFo x k%4294967296=aFo x k:=Nat.mod_eq_of_lt (aOR hx hk32)
 rw[show (x*2^k%4294967296 ||| x/2^(32 - k))=aFo x k from rfl,hr]
 refine aS ?_
 simp only[seval,qq,bR,cQ,bN,bO,dA,aB,aH]
theorem aPz (n:Int):-32<n.tmod 32∧n.tmod 32<32∧(n.tmod 32)%32=n%32:=by
 have h:=Int.tmod_def n 32
 refine⟨?_,Int.tmod_lt_of_pos n (by omega),by omega⟩
 by_cases hn:0≤n
 ·have:=Int.tmod_nonneg 32 hn;omega
 ·have h1:=Int.neg_tmod (-n) 32
  rw[Int.neg_neg] at h1
  have h2:=Int.tmod_lt_of_pos (-n) (show (0:Int)<32 by omega)
  omega
theorem mW (x:Nat) (n:Int) (hx:x<4294967296):ACalls Tryz.prog G0 305 [.val (.int .u32 (x:Int)),.val (.int .i64 n)] [] (fun r os=>os=[]∧r=.val (.int .u32 (jF x n:Int))):=by
 obtain⟨h1,h2,h3⟩:=aPz n
 have hw:IntKind.i64.wrap (0 - n.tmod 32)=-(n.tmod 32):=by rw[qS (by omega) (by omega)];omega
 have hr:=aPs x (-(n.tmod 32)) hx
 rw[show (-(n.tmod 32))%32=(-n)%32 by omega] at hr
 refine aQ Tryz.func305 rfl rfl Tryz.ntmps305 (rts:=#[279]) rfl Tryz.results305 (by simp) ?_
 simp only[seval,aZ]
 refine aC fun K hK=>aA [] ?_
 simp only[seval,kZs,cav,aI]
 and_intros<;>try first|exact⟨⟩|omega
 refine hK _ ?_
 clear hK K
 refine aC fun K hK=>aA [] ?_
 simp only[seval,kZs,cav,aL,aP,bH,ne_eq,aun,hw,aU,bF,aT,bA,aH,bW,List.tail_cons,List.headD_cons,Tryz.underlying3]
 refine aV (by simp[aJ,aM,aH]) (hr) (by simp[aH,aM,aJ,flat]) ?_
 simp only[seval,kZs,aK,aI]
 refine hK _ ?_
 refine aS ?_
 simp only[seval,qq,bR,cQ,bN,bO,dA,aB,aH]
 rfl
theorem aFz (i:Int) (x:Nat) (hx:x<4294967296):ACalls Tryz.prog G0 304 [.val (.int .i64 i),.val (.int .u32 (x:Int))] [] (fun r os=>os=[]∧r=.val (.int .u32 (small i x:Int))):=by
 have f0:((jF x 7 ^^^ jF x 18) ^^^ x/2^3)%4294967296=small 0 x:=by
  have h:=(Nat.mod_eq_of_lt (aAV (lD hx 7) (lD hx 18) (show x/8<4294967296 by omega))).trans (aPw x).symm
  rw[show (2:Nat)^3=8 from rfl,aAU]
  exact h
 have f1:((jF x 17 ^^^ jF x 19) ^^^ x/2^10)%4294967296=small 1 x:=by
  have h:=(Nat.mod_eq_of_lt (aAV (lD hx 17) (lD hx 19) (show x/1024<4294967296 by omega))).trans (aPx x).symm
  rw[show (2:Nat)^10=1024 from rfl,aAU]
  exact h
 have hm:∀ a b,(jF x a ^^^ jF x b)%4294967296=jF x a ^^^ jF x b:=fun a b=>Nat.mod_eq_of_lt (fT fun j hj=>by simp[Nat.testBit_xor,iJ (lD hx _) hj])
 refine aQ Tryz.func304 rfl rfl Tryz.ntmps304 (rts:=#[279]) rfl Tryz.results304 (by simp) ?_
 simp only[aZ,Nat.reduceAdd]
 refine aC fun K hK=>aA [] ?_
 simp only[qq,aF,Nat.reduceLT,aB,cav,aG,aI]
 and_intros<;>try first|exact⟨⟩|omega
 refine hK _ ?_
 clear hK K
 refine aC fun K1 hK1=>?_
 refine aC fun K hK=>aA [] ?_
 simp only[qq,aF,Nat.reduceLT,aB,reduceCtorEq,aG,aI]
 and_intros<;>try first|exact⟨⟩|omega
 refine hK _ ?_
 clear hK K
 refine bK ?_
 refine aE [1,5] ?_
 simp only[aD,aB,Nat.reduceEqDiff,if_true,if_false]
 by_cases h0:i=0
 ·subst h0
  refine aC fun K hK=>aA [] ?_
  simp only[qq,aF,aB,Nat.reduceEqDiff,cav,aL,aP,bH,beq_self_eq_true,Nat.reduceLT,aG,aI]
  and_intros<;>try first|exact⟨⟩|omega
  refine hK _ ?_
  clear hK K
  refine bG rfl ?_
  refine aE [1] ?_
  simp only[aD,aB,Nat.reduceEqDiff,if_true,if_false]
  refine aC fun K hK=>aA [] ?_
  simp only[qq,aF,Nat.reduceLT,aB,aU,Nat.reduceAdd,Nat.reduceEqDiff,cav,bF,aT,bA,aH]
  refine aV (by simp[aJ,aM,aH]) (mW x 7 hx) (by simp[aH,aM,aJ,flat]) ?_
  simp only[qq,aK,aF,Nat.reduceLT,aB,Nat.reduceEqDiff,aU,Nat.reduceAdd,cav,bF,aT,bA,aH]
  refine aV (by simp[aJ,aM,aH]) (mW x 18 hx) (by simp[aH,aM,aJ,flat]) ?_
  simp only[qq,aK,aF,aB,Nat.reduceEqDiff,aL,aP,bH,oF,hm,Nat.reduceLT,cav,Int.reduceLE,Int.reduceToNat,IntKind.bits,Nat.min_def,Nat.reduceLeDiff,rV,f0,aG,aI]
  refine hK _ ?_
  refine aE [4] ?_
  simp only[aD,aB,Nat.reduceEqDiff,if_true,if_false]
  refine aS ?_
  simp only[qq,bL,aI,bR,cQ,bN,bO,dA,aB,aH]
 have hb0:(i == 0)=false:=by simpa using h0
 refine aC fun K hK=>aA [] ?_
 simp only[qq,aF,aB,Nat.reduceEqDiff,cav,aL,aP,bH,hb0,Nat.reduceLT,aG,aI]
 and_intros<;>try first|exact⟨⟩|omega
 refine hK _ ?_
 clear hK K
 refine aR rfl ?_
 refine aE [1,5] ?_
 simp only[aD,aB,Nat.reduceEqDiff,if_true,if_false]
 by_cases h1:i=1
 ·subst h1
  refine aC fun K hK=>aA [] ?_
  simp only[qq,aF,aB,Nat.reduceEqDiff,cav,aL,aP,bH,beq_self_eq_true,Nat.reduceLT,aG,aI]
  and_intros<;>try first|exact⟨⟩|omega
  refine hK _ ?_
  clear hK K
  refine bG rfl ?_
  refine aE [1] ?_
  simp only[aD,aB,Nat.reduceEqDiff,if_true,if_false]
  refine aC fun K hK=>aA [] ?_
  simp only[qq,aF,Nat.reduceLT,aB,aU,Nat.reduceAdd,Nat.reduceEqDiff,cav,bF,aT,bA,aH]
  refine aV (by simp[aJ,aM,aH]) (mW x 17 hx) (by simp[aH,aM,aJ,flat]) ?_
  simp only[qq,aK,aF,Nat.reduceLT,aB,Nat.reduceEqDiff,aU,Nat.reduceAdd,cav,bF,aT,bA,aH]
  refine aV (by simp[aJ,aM,aH]) (mW x 19 hx) (by simp[aH,aM,aJ,flat]) ?_
  simp only[qq,aK,aF,aB,Nat.reduceEqDiff,aL,aP,bH,oF,hm,Nat.reduceLT,cav,Int.reduceLE,Int.reduceToNat,IntKind.bits,Nat.min_def,Nat.reduceLeDiff,rV,f1,aG,aI]
  refine hK _ ?_
  refine aE [4] ?_
  simp only[aD,aB,Nat.reduceEqDiff,if_true,if_false]
  refine aS ?_
  simp only[qq,bL,aI,bR,cQ,bN,bO,dA,aB,aH]
 have hb1:(i == 1)=false:=by simpa using h1
 refine aC fun K hK=>aA [] ?_
 simp only[qq,aF,aB,Nat.reduceEqDiff,cav,aL,aP,bH,hb1,Nat.reduceLT,aG,aI]
 and_intros<;>try first|exact⟨⟩|omega
 refine hK _ ?_
 clear hK K
 refine aR rfl ?_
 refine bC ?_
 simp only[bL,aI]
 refine hK1 _ ?_
 clear hK1 K1
 refine aC fun K hK=>aA [] ?_
 simp only[qq,aF,Nat.reduceLT,aB,cav,aG,aI]
 and_intros<;>try first|exact⟨⟩|omega
 refine hK _ ?_
 clear hK K
 refine aE [4] ?_
 simp only[aD,aB,Nat.reduceEqDiff,if_true,if_false]
 refine aS ?_
 simp only[qq,bR,cQ,bN,bO,dA,aB,aH]
 rw[aPy x h0 h1]
 rfl

theorem aPO (b:List UInt8) (p:Perm):ACalls Tryz.prog G0 303 [.sl b.length (Bs b) p] [] (fun r os=>os=[]∧r=.val (.int .u32 (gw b:Int))):=by
 refine aQ Tryz.func303 rfl rfl Tryz.ntmps303 (rts:=#[279]) rfl Tryz.results303 (by simp) ?_
 simp only[aZ,Nat.reduceAdd]
 refine aC fun K hK=>aA [] ?_
 simp only[qq,aF,Nat.reduceLT,aB,cav,aG,aI]
 and_intros<;>try first|exact⟨⟩|omega
 refine hK _ ?_
 clear hK K
 refine aC fun K hK=>aA [] ?_
 simp only[qq,aF,dF,bS,cav,Nat.reduceLT,aG,aI,aB]
 and_intros<;>try first|exact⟨⟩|omega
 refine hK _ ?_
 clear hK K
 refine aE [0,3] ?_
 simp only[aD,aB,Nat.reduceEqDiff,if_true,if_false]
 refine aC fun K hK=>aA [] ?_
 simp only[qq,aF,eY,iR,Option.map_none,Tryz.underlying378,aB,reduceCtorEq,bD,eJ,Int.le_refl,dH,Int.cast_ofNat_Int,Int.reduceLE,ne_eq,not_true_eq_false,or_false,Int.toNat_zero,Nat.mul_one,Int.sub_zero,Int.reduceToNat,Nat.reduceLT,bI,Nat.reduceEqDiff,aCK,Tryz.underlying54,eQ,aX,Nat.min_def,spl,aG,aI,Nat.reduceAdd,eS,eR]
 have key:(if 0<if b.length≤4 then b.length else 4 then
      [AObj.cells
        (Bs (List.take (if b.length≤4 then b.length else 4) b) ++
         List.drop (List.take (if b.length≤4 then b.length else 4) b).length
          [AV.val (Value.int IntKind.u8 0),AV.val (Value.int IntKind.u8 0),AV.val (Value.int IntKind.u8 0),AV.val (Value.int IntKind.u8 0)])]
     else
      [AObj.cells
        [AV.val (Value.int IntKind.u8 0),AV.val (Value.int IntKind.u8 0),AV.val (Value.int IntKind.u8 0),AV.val (Value.int IntKind.u8 0)]])=[AObj.cells [B (b.getD 0 0),B (b.getD 1 0),B (b.getD 2 0),B (b.getD 3 0)]]:=by
  by_cases h4:4≤b.length
  ·rw[show (if b.length≤4 then b.length else 4)=4 by split<;>omega]
   rcases b with _|⟨b0,_|⟨b1,_|⟨b2,_|⟨b3,r⟩⟩⟩⟩<;>simp[Bs,B] at h4 ⊢
  ·rw[show (if b.length≤4 then b.length else 4)=b.length by split<;>omega]
   rcases b with _|⟨b0,_|⟨b1,_|⟨b2,_|⟨b3,r⟩⟩⟩⟩<;>simp[Bs,B] at h4 ⊢
 rw[key]
 refine⟨by split<;>omega,hK _ ?_⟩
 clear hK K key
 refine aE [3] ?_
 simp only[aD,aB,Nat.reduceEqDiff,if_true,if_false]
 have h0:=(b.getD 0 0).toNat_lt
 have h1:=(b.getD 1 0).toNat_lt
 have h2:=(b.getD 2 0).toNat_lt
 have h3:=(b.getD 3 0).toNat_lt
 have hg:=aNr _ _ _ _ h0 h1 h2 h3
 have hl:∀ n,n=(b.getD 0 0).toNat*16777216+(b.getD 1 0).toNat*65536+(b.getD 2 0).toNat*256+(b.getD 3 0).toNat→n=gw b:=fun n h=>h
 generalize gw b=g at hl ⊢
 generalize (b.getD 0 0)=b0 at *
 generalize (b.getD 1 0)=b1 at *
 generalize (b.getD 2 0)=b2 at *
 generalize (b.getD 3 0)=b3 at *
 rw[show [B b0,B b1,B b2,B b3]=Bs [b0,b1,b2,b3] from rfl]
 refine aC fun K hK=>aA [] ?_
 simp only[qq,aF,dN,aB,cav,Tryz.underlying378,bD,Int.le_refl,Int.cast_ofNat_Int,Int.reduceLT,Int.toNat_zero,Nat.mul_one,Nat.reduceLT,aY,Nat.reduceEqDiff,apart,aO,Tryz.underlying5,eL,Tryz.underlying279,eG,bA,bW,fF,Option.isSome_some,aL,Int.reduceLE,Int.reduceToNat,aG,aI,aX,Nat.reduceAdd,kP,B,qV,aP,bH,IntKind.bits,Nat.min_def,Nat.reduceLeDiff,aCq,List.getD_cons_succ,aME,hg,hl _ rfl]
 and_intros<;>try first|exact⟨⟩|omega
 refine hK _ ?_
 clear hK K
 refine aS ?_
 simp only[qq,bR,cQ,bN,bO,dA,aB,Nat.reduceEqDiff,aH]

theorem aFv (b:List UInt8) (hb:b.length=64):∃ W s1 s0:Nat→Nat,W=word b∧(∀ i,W i<4294967296)∧
  (∀ i,i<16→∀ p,ACalls Tryz.prog G0 303 [.sl (64 - 4*i) (Bs (b.drop (4*i))) p] [] (fun r os=>os=[]∧r=.val (.int .u32 (W i:Int))))∧
  (∀ i,ACalls Tryz.prog G0 304 [.val (.int .i64 1),.val (.int .u32 (W i:Int))] [] (fun r os=>os=[]∧r=.val (.int .u32 (s1 i:Int))))∧
  (∀ i,ACalls Tryz.prog G0 304 [.val (.int .i64 0),.val (.int .u32 (W i:Int))] [] (fun r os=>os=[]∧r=.val (.int .u32 (s0 i:Int))))∧
  (∀ i,16≤i→(((s1 (i - 2)+W (i - 7))%4294967296+s0 (i - 15))%4294967296+W (i - 16))%4294967296=W i):=by
 refine⟨word b,fun i=>small 1 (word b i),fun i=>small 0 (word b i),rfl,aEX b,fun i hi p=>?_,fun i=>aFz 1 _ (aEX b i),fun i=>aFz 0 _ (aEX b i),fun i hi=>?_⟩
 ·have h:=aPO (b.drop (4*i)) p
  rw[List.length_drop,hb,← aHq b i hi] at h
  exact h
 ·rw[aMu b i hi]
  show (((small 1 (word b (i - 2))+word b (i - 7))%4294967296+small 0 (word b (i - 15)))%4294967296+word b (i - 16))%4294967296=_
  generalize small 1 (word b (i - 2))=a
  generalize small 0 (word b (i - 15))=c
  omega
theorem aFw (b:List UInt8) (hb:b.length=64):ACalls Tryz.prog G0 298 [.agg (Bs b)] [] (fun r os=>os=[]∧r=.agg (Is .u32 (arr 64 (word b) 64))):=by
 obtain⟨W,s1,s0,hW,hlt,cG,c1,c0,hbig⟩:=aFv b hb
 rw[← hW]
 have hbt:b.take 64=b:=List.take_of_length_le (by omega)
 have hbd:b.drop 64=[]:=List.drop_eq_nil_of_le (by omega)
 have hz:(zvs .u32 64).map cav=Is .u32 (arr 64 W 0):=by rw[aEZ,aKr]
 have hl:∀ i,(arr 64 W i).length=64:=aAs 64 W
 refine aQ Tryz.func298 rfl rfl Tryz.ntmps298 (rts:=#[371]) rfl Tryz.results298 (by simp) ?_
 simp only[seval,aZ]
 refine aC fun K hK=>aA [] ?_
 simp only[seval,kZs,eF,bB,eR,fN,dF,bS,hz,aI]
 and_intros<;>try first|exact⟨⟩|omega
 refine hK _ ?_
 clear hK K
 refine aE [1,2] ?_
 simp only[seval,kZq]
 refine aC fun K1 hK1=>?_
 refine aC fun K hK=>aA [] ?_
 simp only[seval,kZs,cav,aI]
 and_intros<;>try first|exact⟨⟩|omega
 refine hK _ ?_
 clear hK K
 refine bK ?_
 refine bZ (fun i:Nat=>⟨40,[(1,.ptr 0 0),(2,.ptr 1 0),(4,.val (.int .i64 (i:Int)))],[.cells (Bs b),.cells (Is .u32 (arr 64 W i))]⟩)
  (fun i=>i≤64) (fun i=>64 - i) 0 (by omega) (.of_keep [1,2,4] rfl) ?_
 intro i hi
 refine aC fun K hK=>aA [] ?_
 simp only[seval,kZs,cav,aL,aP,bH,aCB,aI]
 and_intros<;>try first|exact⟨⟩|omega
 refine hK _ ?_
 clear hK K
 refine bJ ?_
 refine fB rfl rfl (fun h=>?_) (fun h=>?_)
 ·have hlt:i<64:=of_decide_eq_true h
  refine bC ?_
  simp only[aI]
  refine aE [1,2,4] ?_
  simp only[seval,kZq]
  refine bJ ?_
  refine bK ?_
  refine aC fun K hK=>aA [] ?_
  simp only[seval,kZs,aI]
  and_intros<;>try first|exact⟨⟩|omega
  refine hK _ ?_
  clear hK K
  refine aC fun K hK=>aA [] ?_
  simp only[seval,kZs,cav,aL,aP,bH,aCB,aI]
  refine hK _ ?_
  clear hK K
  refine aE [1,2,3,4,8] ?_
  simp only[seval,kZq]
  by_cases h16:i<16
  ·refine bG (by simp only[aB,lk,h16,decide_true];rfl) ?_
   refine aE [1,2,3,4] ?_
   simp only[seval,kZq]
   have hw:IntKind.i64.wrap (4*(i:Int))=((4*i:Nat):Int):=by rw[qS (by omega) (by omega)];omega
   have h64:((64:Int) - ((4*i:Nat):Int)).toNat=64 - 4*i:=by omega
   have hd:(b.drop (4*i)).take (64 - 4*i)=b.drop (4*i):=List.take_of_length_le (by rw[List.length_drop];omega)
   refine aA [] ?_
   simp only[seval,kZs,cav,aL,aP,bH,hw,eY,iR,Option.map_some,Option.map_none,Tryz.underlying336,bD,eJ,dH,Int.cast_ofNat_Int,Int.le_refl,ne_eq,not_true_eq_false,or_false,Int.toNat_natCast,Nat.mul_one,h64,aU,bF,aT,bA,bW,List.headD_cons,Tryz.underlying54,aX,eA,eS,hd,aJ]
   refine⟨by omega,?_⟩
   refine aV (by omega) (cG i h16 _) (by simp[flat]) ?_
   simp only[seval,kZs,aK,dN,Tryz.underlying371,bD,Int.cast_ofNat_Int,Int.toNat_natCast,Nat.mul_one,bQ,bX,bB,List.all_cons,dC,Value.oneCell',List.all_nil,spl,dZ,hl,nX,mS]
   refine⟨⟨by omega,by omega⟩,by omega,?_⟩
   rw[aGO (by rw[hl];omega),aIE]
   simp only[bL,aI]
   refine aE [1,2,4] ?_
   simp only[seval,kZq]
   have h6:IntKind.i64.wrap ((i+1:Nat):Int)=((i+1:Nat):Int):=fD (by omega)
   refine aA [] ?_
   simp only[seval,kZs,cav,aL,aP,bH,gO,h6,aI]
   exact⟨i+1,by omega,by omega,.of_keep [1,2,4] rfl⟩
  ·refine aR (by simp only[aB,lk,h16,decide_false];rfl) ?_
   refine aE [1,2,3,4] ?_
   simp only[seval,kZq]
   have w2:IntKind.i64.wrap ((i:Int) - 2)=((i - 2:Nat):Int):=by rw[qS (by omega) (by omega)];omega
   have w7:IntKind.i64.wrap ((i:Int) - 7)=((i - 7:Nat):Int):=by rw[qS (by omega) (by omega)];omega
   have w15:IntKind.i64.wrap ((i:Int) - 15)=((i - 15:Nat):Int):=by rw[qS (by omega) (by omega)];omega
   have w16:IntKind.i64.wrap ((i:Int) - 16)=((i - 16:Nat):Int):=by rw[qS (by omega) (by omega)];omega
   have l2:i - 2<64:=by omega
   have l7:i - 7<64:=by omega
   have l15:i - 15<64:=by omega
   have l16:i - 16<64:=by omega
   have g2:=tF (n:=64) W (show i - 2<i by omega) l2
   have g7:=tF (n:=64) W (show i - 7<i by omega) l7
   have g15:=tF (n:=64) W (show i - 15<i by omega) l15
   have g16:=tF (n:=64) W (show i - 16<i by omega) l16
   refine dW [20,30] (by kernel_rfl) (by kernel_rfl) ?_
   simp only[seval,kZs,cav,aL,aP,bH,w2,dN,Tryz.underlying371,bD,Int.cast_ofNat_Int,Int.toNat_natCast,Nat.mul_one,aY,List.contains_cons,apart,aO,Tryz.underlying279,aU,bF,beq_self_eq_true,aT,bA,aH,bW,List.tail_cons,List.headD_cons,dZ,hl,l2,kQ,I,g2]
   refine⟨by omega,?_⟩
   refine aV (by simp[aJ,aM,aH,eC,fC]) (c1 (i - 2)) (by simp[aH,aM,aJ,flat,eC,fC]) ?_
   simp only[seval,kZs,aK,cav,aL,aP,bH,w7,dN,Tryz.underlying371,bD,Int.cast_ofNat_Int,Int.toNat_natCast,Nat.mul_one,aY,List.contains_cons,apart,aO,Tryz.underlying279,w15,aU,bF,beq_self_eq_true,Bool.false_or,aT,bA,aH,bW,List.tail_cons,List.headD_cons,dZ,hl,l15,kQ,I,g15,l7,g7,oW,qV]
   refine⟨by omega,by omega,?_⟩
   refine aV (by simp[aJ,aM,aH,eC,fC]) (c0 (i - 15)) (by simp[aH,aM,aJ,flat,eC,fC]) ?_
   simp only[seval,kZs,aK,aL,aP,bH,oW,qV,cav,w16,dN,Tryz.underlying371,bD,Int.cast_ofNat_Int,Int.toNat_natCast,Nat.mul_one,aY,List.contains_cons,apart,aO,Tryz.underlying279,bQ,bX,bB,spl,dZ,hl,nX,mS,l16,kQ,I,g16,hbig i (by omega),List.all_cons,dC,Value.oneCell',List.all_nil]
   refine⟨⟨by omega,by omega⟩,⟨by omega,by omega⟩,by omega,?_⟩
   rw[aGO (by rw[hl];omega),aIE]
   simp only[bL,aI]
   refine aE [1,2,4] ?_
   simp only[seval,kZq]
   have h6:IntKind.i64.wrap ((i+1:Nat):Int)=((i+1:Nat):Int):=fD (by omega)
   refine aA [] ?_
   simp only[seval,kZs,cav,aL,aP,bH,gO,h6,aI]
   exact⟨i+1,by omega,by omega,.of_keep [1,2,4] rfl⟩
 ·have he:i=64:=by have:=of_decide_eq_false h;omega
  subst he
  refine dR ?_
  simp only[aI,bL,if_true]
  refine hK1 _ ?_
  clear hK1 K1
  refine aE [2] ?_
  simp only[seval,kZq]
  refine aC fun K hK=>aA [] ?_
  have ht:(arr 64 W 64).take 64=arr 64 W 64:=List.take_of_length_le (by rw[hl];omega)
  have hdr:(arr 64 W 64).drop 64=[]:=List.drop_eq_nil_of_le (by rw[hl];omega)
  simp only[seval,kZs,aY,apart,aO,Tryz.underlying371,bD,dZ,hl,nX,ht,bQ,bX,bB,spl,mS,aI,vF,hdr,aAY]
  refine hK _ ?_
  clear hK K
  refine aS ?_
  simp only[seval,qq,bR,cQ,bN,bO,aY,aB,apart,aO,Tryz.underlying371,bD,dZ,hl,nX,ht,dA,aH,eC]

theorem aFP (i:Int) (x:Nat) (hx:x<4294967296):ACalls Tryz.prog G0 299 [.val (.int .i64 i),.val (.int .u32 (x:Int))] [] (fun r os=>os=[]∧r=.val (.int .u32 (nQ i x:Int))):=by
 have hm:∀ a b,(jF x a ^^^ jF x b)%4294967296=jF x a ^^^ jF x b:=fun a b=>Nat.mod_eq_of_lt (fT fun j hj=>by simp[Nat.testBit_xor,iJ (lD hx _) hj])
 have f0:((jF x 2 ^^^ jF x 13) ^^^ jF x 22)%4294967296=nQ 0 x:=by
  have h:=(Nat.mod_eq_of_lt (aAV (lD hx 2) (lD hx 13) (lD hx 22))).trans (aPQ x).symm
  rw[aAU]
  exact h
 have f1:((jF x 6 ^^^ jF x 11) ^^^ jF x 25)%4294967296=nQ 1 x:=by
  have h:=(Nat.mod_eq_of_lt (aAV (lD hx 6) (lD hx 11) (lD hx 25))).trans (aPR x).symm
  rw[aAU]
  exact h
 refine aQ Tryz.func299 rfl rfl Tryz.ntmps299 (rts:=#[279]) rfl Tryz.results299 (by simp) ?_
 simp only[seval,aZ]
 refine aC fun K hK=>aA [] ?_
 simp only[seval,kZs,cav,aI]
 and_intros<;>try first|exact⟨⟩|omega
 refine hK _ ?_
 clear hK K
 refine aC fun K1 hK1=>?_
 refine aC fun K hK=>aA [] ?_
 simp only[seval,kZs,aI]
 and_intros<;>try first|exact⟨⟩|omega
 refine hK _ ?_
 clear hK K
 refine bK ?_
 refine aE [1,5] ?_
 simp only[seval,kZq]
 by_cases h0:i=0
 ·subst h0
  refine aC fun K hK=>aA [] ?_
  simp only[seval,kZs,cav,aL,aP,bH,beq_self_eq_true,aI]
  and_intros<;>try first|exact⟨⟩|omega
  refine hK _ ?_
  clear hK K
  refine bG rfl ?_
  refine aE [1] ?_
  simp only[seval,kZq]
  refine aC fun K hK=>aA [] ?_
  simp only[seval,kZs,aU,cav,bF,aT,bA,aH]
  refine aV (by simp[aJ,aM,aH]) (mW x 2 hx) (by simp[aH,aM,aJ,flat]) ?_
  simp only[seval,kZs,aK,aU,cav,bF,aT,bA,aH]
  refine aV (by simp[aJ,aM,aH]) (mW x 13 hx) (by simp[aH,aM,aJ,flat]) ?_
  simp only[seval,kZs,aK,aL,aP,bH,oF,aU,cav,bF,aT,bA,aH]
  refine aV (by simp[aJ,aM,aH]) (mW x 22 hx) (by simp[aH,aM,aJ,flat]) ?_
  simp only[seval,kZs,hm,aK,aL,aP,bH,oF,f0,aI]
  refine hK _ ?_
  refine aE [4] ?_
  simp only[seval,kZq]
  refine aS ?_
  simp only[qq,bL,aI,bR,cQ,bN,bO,dA,aB,aH]
 have hb0:(i == 0)=false:=by simpa using h0
 refine aC fun K hK=>aA [] ?_
 simp only[seval,kZs,cav,aL,aP,bH,hb0,aI]
 and_intros<;>try first|exact⟨⟩|omega
 refine hK _ ?_
 clear hK K
 refine aR rfl ?_
 refine aE [1,5] ?_
 simp only[seval,kZq]
 by_cases h1:i=1
 ·subst h1
  refine aC fun K hK=>aA [] ?_
  simp only[seval,kZs,cav,aL,aP,bH,beq_self_eq_true,aI]
  and_intros<;>try first|exact⟨⟩|omega
  refine hK _ ?_
  clear hK K
  refine bG rfl ?_
  refine aE [1] ?_
  simp only[seval,kZq]
  refine aC fun K hK=>aA [] ?_
  simp only[seval,kZs,aU,cav,bF,aT,bA,aH]
  refine aV (by simp[aJ,aM,aH]) (mW x 6 hx) (by simp[aH,aM,aJ,flat]) ?_
  simp only[seval,kZs,aK,aU,cav,bF,aT,bA,aH]
  refine aV (by simp[aJ,aM,aH]) (mW x 11 hx) (by simp[aH,aM,aJ,flat]) ?_
  simp only[seval,kZs,aK,aL,aP,bH,oF,aU,cav,bF,aT,bA,aH]
  refine aV (by simp[aJ,aM,aH]) (mW x 25 hx) (by simp[aH,aM,aJ,flat]) ?_
  simp only[seval,kZs,hm,aK,aL,aP,bH,oF,f1,aI]
  refine hK _ ?_
  refine aE [4] ?_
  simp only[seval,kZq]
  refine aS ?_
  simp only[qq,bL,aI,bR,cQ,bN,bO,dA,aB,aH]
 have hb1:(i == 1)=false:=by simpa using h1
 refine aC fun K hK=>aA [] ?_
 simp only[seval,kZs,cav,aL,aP,bH,hb1,aI]
 and_intros<;>try first|exact⟨⟩|omega
 refine hK _ ?_
 clear hK K
 refine aR rfl ?_
 refine bC ?_
 simp only[bL,aI]
 refine hK1 _ ?_
 clear hK1 K1
 refine aC fun K hK=>aA [] ?_
 simp only[seval,kZs,cav,aI]
 and_intros<;>try first|exact⟨⟩|omega
 refine hK _ ?_
 clear hK K
 refine aE [4] ?_
 simp only[seval,kZq]
 refine aS ?_
 simp only[qq,bR,cQ,bN,bO,dA,aB,aH]
 rw[aPS x h0 h1]
 rfl
theorem aJL (x y z:Nat) (hx:x<4294967296) (hy:y<4294967296) (hz:z<4294967296):ACalls Tryz.prog G0 300 [.val (.int .u32 (x:Int)),.val (.int .u32 (y:Int)),.val (.int .u32 (z:Int))] [] (fun r os=>os=[]∧r=.val (.int .u32 (V.choose x y z:Int))):=by
 have hn:bits BinOp.xor IntKind.u32 (if IntKind.u32.signed then -1 else IntKind.u32.max) (x:Int)=((4294967295 ^^^ x:Nat):Int):=by
  have h:=oF 4294967295 x
  rw[Nat.mod_eq_of_lt (fT fun j hj=>by simp[Nat.testBit_xor,aMP,iJ hx hj,show ¬ j<32 by omega])] at h
  exact h
 have m1:(x &&& y)%4294967296=x &&& y:=Nat.mod_eq_of_lt (fT fun j hj=>by simp[Nat.testBit_and,iJ hx hj])
 have m2:((4294967295 ^^^ x) &&& z)%4294967296=(4294967295 ^^^ x) &&& z:=Nat.mod_eq_of_lt (fT fun j hj=>by simp[Nat.testBit_and,iJ hz hj])
 have m3:((x &&& y) ^^^ ((4294967295 ^^^ x) &&& z))%4294967296=V.choose x y z:=Nat.mod_eq_of_lt (aJK hx hy hz)
 generalize 4294967295 ^^^ x=nx at hn m2 m3
 refine aQ Tryz.func300 rfl rfl Tryz.ntmps300 (rts:=#[279]) rfl Tryz.results300 (by simp) ?_
 simp only[seval,aZ]
 refine aC fun K hK=>aA [] ?_
 simp only[seval,kZs,cav,aI]
 and_intros<;>try first|exact⟨⟩|omega
 refine hK _ ?_
 clear hK K
 refine aC fun K hK=>aA [] ?_
 simp only[seval,kZs,aL,aP,bH,aIQ,m1,aun,hn,aI,m2,oF,m3]
 and_intros<;>try first|exact⟨⟩|omega
 refine hK _ ?_
 clear hK K
 refine aS ?_
 simp only[seval,qq,bR,cQ,bN,bO,dA,aB,aH]
theorem aOD (x y z:Nat) (hx:x<4294967296) (hy:y<4294967296) (hz:z<4294967296):ACalls Tryz.prog G0 302 [.val (.int .u32 (x:Int)),.val (.int .u32 (y:Int)),.val (.int .u32 (z:Int))] [] (fun r os=>os=[]∧r=.val (.int .u32 (most x y z:Int))):=by
 have m1:(x &&& y)%4294967296=x &&& y:=Nat.mod_eq_of_lt (fT fun j hj=>by simp[Nat.testBit_and,iJ hx hj])
 have m2:(x &&& z)%4294967296=x &&& z:=Nat.mod_eq_of_lt (fT fun j hj=>by simp[Nat.testBit_and,iJ hz hj])
 have m4:(y &&& z)%4294967296=y &&& z:=Nat.mod_eq_of_lt (fT fun j hj=>by simp[Nat.testBit_and,iJ hz hj])
 have m5:((x &&& y) ^^^ (x &&& z))%4294967296=(x &&& y) ^^^ (x &&& z):=Nat.mod_eq_of_lt (fT fun j hj=>by simp[Nat.testBit_and,Nat.testBit_xor,iJ hx hj])
 have m3:(((x &&& y) ^^^ (x &&& z)) ^^^ (y &&& z))%4294967296=most x y z:=Nat.mod_eq_of_lt (aOC hx hy hz)
 refine aQ Tryz.func302 rfl rfl Tryz.ntmps302 (rts:=#[279]) rfl Tryz.results302 (by simp) ?_
 simp only[seval,aZ]
 refine aC fun K hK=>aA [] ?_
 simp only[seval,kZs,cav,aI]
 and_intros<;>try first|exact⟨⟩|omega
 refine hK _ ?_
 clear hK K
 refine aC fun K hK=>aA [] ?_
 simp only[seval,kZs,aL,aP,bH,aIQ,m1,m2,oF,m5,m4,m3,aI]
 and_intros<;>try first|exact⟨⟩|omega
 refine hK _ ?_
 clear hK K
 refine aS ?_
 simp only[seval,qq,bR,cQ,bN,bO,dA,aB,aH]
def Kn (i:Nat):Nat:=aHb.getD i 0
def jT (l:List Nat):List Int:=l.map fun n:Nat=>(n:Int)
theorem aQo (i:Nat) (h:i<64):aGE.getD i 0=((Kn i:Nat):Int):=aMl i h
theorem aES [Gv] (hh:List Nat) (hw:kY hh) (W:Nat→Nat) (i:Nat):∃ a b c d e f g h g1 ch g0 mo:Nat,lK hh Kn W i=[a,b,c,d,e,f,g,h]∧
  ACalls Tryz.prog GP 299 [.val (.int .i64 1),.val (.int .u32 (e:Int))] [] (fun r os=>os=[]∧r=.val (.int .u32 (g1:Int)))∧
  ACalls Tryz.prog GP 300 [.val (.int .u32 (e:Int)),.val (.int .u32 (f:Int)),.val (.int .u32 (g:Int))] [] (fun r os=>os=[]∧r=.val (.int .u32 (ch:Int)))∧
  ACalls Tryz.prog GP 299 [.val (.int .i64 0),.val (.int .u32 (a:Int))] [] (fun r os=>os=[]∧r=.val (.int .u32 (g0:Int)))∧
  ACalls Tryz.prog GP 302 [.val (.int .u32 (a:Int)),.val (.int .u32 (b:Int)),.val (.int .u32 (c:Int))] [] (fun r os=>os=[]∧r=.val (.int .u32 (mo:Int)))∧
  lK hh Kn W (i+1)=[(((((h+g1)%4294967296+ch)%4294967296+Kn i)%4294967296+W i)%4294967296+(g0+mo)%4294967296)%4294967296,a,b,c,(d+((((h+g1)%4294967296+ch)%4294967296+Kn i)%4294967296+W i)%4294967296)%4294967296,e,f,g]:=by
 obtain⟨a,b,c,d,e,f,g,h,hr,⟨ha,hb,hc,hd,he,hf,hg,hh'⟩,hn⟩:=aHc hw Kn W i
 exact⟨a,b,c,d,e,f,g,h,nQ 1 e,V.choose e f g,nQ 0 a,most a b c,hr,(aFP 1 e he).g,(aJL e f g he hf hg).g,(aFP 0 a ha).g,(aOD a b c ha hb hc).g,hn⟩
theorem aMZ [Gv] (i:Nat) (h:i<64):ACalls Tryz.prog GP 301 [.val (.int .i64 (i:Int))] [] (fun r os=>os=[]∧r=.val (.int .u32 (Kn i:Int))):=by
 have hp:=aKS (i:Int)
 rw[if_pos ⟨by omega,by omega⟩,Int.toNat_natCast,aQo i h] at hp
 exact hp
theorem aNd [Gv] (hh:List Nat) (b:List UInt8) (hw:kY hh) (hb:b.length=64):ACalls Tryz.prog GP 293 [.agg (Is .u32 (jT hh)),.agg (Bs b)] [] (fun r os=>os=[]∧r=.agg (Is .u32 (jT (aKo (lK hh Kn (word b) 64) hh)))):=by
 have cS:=(aFw b hb).g (G:=GP)
 have hround:=aES hh hw (word b)
 have h0:lK hh Kn (word b) 0=hh:=rfl
 have hlen:=fun i=>iQ (oG hw Kn (word b) i)
 have h8:=iQ hw
 have hfin:jT (aKo (lK hh Kn (word b) 64) hh)=mix (fun p=>(lK hh Kn (word b) 64).getD p 0) (fun p=>((lK hh Kn (word b) 64).getD p 0+hh.getD p 0)%4294967296) 8:=aJd (hlen 64) h8 _
 rw[hfin]
 generalize word b=W at *
 generalize lK hh Kn W=R at *
 clear hfin
 have nl:(jT hh).length=8:=by rw[← h8];exact List.length_map _
 have nt:(jT hh).take 8=jT hh:=List.take_of_length_le (by omega)
 have nd:(jT hh).drop 8=[]:=List.drop_eq_nil_of_le (by omega)
 have al:(arr 64 W 64).length=64:=aAs _ _ _
 have bt:b.take 64=b:=List.take_of_length_le (by omega)
 have bd:b.drop 64=[]:=List.drop_eq_nil_of_le (by omega)
 obtain⟨z8,hz8,hz8l⟩:∃ z8:List Int,(zvs .u32 8).map cav=Is .u32 z8∧z8.length=8:=⟨_,aEZ _ _,by simp⟩
 have zd:z8.drop 8=[]:=List.drop_eq_nil_of_le (by omega)
 refine aQ Tryz.func293 rfl rfl Tryz.ntmps293 (rts:=#[362]) rfl Tryz.results293 (by simp) ?_
 simp only[seval,aZ]
 refine aC fun K hK=>aA [] ?_
 simp only[seval,kZs,eF,bB,vF,fN,eR,dF,bS,hz8,aI]
 and_intros<;>try first|exact⟨⟩|omega
 refine hK _ ?_
 clear hK K
 refine aC fun K hK=>aA [] ?_
 simp only[seval,kZs,aY,apart,aO,Tryz.underlying362,bD,dZ,nl,nX,nt,dF,bS,hz8,bQ,bX,bB,spl,aI,hz8l,mS,vF,zd,aAY]
 and_intros<;>try first|exact⟨⟩|omega
 refine hK _ ?_
 clear hK K
 refine aE [2,3,4,5] ?_
 simp only[seval,kZq]
 refine aC fun K1 hK1=>?_
 refine aC fun K hK=>aA [] ?_
 simp only[seval,kZs,aY,apart,aO,Tryz.underlying336,bD,aX,hb,eS,bt,aU,bF,aT,bA,bW,List.headD_cons,aH,aJ]
 refine aV (by simp[aJ,aM,aH,eC,fC]) (cS) (by simp[aH,aM,aJ,flat,eC,fC]) ?_
 simp only[seval,kZs,aK,cav,aI]
 refine hK _ ?_
 clear hK K
 refine aE [2,4,5,13,14] ?_
 simp only[seval,kZq]
 refine bK ?_
 refine bZ (fun i:Nat=>⟨82,[(2,.ptr 0 0),(4,.ptr 2 0),(5,.ptr 3 0),(13,.agg (Is .u32 (arr 64 W 64))),(14,.val (.int .i64 (i:Int)))],[.cells (Is .u32 (jT hh)),.cells (Bs b),.cells (Is .u32 z8),.cells (Is .u32 (jT (R i)))]⟩)
  (fun i=>i≤64) (fun i=>64 - i) 0 (by omega) (by rw[h0];exact .of_keep [2,4,5,13,14] rfl) ?_
 intro i hi
 refine aC fun K hK=>aA [] ?_
 simp only[seval,kZs,cav,aL,aP,bH,aCB,aI]
 and_intros<;>try first|exact⟨⟩|omega
 refine hK _ ?_
 clear hK K
 refine bJ ?_
 refine fB rfl rfl (fun h=>?_) (fun h=>?_)
 ·have hlt:i<64:=of_decide_eq_true h
  clear h
  refine bC ?_
  simp only[aI]
  refine aE [2,4,5,13,14] ?_
  simp only[seval,kZq]
  obtain⟨a,b',c,d,e,f,g,h,g1,ch,g0,mo,hr,c1,cch,c0,cmo,hnext⟩:=hround i
  have hnr:jT (R i)=[(a:Int),(b':Int),(c:Int),(d:Int),(e:Int),(f:Int),(g:Int),(h:Int)]:=by rw[hr];rfl
  rw[hnr]
  have wa:=tF (n:=64) W hlt hlt
  refine bJ ?_
  refine bK ?_
  refine aC fun K hK=>aA [] ?_
  simp only[seval,kZs,uU,Tryz.underlying371,bD,apart,aO,Tryz.underlying279,Int.toNat_natCast,Nat.mul_one,dZ,al,hlt,kQ,I,wa,Int.cast_ofNat_Int,aI]
  refine⟨by omega,hK _ ?_⟩
  clear hK K
  refine aE [2,4,5,6,7,13,14] ?_
  simp only[seval,kZq]
  generalize htt:(((((h+g1)%4294967296+ch)%4294967296+Kn i)%4294967296+W i)%4294967296)=T at hnext
  refine aC fun K hK=>?_
  refine dW [22,30,33] (by kernel_rfl) (by kernel_rfl) ?_
  simp only[seval,kZs,dN,cav,Tryz.underlying362,bD,Int.cast_ofNat_Int,Nat.mul_one,aY,List.contains_cons,apart,aO,Tryz.underlying279,aU,bF,beq_self_eq_true,aT,bA,aH,bW,List.tail_cons,List.headD_cons,dZ,kQ,I,List.getD_cons_succ]
  refine aV (by simp[aJ,aM,aH,eC,fC]) (c1) (by simp[aH,aM,aJ,flat,eC,fC]) ?_
  simp only[seval,kZs,aK,aL,aP,bH,oW,qV,dN,cav,Tryz.underlying362,bD,Int.cast_ofNat_Int,Nat.mul_one,aY,List.contains_cons,apart,aO,Tryz.underlying279,aU,bF,beq_self_eq_true,Bool.false_or,aT,bA,bW,List.headD_cons,List.tail_cons,dZ,kQ,I,List.getD_cons_succ,aH]
  refine aV (by simp[aJ,aM,aH,eC,fC]) (cch) (by simp[aH,aM,aJ,flat,eC,fC]) ?_
  simp only[seval,kZs,aK,aL,aP,bH,oW,qV,aU,List.contains_cons,bF,beq_self_eq_true,Bool.false_or,aT,bA,aH]
  refine aV (by simp[aJ,aM,aH,eC,fC]) (aMZ i hlt) (by simp[aH,aM,aJ,flat,eC,fC]) ?_
  simp only[seval,kZs,aK,aL,aP,bH,oW,qV,htt,aI]
  refine hK _ ?_
  clear hK K
  refine aE [2,4,5,8,13,14] ?_
  simp only[seval,kZq]
  refine aC fun K hK=>?_
  refine dW [39,46] (by kernel_rfl) (by kernel_rfl) ?_
  simp only[seval,kZs,dN,cav,Tryz.underlying362,bD,Int.le_refl,Int.cast_ofNat_Int,Int.toNat_zero,Nat.mul_one,aY,List.contains_cons,apart,aO,Tryz.underlying279,aU,bF,beq_self_eq_true,aT,bA,aH,bW,List.tail_cons,List.headD_cons,dZ,kQ,I]
  refine aV (by simp[aJ,aM,aH,eC,fC]) (c0) (by simp[aH,aM,aJ,flat,eC,fC]) ?_
  simp only[seval,kZs,aK,dN,cav,Tryz.underlying362,bD,Int.le_refl,Int.cast_ofNat_Int,Int.toNat_zero,Nat.mul_one,aY,List.contains_cons,apart,aO,Tryz.underlying279,aU,bF,beq_self_eq_true,Bool.false_or,aT,bA,bW,List.headD_cons,List.tail_cons,dZ,kQ,I,List.getD_cons_succ,aH]
  refine aV (by simp[aJ,aM,aH,eC,fC]) (cmo) (by simp[aH,aM,aJ,flat,eC,fC]) ?_
  simp only[seval,kZs,aK,aL,aP,bH,oW,qV,aI]
  refine hK _ ?_
  clear hK K
  refine aE [2,4,5,8,9,13,14] ?_
  simp only[seval,kZq]
  have hn1:jT (R (i+1))=[(((T+(g0+mo)%4294967296)%4294967296:Nat):Int),(a:Int),(b':Int),(c:Int),((d+T)%4294967296:Nat),(e:Int),(f:Int),(g:Int)]:=by rw[hnext];rfl
  have h6:IntKind.i64.wrap ((i+1:Nat):Int)=((i+1:Nat):Int):=fD (by omega)
  refine aA [] ?_
  simp only[seval,kZs,aL,aP,bH,oW,qV,dN,cav,Tryz.underlying362,bD,Int.le_refl,Int.cast_ofNat_Int,Int.toNat_zero,Nat.mul_one,aY,apart,aO,Tryz.underlying279,fA,bS,aEZ,List.replicate_succ,List.replicate_zero,dO,eM,spl,bB,mS,dZ,List.all_cons,dC,Value.oneCell',List.all_nil,bQ,bX,Bool.true_and,kQ,I,List.getD_cons_succ,List.drop_nil,aAY]
  rw[show [AV.val (Value.int IntKind.u32 (((T+(g0+mo)%4294967296)%4294967296:Nat):Int)),AV.val (Value.int IntKind.u32 (a:Int)),AV.val (Value.int IntKind.u32 (b':Int)),AV.val (Value.int IntKind.u32 (c:Int)),AV.val (Value.int IntKind.u32 (((d+T)%4294967296:Nat):Int)),AV.val (Value.int IntKind.u32 (e:Int)),AV.val (Value.int IntKind.u32 (f:Int)),AV.val (Value.int IntKind.u32 (g:Int))]=Is .u32 (jT (R (i+1))) from by rw[hn1];rfl]
  simp only[bL,aI]
  refine aE [2,4,5,13,14] ?_
  simp only[seval,kZq]
  have h6:IntKind.i64.wrap ((i+1:Nat):Int)=((i+1:Nat):Int):=fD (by omega)
  refine aA [] ?_
  simp only[seval,kZs,cav,aL,aP,bH,gO,h6,aI]
  refine⟨i+1,by omega,by omega,.of_keep [2,4,5,13,14] rfl⟩
 ·have he:i=64:=by have:=of_decide_eq_false h;omega
  subst he
  refine dR ?_
  simp only[aI,bL,if_true]
  refine hK1 _ ?_
  clear hK1 K1
  refine aE [2,4,5] ?_
  simp only[seval,kZq]
  have hV0:=aMD (hlen 64) (fun p=>((R 64).getD p 0+hh.getD p 0)%4294967296)
  generalize hA:(fun p=>((R 64).getD p 0+hh.getD p 0)%4294967296)=A at hV0 ⊢
  have hAV:∀ p,A p=((fun p=>(R 64).getD p 0) p+hh.getD p 0)%4294967296:=fun p=>by rw[← hA]
  generalize hV:(fun p=>(R 64).getD p 0)=V at hV0 hAV ⊢
  rw[show jT (R 64)=mix V A 0 from hV0]
  have ml:∀ j,(mix V A j).length=8:=aHI V A
  have mt:(mix V A 8).take 8=mix V A 8:=List.take_of_length_le (by rw[ml];omega)
  have md:(mix V A 8).drop 8=[]:=List.drop_eq_nil_of_le (by rw[ml];omega)
  have hget:∀ j,(jT hh).getD j 0=((hh.getD j 0:Nat):Int):=fun j=>by
   simp only[jT,List.getD_eq_getElem?_getD,List.getElem?_map]
   cases hh[j]? <;> rfl
  refine aC fun K1 hK1=>?_
  refine aC fun K hK=>aA [] ?_
  simp only[seval,kZs,cav,aI]
  and_intros<;>try first|exact⟨⟩|omega
  refine hK _ ?_
  clear hK K
  refine aE [2,4,5,69] ?_
  simp only[seval,kZq]
  refine bK ?_
  refine bZ (fun j:Nat=>⟨82,[(2,.ptr 0 0),(4,.ptr 2 0),(5,.ptr 3 0),(69,.val (.int .i64 (j:Int)))],[.cells (Is .u32 (jT hh)),.cells (Bs b),.cells (Is .u32 z8),.cells (Is .u32 (mix V A j))]⟩)
   (fun j=>j≤8) (fun j=>8 - j) 0 (by omega) (.of_keep [2,4,5,69] rfl) ?_
  intro j hj
  refine aC fun K hK=>aA [] ?_
  simp only[seval,kZs,cav,aL,aP,bH,aCB,aI]
  and_intros<;>try first|exact⟨⟩|omega
  refine hK _ ?_
  clear hK K
  refine bJ ?_
  refine fB rfl rfl (fun h=>?_) (fun h=>?_)
  ·have hlt:j<8:=by have:=of_decide_eq_true h;omega
   refine bC ?_
   simp only[aI]
   refine aE [2,4,5,69] ?_
   simp only[seval,kZq]
   refine bJ ?_
   refine bK ?_
   refine aC fun K hK=>aA [] ?_
   simp only[seval,kZs,aI]
   and_intros<;>try first|exact⟨⟩|omega
   refine hK _ ?_
   clear hK K
   refine aE [2,4,5,10,69] ?_
   simp only[seval,kZq]
   have gm:=aMC V A (Nat.le_refl j) hlt
   have ga:=hAV j
   have gh:=hget j
   have q8:0<8 - j:=by omega
   have l8:j≤8:=by omega
   generalize hh.getD j 0=x at ga gh
   refine dW [] (by kernel_rfl) (by kernel_rfl) ?_
   simp only[seval,kZs,dN,Tryz.underlying362,bD,Int.cast_ofNat_Int,Int.toNat_natCast,Nat.mul_one,aY,apart,aO,Tryz.underlying279,aL,bQ,bX,bB,spl,dZ,ml,nX,mS,nl,hlt,kQ,I,gh,gm,aP,bH,oW,qV,← ga,List.all_cons,dC,Value.oneCell',List.all_nil]
   refine⟨by omega,by omega,by omega,by omega,?_⟩
   rw[aGO (by rw[ml];omega),aOB]
   simp only[bL,aI]
   refine aE [2,4,5,69] ?_
   simp only[seval,kZq]
   have h6:IntKind.i64.wrap ((j+1:Nat):Int)=((j+1:Nat):Int):=fD (by omega)
   refine aA [] ?_
   simp only[seval,kZs,cav,aL,aP,bH,gO,h6,aI]
   exact⟨j+1,by omega,by omega,.of_keep [2,4,5,69] rfl⟩
  ·have he:j=8:=by have:=of_decide_eq_false h;omega
   subst he
   refine dR ?_
   simp only[aI,bL,if_true]
   refine hK1 _ ?_
   clear hK1 K1
   refine aE [4,5] ?_
   simp only[seval,kZq]
   refine aC fun K hK=>aA [] ?_
   simp only[seval,kZs,aY,apart,aO,Tryz.underlying362,bD,dZ,ml,nX,mt,bQ,bX,bB,hz8l,spl,mS,aI,vF,zd,aAY]
   and_intros<;>try first|exact⟨⟩|omega
   refine hK _ ?_
   clear hK K
   refine aS ?_
   simp only[seval,qq,bR,cQ,bN,bO,aY,aB,apart,aO,Tryz.underlying362,bD,dZ,ml,nX,mt,dA,aH,eC]
def sG:List Nat:=[1779033703,3144134277,1013904242,2773480762,1359893119,2600822924,528734635,1541459225]
def DC (h:List Nat) (r:List UInt8) (m:Nat):List AV:=Is .u32 (jT h)++(Bs r++[.val (.int .u64 (m:Int))])
theorem kN (h:List Nat):(jT h).length=h.length:=List.length_map _
theorem mE (h:List Nat) (r:List UInt8) (m:Nat) (hh:h.length=8) (hr:r.length=64):(DC h r m).length=73:=by
 simp only[DC,List.length_append,dZ,aX,kN,hh,hr]
 rfl
theorem aIi (h:List Nat) (r:List UInt8) (m:Nat) (hh:h.length=8) (hr:r.length=64):(DC h r m).take 73=DC h r m:=List.take_of_length_le (by rw[mE h r m hh hr];exact Nat.le_refl _)
theorem wG (h:List Nat) (r:List UInt8) (m:Nat) (hh:h.length=8):(DC h r m).drop 8=Bs r++[.val (.int .u64 (m:Int))]:=by
 have e:(Is .u32 (jT h)).length=8:=by rw[dZ,kN,hh]
 unfold DC
 rw[← e,List.drop_left]
theorem aEb (h:List Nat) (r:List UInt8) (m:Nat) (hh:h.length=8):(DC h r m).take 8=Is .u32 (jT h):=by
 have e:(Is .u32 (jT h)).length=8:=by rw[dZ,kN,hh]
 unfold DC
 rw[← e,List.take_left]
theorem aNH (h:List Nat) (r:List UInt8) (m:Nat) (hh:h.length=8) (hr:r.length=64):((DC h r m).drop 8).take 64=Bs r:=by
 rw[wG h r m hh]
 have e:(Bs r).length=64:=by rw[aX,hr]
 rw[← e,List.take_left]
theorem aAW (h:List Nat) (r:List UInt8) (m:Nat) (hh:h.length=8) (hr:r.length=64) (d:AV):(DC h r m).getD 72 d=.val (.int .u64 (m:Int)):=by
 have e:(Bs r).length=64:=by rw[aX,hr]
 have:(DC h r m)[72]? = some (.val (.int .u64 (m:Int))):=by
  have h1:((DC h r m).drop 8)[64]? = (DC h r m)[72]?:=by rw[List.getElem?_drop]
  rw[← h1,wG h r m hh,List.getElem?_append_right (by omega),e]
  rfl
 rw[List.getD_eq_getElem?_getD,this]
 rfl
theorem aKX (h:List Nat) (r:List UInt8) (m m':Nat) (hh:h.length=8) (hr:r.length=64):(DC h r m).set 72 (.val (.int .u64 (m':Int)))=DC h r m':=by
 have e1:(Is .u32 (jT h)).length=8:=by rw[dZ,kN,hh]
 have e:(Bs r).length=64:=by rw[aX,hr]
 unfold DC
 rw[List.set_append_right _ _ (by omega),e1,List.set_append_right _ _ (by omega),e]
 rfl
theorem aNG (h h':List Nat) (r:List UInt8) (m:Nat) (hh:h.length=8):Is .u32 (jT h')++(DC h r m).drop 8=DC h' r m:=by
 rw[wG h r m hh]
 rfl
theorem aNF (h:List Nat) (r:List UInt8) (m:Nat):(DC h r m).all dC=true:=by
 have h1:∀ l:List Int,(Is .u32 l).all dC=true:=fun l=>by
  rw[List.all_eq_true]
  intro x hx
  obtain⟨z,_,rfl⟩:=List.mem_map.1 hx
  rfl
 have h2:(Bs r).all dC=true:=by
  rw[List.all_eq_true]
  intro x hx
  obtain⟨z,_,rfl⟩:=List.mem_map.1 hx
  rfl
 rw[DC,List.all_append,List.all_append,h1,h2]
 rfl
theorem qD (h:List Nat) (r:List UInt8) (m:Nat):aM (DC h r m)=true:=by
 simp[DC,dK,eC,aJ,aM,aH]
theorem aDR {P:Program} {ts:List TypeId} {Q:AV→List AObj→Prop} {nt:Nat} {s:List (Nat×AV)} {os:List AObj} (x i off:Nat) {y0 y1:AObj} (h:lk s x=.ptr i off) (h0:os[0]? = some y0) (hi:os[i]? = some y1) (hne:i≠0) (n0:eH y0=true) (n1:eH y1=true)
  (hq:Q (.ptr 1 off) [y0,y1]):aKY P ts [.tmp x] 1 Q .ret ⟨nt,s,os⟩:=by
 have hidx:[0,i].idxOf i=1:=by
  cases i with
  | zero=>exact absurd rfl hne
  | succ i=>simp[List.idxOf_cons]
 refine⟨.inr rfl,[0,i],[y0,y1],_,by simp,fun j hj=>?_,fun a b ha hb e=>?_,rfl,fun j hj=>?_,fun o ho=>?_,.inr ⟨x,rfl,by simp[h,aJt,hidx]⟩,hq⟩
 ·have:j=0:=by omega
  subst this
  rfl
 ·simp only[List.length_cons,List.length_nil] at ha hb
  rcases (by omega:a=0∨a=1) with rfl|rfl<;>rcases (by omega:b=0∨b=1) with rfl|rfl
  ·rfl
  ·exact absurd e.symm hne
  ·exact absurd e hne
  ·rfl
 ·simp only[List.length_cons,List.length_nil] at hj
  rcases (by omega:j=0∨j=1) with rfl|rfl
  ·exact h0
  ·exact hi
 ·simp only[List.mem_cons,List.not_mem_nil,or_false] at ho
  rcases ho with rfl|rfl
  ·exact n0
  ·exact n1
theorem aHt:ACalls Tryz.prog G0 297 [] [] (fun r os=>os=[]∧r=.agg (Is .u32 (jT sG))):=by
 refine aQ Tryz.func297 rfl rfl Tryz.ntmps297 (rts:=#[362]) rfl Tryz.results297 (by simp) ?_
 simp only[seval,aZ]
 refine aC fun K hK=>aA [] ?_
 simp only[seval,kZs,dF,bS,aEZ,List.replicate_succ,List.replicate_zero,aI]
 and_intros<;>try first|exact⟨⟩|omega
 refine hK _ ?_
 clear hK K
 refine aC fun K hK=>aA [] ?_
 simp only[aF]
 refine aNY (Is .u32 (jT sG)) Tryz.underlying362 (sz:=1) (z:=zvs .u32 8) (by simp only[bD]) (by simp only[bS]) (by kernel_rfl) ?_
 have hl:(jT sG).length=8:=rfl
 simp only[seval,qq,bQ,bX,aB,bD,bB,vF,dZ,hl,spl,mS,List.drop_nil,aG,aI]
 refine hK _ ?_
 rw[aAY,List.append_nil]
 have ht:(jT sG).take 8=jT sG:=rfl
 refine aS ?_
 simp only[seval,qq,bR,cQ,bN,bO,aY,aB,apart,aO,Tryz.underlying362,bD,dZ,hl,nX,ht,dA,aH,eC]
theorem aPg:ACalls Tryz.prog G0 292 [] [] (fun r os=>os=[.cells (DC sG (List.replicate 64 0) 0)]∧r=.ptr 0 0):=by
 obtain⟨fs,hu,hs⟩:∃ fs,Tryz.prog.underlying 364=some (.struct fs)∧uO Tryz.prog fs=some [(0,8),(8,64),(72,1)]:=⟨_,Tryz.underlying364,by kernel_rfl⟩
 refine gQ Tryz.func292 rfl rfl Tryz.ntmps292 (rts:=#[346]) rfl Tryz.results292 (by simp) ?_
 simp only[seval,aZ]
 refine aC fun K hK=>aA [] ?_
 simp only[seval,kZs,List.replicate_succ,List.replicate_zero,cav,aI]
 and_intros<;>try first|exact⟨⟩|omega
 refine hK _ ?_
 clear hK K
 refine aC fun K hK=>aA [] ?_
 simp only[seval,qq,List.replicate_succ,List.replicate_zero,aU,aB,bF,aT]
 refine aV (by simp[aJ,aM,aH,eC,fC]) (aHt) (by simp[aH,aM,aJ,flat,eC,fC]) ?_
 have hl:(jT sG).length=8:=rfl
 simp only[seval,kZs,aK,fA,bS,hu,kO,cav,dO,eM,spl,bB,dZ,hl,vF,eF,fN,aI,List.all_append,List.all_cons,dC,Value.oneCell',List.all_nil]
 refine hK _ ?_
 clear hK K
 refine aE [0] ?_
 simp only[seval,kZq]
 refine aS ?_
 exact aKZ 0 0 0 rfl rfl (by kernel_rfl) ⟨rfl,rfl⟩
theorem aFE (h:List Nat) (r:List UInt8) (m:Nat) (hh:h.length=8) (hr:r.length=64):ACalls Tryz.prog G0 283 [.ptr 0 0] [.cells (DC h r m)] (fun v os=>os=[.cells (DC h r m),.cells (DC h r m)]∧v=.ptr 1 0):=by
 obtain⟨fs,hu,hs⟩:∃ fs,Tryz.prog.underlying 364=some (.struct fs)∧uO Tryz.prog fs=some [(0,8),(8,64),(72,1)]:=⟨_,Tryz.underlying364,by kernel_rfl⟩
 have hl:=mE h r m hh hr
 have ht:=aIi h r m hh hr
 have ho:=aNF h r m
 have hn:=qD h r m
 generalize DC h r m=D at hl ht ho hn
 refine gQ Tryz.func283 rfl rfl Tryz.ntmps283 (rts:=#[346]) rfl Tryz.results283 (by simp) ?_
 simp only[seval,aZ]
 refine aC fun K hK=>aA [] ?_
 simp only[seval,kZs,cav,aI]
 and_intros<;>try first|exact⟨⟩|omega
 refine hK _ ?_
 clear hK K
 refine aC fun K hK=>aA [] ?_
 simp only[seval,kZs,fY,aY,apart,aO,hu,bD,dF,bS,cav,bQ,bX,bB,spl,aI,hl,ht,ho,List.drop_nil]
 refine hK _ ?_
 clear hK K
 refine aE [0,3] ?_
 simp only[seval,kZq]
 refine aC fun K hK=>aA [] ?_
 simp only[seval,kZs,aI]
 and_intros<;>try first|exact⟨⟩|omega
 refine hK _ ?_
 clear hK K
 refine aE [2] ?_
 simp only[seval,kZq]
 refine aS ?_
 exact aDR 2 1 0 rfl rfl rfl (by omega) (by simpa[eH] using hn) (by simpa[eH] using hn) ⟨rfl,rfl⟩
def COk [Gv] (C:List Nat→List UInt8→List Nat):Prop:=(∀ h b,kY h→b.length=64→kY (C h b))∧
 ∀ h b,kY h→b.length=64→ACalls Tryz.prog GP 293 [.agg (Is .u32 (jT h)),.agg (Bs b)] [] (fun r os=>os=[]∧r=.agg (Is .u32 (jT (C h b))))
theorem aNE [Gv] (h:List Nat) (r b:List UInt8) (m a:Nat) (hh:h.length=8) (hr:r.length=64) (hab:a+b.length≤64):(DC h r m).take (8+a)++Bs b++(DC h r m).drop (8+a+b.length)=DC h (r.take a++b++r.drop (a+b.length)) m:=by
 have e1:(Is .u32 (jT h)).length=8:=by rw[dZ,kN,hh]
 have e2:(DC h r m).take (8+a)=Is .u32 (jT h)++Bs (r.take a):=by
  unfold DC
  rw[List.take_append,e1,Nat.add_sub_cancel_left,List.take_of_length_le (by omega),List.take_append_of_le_length (by rw[aX];omega),eS]
 have e3:(DC h r m).drop (8+a+b.length)=Bs (r.drop (a+b.length))++[.val (.int .u64 (m:Int))]:=by
  rw[show 8+a+b.length=8+(a+b.length) by omega,← List.drop_drop,wG h r m hh,List.drop_append_of_le_length (by rw[aX];omega),eA]
 rw[e2,e3]
 simp only[DC,iD,List.append_assoc]
theorem yB [Gv] {C:List Nat→List UInt8→List Nat} (hC:COk C) (s:DS) (hs:DOk s) (b:List UInt8) (p:Perm) (hm:s.many+b.length≤1000000000) :
  ACalls Tryz.prog GP 281 [.ptr 0 0,.sl b.length (Bs b) p] [.cells (DC s.h s.rest s.many)] (fun v os=>os=[.cells (DC (gU C s b).h (gU C s b).rest (gU C s b).many)]∧v=.tup []):=by
 refine gQ Tryz.func281 rfl rfl Tryz.ntmps281 (rts:=#[]) rfl Tryz.results281 (by simp) ?_
 simp only[seval,aZ]
 refine lH 1 rfl ?_
 refine aE [0,1] ?_
 simp only[seval,kZq]
 refine bK ?_
 refine bZ (fun x:List UInt8×DS=>⟨50,[(0,.ptr 0 0),(1,.sl x.1.length (Bs x.1) .no)],[.cells (DC x.2.h x.2.rest x.2.many)]⟩)
  (fun x=>DOk x.2∧x.2.many+x.1.length=s.many+b.length∧gU C x.2 x.1=gU C s b) (fun x=>x.1.length) (b,s) ⟨hs,rfl,rfl⟩ (.of_keep [0,1] (by exact rfl)) ?_
 rintro⟨l,d⟩ ⟨hd,hmany,hrun⟩
 simp only at hd hmany hrun
 have hh:=iQ hd.1
 have hr:=hd.2
 have hDl:=mE d.h d.rest d.many hh hr
 have h72:=aAW d.h d.rest d.many hh hr
 refine aC fun K2 hK2=>?_
 refine aC fun K hK=>aA [] ?_
 simp only[seval,kZs,bI,bV,eN,Tryz.underlying54,cav,aL,aI,aP,bH,yM]
 refine hK _ ?_
 clear hK K
 by_cases hl0:l.length=0
 ·refine aR (by simp only[aB,lk,hl0];rfl) ?_
  refine dR ?_
  simp only[aI,bL,if_true]
  have hl:l=[]:=List.length_eq_zero_iff.1 hl0
  subst hl
  rw[aFt] at hrun
  subst hrun
  exact aEc (.inl rfl) rfl (by simpa[eH] using qD _ _ _) rfl (by simp) rfl ⟨rfl,rfl⟩
 refine bG (by simp only[aB,lk];simp;omega) (bC (hK2 _ ?_))
 clear hK2 K2
 refine aE [0,1] ?_
 simp only[seval,kZq]
 refine bK ?_
 refine aC fun K hK=>aA [] ?_
 have hat:d.many%64<64:=Nat.mod_lt _ (by omega)
 have h64:IntKind.i64.wrap ((d.many%64:Nat):Int)=((d.many%64:Nat):Int):=fD (by omega)
 simp only[seval,kZs,fY,aN,Tryz.underlying364,bD,ne_eq,aY,apart,aO,Tryz.underlying30,cav,aL,eL,Tryz.underlying3,eG,bA,bW,fF,Option.isSome_some,aI,hDl,h72,aP,bH,aHJ,h64]
 refine hK _ ?_
 clear hK K
 refine aE [0,1,4] ?_
 simp only[seval,kZq]
 have e64:((64:Int) - ((d.many%64:Nat):Int)).toNat=64 - d.many%64:=by omega
 obtain⟨n,hn⟩:∃ n,(if l.length≤64 - d.many%64 then l.length else 64 - d.many%64)=n:=⟨_,rfl⟩
 have hn0:0<n:=by rw[← hn];split<;>omega
 have hnl:n≤l.length:=by rw[← hn];split<;>omega
 have hn64:d.many%64+n≤64:=by rw[← hn];split<;>omega
 have htl:(l.take n).length=n:=by rw[List.length_take];omega
 have hcopy:=aNE d.h d.rest (l.take n) d.many (d.many%64) hh hr (by omega)
 have hchunk:=aHd (C:=C) (l.take n) d hr (by omega) (by omega)
 have hok1:=mV hC.1 hd (l.take n)
 have hall:gU C (gU C d (l.take n)) (l.drop n)=gU C s b:=by rw[← pR,List.take_append_drop,hrun]
 have hr1:(d.rest.take (d.many%64)++l.take n++d.rest.drop (d.many%64+(l.take n).length)).length=64:=by
  simp only[List.length_append,List.length_take,List.length_drop]
  omega
 rw[htl] at hcopy hchunk hr1
 refine aC fun K hK=>aA [] ?_
 simp only[seval,kZs,fY,aN,Tryz.underlying364,bD,ne_eq,eY,iR,Option.map_some,Option.map_none,Tryz.underlying336,eJ,dH,Int.le_refl,not_true_eq_false,or_false,Int.toNat_natCast,iC,bI,aCK,Tryz.underlying54,eQ,aX,Nat.min_def,spl,aI,Int.cast_ofNat_Int,Nat.mul_one,e64,hn,hDl,eS,eR,hn0,htl]
 refine⟨⟨by omega,by omega⟩,by omega,hK _ ?_⟩
 clear hK K
 rw[hcopy]
 generalize d.rest.take (d.many%64)++l.take n++d.rest.drop (d.many%64+n)=r1 at hcopy hchunk hr1 ⊢
 clear hcopy
 have hDl1:=mE d.h r1 d.many hh hr1
 have h721:=aAW d.h r1 d.many hh hr1
 have hset:=aKX d.h r1 d.many (d.many+n) hh hr1
 have hw1:IntKind.u64.wrap (n:Int)=(n:Int):=by rw[tN,Nat.mod_eq_of_lt (by omega)]
 have hw2:IntKind.u64.wrap ((d.many:Int)+(n:Int))=((d.many+n:Nat):Int):=by rw[← Int.natCast_add,tN,Nat.mod_eq_of_lt (by omega)]
 have hput:(DC d.h r1 d.many).take 72++[.val (.int .u64 ((d.many+n:Nat):Int))]++(DC d.h r1 d.many).drop 73=DC d.h r1 (d.many+n):=by
  rw[← hset,List.set_eq_take_append_cons_drop,if_pos (by omega)]
  simp
 refine aE [0,1,4,5] ?_
 simp only[seval,kZq]
 refine aC fun K hK=>aA [] ?_
 simp only[seval,kZs,fY,aN,Tryz.underlying364,bD,ne_eq,aY,apart,aO,Tryz.underlying30,eL,eG,bA,aH,fF,Tryz.underlying3,Option.isSome_some,hw1,aL,bQ,bX,bB,spl,aI,hDl1,h721,aP,bH,hw2,List.all_cons,dC,Value.oneCell',List.all_nil]
 rw[hput]
 refine hK _ ?_
 clear hK K hput hset hDl1 h721
 refine aE [0,1,4,5] ?_
 simp only[seval,kZq]
 refine aC fun K hK=>aA [] ?_
 simp only[seval,kZs,eY,iR,Option.map_some,Option.map_none,Tryz.underlying54,bD,aX,Nat.mul_one,eJ,dH,Int.le_refl,ne_eq,not_true_eq_false,or_false,Int.toNat_natCast,eA,eS,iC,aI]
 refine⟨by omega,hK _ ?_⟩
 clear hK K
 refine aE [0,1,4,5] ?_
 simp only[seval,kZq]
 refine aC fun K hK=>aA [] ?_
 have hw3:IntKind.i64.wrap (((d.many%64:Nat):Int)+(n:Int))=((d.many%64+n:Nat):Int):=by rw[← Int.natCast_add];exact fD (by omega)
 have e5:((l.length:Int) - (n:Int)).toNat=l.length - n:=by omega
 have e6:(l.drop n).take (l.length - n)=l.drop n:=List.take_of_length_le (by rw[List.length_drop];exact Nat.le_refl _)
 have e7:l.length - n=(l.drop n).length:=by rw[List.length_drop]
 simp only[seval,kZs,e5,e6,aL,aP,bH,hw3,cav,aI]
 refine hK _ ?_
 clear hK K
 rw[e7]
 refine aE [0,1,37] ?_
 simp only[seval,kZq]
 by_cases hfull:d.many%64+n=64
 ·rw[if_pos hfull] at hchunk
  refine bG (by simp only[aB,lk,hfull];rfl) ?_
  have hDl2:=mE d.h r1 (d.many+n) hh hr1
  have h8:=aEb d.h r1 (d.many+n) hh
  have hrest:=aNH d.h r1 (d.many+n) hh hr1
  have hcc:=hC.2 d.h r1 hd.1 hr1
  have hh':=iQ (hC.1 d.h r1 hd.1 hr1)
  have hput8:=aNG d.h (C d.h r1) r1 (d.many+n) hh
  generalize C d.h r1=h' at hcc hchunk hh' hput8
  have hnl8:(jT h').length=8:=by rw[kN,hh']
  refine dW [] (by kernel_rfl) (by kernel_rfl) ?_
  simp only[seval,kZs,List.length_drop,fY,aN,Tryz.underlying364,bD,ne_eq,aY,apart,aO,Tryz.underlying362,Tryz.underlying336,aU,bF,aT,bA,bW,List.headD_cons,List.tail_cons,hDl2,hrest,aH,aJ,h8,eC]
  refine aV trivial hcc (by simp[flat,fC,aH,eC]) ?_
  simp only[seval,kZs,aK,fY,aN,Tryz.underlying364,bD,ne_eq,bQ,bX,bB,vF,dZ,hnl8,spl,hDl2,hput8]
  rw[e7]
  simp only[bL,aI]
  exact⟨(l.drop n,gU C d (l.take n)),⟨hok1,by simp only[mQ,htl,List.length_drop];omega,hall⟩,by simp only[List.length_drop];omega,by rw[hchunk];exact .of_keep [0,1] rfl⟩
 ·rw[if_neg hfull] at hchunk
  refine aR (by simp only[aB,lk];simp;omega) ?_
  refine bC ?_
  simp only[bL,aI]
  exact⟨(l.drop n,gU C d (l.take n)),⟨hok1,by simp only[mQ,htl,List.length_drop];omega,hall⟩,by simp only[List.length_drop];omega,by rw[hchunk];exact .of_keep [0,1] rfl⟩
def Cq (h:List Nat) (b:List UInt8):List Nat:=aKo (lK h Kn (word b) 64) h
theorem aKW [Gv] (h:List Nat) (b:List UInt8) (hw:kY h):kY (Cq h b):=by
 obtain⟨a0,a1,a2,a3,a4,a5,a6,a7,rfl,_⟩:=hw
 obtain⟨c0,c1,c2,c3,c4,c5,c6,c7,hr,_⟩:=oG (s:=[a0,a1,a2,a3,a4,a5,a6,a7]) ⟨_,_,_,_,_,_,_,_,rfl,‹_›⟩ Kn (word b) 64
 unfold Cq
 rw[hr]
 generalize word b=W
 exact⟨_,_,_,_,_,_,_,_,rfl,Nat.mod_lt _ (by omega),Nat.mod_lt _ (by omega),Nat.mod_lt _ (by omega),Nat.mod_lt _ (by omega),Nat.mod_lt _ (by omega),Nat.mod_lt _ (by omega),Nat.mod_lt _ (by omega),Nat.mod_lt _ (by omega)⟩
theorem aQG [Gv]:COk Cq:=⟨fun h b hw _=>aKW h b hw,fun h b hw hb=>aNd h b hw hb⟩
def mA (C:List Nat→List UInt8→List Nat) (s:DS):List UInt8:=(gU C s (aAH s.many)).h.flatMap be4
theorem pJ [Gv] (l:List Nat):(l.flatMap be4).length=4*l.length:=by
 induction l with
 | nil=>rfl
 | cons x l ih=>simp only[List.flatMap_cons,List.length_append,List.length_cons,ih];simp[be4];omega
theorem aMS [Gv] (n:Nat):(n+(aAH n).length)%64=0∧(aAH n).length≤72:=by
 simp only[aAH,List.length_cons,List.length_append,List.length_replicate,be4,List.length_nil,tQ]
 omega
theorem aFK [Gv] (l:List UInt8):jE (Bs l)=true:=by
 induction l with
 | nil=>rfl
 | cons c l ih=>rw[show Bs (c::l)=B c::Bs l from rfl];simp[jE,B,flat,ih]
theorem uE [Gv] {P:Program} {ty:TypeId} {nt:Nat} {s:List (Nat×AV)} {os:List AObj} {x r n:Nat} {cs:List AV} (hx:lk s x=.ptr r 0) (ho:os[r]? = some (.cells cs)) (hn:tsz P ty=some n) (hag:aO (P.underlying ty)=some true) (hl:cs.length=n) :
  cQ P [ty] [.cell x ty] ⟨nt,s,os⟩=some (((0+n≤cs.length)∧aH (.agg cs)=true)∧True,.agg cs):=by
 have ht:(cs.drop 0).take n=cs:=by rw[List.drop_zero];exact List.take_of_length_le (by omega)
 simp only[cQ,bN,bO,hx,aY,ho,apart,hag,hn,ht,dA]
theorem aJh [Gv] (h:List Nat) (i:Nat) (hi:i<h.length):(jT h).getD i 0=((h.getD i 0:Nat):Int):=by
 simp[jT,List.getD_eq_getElem?_getD,hi]
theorem aMn [Gv] (h:List Nat) (i:Nat) (hi:i<h.length):(h.take (i+1)).flatMap be4=(h.take i).flatMap be4++be4 (h.getD i 0):=by
 rw[List.take_add_one,List.getElem?_eq_getElem hi,List.flatMap_append,List.getD_eq_getElem?_getD,List.getElem?_eq_getElem hi]
 simp
theorem aIb [Gv] {C:List Nat→List UInt8→List Nat} (hC:COk C) (s:DS) (hs:DOk s) (hm:s.many≤900000000) :
  ACalls Tryz.prog GP 282 [.ptr 0 0] [.cells (DC s.h s.rest s.many)] (fun v os=>os=[.cells (DC s.h s.rest s.many)]∧v=.agg (Bs (mA C s))):=by
 have hh:=iQ hs.1
 have hr:=hs.2
 have hDl:=mE s.h s.rest s.many hh hr
 have h72:=aAW s.h s.rest s.many hh hr
 have hp:=aMS s.many
 have cC:=(aFE s.h s.rest s.many hh hr).g (G:=GP)
 have cW:=yB hC s hs (aAH s.many) .no (by omega)
 have cP:=(aPq s.many (by omega)).g (G:=GP)
 have hok:=mV hC.1 hs (aAH s.many)
 have hn:=qD s.h s.rest s.many
 unfold mA
 generalize gU C s (aAH s.many)=e at cW hok
 generalize aAH s.many=pl at *
 have hh2:=iQ hok.1
 have hDl2:=mE e.h e.rest e.many hh2 hok.2
 have h8:=aEb e.h e.rest e.many hh2
 have hn2:=qD e.h e.rest e.many
 generalize DC s.h s.rest s.many=D at *
 generalize DC e.h e.rest e.many=D2 at *
 obtain⟨z,hz,hzl⟩:∃ z:List UInt8,(zvs .u8 32).map cav=Bs z∧z.length=32:=⟨List.replicate 32 0,by simp[zvs,Bs,B,cav],by simp⟩
 refine gQ Tryz.func282 rfl rfl Tryz.ntmps282 (rts:=#[23]) rfl Tryz.results282 (by simp) ?_
 simp only[seval,aZ]
 refine aC fun K hK=>aA [] ?_
 simp only[seval,kZs,dF,bS,hz,aI]
 and_intros<;>try first|exact⟨⟩|omega
 refine hK _ ?_
 clear hK K
 refine aC fun K hK=>aA [1000008] ?_
 simp only[seval,kZs,aU,List.contains_cons,beq_self_eq_true,bF,aT,bA]
 refine gR (v':=.ptr 2 0) 0 (.cells D) rfl (by simpa[eH] using hn) (by simp[fH,iV]) cC (by simp[eH,hn]) (by simp[iL]) ?_
 simp only[seval,kZs,dE,aI]
 refine hK _ ?_
 clear hK K
 refine aE [0,2,3] ?_
 simp only[seval,kZq]
 refine aC fun K hK=>aA [1000015] ?_
 simp only[seval,kZs,fY,aN,Tryz.underlying364,bD,ne_eq,aY,List.contains_cons,apart,aO,Tryz.underlying30,aU,bF,aT,bA,bW,List.headD_cons,hDl,h72,aH]
 refine aV (by simp[aJ,aM,aH]) (cP) (by simp[aH,aM,aJ,flat]) ?_
 simp only[seval,qq,aK,aU,List.contains_cons,beq_self_eq_true,aB,bF,aT,bA,aJ,bW]
 refine gR (v':=.tup []) 2 (.cells D) rfl (by simpa[eH] using hn) (by simp[fH,iV,aJ,bW]) cW (by simp[eH,hn2]) (by simp[iL,aH,aM]) ?_
 simp only[List.set_cons_succ,List.set_cons_zero,List.append_nil,dE,aG,aI]
 refine hK _ ?_
 clear hK K
 refine aE [2,3] ?_
 simp only[seval,kZq]
 refine aC fun K hK=>aA [] ?_
 simp only[seval,kZs,cav,aI]
 and_intros<;>try first|exact⟨⟩|omega
 refine hK _ ?_
 clear hK K
 refine lH 4 rfl ?_
 refine aE [2,3,4] ?_
 simp only[seval,kZq]
 refine aC fun K1 hK1=>?_
 refine aC fun K hK=>aA [] ?_
 simp only[seval,kZs,fY,aN,Tryz.underlying364,bD,ne_eq,aY,apart,aO,Tryz.underlying362,cav,aI,hDl2,h8]
 refine hK _ ?_
 clear hK K
 refine aE [2,4,19,20] ?_
 simp only[seval,kZq]
 have hnl:(jT e.h).length=8:=by rw[kN,hh2]
 refine bK ?_
 refine bZ (fun i:Nat=>⟨30,[(2,.ptr 1 0),(4,.sl ((e.h.take i).flatMap be4).length (Bs ((e.h.take i).flatMap be4)) .no),(19,.agg (Is .u32 (jT e.h))),(20,.val (.int .i64 (i:Int)))],[.cells D,.cells (Bs z),.cells D2]⟩)
  (fun i=>i≤8) (fun i=>8 - i) 0 (by omega) (.of_keep [2,4,19,20] rfl) ?_
 intro i hi
 refine aC fun K hK=>aA [] ?_
 simp only[seval,kZs,cav,aL,aP,bH,aCB,aI]
 and_intros<;>try first|exact⟨⟩|omega
 refine hK _ ?_
 clear hK K
 refine bJ ?_
 refine fB rfl rfl (fun h=>?_) (fun h=>?_)
 ·have hlt:i<8:=by have:=of_decide_eq_true h;omega
  refine bC ?_
  simp only[aI]
  refine aE [2,4,19,20] ?_
  simp only[seval,kZq]
  have hget:=aJh e.h i (by omega)
  have htk:=aMn e.h i (by omega)
  have hlen:=pJ (e.h.take i)
  have hlen1:=pJ (e.h.take (i+1))
  rw[List.length_take] at hlen hlen1
  have e1:((e.h.take i).flatMap be4).length+4=((e.h.take (i+1)).flatMap be4).length:=by omega
  have cPut:=(aBY ((e.h.take i).flatMap be4) .no (e.h.getD i 0) (by omega)).g (G:=GP)
  rw[← htk,e1] at cPut
  generalize (e.h.take i).flatMap be4=A at cPut hlen e1 ⊢
  generalize e.h.getD i 0=x at cPut hget
  refine bJ ?_
  refine bK ?_
  refine aC fun K hK=>aA [] ?_
  have hgI:(Is .u32 (jT e.h)).getD i .top=.val (.int .u32 (x:Int)):=by rw[kQ (by omega),hget];rfl
  simp only[seval,kZs,uU,Tryz.underlying362,bD,apart,aO,Tryz.underlying279,Int.toNat_natCast,Nat.mul_one,dZ,hnl,hgI,Int.cast_ofNat_Int,aI]
  refine⟨⟨⟨by omega,by omega⟩,by omega⟩,hK _ ?_⟩
  clear hK K
  refine aE [2,4,6,19,20] ?_
  simp only[seval,kZq]
  refine aA [] ?_
  simp only[seval,kZs,aU,bF,aT,bA,aJ,bW,aH]
  refine aV (by simp[aJ,aM,aH]) (cPut) (by simp[aH,aM,aJ,flat]) ?_
  simp only[seval,kZs,aK]
  simp only[bL,aI]
  refine aE [2,4,19,20] ?_
  simp only[seval,kZq]
  have h6:IntKind.i64.wrap ((i+1:Nat):Int)=((i+1:Nat):Int):=fD (by omega)
  refine aA [] ?_
  simp only[seval,kZs,cav,aL,aP,bH,gO,h6,aI]
  refine⟨i+1,by omega,by omega,.of_keep [2,4,19,20] rfl⟩
 ·have he:i=8:=by have:=of_decide_eq_false h;omega
  subst he
  refine dR ?_
  simp only[aI,bL,if_true]
  refine hK1 _ ?_
  clear hK1 K1
  have htk:e.h.take 8=e.h:=List.take_of_length_le (by omega)
  have hlen:=pJ e.h
  rw[hh2] at hlen
  rw[htk]
  generalize e.h.flatMap be4=A at hlen ⊢
  refine aE [2,4] ?_
  simp only[seval,kZq]
  have hA:A.length=32:=hlen
  have ht32:A.take 32=A:=List.take_of_length_le (by omega)
  have zd:z.drop 32=[]:=List.drop_eq_nil_of_le (by omega)
  refine aC fun K hK=>aA [] ?_
  simp only[seval,kZs,hA,qI,Tryz.underlying23,aX,aY,apart,aO,bD,bQ,bX,bB,hzl,spl,eA,aI,eS,ht32,eR,zd,gV]
  refine hK _ ?_
  clear hK K
  refine aE [2] ?_
  simp only[seval,kZq]
  refine aS ?_
  have hsz:tsz Tryz.prog 23=some 32:=by simp only[bD]
  exact aEc (.inr rfl) rfl (by simpa[eH] using hn) (uE rfl rfl hsz (by rw[Tryz.underlying23];rfl) (by rw[aX,hA])) ⟨⟨by rw[aX,hA];omega,by simp[aH,aJ]⟩,trivial⟩ (by simp[flat,aFK]) ⟨rfl,rfl⟩
theorem pT [Gv] {C:List Nat→List UInt8→List Nat} (hC:COk C) (s:DS) (hs:DOk s):(mA C s).length=32:=by
 rw[mA,pJ,iQ (mV hC.1 hs (aAH s.many)).1]
def PS (l:List (List UInt8)):List AV:=l.map fun b=>.sl b.length (Bs b) .no
theorem aIn [Gv] (l:List (List UInt8)):(PS l).length=l.length:=List.length_map _
theorem aNN [Gv] (l:List (List UInt8)) (i:Nat) (h:i<l.length):(PS l).getD i .top=.sl (l.getD i []).length (Bs (l.getD i [])) .no:=by
 simp[PS,List.getD_eq_getElem?_getD,List.getElem?_map,List.getElem?_eq_getElem h]
def jZ:DS:=⟨sG,List.replicate 64 0,0⟩
theorem uR [Gv]:DOk jZ:=⟨⟨_,_,_,_,_,_,_,_,rfl,by omega,by omega,by omega,by omega,by omega,by omega,by omega,by omega⟩,rfl⟩
def aPu (C:List Nat→List UInt8→List Nat) (l:List UInt8):List UInt8:=mA C (gU C jZ l)
theorem aKD [Gv] (l:List (List UInt8)) (i:Nat) (h:i<l.length):(l.take (i+1)).flatten=(l.take i).flatten++l.getD i []:=by
 rw[List.take_add_one,List.getElem?_eq_getElem h,List.flatten_append,List.getD_eq_getElem?_getD,List.getElem?_eq_getElem h]
 simp
theorem xV [Gv] (l:List (List UInt8)) (i:Nat):(l.take i).flatten.length≤l.flatten.length:=by
 conv=>rhs;rw[← List.take_append_drop i l,List.flatten_append,List.length_append]
 omega
def sU (key:List UInt8) (by':UInt8):List UInt8:=(key++List.replicate (64 - key.length) 0).map (· ^^^ by')
theorem tL [Gv] (key:List UInt8) (by':UInt8) (h:key.length≤64):(sU key by').length=64:=by simp[sU];omega
def DS.cs (s:DS):List AV:=DC s.h s.rest s.many
theorem fW [Gv] (s:DS):aM (DS.cs s)=true:=qD _ _ _
theorem aND [Gv] (cs:List UInt8) (j:Nat) (x:UInt8) (hj:j<cs.length):(Bs cs).take j++[.val (.int .u8 (x.toNat:Int))]++(Bs cs).drop (j+1)=Bs (cs.set j x):=by
 rw[List.set_eq_take_append_cons_drop,if_pos hj,iD,eS]
 have:Bs (x::cs.drop (j+1))=AV.val (.int .u8 (x.toNat:Int))::(Bs cs).drop (j+1):=by
  rw[eA]
  rfl
 rw[this]
 simp
theorem aKI [Gv] (l:List UInt8) (by':UInt8) (i:Nat) (h:i<l.length) :
  (Bs ((l.take i).map (· ^^^ by')++l.drop i)).getD i .top=.val (.int .u8 ((l.getD i 0).toNat:Int))∧
  (Bs ((l.take i).map (· ^^^ by')++l.drop i)).take i++[.val (.int .u8 (((l.getD i 0).toNat ^^^ by'.toNat:Nat):Int))]++(Bs ((l.take i).map (· ^^^ by')++l.drop i)).drop (i+1)=Bs ((l.take (i+1)).map (· ^^^ by')++l.drop (i+1)):=by
 have hl:((l.take i).map (· ^^^ by')).length=i:=by simp;omega
 have hd:l.drop i=l.getD i 0::l.drop (i+1):=by
  rw[List.drop_eq_getElem_cons h]
  simp[List.getD_eq_getElem?_getD,List.getElem?_eq_getElem h]
 rw[hd]
 constructor
 ·rw[V.kP (by simp;omega)]
  simp only[B]
  congr 4
  rw[List.getD_eq_getElem?_getD,List.getElem?_append_right (by omega),hl,Nat.sub_self]
  rfl
 ·have hb:((l.take i).map (· ^^^ by')++l.getD i 0::l.drop (i+1)).length=l.length:=by simp;omega
  have hp:=aND ((l.take i).map (· ^^^ by')++l.getD i 0::l.drop (i+1)) i (l.getD i 0 ^^^ by') (by rw[hb];exact h)
  have e0:((l.getD i 0 ^^^ by').toNat:Int)=(((l.getD i 0).toNat ^^^ by'.toNat:Nat):Int):=by rw[UInt8.toNat_xor]
  rw[← e0]
  refine hp.trans ?_
  congr 1
  rw[List.set_append_right _ _ (by omega),hl,Nat.sub_self,List.set_cons_zero]
  have e2:l.take (i+1)=l.take i++[l.getD i 0]:=by
   rw[List.take_add_one,List.getElem?_eq_getElem h]
   simp[List.getD_eq_getElem?_getD,List.getElem?_eq_getElem h]
  rw[e2]
  simp
theorem aDK [Gv] {C:List Nat→List UInt8→List Nat} (hC:COk C) (key:List UInt8) (p:Perm) (by':UInt8) (hk:key.length=32) :
  ACalls Tryz.prog GP 280 [.sl key.length (Bs key) p,.val (.int .u8 (by'.toNat:Int))] [] (fun r os=>os=[.cells (DS.cs (gU C jZ (sU key by')))]∧r=.ptr 0 0):=by
 have cN:=aPg.g (G:=GP)
 rw[show DC sG (List.replicate 64 0) 0=DS.cs jZ from rfl] at cN
 have hn0:=fW jZ
 have hkl:=tL key by' (by omega)
 have cW:=yB hC jZ uR (sU key by') .full (by rw[hkl];decide)
 have hn1:=fW (gU C jZ (sU key by'))
 rw[hkl] at cW
 change ACalls _ _ _ _ [.cells (DS.cs jZ)] (fun v os=>os=[.cells (DS.cs (gU C jZ (sU key by')))]∧v=.tup []) at cW
 generalize DS.cs (gU C jZ (sU key by'))=D1 at *
 obtain⟨z,hz,hzl,hz0⟩:∃ z:List UInt8,(zvs .u8 64).map cav=Bs z∧z.length=64∧z=List.replicate 64 0:=⟨List.replicate 64 0,by simp[zvs,Bs,B,cav],by simp,rfl⟩
 refine dB Tryz.func280 rfl rfl Tryz.ntmps280 (rts:=#[346]) rfl Tryz.results280 (by simp) ?_
 simp only[seval,aZ]
 refine aC fun K hK=>aA [] ?_
 simp only[seval,kZs,cav,aI]
 and_intros<;>try first|exact⟨⟩|omega
 refine hK _ ?_
 clear hK K
 refine aC fun K hK=>aA [] ?_
 simp only[seval,kZs,dF,bS,hz,aI]
 and_intros<;>try first|exact⟨⟩|omega
 refine hK _ ?_
 clear hK K
 refine aE [0,1,5] ?_
 simp only[seval,kZq]
 refine aC fun K1 hK1=>?_
 refine aC fun K hK=>aA [] ?_
 simp only[seval,kZs,bI,bV,eN,Tryz.underlying54,cav,aL,aI,aP,bH,yM]
 and_intros<;>try first|exact⟨⟩|omega
 refine hK _ ?_
 clear hK K
 refine aR (by simp only[aB,lk];simp;omega) (bC (hK1 _ ?_))
 clear hK1 K1
 refine aE [0,1,5] ?_
 simp only[seval,kZq]
 refine aC fun K hK=>aA [] ?_
 have hk32:key.take 32=key:=List.take_of_length_le (by omega)
 simp only[seval,kZs,hk,eY,iR,Option.map_none,Tryz.underlying336,bD,eJ,Int.le_refl,dH,Int.cast_ofNat_Int,ne_eq,not_true_eq_false,or_false,Int.toNat_zero,Nat.mul_one,Int.sub_zero,bI,aCK,Tryz.underlying54,eQ,aX,Nat.min_def,spl,aI,hzl,eS,hk32,eR,eA]
 refine hK _ ?_
 clear hK K
 have hzd:z.drop 32=List.replicate (64 - key.length) 0:=by rw[hz0,hk];rfl
 rw[hzd,← iD]
 have hLl:(key++List.replicate (64 - key.length) (0:UInt8)).length=64:=by simp[hk]
 rw[show sU key by'=(key++List.replicate (64 - key.length) 0).map (· ^^^ by') from rfl] at cW hkl
 generalize key++List.replicate (64 - key.length) 0=L at cW hkl hLl ⊢
 refine aE [1,5] ?_
 simp only[seval,kZq]
 refine aC fun K1 hK1=>?_
 refine aC fun K hK=>aA [] ?_
 simp only[seval,kZs,cav,aI]
 and_intros<;>try first|exact⟨⟩|omega
 refine hK _ ?_
 clear hK K
 refine aE [1,5,19] ?_
 simp only[seval,kZq]
 refine bK ?_
 refine bZ (fun i:Nat=>⟨34,[(1,.val (.int .u8 (by'.toNat:Int))),(5,.ptr 0 0),(19,.val (.int .i64 (i:Int)))],[.cells (Bs ((L.take i).map (· ^^^ by')++L.drop i))]⟩)
  (fun i=>i≤64) (fun i=>64 - i) 0 (by omega) (.of_keep [1,5,19] rfl) ?_
 intro i hi
 refine aC fun K hK=>aA [] ?_
 simp only[seval,kZs,cav,aL,aP,bH,aCB,aI]
 and_intros<;>try first|exact⟨⟩|omega
 refine hK _ ?_
 clear hK K
 refine bJ ?_
 refine fB rfl rfl (fun hq=>?_) (fun hq=>?_)
 ·have hlt:i<64:=by have:=of_decide_eq_true hq;omega
  refine bC ?_
  simp only[aI]
  refine aE [1,5,19] ?_
  simp only[seval,kZq]
  refine bJ ?_
  refine bK ?_
  refine aC fun K hK=>aA [] ?_
  simp only[seval,kZs,aI]
  and_intros<;>try first|exact⟨⟩|omega
  refine hK _ ?_
  clear hK K
  refine aE [1,5,7,19] ?_
  simp only[seval,kZq]
  obtain⟨g1,g2⟩:=aKI L by' i (by omega)
  have hbl:(Bs ((L.take i).map (· ^^^ by')++L.drop i)).length=64:=by rw[aX];simp;omega
  generalize Bs ((L.take i).map (· ^^^ by')++L.drop i)=cs at g1 g2 hbl ⊢
  have hx:=UInt8.toNat_lt (L.getD i 0)
  have hy:=UInt8.toNat_lt by'
  generalize (L.getD i 0).toNat=x at g1 g2 hx
  refine aA [] ?_
  simp only[seval,kZs,dN,Tryz.underlying336,bD,Int.cast_ofNat_Int,Int.toNat_natCast,Nat.mul_one,aY,apart,aO,Tryz.underlying5,aL,bQ,bX,bB,spl,hbl,g1,aP,bH,aMH,List.all_cons,dC,Value.oneCell',List.all_nil]
  refine⟨⟨by omega,by omega⟩,hlt,⟨by omega,by omega⟩,by omega,?_⟩
  rw[Nat.mod_eq_of_lt (Nat.xor_lt_two_pow (n:=8) hx hy),g2]
  simp only[bL,aI]
  refine aE [1,5,19] ?_
  simp only[seval,kZq]
  have h6:IntKind.i64.wrap ((i+1:Nat):Int)=((i+1:Nat):Int):=fD (by omega)
  refine aA [] ?_
  simp only[seval,kZs,cav,aL,aP,bH,gO,h6,aI]
  refine⟨i+1,by omega,by omega,.of_keep [1,5,19] rfl⟩
 ·have he:i=64:=by have:=of_decide_eq_false hq;omega
  subst he
  refine dR ?_
  simp only[aI,bL,if_true]
  refine hK1 _ ?_
  clear hK1 K1
  rw[List.take_of_length_le (by omega),List.drop_eq_nil_of_le (by omega),List.append_nil]
  refine iH 5 0 (Bs (L.map (· ^^^ by'))) rfl rfl (by rw[aX,hkl];omega) (aJ _) ?_
  refine aE [5] ?_
  simp only[seval,kZq]
  refine aC fun K hK=>aA [1000029] ?_
  simp only[seval,qq,aU,List.contains_cons,beq_self_eq_true,aB,bF,aT]
  refine aAp (by simp[fH]) cN (by simpa[eH] using hn0) ?_
  simp only[seval,kZs,dE,aI]
  refine hK _ ?_
  clear hK K
  refine aE [5,8] ?_
  simp only[seval,kZq]
  refine aC fun K hK=>aA [1000032] ?_
  simp only[seval,kZs,eY,iR,Option.map_none,Tryz.underlying336,bD,aX,hkl,Nat.mul_one,aU,List.contains_cons,beq_self_eq_true,bF,aT,bA,bW,List.tail_cons,List.headD_cons,Tryz.underlying54]
  refine gR (v':=.tup []) 1 (.cells (DS.cs jZ)) rfl (by simpa[eH] using hn0) (by simp[fH,iV,aJ,bW]) cW (by simp[eH,hn1]) (by simp[iL,aH,aM]) ?_
  simp only[List.set_cons_succ,List.set_cons_zero,List.append_nil,dE,aG,aI]
  refine hK _ ?_
  clear hK K
  refine aC fun K hK=>aA [] ?_
  simp only[seval,kZs,aI]
  and_intros<;>try first|exact⟨⟩|omega
  refine hK _ ?_
  clear hK K
  refine aS ?_
  exact⟨.inr rfl,[1],_,_,⟨by simp,by simp,by decide,by simp,by simp[fU,bM _ _ hn1]⟩,rfl,⟨trivial,trivial⟩,rfl,by simp[GHd,gJ,cY _ _ hn1],rfl⟩
def MC (w a:DS):List AObj:=[.cells [.ptr 1 0,.ptr 2 0],.cells (DS.cs w),.cells (DS.cs a)]
theorem aJa [Gv] {C:List Nat→List UInt8→List Nat} (hC:COk C) (key:List UInt8) (p:Perm) (hk:key.length=32) :
  ACalls Tryz.prog GP 249 [.sl key.length (Bs key) p] [] (fun r os=>os=MC (gU C jZ (sU key 0x36)) (gU C jZ (sU key 0x5c))∧r=.ptr 0 0):=by
 have c1:=aDK hC key (bW p) 0x36 hk
 have c2:=aDK hC key (bW p) 0x5c hk
 have hn1:=fW (gU C jZ (sU key 0x36))
 have hn2:=fW (gU C jZ (sU key 0x5c))
 unfold MC
 generalize DS.cs (gU C jZ (sU key 0x36))=D1 at *
 generalize DS.cs (gU C jZ (sU key 0x5c))=D2 at *
 rw[show ((0x36:UInt8).toNat:Int)=54 from rfl] at c1
 rw[show ((0x5c:UInt8).toNat:Int)=92 from rfl] at c2
 refine dB Tryz.func249 rfl rfl Tryz.ntmps249 (rts:=#[319]) rfl Tryz.results249 (by simp) ?_
 simp only[seval,aZ]
 refine aC fun K hK=>aA [] ?_
 simp only[seval,kZs,cav,aI]
 and_intros<;>try first|exact⟨⟩|omega
 refine hK _ ?_
 clear hK K
 refine aC fun K hK=>aA [1000004,1000006] ?_
 simp only[seval,kZs,aU,List.contains_cons,beq_self_eq_true,cav,bF,aT,bA,aJ,bW,aH]
 refine aAp (by simp[fH,iV,aH,aJ]) c1 (by simpa[eH] using hn1) ?_
 simp only[seval,kZs,dE,aU,List.contains_cons,beq_self_eq_true,Bool.false_or,cav,bF,aT,bA,aJ,bW,aH]
 refine aAp (by simp[fH,iV,aH,aJ]) c2 (by simpa[eH] using hn2) ?_
 simp only[seval,kZs,dE,fA,bS,Tryz.underlying349,kO,cav,dO,eM,spl,bB,List.drop_nil,List.all_cons,dC,List.all_nil,List.contains_cons,eF,fN,aI]
 refine hK _ ?_
 clear hK K
 refine aE [2] ?_
 simp only[seval,kZq]
 refine aS ?_
 exact⟨.inr rfl,[2,0,1],_,_,⟨by simp,by simp,by decide,by simp,by simp[fU,eV,ref,bM _ _ hn1,bM _ _ hn2]⟩,rfl,⟨trivial,trivial⟩,rfl,by simp[GHd,gJ,gH,ren,cY _ _ hn1,cY _ _ hn2]<;>decide,rfl⟩
theorem aFZ [Gv] {C:List Nat→List UInt8→List Nat} (hC:COk C) (w a:DS) (hw:DOk w) (b:List UInt8) (p:Perm) (hm:w.many+b.length≤1000000000) :
  ACalls Tryz.prog GP 250 [.ptr 0 0,.sl b.length (Bs b) p] (MC w a) (fun r os=>os=MC (gU C w b) a∧r=.tup []):=by
 have cW:=yB hC w hw b (bW p) hm
 change ACalls _ _ _ _ [.cells (DS.cs w)] (fun v os=>os=[.cells (DS.cs (gU C w b))]∧v=.tup []) at cW
 have hn0:=fW w
 have hn1:=fW (gU C w b)
 have hn2:=fW a
 unfold MC
 generalize DS.cs (gU C w b)=D1 at *
 generalize DS.cs w=D0 at *
 generalize DS.cs a=D2 at *
 refine dB Tryz.func250 rfl rfl Tryz.ntmps250 (rts:=#[]) rfl Tryz.results250 (by simp) ?_
 simp only[seval,aZ]
 refine aA [1000009] ?_
 simp only[seval,kZs,fY,aN,Tryz.underlying349,bD,ne_eq,aY,List.contains_cons,apart,aO,Tryz.underlying346,aU,beq_self_eq_true,bF,aT,bA,bW,List.headD_cons,aJ]
 refine gR (v':=.tup []) 1 (.cells D0) rfl (by simpa[eH] using hn0) (by simp[fH,iV,aJ]) cW (by simp[eH,hn1]) (by simp[iL,aH,aM]) ?_
 simp only[List.set_cons_succ,List.set_cons_zero,List.append_nil,dE,aG]
 exact⟨.inl rfl,[0,1,2],_,_,⟨by simp,by decide,by decide,by simp,by simp[fU,eV,ref,bM _ _ hn1,bM _ _ hn2]⟩,rfl,trivial,rfl,by simp[GHd,gJ,gH,ren,cY _ _ hn1,cY _ _ hn2]<;>decide,rfl⟩
theorem aLX (a b:List UInt8) (p q:Perm) (ha:a.length≤9223372036854775807):ACalls Tryz.prog G0 73 [.sl a.length (Bs a) p,.sl b.length (Bs b) q] [] (fun r os=>os=[]∧r=.val (.bool (decide (a=b)))):=by
 refine aQ Tryz.func73 rfl rfl Tryz.ntmps73 (rts:=#[4]) rfl Tryz.results73 (by simp) ?_
 simp only[seval,aZ]
 refine aC fun K hK=>aA [] ?_
 simp only[seval,kZs,cav,aI]
 and_intros<;>try first|exact⟨⟩|omega
 refine hK _ ?_
 clear hK K
 refine aC fun K1 hK1=>?_
 refine aC fun K hK=>aA [] ?_
 simp only[seval,kZs,bI,bV,eN,Tryz.underlying54,aL,aI,aP,bH,aLS]
 and_intros<;>try first|exact⟨⟩|omega
 refine hK _ ?_
 clear hK K
 refine fB rfl rfl (fun h=>?_) (fun h=>?_)
 ·have hne:a.length≠b.length:=by simpa using h
  refine aE [0,1] ?_
  simp only[seval,kZq]
  refine aC fun K hK=>aA [] ?_
  simp only[seval,kZs,cav,aI]
  and_intros<;>try first|exact⟨⟩|omega
  refine hK _ ?_
  clear hK K
  refine aS ?_
  simp only[seval,qq,aI,bR,cQ,bN,bO,dA,aB,aH]
  congr 2
  simp
  rintro rfl
  exact hne rfl
 have hl:a.length=b.length:=by simpa using h
 refine bC (hK1 _ ?_)
 clear hK1 K1
 refine aE [0,1] ?_
 simp only[seval,kZq]
 refine aC fun K hK=>aA [] ?_
 simp only[seval,kZs,cav,aI]
 and_intros<;>try first|exact⟨⟩|omega
 refine hK _ ?_
 clear hK K
 refine aC fun K1 hK1=>?_
 refine aC fun K hK=>aA [] ?_
 simp only[seval,kZs,bI,bV,eN,Tryz.underlying54,cav,aI]
 and_intros<;>try first|exact⟨⟩|omega
 refine hK _ ?_
 clear hK K
 refine aE [1,5,13,14,15] ?_
 simp only[seval,kZq]
 refine bK ?_
 refine bZ (fun x:Nat×Nat=>⟨31,[(1,.sl b.length (Bs b) q),(5,.val (.int .u8 (x.2:Int))),(13,.sl a.length (Bs a) p),(14,.val (.int .i64 (a.length:Int))),(15,.val (.int .i64 (x.1:Int)))],[]⟩)
  (fun x=>x.1≤a.length∧x.2<256∧(x.2=0↔∀ k,k<x.1→a.getD k 0=b.getD k 0)) (fun x=>a.length - x.1) (0,0) ⟨by omega,by omega,by simp⟩ (.of_keep [1,5,13,14,15] (by exact rfl)) ?_
 rintro⟨i,u⟩ ⟨hi,hu,hiff⟩
 simp only at hi hu hiff
 refine aC fun K hK=>aA [] ?_
 simp only[seval,kZs,aL,aP,bH,jM,aI]
 and_intros<;>try first|exact⟨⟩|omega
 refine hK _ ?_
 clear hK K
 refine bJ ?_
 refine fB rfl rfl (fun h=>?_) (fun h=>?_)
 ·have hlt:i<a.length:=of_decide_eq_true h
  have hpa:0<a.length - i:=by omega
  have hpb:0<b.length - i:=by omega
  refine bC ?_
  simp only[aI]
  refine aE [1,5,13,14,15] ?_
  simp only[seval,kZq]
  refine bJ ?_
  refine bK ?_
  refine aC fun K hK=>aA [] ?_
  simp only[seval,kZs,dN,Tryz.underlying54,bD,aX,Nat.mul_one,Int.toNat_natCast,eA,aY,apart,aO,Tryz.underlying5,aI,List.length_drop,hpa,kP,B,fL]
  and_intros<;>try first|exact⟨⟩|omega
  refine hK _ ?_
  clear hK K
  refine aE [1,5,6,7,13,14,15] ?_
  simp only[seval,kZq]
  refine aA [] ?_
  simp only[seval,kZs,dN,Tryz.underlying54,bD,aX,Nat.mul_one,Int.toNat_natCast,eA,aY,apart,aO,Tryz.underlying5,aL,List.length_drop,hpb,kP,B,fL,aP,bH,aMH,aOo]
  refine⟨by omega,?_⟩
  simp only[bL,aI]
  refine aE [1,5,13,14,15] ?_
  simp only[seval,kZq]
  have h6:IntKind.i64.wrap ((i+1:Nat):Int)=((i+1:Nat):Int):=fD (by omega)
  refine aA [] ?_
  simp only[seval,kZs,cav,aL,aP,bH,gO,h6,aI]
  have hst:=aNh u (a.getD i 0) (b.getD i 0) hu
  refine⟨(i+1,(u ||| ((a.getD i 0).toNat ^^^ (b.getD i 0).toNat)%256)%256),⟨by omega,hst.1,?_⟩,by omega,.of_keep [1,5,13,14,15] rfl⟩
  rw[hst.2,hiff]
  constructor
  ·rintro⟨h1,h2⟩ k hk
   by_cases e:k=i
   ·subst e;exact h2
   ·exact h1 k (by omega)
  ·intro h1
   exact⟨fun k hk=>h1 k (by omega),h1 i (by omega)⟩
 ·have hge:i=a.length:=by have:=of_decide_eq_false h;omega
  subst hge
  refine dR ?_
  simp only[aI,bL,if_true]
  refine hK1 _ ?_
  refine aC fun K hK=>aA [] ?_
  simp only[seval,kZs,cav,aL,aP,bH,wY,aI]
  and_intros<;>try first|exact⟨⟩|omega
  refine hK _ ?_
  clear hK K
  refine aS ?_
  simp only[seval,qq,bR,cQ,bN,bO,dA,aB,aH]
  congr 2
  rw[Bool.eq_iff_iff]
  simp only[beq_iff_eq,decide_eq_true_eq]
  rw[hiff,← aGF hl]


theorem aGq (n:Nat):be8 n 8=be4 (n/4294967296%4294967296)++be4 (n%4294967296):=by
 simp only[be8,be4,List.range_succ,List.range_zero,List.nil_append,List.cons_append,List.map_cons,List.map_nil]
 repeat' (apply congr (congrArg List.cons (aPm (by omega))))
 rfl
theorem aCw (n:Nat) (hn:n<18446744073709551616):ACalls Tryz.prog G0 129 [.val (.int .u64 (n:Int))] [] (fun r os=>os=[]∧r=.sl 8 (Bs (be8 n 8)) .no):=by
 refine aQ Tryz.func129 rfl rfl Tryz.ntmps129 (rts:=#[54]) rfl Tryz.results129 (by simp) ?_
 simp only[seval,aZ]
 refine aC fun K hK=>aA [] ?_
 simp only[seval,kZs,cav,aI]
 and_intros<;>try first|exact⟨⟩|omega
 refine hK _ ?_
 clear hK K
 refine aC fun K hK=>aA [] ?_
 simp only[qq,aF,Nat.reduceLT,aB,reduceCtorEq,Nat.reduceEqDiff,cav,aL,aP,bH,Int.reduceLE,Int.reduceToNat,IntKind.bits,Nat.min_def,Nat.reduceLeDiff,rV,eL,Tryz.underlying279,eG,bA,aH,fF,Tryz.underlying30,Option.isSome_some,qV,aU,Nat.reduceAdd,bF,aT,aM,bW]
 have hp:(2:Nat)^32=4294967296:=rfl
 rw[hp]
 generalize hga:n/4294967296%4294967296=a
 have h1:=aBY [] .full a (by simp)
 refine aV (by simp[aJ,aM,aH]) (h1) (by simp[aH,aM,aJ,flat]) ?_
 simp only[seval,kZs,aK,eL,Tryz.underlying279,eG,bA,aH,fF,Tryz.underlying30,Option.isSome_some,qV,aU,bF,aT,aJ,bW]
 have h2:=aBY (be4 a) .no (n%4294967296) (by simp[be4])
 refine aV (by simp[aJ,aM,aH]) (h2) (by simp[aH,aM,aJ,flat]) ?_
 simp only[seval,kZs,aK,aI]
 refine hK _ ?_
 refine aS ?_
 simp only[seval,qq,bR,cQ,bN,bO,dA,aB,aJ,bW]
 rw[aGq n,hga]
 rfl
theorem aGk [Gv] {P:Program} {ty:TypeId} {nt:Nat} {s:List (Nat×AV)} {os:List AObj} {x r n:Nat} {cs:List AV} (hx:lk s x=.ptr r 0) (ho:os[r]? = some (.cells cs)) (hn:tsz P ty=some n) (hag:aO (P.underlying ty)=some true) (hl:cs.length=n) :
  gB P [.cell x ty] ⟨nt,s,os⟩=some ((0+n≤cs.length)∧True,.agg cs):=by
 have ht:(cs.drop 0).take n=cs:=by rw[List.drop_zero];exact List.take_of_length_le (by omega)
 simp only[gB,fJ,fR,hx,aY,ho,apart,hag,hn,ht]
theorem id3 [Gv]:∀ i,i<3→([0,1,2]:List Nat).getD i 0=i:=by decide
theorem aEa [Gv] (objs:List AObj):σn objs []=fun i=>objs.length+i:=by
 funext i
 simp[σn]
theorem yC [Gv] (objs os:List AObj):jD objs [] os=objs++os.map (gJ fun i=>objs.length+i):=by
 simp[jD,gG,aEa]
theorem aHG [Gv] (hs:List Nat) (hh:hs.length≤3) (w a:DS) (r:AV) (hr:ref (fun r=>decide (r<3)) r=true):aNJ hs false r (MC w a):=
 ⟨hh,fun o ho=>by
  simp only[MC,List.mem_cons,List.not_mem_nil,or_false] at ho
  rcases ho with rfl|rfl|rfl
  ·rfl
  ·exact bM _ _ (fW w)
  ·exact bM _ _ (fW a),hr,fun h=>by cases h⟩
def MO (n:Nat) (w a:DS):List AObj:=[.cells [.ptr (n+1) 0,.ptr (n+2) 0],.cells (DS.cs w),.cells (DS.cs a)]
theorem aOA [Gv] (objs:List AObj) (w a:DS):jD objs [] (MC w a)=objs++MO objs.length w a:=by
 rw[yC]
 simp[MC,MO,gJ,gH,ren,cY _ _ (fW w),cY _ _ (fW a)]
theorem aJb [Gv] {C:List Nat→List UInt8→List Nat} (hC:COk C) (w a:DS) (hw:DOk w) (ha:DOk a) (hm:w.many≤900000000) (hm2:a.many≤800000000) :
  ACalls Tryz.prog GP 251 [.ptr 0 0] (MC w a) (fun r os=>os=MC w a∧r=.agg (Bs (mA C (gU C a (mA C w))))):=by
 have hsl:(mA C w).length=32:=pT hC w hw
 have hok2:=mV hC.1 ha (mA C w)
 have hmr:=mQ C a (mA C w)
 have cS:=aIb hC w hw hm
 have cS2:=aIb hC (gU C a (mA C w)) hok2 (by omega)
 have cCl:=(aFE a.h a.rest a.many (iQ ha.1) ha.2).g (G:=GP)
 have cW:=yB hC a ha (mA C w) .full (by omega)
 have hsl2:(mA C (gU C a (mA C w))).length=32:=pT hC _ hok2
 change ACalls _ _ _ _ [.cells (DS.cs w)] (fun v os=>os=[.cells (DS.cs w)]∧v=_) at cS
 change ACalls _ _ _ _ [.cells (DS.cs (gU C a (mA C w)))] (fun v os=>os=[.cells (DS.cs (gU C a (mA C w)))]∧v=_) at cS2
 change ACalls _ _ _ _ [.cells (DS.cs a)] (fun v os=>os=[.cells (DS.cs a),.cells (DS.cs a)]∧v=_) at cCl
 change ACalls _ _ _ _ [.cells (DS.cs a)] (fun v os=>os=[.cells (DS.cs (gU C a (mA C w)))]∧v=.tup []) at cW
 have hn0:=fW w
 have hn1:=fW a
 have hn2:=fW (gU C a (mA C w))
 unfold MC
 clear hok2 hmr hm hm2 hw ha
 generalize mA C (gU C a (mA C w))=S2 at *
 generalize DS.cs (gU C a (mA C w))=D2 at *
 generalize mA C w=S1 at *
 generalize DS.cs w=D0 at *
 generalize DS.cs a=D1 at *
 rw[hsl] at cW
 obtain⟨z,hz,hzl⟩:∃ z:List UInt8,(zvs .u8 32).map cav=Bs z∧z.length=32:=⟨List.replicate 32 0,by simp[zvs,Bs,B,cav],by simp⟩
 have zd:z.drop 32=[]:=List.drop_eq_nil_of_le (by omega)
 have ht1:S1.take 32=S1:=List.take_of_length_le (by omega)
 have ht2:S2.take 32=S2:=List.take_of_length_le (by omega)
 refine dB Tryz.func251 rfl rfl Tryz.ntmps251 (rts:=#[23]) rfl Tryz.results251 (by simp) ?_
 simp only[seval,aZ]
 refine aC fun K hK=>aA [] ?_
 simp only[seval,kZs,dF,bS,hz,aI]
 and_intros<;>try first|exact⟨⟩|omega
 refine hK _ ?_
 clear hK K
 refine aE [0,2] ?_
 simp only[seval,kZq]
 refine aC fun K hK=>aA [1000009] ?_
 simp only[seval,kZs,fY,aN,Tryz.underlying349,bD,ne_eq,aY,List.contains_cons,apart,aO,Tryz.underlying346,aU,beq_self_eq_true,bF,aT,bA,bW,List.headD_cons]
 refine gR (v':=.agg (Bs S1)) 1 (.cells D0) rfl (by simpa[eH] using hn0) (by simp[fH,iV]) cS (by simp[eH,hn0]) (by simp[iL,aH,aJ]) ?_
 simp only[seval,kZs,dE,dF,bS,hz,bQ,bX,bD,bB,eR,aX,hsl,spl,aI,hzl,eA,zd,gV]
 refine hK _ ?_
 clear hK K
 refine iH 3 4 (Bs S1) rfl rfl (by rw[aX];omega) (aJ _) ?_
 refine aE [0,2,3] ?_
 simp only[seval,kZq]
 refine aC fun K hK=>aA [1000014] ?_
 simp only[seval,kZs,fY,aN,Tryz.underlying349,bD,ne_eq,aY,List.contains_cons,apart,aO,Tryz.underlying346,aU,beq_self_eq_true,bF,aT,bA,bW,List.headD_cons,List.getD_cons_succ]
 refine gR (v':=.ptr 5 0) 2 (.cells D1) rfl (by simpa[eH] using hn1) (by simp[fH,iV]) cCl (by simp[eH,hn1]) (by simp[iL]) ?_
 simp only[seval,kZs,dE,aI]
 refine hK _ ?_
 clear hK K
 refine aE [2,3,4] ?_
 simp only[seval,kZq]
 refine aC fun K hK=>aA [1000017] ?_
 simp only[seval,kZs,eY,iR,Option.map_none,Tryz.underlying23,bD,aX,hsl,Nat.mul_one,aU,List.contains_cons,beq_self_eq_true,bF,aT,bA,bW,List.tail_cons,List.headD_cons,Tryz.underlying54]
 refine gR (v':=.tup []) 5 (.cells D1) rfl (by simpa[eH] using hn1) (by simp[fH,iV,aJ,bW]) cW (by simp[eH,hn2]) (by simp[iL,aH,aM]) ?_
 simp only[List.set_cons_succ,List.set_cons_zero,List.append_nil,dE,aG,aI]
 refine hK _ ?_
 clear hK K
 refine aE [2,4] ?_
 simp only[seval,kZq]
 refine aC fun K hK=>aA [1000019] ?_
 simp only[seval,kZs,aU,List.contains_cons,beq_self_eq_true,bF,aT,bA]
 refine gR (v':=.agg (Bs S2)) 5 (.cells D2) rfl (by simpa[eH] using hn2) (by simp[fH,iV]) cS2 (by simp[eH,hn2]) (by simp[iL,aH,aJ]) ?_
 simp only[seval,qq,dE,bQ,bX,aB,bD,bB,eR,aX,hsl2,hzl,spl,eA,zd,gV,aG,aI]
 refine hK _ ?_
 clear hK K
 refine aE [2] ?_
 simp only[seval,kZq]
 refine aS ?_
 exact⟨.inr rfl,[0,1,2],_,_,⟨by simp,fun i hi=>id3 i hi,by decide,by simp,by simp[fU,eV,ref,bM _ _ hn0,bM _ _ hn1]⟩,aGk (n:=32) rfl rfl (by simp only[bD]) (by rw[Tryz.underlying23];rfl) (by rw[aX,hsl2]),⟨by rw[aX];omega,trivial⟩,by simp[ref,bM,aJ],by simp[GHd,gJ,gH,ren,cY _ _ hn0,cY _ _ hn1]<;>decide,by simp[ren,cY,aJ]⟩
def aHE (C:List Nat→List UInt8→List Nat) (key m:List UInt8):List UInt8:=aPu C (sU key 0x5c++aPu C (sU key 0x36++m))
theorem aMB [Gv] (x:AObj) (w a:DS):aKc [x,.cells [.ptr 2 0,.ptr 3 0],.cells (DS.cs w),.cells (DS.cs a)] [1,2,3]:=
 ⟨by decide,by simp,by simp[fU,eV,ref,bM _ _ (fW w),bM _ _ (fW a)]⟩
theorem aOn [Gv] (x:AObj) (w a:DS):GHd [x,.cells [.ptr 2 0,.ptr 3 0],.cells (DS.cs w),.cells (DS.cs a)] [1,2,3]=MC w a:=by
 simp[GHd,MC,gJ,gH,ren,cY _ _ (fW w),cY _ _ (fW a)]<;>decide
theorem aOm [Gv] (x:AObj) (w a w' a':DS):jD [x,.cells [.ptr 2 0,.ptr 3 0],.cells (DS.cs w),.cells (DS.cs a)] [1,2,3] (MC w' a')=[x,.cells [.ptr 2 0,.ptr 3 0],.cells (DS.cs w'),.cells (DS.cs a')]:=by
 simp[jD,gG,MC,gJ,gH,ren,σn,cY _ _ (fW w'),cY _ _ (fW a')]
theorem aMA [Gv] {C:List Nat→List UInt8→List Nat} (hC:COk C) (key:List UInt8) (p q:Perm) (hk:key.length=32) (l:List (List UInt8)) (hl:l.flatten.length≤800000000) (hl2:l.length≤900000000) :
  ACalls Tryz.prog GP 196 [.sl key.length (Bs key) p,.sl l.length (PS l) q] [] (fun r os=>os=[]∧r=.agg (Bs (aHE C key l.flatten))):=by
 have cN:=aJa hC key (bW p) hk
 have hpl:=aIn l
 have k1:=tL key 0x36 (by omega)
 have k2:=tL key 0x5c (by omega)
 obtain⟨W,hW⟩:∃ W,gU C jZ (sU key 0x36)=W:=⟨_,rfl⟩
 obtain⟨A0,hA0⟩:∃ A0,gU C jZ (sU key 0x5c)=A0:=⟨_,rfl⟩
 have hWok:DOk W:=hW ▸ mV hC.1 uR _
 have hAok:DOk A0:=hA0 ▸ mV hC.1 uR _
 have hWm:W.many=64:=by rw[← hW,mQ,k1];rfl
 have hAm:A0.many=64:=by rw[← hA0,mQ,k2];rfl
 rw[hW,hA0] at cN
 have iL:mA C (gU C A0 (mA C (gU C W l.flatten)))=aHE C key l.flatten:=by
  unfold aHE aPu
  rw[← hW,← hA0,← pR,← pR]
 rw[← iL]
 obtain⟨z,hz,hzl⟩:∃ z:List UInt8,(zvs .u8 32).map cav=Bs z∧z.length=32:=⟨List.replicate 32 0,by simp[zvs,Bs,B,cav],by simp⟩
 have zd:z.drop 32=[]:=List.drop_eq_nil_of_le (by omega)
 refine aQ Tryz.func196 rfl rfl Tryz.ntmps196 (rts:=#[23]) rfl Tryz.results196 (by simp) ?_
 simp only[seval,aZ]
 refine aC fun K hK=>aA [] ?_
 simp only[seval,kZs,dF,bS,hz,aI]
 and_intros<;>try first|exact⟨⟩|omega
 refine hK _ ?_
 clear hK K
 refine aC fun K hK=>aA [1000009] ?_
 simp only[seval,kZs,aU,List.contains_cons,beq_self_eq_true,bF,aT,bA,aJ,bW]
 refine gF [] false [54] ⟨by decide,by simp,by simp⟩ (C:=aM (Bs key)=true∧True) rfl ⟨aJ _,trivial⟩ cN (aHG _ (by simp) _ _ _ rfl) ?_
 rw[aOA,aEa]
 simp only[seval,kZs,ren,dE,aI]
 refine hK _ ?_
 clear hK K
 simp only[MO]
 refine aE [1,4,5] ?_
 simp only[seval,kZq]
 refine aC fun K1 hK1=>?_
 refine aC fun K hK=>aA [] ?_
 simp only[seval,kZs,bI,bV,eN,Tryz.underlying318,cav,aI]
 and_intros<;>try first|exact⟨⟩|omega
 refine hK _ ?_
 clear hK K
 refine aE [4,5,10,11,12] ?_
 simp only[seval,kZq]
 refine bK ?_
 refine bZ (fun i:Nat=>⟨22,[(4,.ptr 0 0),(5,.ptr 1 0),(10,.sl l.length (PS l) q),(11,.val (.int .i64 (l.length:Int))),(12,.val (.int .i64 (i:Int)))],[.cells (Bs z),.cells [.ptr 2 0,.ptr 3 0],.cells (DS.cs (gU C W (l.take i).flatten)),.cells (DS.cs A0)]⟩)
  (fun i=>i≤l.length) (fun i=>l.length - i) 0 (by omega) (.of_keep [4,5,10,11,12] rfl) ?_
 intro i hi
 refine aC fun K hK=>aA [] ?_
 simp only[seval,kZs,aL,aP,bH,jM,aI]
 and_intros<;>try first|exact⟨⟩|omega
 refine hK _ ?_
 clear hK K
 refine bJ ?_
 refine fB rfl rfl (fun hq=>?_) (fun hq=>?_)
 ·have hlt:i<l.length:=of_decide_eq_true hq
  refine bC ?_
  simp only[aI]
  refine aE [4,5,10,11,12] ?_
  simp only[seval,kZq]
  have hget:=aNN l i hlt
  have hfl:=aKD l i hlt
  have hle:=xV l i
  have hle1:=xV l (i+1)
  have hrm:=mQ C W (l.take i).flatten
  have hflen:((l.take (i+1)).flatten).length=((l.take i).flatten).length+(l.getD i []).length:=by rw[hfl,List.length_append]
  have cW:=aFZ hC (gU C W (l.take i).flatten) A0 (mV hC.1 hWok _) (l.getD i []) .no (by rw[hrm,hWm];omega)
  rw[← pR,← hfl] at cW
  generalize l.getD i []=b at *
  refine bJ ?_
  refine bK ?_
  refine aC fun K hK=>aA [] ?_
  simp only[seval,kZs,dN,Tryz.underlying318,bD,hpl,Nat.mul_one,Int.toNat_natCast,aY,apart,aO,Tryz.underlying54,aI,List.length_drop,fL,hget]
  and_intros<;>try first|exact⟨⟩|omega
  refine hK _ ?_
  clear hK K
  refine aE [4,5,7,10,11,12] ?_
  simp only[seval,kZq]
  refine aA [1000018] ?_
  simp only[seval,kZs,aU,List.contains_cons,beq_self_eq_true,bF,aT,bA,aJ,bW]
  refine gF [1,2,3] false [319,54] (aMB _ _ _) (C:=True∧aM (Bs b)=true∧True) rfl ⟨trivial,aJ _,trivial⟩ (by rw[aOn];exact cW) (aHG _ (by simp) _ _ _ rfl) ?_
  rw[aOm]
  simp only[ren,gH,dE,aG]
  simp only[bL,aI]
  refine aE [4,5,10,11,12] ?_
  simp only[seval,kZq]
  have h6:IntKind.i64.wrap ((i+1:Nat):Int)=((i+1:Nat):Int):=fD (by omega)
  refine aA [] ?_
  simp only[seval,kZs,cav,aL,aP,bH,gO,h6,aI]
  refine⟨i+1,by omega,by omega,.of_keep [4,5,10,11,12] rfl⟩
 ·have he:i=l.length:=by have:=of_decide_eq_false hq;omega
  subst he
  refine dR ?_
  simp only[aI,bL,if_true]
  refine hK1 _ ?_
  clear hK1 K1
  rw[List.take_length]
  have hrm:=mQ C W l.flatten
  have cS:=aJb hC (gU C W l.flatten) A0 (mV hC.1 hWok _) hAok (by rw[hrm,hWm];omega) (by omega)
  have hsl:(mA C (gU C A0 (mA C (gU C W l.flatten)))).length=32:=pT hC _ (mV hC.1 hAok _)
  generalize mA C (gU C A0 (mA C (gU C W l.flatten)))=S at *
  refine aE [4,5] ?_
  simp only[seval,kZq]
  have ht2:S.take 32=S:=List.take_of_length_le (by omega)
  refine aC fun K hK=>aA [1000021] ?_
  simp only[seval,kZs,aU,List.contains_cons,beq_self_eq_true,bF,aT,bA]
  refine gF [1,2,3] false [319] (aMB _ _ _) (C:=True∧True) rfl ⟨trivial,trivial⟩ (by rw[aOn];exact cS) (aHG _ (by simp) _ _ _ (by simp[ref,bM,aJ])) ?_
  rw[aOm,uL _ _ (by simp[aH,aJ])]
  simp only[seval,qq,dE,bQ,bX,aB,bD,bB,eR,aX,hsl,hzl,spl,eA,zd,gV,aG,aI]
  refine hK _ ?_
  clear hK K
  refine aE [4] ?_
  simp only[seval,kZq]
  refine aS ?_
  have hsz:tsz Tryz.prog 23=some 32:=by simp only[bD]
  exact(by
   simp only[V.Fin]
   exact⟨_,_,uE rfl rfl hsz (by rw[Tryz.underlying23];rfl) (by rw[aX,hsl]),⟨⟨by rw[aX,hsl];omega,by simp[aH,aJ]⟩,trivial⟩,trivial,rfl⟩)
theorem zS [Gv] {C:List Nat→List UInt8→List Nat} (hC:COk C) (key m:List UInt8):(aHE C key m).length=32:=pT hC _ (mV hC.1 uR _)
def SS (l:List (List UInt8)):List AV:=l.map fun s=>.val (.string ⟨s.toArray⟩)
theorem aIo [Gv] (l:List (List UInt8)):(SS l).length=l.length:=List.length_map _
theorem aNR [Gv] (l:List (List UInt8)) (i:Nat) (h:i<l.length):(SS l).getD i .top=.val (.string ⟨(l.getD i []).toArray⟩):=by
 simp[SS,List.getD_eq_getElem?_getD,List.getElem?_map,List.getElem?_eq_getElem h]
theorem aJk [Gv] (l:List (List UInt8)):aM (SS l)=true:=by
 induction l with
 | nil=>rfl
 | cons b l ih=>rw[show SS (b::l)=.val (.string ⟨b.toArray⟩)::SS l from rfl];simp[aM,aH,ih]
theorem aPD [Gv] (b:List UInt8):SS [b]=[.val (.string ⟨b.toArray⟩)]:=rfl
def aBK (s:List UInt8):List UInt8:=be8 s.length 8++s
def fS (l:List (List UInt8)):List UInt8:=l.flatMap aBK
theorem aHA [Gv] (l:List (List UInt8)) (i:Nat) (h:i<l.length):fS (l.take (i+1))=fS (l.take i)++(be8 (l.getD i []).length 8++l.getD i []):=by
 unfold fS
 rw[List.take_add_one,List.getElem?_eq_getElem h,List.flatMap_append,List.getD_eq_getElem?_getD,List.getElem?_eq_getElem h]
 simp[aBK]
theorem aFN [Gv] (l:List (List UInt8)) (i:Nat):(fS (l.take i)).length≤(fS l).length:=by
 conv=>rhs;rw[← List.take_append_drop i l]
 unfold fS
 rw[List.flatMap_append,List.length_append]
 omega
theorem aFO [Gv] (l:List (List UInt8)) (p:Perm) (hl:(fS l).length≤100000000) (hl2:l.length≤900000000) :
  ACalls Tryz.prog G0 197 [.sl l.length (SS l) p] [] (fun r os=>os=[]∧r=.sl (fS l).length (Bs (fS l)) .no):=by
 have hpl:=aIo l
 refine aQ Tryz.func197 rfl rfl Tryz.ntmps197 (rts:=#[54]) rfl Tryz.results197 (by simp) ?_
 simp only[seval,aZ]
 refine aC fun K hK=>aA [] ?_
 simp only[seval,kZs,cav,aI]
 and_intros<;>try first|exact⟨⟩|omega
 refine hK _ ?_
 clear hK K
 refine aC fun K hK=>aA [] ?_
 simp only[seval,kZs,cav,aI]
 and_intros<;>try first|exact⟨⟩|omega
 refine hK _ ?_
 clear hK K
 refine oA 1 3 rfl ?_
 refine aE [0,3] ?_
 simp only[seval,kZq]
 refine aC fun K1 hK1=>?_
 refine aC fun K hK=>aA [] ?_
 simp only[seval,kZs,bI,bV,eN,Tryz.underlying43,cav,aI]
 and_intros<;>try first|exact⟨⟩|omega
 refine hK _ ?_
 clear hK K
 refine aE [3,6,7,8] ?_
 simp only[seval,kZq]
 refine bK ?_
 refine bZ (fun i:Nat=>⟨23,[(3,.sl (fS (l.take i)).length (Bs (fS (l.take i))) (.tok 0)),(6,.sl l.length (SS l) p),(7,.val (.int .i64 (l.length:Int))),(8,.val (.int .i64 (i:Int)))],[.tok 1 (fS (l.take i)).length]⟩)
  (fun i=>i≤l.length) (fun i=>l.length - i) 0 (by omega) (.of_keep [3,6,7,8] rfl) ?_
 intro i hi
 refine aC fun K hK=>aA [] ?_
 simp only[seval,kZs,aL,aP,bH,jM,aI]
 and_intros<;>try first|exact⟨⟩|omega
 refine hK _ ?_
 clear hK K
 refine bJ ?_
 refine fB rfl rfl (fun hq=>?_) (fun hq=>?_)
 ·have hlt:i<l.length:=of_decide_eq_true hq
  refine bC ?_
  simp only[aI]
  refine aE [3,6,7,8] ?_
  simp only[seval,kZq]
  have hget:=aNR l i hlt
  have hfl:=aHA l i hlt
  have hle:=aFN l i
  have hle1:=aFN l (i+1)
  have hb8:∀ n,(be8 n 8).length=8:=fun n=>oQ n 8
  have hflen:(fS (l.take (i+1))).length=(fS (l.take i)).length+(8+(l.getD i []).length):=by rw[hfl,List.length_append,List.length_append,hb8]
  have cN:=(aCw (l.getD i []).length (by omega)).g (G:=G0)
  refine bJ ?_
  refine bK ?_
  generalize l.getD i []=b at *
  generalize hF1:fS (l.take (i+1))=F1 at *
  generalize fS (l.take i)=F0 at *
  refine aC fun K hK=>aA [] ?_
  simp only[seval,kZs,dN,Tryz.underlying43,bD,hpl,Nat.mul_one,Int.toNat_natCast,aY,apart,aO,Tryz.underlying9,aI,List.length_drop,fL,hget]
  and_intros<;>try first|exact⟨⟩|omega
  refine hK _ ?_
  clear hK K
  refine aE [3,5,6,7,8] ?_
  simp only[seval,kZq]
  have hbl:=hb8 b.length
  generalize be8 b.length 8=n8 at *
  have hw1:IntKind.u64.wrap (b.length:Int)=(b.length:Int):=by rw[tN,Nat.mod_eq_of_lt (by omega)]
  refine aC fun K hK=>aA [] ?_
  simp only[seval,kZs,bI,bV,eN,Tryz.underlying9,dJ,eL,Tryz.underlying30,eG,bA,bW,Tryz.underlying3,fF,Option.isSome_some,aU,bF,aT,List.headD_cons,hw1,aH]
  refine aV (by simp[aJ,aM,aH]) (cN) (by simp[aH,aM,aJ,flat]) ?_
  simp only[seval,kZs,aK,bI,fP,Tryz.underlying54,bD,lX,bS,gC,eQ,aX,hbl,Nat.mul_one,eR,aI]
  refine⟨⟨by omega,by omega⟩,hK _ ?_⟩
  clear hK K
  refine aE [3,5,6,7,8] ?_
  simp only[seval,kZq]
  refine aA [] ?_
  simp only[seval,kZs,bI,fP,Tryz.underlying54,bD,lX,bS,gC,Tryz.underlying9,eQ,dJ,Nat.mul_one,eR]
  refine⟨⟨by rw[List.length_append,aX,aX,hbl],by omega,by omega⟩,?_⟩
  rw[← iD,← iD,List.append_assoc,← hfl,show F0.length+8+b.length=F1.length by omega]
  subst hF1
  simp only[bL,aI]
  refine aE [3,6,7,8] ?_
  simp only[seval,kZq]
  have h6:IntKind.i64.wrap ((i+1:Nat):Int)=((i+1:Nat):Int):=fD (by omega)
  refine aA [] ?_
  simp only[seval,kZs,cav,aL,aP,bH,gO,h6,aI]
  refine⟨i+1,by omega,by omega,.of_keep [3,6,7,8] rfl⟩
 ·have he:i=l.length:=by have:=of_decide_eq_false hq;omega
  subst he
  refine dR ?_
  simp only[aI,bL,if_true]
  refine hK1 _ ?_
  clear hK1 K1
  rw[List.take_length]
  refine lH 3 rfl ?_
  refine aE [3] ?_
  simp only[seval,kZq]
  refine aC fun K hK=>aA [] ?_
  simp only[seval,kZs,aI]
  and_intros<;>try first|exact⟨⟩|omega
  refine hK _ ?_
  clear hK K
  refine aE [2] ?_
  simp only[seval,kZq]
  refine aS ?_
  simp only[qq,bR,cQ,bN,bO,dA,aB,aJ,bW]
def pL (C:List Nat→List UInt8→List Nat) (key use:List UInt8) (parts:List (List UInt8)):List UInt8:=aHE C key (fS [use]++fS parts)
theorem aCa [Gv] {C:List Nat→List UInt8→List Nat} (hC:COk C) (key use:List UInt8) (hk:key.length=32) (parts:List (List UInt8)) (p:Perm) (hu:use.length≤1000) (hl:(fS parts).length≤100000000) (hl2:parts.length≤900000000) :
  ACalls Tryz.prog GP 128 [.agg (Bs key),.val (.string ⟨use.toArray⟩),.sl parts.length (SS parts) p] [] (fun r os=>os=[]∧r=.agg (Bs (pL C key use parts))):=by
 have hfu:(fS [use]).length=8+use.length:=by simp[fS,aBK,oQ]
 have c1:=(aFO [use] .full (by omega) (by simp)).g (G:=GP)
 have c2:=(aFO parts (bW p) hl hl2).g (G:=GP)
 have c3:=aMA hC key .full .full hk [fS [use],fS parts] (by simp;omega) (by simp)
 have hd:pL C key use parts=aHE C key ([fS [use],fS parts]:List (List UInt8)).flatten:=by simp[pL]
 rw[hd]
 have hml:=zS hC key ([fS [use],fS parts]:List (List UInt8)).flatten
 generalize aHE C key ([fS [use],fS parts]:List (List UInt8)).flatten=S at *
 rw[aPD] at c1
 rw[show PS [fS [use],fS parts]=[.sl (fS [use]).length (Bs (fS [use])) .no,.sl (fS parts).length (Bs (fS parts)) .no] from rfl,hk] at c3
 obtain⟨z,hz,hzl⟩:∃ z:List UInt8,(zvs .u8 32).map cav=Bs z∧z.length=32:=⟨List.replicate 32 0,by simp[zvs,Bs,B,cav],by simp⟩
 have zd:z.drop 32=[]:=List.drop_eq_nil_of_le (by omega)
 have hk32:key.take 32=key:=List.take_of_length_le (by omega)
 refine aQ Tryz.func128 rfl rfl Tryz.ntmps128 (rts:=#[23]) rfl Tryz.results128 (by simp) ?_
 simp only[seval,aZ]
 refine aC fun K hK=>aA [] ?_
 simp only[seval,kZs,eF,bB,eR,fN,dF,bS,hz,aI]
 and_intros<;>try first|exact⟨⟩|omega
 refine hK _ ?_
 clear hK K
 refine iH 3 0 (Bs key) rfl rfl (by rw[aX];omega) (aJ _) ?_
 refine aE [1,2,3,6] ?_
 simp only[seval,kZq]
 refine aC fun K hK=>?_
 have hz1:kZ [Value.string ⟨#[]⟩] 1=[cav (.string ⟨#[]⟩)]:=rfl
 have hz2:kZ [Value.slice none 0 0] 2=[cav (.slice none 0 0),cav (.slice none 0 0)]:=rfl
 refine dW [] (by kernel_rfl) (by kernel_rfl) ?_
 simp only[seval,kZs,eY,iR,Option.map_none,Tryz.underlying23,bD,aX,hk,Nat.mul_one,dV,Tryz.underlying43,bS,hz1,cav,dO,eM,spl,bB,List.drop_nil,List.all_cons,dC,Value.oneCell',List.all_nil,dL,aU,bF,aT,bA,aM,aH,bW]
 refine aV trivial c1 (by simp[aH,aJ]) ?_
 simp only[seval,kZs,aK,aU,bF,aT,bA,bW]
 refine aV (aJk _) c2 (by simp[aH,aJ]) ?_
 simp only[seval,kZs,aK,dV,Tryz.underlying318,bD,bS,Nat.mul_one,hz2,cav,dO,eM,spl,bB,List.drop_nil,List.all_cons,dC,List.all_nil,dL,aU,bF,aT,bA,aJ,bW,aM,aH]
 refine aV (by simp[aM,aH,aJ]) c3 (by simp[aH,aJ]) ?_
 simp only[seval,qq,aK,bQ,bX,aB,bD,bB,eR,aX,hml,hzl,spl,eA,zd,gV,aG,aI]
 refine hK _ ?_
 clear hK K
 refine aE [6] ?_
 simp only[seval,kZq]
 refine aS ?_
 have hsz:tsz Tryz.prog 23=some 32:=by simp only[bD]
 exact(by
  simp only[V.Fin]
  exact⟨_,_,uE rfl rfl hsz (by rw[Tryz.underlying23];rfl) (by rw[aX,hml]),⟨⟨by rw[aX,hml];omega,by simp[aH,aJ]⟩,trivial⟩,trivial,rfl⟩)
theorem fO [Gv] {C:List Nat→List UInt8→List Nat} (hC:COk C) (key use:List UInt8) (parts:List (List UInt8)):(pL C key use parts).length=32:=zS hC _ _
theorem aOc (l:List UInt8) (p:Perm) (n:Nat) (hn:n<18446744073709551616) (hl:l.length≤70368744177664):ACalls Tryz.prog G0 107 [.sl l.length (Bs l) p,.val (.int .u64 (n:Int))] [] (fun r os=>os=[]∧r=.sl (l++vb n).length (Bs (l++vb n)) .no):=by
 refine aQ Tryz.func107 rfl rfl Tryz.ntmps107 (rts:=#[54]) rfl Tryz.results107 (by simp) ?_
 simp only[seval,aZ]
 refine aC fun K hK=>aA [] ?_
 simp only[seval,kZs,cav,aI]
 and_intros<;>try first|exact⟨⟩|omega
 refine hK _ ?_
 clear hK K
 refine aC fun K1 hK1=>aA [] ?_
 simp only[seval,kZs,aU,bF,aT,bA,aJ,bW]
 refine aV trivial (aDt l _) (by simp[aH,aJ]) ?_
 simp only[seval,kZs,aK,aI]
 refine hK1 _ ?_
 clear hK1 K1
 refine aE [0,1] ?_
 simp only[seval,kZq]
 refine aC fun K hK=>?_
 refine bK ?_
 refine oA 1 0 rfl ?_
 refine bZ (fun x:List UInt8×Nat=>⟨22,[(0,.sl x.1.length (Bs x.1) (.tok 0)),(1,.val (.int .u64 (x.2:Int)))],[.tok 1 x.1.length]⟩) (fun x=>x.2<18446744073709551616∧x.1++vb x.2=l++vb n) (fun x=>x.2) (l,n) ⟨hn,rfl⟩ (.of_keep [0,1] (by exact rfl)) ?_
 rintro⟨m,x⟩ ⟨hx,he⟩
 simp only at hx he
 refine bJ (bJ ?_)
 refine aA [] ?_
 simp only[seval,kZs,cav,aL,aP,bH,aI]
 and_intros<;>try first|exact⟨⟩|omega
 refine fB rfl rfl (fun h=>?_) (fun h=>?_)
 ·have hge:128≤x:=by simp at h;omega
  refine bC ?_
  simp only[aI]
  refine aE [0,1] ?_
  simp only[seval,kZq]
  refine bJ ?_
  refine bK ?_
  refine aA [] ?_
  simp only[seval,kZs,eL,Tryz.underlying5,eG,bA,aH,fF,Tryz.underlying30,Option.isSome_some,aJf,cav,aL,aP,bH,aMF,dV,Tryz.underlying54,bD,bS,Nat.mul_one,jJ,List.replicate_succ,List.replicate_zero,dO,eM,spl,bB,eA,List.drop_nil,gV,aX,List.all_cons,dC,Value.oneCell',List.all_nil,dL,bI,fP,lX,gC,eQ]
  have hlen:=congrArg List.length he
  have h10:=jI hn
  simp only[List.length_append] at hlen
  have hpos:=List.length_pos_iff.2 (aBp x)
  refine⟨⟨by omega,by omega⟩,?_⟩
  simp only[bL,aI]
  refine aE [0,1] ?_
  simp only[seval,kZq]
  refine aA [] ?_
  simp only[qq,aF,Nat.reduceLT,aB,reduceCtorEq,Nat.reduceEqDiff,cav,aL,aP,bH,Int.reduceLE,Int.reduceToNat,IntKind.bits,Nat.min_def,Nat.reduceLeDiff,rV,aG,aI]
  rw[aNB,aHy]
  refine⟨(m++[UInt8.ofNat (x%256 ||| 128)],x/128),⟨by omega,?_⟩,by omega,?_⟩
  ·rw[← he,List.append_assoc,xY hge]
   congr 1
   have h8:∀ y:Nat,y<256→y ||| 128=y%128+128:=by decide +kernel
   rw[h8 _ (by omega),show x%256%128=x%128 by omega]
   rfl
  ·rw[show m.length+1=(m++[UInt8.ofNat (x%256 ||| 128)]).length by simp]
   exact .of_keep [0,1] rfl
 ·have hlt:x<128:=by have:=of_decide_eq_false h;omega
  refine dR ?_
  simp only[aI,bL,if_true]
  refine hK _ ?_
  clear hK K
  refine aE [0,1] ?_
  simp only[seval,kZq]
  have hlen:=congrArg List.length he
  have h10:=jI hn
  simp only[List.length_append] at hlen
  have hpos:=List.length_pos_iff.2 (aBp x)
  refine aC fun K hK=>aA [] ?_
  simp only[seval,kZs,eL,Tryz.underlying5,eG,bA,aH,fF,Tryz.underlying30,Option.isSome_some,aJf,dV,Tryz.underlying54,bD,bS,Nat.mul_one,jJ,List.replicate_succ,List.replicate_zero,dO,eM,spl,bB,eA,List.drop_nil,gV,aX,List.all_cons,dC,Value.oneCell',List.all_nil,dL,bI,fP,lX,gC,eQ,aI]
  and_intros<;>try first|exact⟨⟩|omega
  refine hK _ ?_
  clear hK K
  refine aE [4] ?_
  simp only[seval,kZq]
  rw[aNB,aHy]
  refine aS ?_
  simp only[seval,qq,aI,bL,bR,cQ,bN,bO,dA,bW,aH,eq_self,aB,List.headD_cons,List.tail_cons,aJ]
  rw[← he,rD hlt]
  simp
def aOZ (x:Nat×Nat):AV:=.tup [.val (.int .u64 (x.1:Int)),.val (.int .i64 (x.2:Int))]
theorem aIg (b:List UInt8) (p:Perm) (hb:b.length≤70368744177664):ACalls Tryz.prog G0 216 [.sl b.length (Bs b) p] [] (fun r os=>os=[]∧r=aOZ (G b)):=by
 refine aQ Tryz.func216 rfl rfl Tryz.ntmps216 (rts:=#[30,3]) rfl Tryz.results216 (by simp) ?_
 simp only[seval,aZ]
 refine aC fun K hK=>aA [] ?_
 simp only[seval,kZs,cav,aI]
 and_intros<;>try first|exact⟨⟩|omega
 refine hK _ ?_
 clear hK K
 refine aE [0,2,3] ?_
 simp only[seval,kZq]
 refine aC fun K1 hK1=>?_
 refine aC fun K hK=>aA [] ?_
 simp only[seval,kZs,bI,bV,eN,Tryz.underlying54,cav,wP,eY,iR,Option.map_none,Option.map_some,bD,aX,Nat.mul_one,eJ,dH,ne_eq,eA,eS,iC,aI,Int.le_refl,true_or,Int.sub_zero,Int.toNat_zero]
 and_intros<;>try first|exact⟨⟩|omega
 refine hK _ ?_
 clear hK K
 rw[show (if (10:Int) < ↑b.length then (10:Int) else ↑b.length)=((min b.length 10:Nat):Int) by split<;>omega]
 simp only[Int.toNat_natCast]
 obtain⟨m,hm⟩:∃ m,m=min b.length 10:=⟨_,rfl⟩
 obtain⟨c,hc⟩:∃ c,c=b.take m:=⟨_,rfl⟩
 have hcl:c.length=m:=by rw[hc,List.length_take];omega
 have hcg:∀ k,k<m→c.getD k 0=b.getD k 0:=fun k hk=>by
  rw[hc]
  simp[List.getD_eq_getElem?_getD,List.getElem?_take,hk]
 rw[← hm,← hc]
 refine aE [2,3,10,11,12] ?_
 simp only[seval,kZq]
 refine bK ?_
 refine bZ (fun i:Nat=>⟨43,[(2,.val (.int .u64 (val (b.take i):Int))),(3,.val (.int .i64 0)),(10,.sl m (Bs c) .no),(11,.val (.int .i64 (m:Int))),(12,.val (.int .i64 (i:Int)))],[]⟩)
  (fun i=>i≤m∧∀ k,k<i→128≤(b.getD k 0).toNat) (fun i=>10 - i) 0 ⟨by omega,fun k h=>by omega⟩ (.of_keep [2,3,10,11,12] (by exact rfl)) ?_
 rintro i ⟨hi,hall⟩
 have done:∀ s:St,G b=(0,0)→gE G0 s ⟨43,[],[]⟩→K1 s:=by
  intro s he hw
  refine hK1 s (eX hw ?_)
  refine aC fun K hK=>aA [] ?_
  simp only[seval,kZs,cav,aI]
  and_intros<;>try first|exact⟨⟩|omega
  refine hK _ ?_
  clear hK K
  refine aS ?_
  simp only[seval,qq,bR,cQ,bN,bO,dA,aB,aH]
  rw[he]
  rfl
 refine aC fun K hK=>aA [] ?_
 simp only[seval,kZs,aL,aP,bH,jM,aI]
 and_intros<;>try first|exact⟨⟩|omega
 refine hK _ ?_
 clear hK K
 refine bJ ?_
 refine fB rfl rfl (fun h=>?_) (fun h=>?_)
 ·have hlt:i<m:=of_decide_eq_true h
  have hg:=hcg i hlt
  refine bC ?_
  simp only[aI]
  refine aE [2,3,10,11,12] ?_
  simp only[seval,kZq]
  refine bJ ?_
  refine bK ?_
  have hpos:0<m - i:=by omega
  refine aC fun K hK=>aA [] ?_
  simp only[seval,kZs,dN,Tryz.underlying54,bD,aX,hcl,Nat.mul_one,Int.toNat_natCast,eA,aY,apart,aO,Tryz.underlying5,aI,List.length_drop,hpos,kP,B,fL,hg]
  and_intros<;>try first|exact⟨⟩|omega
  refine hK _ ?_
  clear hK K
  refine aE [2,3,4,5,10,11,12] ?_
  simp only[seval,kZq]
  have hat:=aQn b i hall (by omega) (by omega)
  have hor:=aPo b i (by omega) (by omega)
  generalize hx:b.getD i 0=x at hat hor
  refine bJ ?_
  refine aC fun K hK=>?_
  have next:∀ (t:Bool) (s:St),t=decide (i=9∧1<x.toNat)→gE G0 s ⟨43,[(22,.val (.bool t)),(2,.val (.int .u64 (val (b.take i):Int))),(3,.val (.int .i64 0)),(4,.val (.int .i64 (i:Int))),(5,.val (.int .u8 (x.toNat:Int))),(10,.sl m (Bs c) .no),(11,.val (.int .i64 (m:Int))),(12,.val (.int .i64 (i:Int)))],[]⟩→K s:=by
   intro t s ht hw
   refine hK s (eX hw ?_)
   clear hw hK K
   refine fB rfl rfl (fun h=>?_) (fun h=>?_)
   ·have h91:i=9∧1<x.toNat:=of_decide_eq_true (ht.symm.trans h)
    rw[if_pos h91] at hat
    refine dR ?_
    simp only[seval,aI,bL,if_true,if_false]
    exact done _ hat (.of_keep [] (by exact rfl))
   ·have h91:¬ (i=9∧1<x.toNat):=of_decide_eq_false (ht.symm.trans h)
    rw[if_neg h91] at hat
    refine bC ?_
    simp only[aI]
    refine aE [2,3,4,5,10,11,12] ?_
    simp only[seval,kZq]
    have hor:=hor (by omega)
    have h7:IntKind.i64.wrap ((7*i:Nat):Int)=((7*i:Nat):Int):=fD (by omega)
    have h64:(if 7*i≤64 then 7*i else 64)=7*i:=if_pos (by omega)
    have h8:x.toNat%128%18446744073709551616=x.toNat%128:=by omega
    refine aC fun K hK=>aA [] ?_
    simp only[seval,kZs,cav,aL,aP,bH,ne_eq,aHJ,eL,Tryz.underlying30,eG,bA,aH,fF,Tryz.underlying5,Option.isSome_some,tN,h8,aPe,h7,Int.toNat_natCast,IntKind.bits,Nat.min_def,h64,aCq,aPd,hor,aI]
    and_intros<;>try first|exact⟨⟩|omega
    refine hK _ ?_
    clear hK K
    refine aE [2,3,4,5,10,11,12] ?_
    simp only[seval,kZq]
    refine aC fun K hK=>aA [] ?_
    simp only[seval,kZs,cav,aL,aP,bH,aCB,aI]
    and_intros<;>try first|exact⟨⟩|omega
    refine hK _ ?_
    clear hK K
    refine fB rfl rfl (fun h=>?_) (fun h=>?_)
    ·have hx8:x.toNat<128:=of_decide_eq_true h
     rw[if_pos hx8] at hat
     refine aE [2,3,4,5,10,11,12] ?_
     simp only[seval,kZq]
     refine bJ ?_
     refine aC fun K hK=>?_
     have next:∀ (t:Bool) (s:St),t=decide (0<i∧x.toNat=0)→gE G0 s ⟨43,[(38,.val (.bool t)),(2,.val (.int .u64 (val (b.take (i+1)):Int))),(4,.val (.int .i64 (i:Int)))],[]⟩→K s:=by
      intro t s ht hw
      refine hK s (eX hw ?_)
      clear hw hK K
      refine fB rfl rfl (fun h=>?_) (fun h=>?_)
      ·have h91:0<i∧x.toNat=0:=of_decide_eq_true (ht.symm.trans h)
       rw[if_pos h91] at hat
       refine dR ?_
       simp only[seval,aI,bL,if_true,if_false]
       exact done _ hat (.of_keep [] (by exact rfl))
      ·have h91:¬ (0<i∧x.toNat=0):=of_decide_eq_false (ht.symm.trans h)
       rw[if_neg h91] at hat
       refine bC ?_
       simp only[aI]
       have h6:IntKind.i64.wrap ((i+1:Nat):Int)=((i+1:Nat):Int):=fD (by omega)
       refine aC fun K hK=>aA [] ?_
       simp only[seval,kZs,cav,aL,aP,bH,gO,h6,aI]
       and_intros<;>try first|exact⟨⟩|omega
       refine hK _ ?_
       clear hK K
       refine aE [2,3] ?_
       simp only[seval,kZq]
       refine aS ?_
       simp only[seval,qq,aI,bL,bR,cQ,bN,bO,dA,bW,aH,eq_self,aB,List.headD_cons,List.tail_cons]
       rw[hat]
       rfl
     by_cases h0:0<i
     ·have h0':decide (0<i)=true:=by simpa using h0
      refine aA [] ?_
      simp only[seval,kZs,cav,aL,aP,bH,yM,h0',dD,bT,Option.bind_some,aW,dQ,gok,wY,bU,aI]
      and_intros<;>try first|exact⟨⟩|omega
      refine next _ _ ?_ (.of_keep [38,2,4] (by exact rfl))
      rw[Bool.eq_iff_iff]
      simp[h0]
     ·have h0':decide (0<i)=false:=by simpa using h0
      refine aA [] ?_
      simp only[seval,kZs,cav,aL,aP,bH,yM,h0',dD,bT,Option.bind_some,aW,Bool.not_true,eW,gok,bU,aI]
      and_intros<;>try first|exact⟨⟩|omega
      refine next _ _ ?_ (.of_keep [38,2,4] (by exact rfl))
      simp[h0]
    ·have hx8:128≤x.toNat:=by have:=of_decide_eq_false h;omega
     refine bC ?_
     simp only[aI,bL]
     refine aE [2,3,10,11,12] ?_
     simp only[seval,kZq]
     have h6:IntKind.i64.wrap ((i+1:Nat):Int)=((i+1:Nat):Int):=fD (by omega)
     refine aA [] ?_
     simp only[seval,kZs,cav,aL,aP,bH,gO,h6,aI]
     and_intros<;>try first|exact⟨⟩|omega
     refine⟨i+1,⟨by omega,fun k hk=>?_⟩,by omega,.of_keep [2,3,10,11,12] rfl⟩
     by_cases e:k=i
     ·subst e;rw[hx];exact hx8
     ·exact hall k (by omega)
  by_cases h9:i=9
  ·refine aA [] ?_
   have h9':(i == 9)=true:=by simpa using h9
   simp only[seval,kZs,cav,aL,aP,bH,wY,h9',dD,bT,Option.bind_some,aW,dQ,gok,yM,bU,aI]
   and_intros<;>try first|exact⟨⟩|omega
   refine next _ _ ?_ (.of_keep [22,2,3,4,5,10,11,12] (by exact rfl))
   simp[h9]
  ·have h9':(i == 9)=false:=by simpa using h9
   refine aA [] ?_
   simp only[seval,kZs,cav,aL,aP,bH,wY,h9',dD,bT,Option.bind_some,aW,Bool.not_true,eW,gok,bU,aI]
   and_intros<;>try first|exact⟨⟩|omega
   refine next _ _ ?_ (.of_keep [22,2,3,4,5,10,11,12] (by exact rfl))
   simp[h9]
 ·have hge:i=m:=by have:=of_decide_eq_false h;omega
  refine dR ?_
  simp only[aI,bL,if_true]
  exact done _ (aQI b i hall (by omega)) (.of_keep [] rfl)
@[simp] theorem aPi (x:Nat×Nat):aH (aOZ x)=true:=rfl
@[simp] theorem aQF (x:Nat×Nat):flat (aOZ x)=true:=rfl
theorem aId (x:Nat×Nat):aOZ x=.tup [.val (.int .u64 (x.1:Int)),.val (.int .i64 (x.2:Int))]:=rfl
theorem aGK (l:List UInt8) (p:Perm) (n:Nat) (hn:n<18446744073709551616) (hl:l.length≤70368744177664):ACalls Tryz.prog G0 107 [.sl l.length (Bs l) p,.val (.int .u64 (n:Int))] [] (fun r os=>os=[.tok 1 (l++vb n).length]∧r=.sl (l++vb n).length (Bs (l++vb n)) (.tok 0)):=by
 refine gQ Tryz.func107 rfl rfl Tryz.ntmps107 (rts:=#[54]) rfl Tryz.results107 (by simp) ?_
 simp only[seval,aZ]
 refine aC fun K hK=>aA [] ?_
 simp only[seval,kZs,cav,aI]
 and_intros<;>try first|exact⟨⟩|omega
 refine hK _ ?_
 clear hK K
 refine aC fun K1 hK1=>aA [] ?_
 simp only[seval,kZs,aU,bF,aT,bA,aJ,bW]
 refine aV trivial (aDt l _) (by simp[aH,aJ]) ?_
 simp only[seval,kZs,aK,aI]
 refine hK1 _ ?_
 clear hK1 K1
 refine aE [0,1] ?_
 simp only[seval,kZq]
 refine aC fun K hK=>?_
 refine bK ?_
 refine oA 1 0 rfl ?_
 refine bZ (fun x:List UInt8×Nat=>⟨22,[(0,.sl x.1.length (Bs x.1) (.tok 0)),(1,.val (.int .u64 (x.2:Int)))],[.tok 1 x.1.length]⟩) (fun x=>x.2<18446744073709551616∧x.1++vb x.2=l++vb n) (fun x=>x.2) (l,n) ⟨hn,rfl⟩ (.of_keep [0,1] (by exact rfl)) ?_
 rintro⟨m,x⟩ ⟨hx,he⟩
 simp only at hx he
 refine bJ (bJ ?_)
 refine aA [] ?_
 simp only[seval,kZs,cav,aL,aP,bH,aI]
 and_intros<;>try first|exact⟨⟩|omega
 refine fB rfl rfl (fun h=>?_) (fun h=>?_)
 ·have hge:128≤x:=by simp at h;omega
  refine bC ?_
  simp only[aI]
  refine aE [0,1] ?_
  simp only[seval,kZq]
  refine bJ ?_
  refine bK ?_
  refine aA [] ?_
  simp only[seval,kZs,eL,Tryz.underlying5,eG,bA,aH,fF,Tryz.underlying30,Option.isSome_some,aJf,cav,aL,aP,bH,aMF,dV,Tryz.underlying54,bD,bS,Nat.mul_one,jJ,List.replicate_succ,List.replicate_zero,dO,eM,spl,bB,eA,List.drop_nil,gV,aX,List.all_cons,dC,Value.oneCell',List.all_nil,dL,bI,fP,lX,gC,eQ]
  have hlen:=congrArg List.length he
  have h10:=jI hn
  simp only[List.length_append] at hlen
  have hpos:=List.length_pos_iff.2 (aBp x)
  refine⟨⟨by omega,by omega⟩,?_⟩
  simp only[bL,aI]
  refine aE [0,1] ?_
  simp only[seval,kZq]
  refine aA [] ?_
  simp only[qq,aF,Nat.reduceLT,aB,reduceCtorEq,Nat.reduceEqDiff,cav,aL,aP,bH,Int.reduceLE,Int.reduceToNat,IntKind.bits,Nat.min_def,Nat.reduceLeDiff,rV,aG,aI]
  rw[aNB,aHy]
  refine⟨(m++[UInt8.ofNat (x%256 ||| 128)],x/128),⟨by omega,?_⟩,by omega,?_⟩
  ·rw[← he,List.append_assoc,xY hge]
   congr 1
   have h8:∀ y:Nat,y<256→y ||| 128=y%128+128:=by decide +kernel
   rw[h8 _ (by omega),show x%256%128=x%128 by omega]
   rfl
  ·rw[show m.length+1=(m++[UInt8.ofNat (x%256 ||| 128)]).length by simp]
   exact .of_keep [0,1] rfl
 ·have hlt:x<128:=by have:=of_decide_eq_false h;omega
  refine dR ?_
  simp only[aI,bL,if_true]
  refine hK _ ?_
  clear hK K
  refine aE [0,1] ?_
  simp only[seval,kZq]
  have hlen:=congrArg List.length he
  have h10:=jI hn
  simp only[List.length_append] at hlen
  have hpos:=List.length_pos_iff.2 (aBp x)
  refine aC fun K hK=>aA [] ?_
  simp only[seval,kZs,eL,Tryz.underlying5,eG,bA,aH,fF,Tryz.underlying30,Option.isSome_some,aJf,dV,Tryz.underlying54,bD,bS,Nat.mul_one,jJ,List.replicate_succ,List.replicate_zero,dO,eM,spl,bB,eA,List.drop_nil,gV,aX,List.all_cons,dC,Value.oneCell',List.all_nil,dL,bI,fP,lX,gC,eQ,aI]
  and_intros<;>try first|exact⟨⟩|omega
  refine hK _ ?_
  clear hK K
  refine aE [4] ?_
  simp only[seval,kZq]
  rw[aNB,aHy]
  have e1:m++[UInt8.ofNat x]=l++vb n:=by rw[← he,rD hlt]
  have e2:m.length+1=(l++vb n).length:=by rw[← e1];simp
  rw[e1,e2]
  refine aS ?_
  exact oM 4 0 1 rfl rfl (aJ _) ⟨rfl,rfl⟩
theorem aNm (l:List UInt8) (p:Perm) (f:eK) (hl:l.length≤35184372088832) (hf:f.2.length≤35184372088832):ACalls Tryz.prog G0 51 [.sl l.length (Bs l) p,.agg (FA f)] [] (fun r os=>os=[]∧r=.sl (l++fby f).length (Bs (l++fby f)) .no):=by
 obtain⟨k,v⟩:=f
 simp only at hf
 have hv10:=jI (n:=v.length) (by omega)
 have lt:l.take l.length=l:=List.take_of_length_le (Nat.le_refl _)
 refine aQ Tryz.func51 rfl rfl Tryz.ntmps51 (rts:=#[54]) rfl Tryz.results51 (by simp) ?_
 simp only[seval,aZ]
 refine aC fun K hK=>aA [] ?_
 simp only[seval,kZs,FA,B,eF,bB,List.all_cons,dC,Value.oneCell',List.all_nil,fN,cav,aI]
 and_intros<;>try first|exact⟨⟩|omega
 refine hK _ ?_
 clear hK K
 refine iH 3 0 [AV.val (Value.int IntKind.u8 (k.toNat:Int)),AV.val (Value.string { data:=v.toArray })] rfl rfl (by simp) rfl ?_
 refine aE [0,3] ?_
 simp only[seval,kZq]
 refine aC fun K hK=>?_
 refine dW [12] (by kernel_rfl) (by kernel_rfl) ?_
 simp only[seval,kZs,bI,List.contains_cons,bV,eN,Tryz.underlying54,eY,iR,Option.map_none,Option.map_some,bD,aX,Nat.mul_one,eJ,dH,ne_eq,eA,eS,iC,aN,Tryz.underlying124,aY,beq_self_eq_true,apart,aO,Tryz.underlying5,dV,bS,jJ,List.replicate_succ,List.replicate_zero,dO,eM,spl,bB,dL,fP,lX,gC,eQ,aI,List.all_cons,dC,Value.oneCell',List.all_nil,List.drop_nil,gV,Int.le_refl,or_true,Int.sub_zero,Int.toNat_natCast,Int.toNat_zero,lt]
 refine⟨by omega,⟨by omega,by omega⟩,hK _ ?_⟩
 clear hK K
 refine aE [0,3] ?_
 simp only[seval,kZq]
 obtain⟨L,hL⟩:∃ L,L=l++[k]:=⟨_,rfl⟩
 have hLl:l.length+1=L.length:=by rw[hL,List.length_append];rfl
 have hLb:Bs l++[AV.val (Value.int IntKind.u8 (k.toNat:Int))]=Bs L:=by rw[hL,iD];rfl
 rw[hLl,hLb]
 have hvn:v.length%18446744073709551616=v.length:=Nat.mod_eq_of_lt (by omega)
 have cP:=fun q=>aGK L q v.length (by omega) (by omega)
 have iL:l++fby (k,v)=(L++vb v.length)++v:=by rw[hL];simp[fby]
 rw[iL]
 generalize hQ:L++vb v.length=Q at cP ⊢
 have hQl:Q.length≤35184372088832+11:=by rw[← hQ,List.length_append];omega
 refine aC fun K hK=>?_
 refine dW [1000020,17,22] (by kernel_rfl) (by kernel_rfl) ?_
 simp only[seval,kZs,aN,Tryz.underlying124,bD,ne_eq,aY,List.contains_cons,beq_self_eq_true,Bool.false_or,apart,aO,Tryz.underlying9,bI,bV,eN,eL,Tryz.underlying30,eG,bA,bW,Tryz.underlying3,fF,Option.isSome_some,aU,bF,aT,aJ,List.tail_cons,List.headD_cons,dJ,tN,hvn]
 refine oO (by simp[fH,iV,aH,aM,aJ,bW]) (cP .no) (by simp[aJ]) ?_
 simp only[seval,kZs,dE,aN,Tryz.underlying124,bD,ne_eq,aY,List.contains_cons,beq_self_eq_true,Bool.false_or,apart,aO,Tryz.underlying9,bI,fP,Tryz.underlying54,lX,bS,gC,eQ,Nat.mul_one,aX,aI,dJ,eR,← iD]
 refine⟨⟨by omega,by omega⟩,hK _ ?_⟩
 clear hK K
 refine aE [4] ?_
 simp only[seval,kZq]
 rw[show Q.length+v.length=(Q++v).length by simp]
 refine aS ?_
 simp only[qq,bR,cQ,bN,bO,dA,aB,aJ,bW]
theorem aBk (l:List eK) (i:Nat) (h:i<l.length):l.take (i+1)=l.take i++[l.getD i (0,[])]:=by
 rw[List.take_add_one,List.getD_eq_getElem?_getD,List.getElem?_eq_getElem h]
 rfl
def aNq:Option (eK×Nat)→AV
 | none=>.tup [.agg (FA (0,[])),.val (.int .i64 0),.val (.bool false)]
 | some (f,k)=>.tup [.agg (FA f),.val (.int .i64 (k:Int)),.val (.bool true)]
theorem aNj (b:List UInt8) (hb:b.length≤70368744177664):ACalls Tryz.prog G0 166 [.sl b.length (Bs b) .no] [] (fun r os=>os=[]∧r=aNq (yQ b)):=by
 obtain⟨fs,hu,hs⟩:∃ fs,Tryz.prog.underlying 124=some (.struct fs)∧uO Tryz.prog fs=some [(0,1),(1,1)]:=⟨_,Tryz.underlying124,by kernel_rfl⟩
 have cG:=aIg (b.drop 1) .no (by rw[List.length_drop];omega)
 have hgle:=aQJ (b.drop 1)
 have hget:yQ b=if b.length=0∨(G (b.drop 1)).2=0∨b.length - 1 - (G (b.drop 1)).2<(G (b.drop 1)).1 then none
   else some ((b.getD 0 0,(b.drop (1+(G (b.drop 1)).2)).take (G (b.drop 1)).1),1+(G (b.drop 1)).2+(G (b.drop 1)).1):=rfl
 rw[List.length_drop] at cG hgle
 rw[aId] at cG
 obtain⟨n,hn⟩:∃ n,n=(G (b.drop 1)).1:=⟨_,rfl⟩
 obtain⟨k,hk⟩:∃ k,k=(G (b.drop 1)).2:=⟨_,rfl⟩
 rw[← hn,← hk] at cG hgle hget
 clear hn hk
 refine aQ Tryz.func166 rfl rfl Tryz.ntmps166 (rts:=#[124,3,4]) rfl Tryz.results166 (by simp) ?_
 simp only[seval,aZ]
 refine aC fun K hK=>aA [] ?_
 simp only[seval,kZs,dF,bS,cav,aI]
 and_intros<;>try first|exact⟨⟩|omega
 refine hK _ ?_
 clear hK K
 refine aC fun K1 hK1=>?_
 refine aC fun K hK=>aA [] ?_
 simp only[seval,kZs,bI,bV,eN,Tryz.underlying54,cav,aL,aI,aP,bH,wY]
 refine hK _ ?_
 clear hK K
 refine fB rfl rfl (fun h=>?_) (fun h=>?_)
 ·have h0:b.length=0:=by simpa using h
  rw[if_pos (.inl h0)] at hget
  rw[hget]
  refine aE [2] ?_
  simp only[seval,kZq]
  refine aC fun K hK=>aA [] ?_
  simp only[seval,kZs,aY,apart,aO,hu,bD,List.take_nil,bQ,bX,bB,spl,cav,aI,List.all_cons,dC,Value.oneCell',List.all_nil,List.drop_nil]
  and_intros<;>try first|exact⟨⟩|omega
  refine hK _ ?_
  clear hK K
  refine aS ?_
  simp only[seval,qq,aI,bR,cQ,bN,bO,aY,aB,apart,aO,hu,bD,List.take_nil,dA,aH,aM]
  rfl
 have h0:b.length≠0:=by simpa using h
 refine bC (hK1 _ ?_)
 clear hK1 K1 h
 refine aE [0,2] ?_
 simp only[seval,kZq]
 have e1:((b.length:Int) - 1).toNat=b.length - 1:=by omega
 have e2:(b.drop 1).take (b.length - 1)=b.drop 1:=List.take_of_length_le (by rw[List.length_drop];exact Nat.le_refl _)
 refine aC fun K hK=>aA [] ?_
 simp only[seval,kZs,eY,iR,Option.map_some,cav,Option.map_none,Tryz.underlying54,bD,aX,Nat.mul_one,eJ,dH,Int.le_refl,ne_eq,not_true_eq_false,or_false,e1,eA,eS,e2,iC,aU,bF,aT,bA,bW,List.headD_cons,aJ]
 refine⟨by omega,?_⟩
 refine aV (by simp[aJ,aM,aH]) (cG) (by simp[aH,aM,aJ,flat]) ?_
 simp only[seval,kZs,aK,gW,aI]
 refine hK _ ?_
 clear hK K
 refine aE [0,2,5,6] ?_
 simp only[seval,kZq]
 have e3:IntKind.i64.wrap ((1+k:Nat):Int)=((1+k:Nat):Int):=fD (by omega)
 have e4:((b.length:Int) - ((1+k:Nat):Int)).toNat=b.length - (1+k):=by omega
 have e5:(b.drop (1+k)).take (b.length - (1+k))=b.drop (1+k):=List.take_of_length_le (by rw[List.length_drop];exact Nat.le_refl _)
 refine aC fun K hK=>aA [] ?_
 simp only[seval,kZs,cav,aL,aP,bH,aMG,e3,eY,iR,Option.map_some,Option.map_none,Tryz.underlying54,bD,aX,Nat.mul_one,eJ,dH,Int.le_refl,ne_eq,not_true_eq_false,or_false,e4,Int.toNat_natCast,eA,eS,e5,iC,aI]
 refine⟨by omega,hK _ ?_⟩
 clear hK K
 refine aE [0,2,5,6,7] ?_
 simp only[seval,kZq]
 refine aC fun K1 hK1=>?_
 refine aC fun K hK=>?_
 have next:∀ (t:Bool) (s:St),t=decide (k=0∨b.length - 1 - k<n)→gE G0 s ⟨45,[(30,.val (.bool t)),(0,.sl b.length (Bs b) .no),(2,.ptr 0 0),(5,.val (.int .u64 (n:Int))),(6,.val (.int .i64 (k:Int))),(7,.sl (b.length - (1+k)) (Bs (b.drop (1+k))) .no)],[.cells [.val (.int .u8 0),.val (.string ⟨#[]⟩)]]⟩→K s:=by
  intro t s ht hw
  refine hK s (eX hw ?_)
  clear hw hK K
  refine fB rfl rfl (fun h=>?_) (fun h=>?_)
  ·have hbad:k=0∨b.length - 1 - k<n:=of_decide_eq_true (ht.symm.trans h)
   rw[if_pos (.inr hbad)] at hget
   rw[hget]
   refine aE [2] ?_
   simp only[seval,kZq]
   refine aC fun K hK=>aA [] ?_
   simp only[seval,kZs,aY,apart,aO,hu,bD,List.take_nil,bQ,bX,bB,spl,cav,aI,List.all_cons,dC,Value.oneCell',List.all_nil,List.drop_nil]
   and_intros<;>try first|exact⟨⟩|omega
   refine hK _ ?_
   clear hK K
   refine aS ?_
   simp only[seval,qq,aI,bR,cQ,bN,bO,aY,aB,apart,aO,hu,bD,List.take_nil,dA,aH,aM]
   rfl
  ·have hok:¬ (k=0∨b.length - 1 - k<n):=of_decide_eq_false (ht.symm.trans h)
   rw[if_neg (by rintro(e|e);exact h0 e;exact hok e)] at hget
   refine bC (hK1 _ ?_)
   clear hK1 K1
   refine aE [0,2,5,6,7] ?_
   simp only[seval,kZq]
   have e6:0<b.length:=by omega
   have e7:(n:Int).toNat=n:=Int.toNat_natCast n
   have e8:IntKind.i64.wrap (n:Int)=(n:Int):=fD (by omega)
   have e9:IntKind.i64.wrap ((1+k+n:Nat):Int)=((1+k+n:Nat):Int):=fD (by omega)
   have e10:((b.drop (1+k)).take n).length=n:=by rw[List.length_take,List.length_drop];omega
   refine aC fun K hK=>?_
   refine dW [] (by kernel_rfl) (by kernel_rfl) ?_
   simp only[seval,kZs,dN,cav,Tryz.underlying54,bD,aX,Nat.mul_one,Int.le_refl,Int.toNat_zero,aY,apart,aO,Tryz.underlying5,eY,iR,Option.map_none,Option.map_some,List.length_drop,eJ,dH,ne_eq,true_or,Int.sub_zero,Int.toNat_natCast,eS,iC,eL,Tryz.underlying9,eG,bA,bW,fF,fA,bS,hu,kO,dO,eM,spl,bB,aL,aP,bH,aMG,e3,Tryz.underlying3,aH,Tryz.underlying30,Option.isSome_some,e8,oW,e9,bQ,bX,aI,e10,jG,kJ,List.all_cons,dC,Value.oneCell',List.all_nil,e6,kP,B,List.drop_nil]
   refine⟨by omega,by omega,hK _ ?_⟩
   clear hK K
   refine aE [2,3,4] ?_
   simp only[seval,kZq]
   refine aS ?_
   simp only[seval,qq,bR,cQ,bN,bO,aY,aB,apart,aO,hu,bD,List.take_nil,dA,aH,aM]
   rw[hget]
   rfl
 by_cases hk0:k=0
 ·have hd:((k:Int) == 0)=true:=by simp[hk0]
  refine aA [] ?_
  simp only[seval,kZs,cav,aL,aP,bH,hd,dD,bT,Option.bind_some,aW,eW,gok,bU,aI]
  refine next _ _ ?_ (.of_keep [30,0,2,5,6,7] (by exact rfl))
  simp[hk0]
 ·have hd:((k:Int) == 0)=false:=by simp[hk0]
  have m1:(b.length - (1+k))%18446744073709551616=b.length - (1+k):=Nat.mod_eq_of_lt (by omega)
  refine aA [] ?_
  simp only[seval,kZs,cav,aL,aP,bH,hd,dD,bT,Option.bind_some,aW,Bool.not_false,dQ,gok,bI,bV,eN,Tryz.underlying54,eL,Tryz.underlying30,eG,bA,bW,Tryz.underlying3,fF,Option.isSome_some,bU,aI,tN,m1,jM]
  refine next _ _ ?_ (.of_keep [30,0,2,5,6,7] (by exact rfl))
  rw[Bool.eq_iff_iff]
  simp
  omega
theorem aNi (f:eK) (h:f.2.length≤35184372088832):(fby f).length≤f.2.length+11:=by
 have hv:=jI (n:=f.2.length) (by omega)
 simp only[fby,List.length_cons,List.length_append]
 omega
theorem oV:∀ l:List eK,kK l≤35184372088832→(V.join l).length≤11*kK l
 | [],_=>by simp[V.join]
 | f::l,h=>by
  rw[qO] at h ⊢
  have h1:=aNi f (by omega)
  have h2:=oV l (by omega)
  rw[join_cons,List.length_append]
  omega
theorem aDQ (f:eK):(FA f).take 2=FA f:=rfl
theorem xC (l:List eK) (p:Perm) (hb:kK l≤1048576):ACalls Tryz.prog G0 50 [.sl l.length (Fs l) p] [] (fun r os=>os=[]∧r=.sl (V.join l).length (Bs (V.join l)) .no):=by
 have hlb:=tM l
 refine aQ Tryz.func50 rfl rfl Tryz.ntmps50 (rts:=#[54]) rfl Tryz.results50 (by simp) ?_
 simp only[seval,aZ]
 refine aC fun K hK=>aA [] ?_
 simp only[seval,kZs,cav,aI]
 and_intros<;>try first|exact⟨⟩|omega
 refine hK _ ?_
 clear hK K
 refine aC fun K hK=>aA [] ?_
 simp only[seval,kZs,cav,aI]
 and_intros<;>try first|exact⟨⟩|omega
 refine hK _ ?_
 clear hK K
 refine lH 3 rfl ?_
 refine aE [0,3] ?_
 simp only[seval,kZq]
 refine aC fun K1 hK1=>?_
 refine aC fun K hK=>aA [] ?_
 simp only[seval,kZs,bI,bV,eN,Tryz.underlying186,cav,aI]
 and_intros<;>try first|exact⟨⟩|omega
 refine hK _ ?_
 clear hK K
 refine aE [3,6,7,8] ?_
 simp only[seval,kZq]
 refine bK ?_
 refine bZ (fun i:Nat=>⟨17,[(3,.sl (V.join (l.take i)).length (Bs (V.join (l.take i))) .no),(6,.sl l.length (Fs l) p),(7,.val (.int .i64 (l.length:Int))),(8,.val (.int .i64 (i:Int)))],dd i⟩)
  (fun i=>i≤l.length) (fun i=>l.length - i) 0 (by omega) (.of_keep [3,6,7,8] rfl) ?_
 intro i hi
 refine aC fun K hK=>aA [] ?_
 simp only[seval,kZs,aL,aP,bH,jM,aI]
 and_intros<;>try first|exact⟨⟩|omega
 refine hK _ ?_
 clear hK K
 refine bJ ?_
 refine fB rfl rfl (fun h=>?_) (fun h=>?_)
 ·have hlt:i<l.length:=of_decide_eq_true h
  refine bC ?_
  simp only[aI]
  refine aE [3,6,7,8] ?_
  simp only[seval,kZq]
  refine bJ ?_
  refine bK ?_
  have hg:=aKa hlt (0,[])
  have hj1:V.join (l.take (i+1))=V.join (l.take i)++fby (l.getD i (0,[])):=by
   rw[aBk l i hlt,nF,join_cons,join_nil,List.append_nil]
  have hjl:=oV (l.take i) (by have:=oC l i;omega)
  have hbt:=oC l i
  have hmem:(l.getD i (0,[])).2.length+1≤kK l:=aFD (by rw[List.getD_eq_getElem?_getD,List.getElem?_eq_getElem hlt];exact List.getElem_mem hlt)
  generalize hf:l.getD i (0,[])=f at hg hj1 hmem
  have cP:=aNm (V.join (l.take i)) .no f (by omega) (by omega)
  have hfl:(Fs l).length=l.length*2:=qE l
  refine aC fun K hK=>aA [] ?_
  simp only[seval,kZs,dN,Tryz.underlying186,bD,hfl,Int.toNat_natCast,aY,apart,aO,Tryz.underlying124,dF,bS,iS,cav,bQ,bX,bB,spl,aI,oR,lU,List.length_drop,hg,wH,lM,List.drop_nil]
  refine⟨by omega,by omega,hK _ ?_⟩
  clear hK K
  refine aE [3,5,6,7,8] ?_
  simp only[seval,kZq]
  refine aA [] ?_
  simp only[seval,kZs,aY,oR,apart,aO,Tryz.underlying124,bD,lM,aDQ,aU,bF,aT,bA,aJ,bW,List.tail_cons,List.headD_cons,aH,yU]
  refine aV (by simp[aJ]) cP (by simp[aH,aJ]) ?_
  simp only[seval,kZs,aK]
  simp only[bL,aI]
  refine lT i ?_
  rw[lU,rN,← hj1]
  refine aE [3,6,7,8] ?_
  simp only[seval,kZq]
  have h6:IntKind.i64.wrap ((i+1:Nat):Int)=((i+1:Nat):Int):=fD (by omega)
  refine aA [] ?_
  simp only[seval,kZs,cav,aL,aP,bH,gO,h6,aI]
  exact⟨i+1,by omega,by omega,.of_keep [3,6,7,8] rfl⟩
 ·have he:i=l.length:=by have:=of_decide_eq_false h;omega
  subst he
  refine dR ?_
  simp only[aI,bL,if_true]
  refine hK1 _ ?_
  clear hK1 K1
  rw[List.take_length]
  refine aE [3] ?_
  simp only[seval,kZq]
  refine aC fun K hK=>aA [] ?_
  simp only[seval,kZs,aI]
  and_intros<;>try first|exact⟨⟩|omega
  refine hK _ ?_
  clear hK K
  refine aS ?_
  simp only[seval,qq,bR,cQ,bN,bO,dA,aB,aJ,bW]
structure CavV where
 third:Bool
 text:List UInt8
 party:Nat
 id:List UInt8
 vault:List UInt8
 deriving DecidableEq
structure TokV where
 key:Nat
 id:List UInt8
 cavs:List CavV
 bound:Bool
 tag:List UInt8
 deriving DecidableEq
def str (s:List UInt8):AV:=.val (.string ⟨s.toArray⟩)
def CA (c:CavV):List AV:=[.val (.bool c.third),str c.text,.val (.int .u64 (c.party:Int)),str c.id,str c.vault]
def CS (l:List CavV):List AV:=l.flatMap CA
theorem mD [Gv] (l:List CavV):(CS l).length=l.length*5:=by
 induction l with
 | nil=>rfl
 | cons c l ih=>rw[show CS (c::l)=CA c++CS l from rfl,List.length_append,ih];simp[CA];omega
theorem mL [Gv] (c:CavV):aM (CA c)=true:=rfl
theorem gZ [Gv] (l:List CavV):aM (CS l)=true:=by
 induction l with
 | nil=>rfl
 | cons c l ih=>rw[show CS (c::l)=CA c++CS l from rfl,dK,ih,mL];rfl
theorem aDO [Gv] {l:List CavV} {i:Nat} (h:i<l.length) (d:CavV):((CS l).drop (i*5)).take 5=CA (l.getD i d):=by
 induction l generalizing i with
 | nil=>simp at h
 | cons c l ih=>
  rw[show CS (c::l)=CA c++CS l from rfl]
  cases i with
  | zero=>rfl
  | succ i=>
   rw[show (i+1)*5=(CA c).length+i*5 by simp[CA];omega,← List.drop_drop,List.drop_left]
   simpa using ih (by simpa using h)
theorem uA [Gv] (c:CavV):(CA c).all dC=true:=rfl
def aGr (c:CavV):Bool:=if c.third then c.text == []&&decide (c.id.length≤1024)&&decide (c.vault.length≤1024) else decide (c.text.length≤512)&&(c.party == 0&&c.id == []&&c.vault == [])
def okT (t:TokV):Bool:=decide (t.id.length≤1024)&&decide (t.cavs.length≤64)&&t.cavs.all aGr
def TA (t:TokV) (p:Perm):List AV:=[.val (.int .u64 (t.key:Int)),str t.id,.sl t.cavs.length (CS t.cavs) p,.val (.bool t.bound)]++Bs t.tag
theorem aPM [Gv] (c:CavV) (hi:c.id.length≤9223372036854775807) (hv:c.vault.length≤9223372036854775807) (ht:c.text.length≤9223372036854775807):ACalls Tryz.prog G0 132 [.agg (CA c)] [] (fun r os=>os=[]∧r=.val (.bool (aGr c))):=by
 obtain⟨third,text,party,id,vault⟩:=c
 simp only[CA,aGr,str] at *
 refine aQ Tryz.func132 rfl rfl Tryz.ntmps132 (rts:=#[4]) rfl Tryz.results132 (by simp) ?_
 simp only[seval,aZ]
 refine aC fun K hK=>aA [] ?_
 simp only[seval,kZs,eF,bB,List.all_cons,dC,Value.oneCell',List.all_nil,fN,cav,aI]
 and_intros<;>try first|exact⟨⟩|omega
 refine hK _ ?_
 clear hK K
 refine aE [1] ?_
 simp only[seval,kZq]
 refine aC fun K1 hK1=>?_
 refine aC fun K hK=>aA [] ?_
 simp only[seval,kZs,aN,Tryz.underlying74,bD,ne_eq,aY,apart,aO,Tryz.underlying4,aI]
 and_intros<;>try first|exact⟨⟩|omega
 refine hK _ ?_
 clear hK K
 cases third with
 | true=>
  refine bG rfl ?_
  refine aE [1] ?_
  simp only[seval,kZq]
  refine aC fun K hK=>aA [] ?_
  have fin:∀ b:Bool,b=(text == []&&decide (id.length≤1024)&&decide (vault.length≤1024))→∀ s,awp Tryz.prog G0 .ret ⟨31,(2,.val (.bool b))::s,[.cells [.val (.bool true),.val (.string ⟨text.toArray⟩),.val (.int .u64 (party:Int)),.val (.string ⟨id.toArray⟩),.val (.string ⟨vault.toArray⟩)]]⟩ (aI K1 (V.Fin Tryz.prog [4] [ResultVar.tmp 2] fun r os=>os=[]∧r=.val (.bool (text == []&&decide (id.length≤1024)&&decide (vault.length≤1024))))):=by
   intro b hb s
   subst hb
   refine aS ?_
   exact⟨_,_,rfl,⟨rfl,trivial⟩,rfl,rfl⟩
  cases h1:(text == []) with
  | false=>
   simp only[seval,kZs,aN,Tryz.underlying74,bD,ne_eq,aY,apart,aO,Tryz.underlying9,cav,aL,List.getD_cons_succ,aP,gL,ByteArray.toList_mk,h1,dD,bT,Option.bind_some,aW,Bool.not_true,eW,gok,bU,aI]
   exact hK _ (fin false (by simp[h1]) _)
  | true=>
   cases h2:decide (id.length≤1024) with
   | false=>
    simp only[seval,kZs,Bool.true_and,aN,Tryz.underlying74,bD,ne_eq,aY,apart,aO,Tryz.underlying9,cav,aL,List.getD_cons_succ,aP,gL,ByteArray.toList_mk,h1,dD,bT,Option.bind_some,aW,dQ,gok,bI,bV,eN,bU,dJ,bH,aLQ,h2,Bool.not_true,eW,aI]
    exact hK _ (fin false (by simp[h1,h2]) _)
   | true=>
    simp only[seval,kZs,Bool.true_and,aN,Tryz.underlying74,bD,ne_eq,aY,apart,aO,Tryz.underlying9,cav,aL,List.getD_cons_succ,aP,gL,ByteArray.toList_mk,h1,dD,bT,Option.bind_some,aW,dQ,gok,bI,bV,eN,bU,dJ,bH,aLQ,h2,aI]
    exact hK _ (fin (decide (vault.length≤1024)) (by simp[h1,h2]) _)
 | false=>
  refine aR rfl (bC (hK1 _ ?_))
  clear hK1 K1
  refine aE [1] ?_
  simp only[seval,kZq]
  refine aC fun K hK=>aA [] ?_
  have fin:∀ b:Bool,b=(decide (text.length≤512)&&(party == 0&&id == []&&vault == []))→∀ s,awp Tryz.prog G0 .ret ⟨31,(2,.val (.bool b))::s,[.cells [.val (.bool false),.val (.string ⟨text.toArray⟩),.val (.int .u64 (party:Int)),.val (.string ⟨id.toArray⟩),.val (.string ⟨vault.toArray⟩)]]⟩ (V.Fin Tryz.prog [4] [ResultVar.tmp 2] fun r os=>os=[]∧r=.val (.bool (decide (text.length≤512)&&(party == 0&&id == []&&vault == [])))):=by
   intro b hb s
   subst hb
   refine aS ?_
   simp only[qq,bR,cQ,bN,bO,dA,aB,aH]
  cases h1:decide (text.length≤512) with
  | false=>
   simp only[seval,kZs,aN,Tryz.underlying74,bD,ne_eq,aY,apart,aO,Tryz.underlying9,bI,bV,eN,cav,aL,List.getD_cons_succ,dJ,aP,bH,aLQ,h1,dD,bT,Option.bind_some,aW,Bool.not_true,eW,gok,bU,aI]
   exact hK _ (fin false (by simp[h1]) _)
  | true=>
   simp only[seval,kZs,Bool.true_and,aN,Tryz.underlying74,bD,ne_eq,aY,apart,aO,Tryz.underlying9,bI,bV,eN,cav,aL,List.getD_cons_succ,dJ,aP,bH,aLQ,h1,dD,bT,Option.bind_some,aW,dQ,gok,List.take_nil,fA,bS,kO,dO,eM,spl,bB,bU,aI,List.all_cons,dC,Value.oneCell',List.all_nil,aDW,tC,aGG,aDJ]
   refine⟨?_,hK _ (fin _ ?_ _)⟩
   ·exact .inl (by simp[aFL,pK,Tryz.underlying4,Tryz.underlying9,Tryz.underlying30])
   ·have hpz:((party:Int) == 0)=(party == 0):=by
     rw[Bool.eq_iff_iff]
     simp
    simp[h1,iN,vQ,hpz,Bool.and_assoc]
theorem aJI [Gv] (c:CavV) (hi:c.id.length≤9223372036854775807) (hv:c.vault.length≤9223372036854775807) (ht:c.text.length≤9223372036854775807):ACalls Tryz.prog G0 131 [.agg (CA c)] [] (fun r os=>os=[]∧r=.val (.bool (!aGr c))):=by
 have cC:=aPM c hi hv ht
 have ho:=uA c
 have hl:(CA c).length=5:=rfl
 have hn:=mL c
 generalize CA c=cs at *
 have ht5:cs.take 5=cs:=List.take_of_length_le (by omega)
 refine aQ Tryz.func131 rfl rfl Tryz.ntmps131 (rts:=#[4]) rfl Tryz.results131 (by simp) ?_
 simp only[seval,aZ]
 refine aC fun K hK=>aA [] ?_
 simp only[seval,kZs,eF,bB,ho,fN,cav,aI]
 and_intros<;>try first|exact⟨⟩|omega
 refine hK _ ?_
 clear hK K
 refine aE [1] ?_
 simp only[seval,kZq]
 refine aC fun K hK=>aA [] ?_
 simp only[seval,kZs,aY,apart,aO,Tryz.underlying74,bD,hl,ht5,aU,bF,aT,bA,bW,List.headD_cons,aH]
 refine aV (by simp[aH,hn]) cC rfl ?_
 simp only[seval,kZs,aK,aun,aI]
 refine hK _ ?_
 clear hK K
 refine aE [2] ?_
 simp only[seval,kZq]
 refine aS ?_
 simp only[qq,bR,cQ,bN,bO,dA,aB,aH]
theorem aNt [Gv] (l:List CavV) (p:Perm) (g:FuncId) (q:CavV→Bool) (hl:l.length≤1000000) (hg:∀ c∈l,ACalls Tryz.prog G0 g [.agg (CA c)] [] (fun r os=>os=[]∧r=.val (.bool (q c)))) :
  ACalls Tryz.prog G0 199 [.sl l.length (CS l) p,.val (.func (.func g) #[] #[])] [] (fun r os=>os=[]∧∃ z:Int,r=.val (.int .i64 z)∧decide (0≤z)=l.any q):=by
 have hCl:=mD l
 refine aQ Tryz.func199 rfl rfl Tryz.ntmps199 (rts:=#[3]) rfl Tryz.results199 (by simp) ?_
 simp only[seval,aZ]
 refine aC fun K hK=>aA [] ?_
 simp only[seval,kZs,cav,aI]
 and_intros<;>try first|exact⟨⟩|omega
 refine hK _ ?_
 clear hK K
 refine aE [0,1] ?_
 simp only[seval,kZq]
 refine aC fun K1 hK1=>?_
 refine aC fun K hK=>aA [] ?_
 simp only[seval,kZs,bI,bV,eN,Tryz.underlying65,cav,aI]
 and_intros<;>try first|exact⟨⟩|omega
 refine hK _ ?_
 clear hK K
 refine aE [0,1,7,8] ?_
 simp only[seval,kZq]
 refine bK ?_
 refine bZ (fun i:Nat=>⟨19,[(0,.sl l.length (CS l) p),(1,.val (.func (.func g) #[] #[])),(7,.val (.int .i64 (l.length:Int))),(8,.val (.int .i64 (i:Int)))],[]⟩)
  (fun i=>i≤l.length∧(l.take i).any q=false) (fun i=>l.length - i) 0 (by simp) (.of_keep [0,1,7,8] rfl) ?_
 rintro i ⟨hi,hno⟩
 refine aC fun K hK=>aA [] ?_
 simp only[seval,kZs,aL,aP,bH,jM,aI]
 and_intros<;>try first|exact⟨⟩|omega
 refine hK _ ?_
 clear hK K
 refine bJ ?_
 refine fB rfl rfl (fun hq=>?_) (fun hq=>?_)
 ·have hlt:i<l.length:=of_decide_eq_true hq
  refine bC ?_
  simp only[aI]
  refine aE [0,1,7,8] ?_
  simp only[seval,kZq]
  refine bJ ?_
  refine bK ?_
  refine aC fun K hK=>aA [] ?_
  simp only[seval,kZs,aI]
  and_intros<;>try first|exact⟨⟩|omega
  refine hK _ ?_
  clear hK K
  refine aE [0,1,5,7,8] ?_
  simp only[seval,kZq]
  have hget:=aDO hlt (l[i])
  rw[List.getD_eq_getElem?_getD,List.getElem?_eq_getElem hlt] at hget
  simp only[Option.getD_some] at hget
  have hg1:=hg l[i] (List.getElem_mem hlt)
  have htake:(l.take (i+1)).any q=((l.take i).any q || q l[i]):=by
   rw[List.take_add_one,List.getElem?_eq_getElem hlt,List.any_append]
   simp
  have hany:q l[i]=true→l.any q=true:=fun h=>List.any_eq_true.2 ⟨_,List.getElem_mem hlt,h⟩
  generalize l[i]=c at *
  refine aC fun K hK=>aA [] ?_
  simp only[seval,kZs,dN,Tryz.underlying65,bD,hCl,Int.toNat_natCast,aY,apart,aO,Tryz.underlying74,aU,bF,aT,bA,bW,List.headD_cons,List.length_drop,hget,aH]
  refine⟨⟨by omega,by omega⟩,by omega,?_⟩
  refine aV (mL _) hg1 rfl ?_
  simp only[aK,aG,aI]
  refine hK _ ?_
  clear hK K
  cases hqc:q c with
  | true=>
   refine bG (by simp only[aB,lk];simp[hqc]) ?_
   refine aE [5] ?_
   simp only[seval,kZq]
   refine aC fun K hK=>aA [] ?_
   simp only[seval,kZs,aI]
   and_intros<;>try first|exact⟨⟩|omega
   refine hK _ ?_
   clear hK K
   refine aE [4] ?_
   simp only[seval,kZq]
   refine aS ?_
   exact⟨_,_,rfl,⟨rfl,trivial⟩,rfl,(i:Int),rfl,by rw[hany hqc];simp⟩
  | false=>
   refine aR (by simp only[aB,lk];simp[hqc]) (bC ?_)
   simp only[bL,aI]
   refine aE [0,1,7,8] ?_
   simp only[seval,kZq]
   have h6:IntKind.i64.wrap ((i+1:Nat):Int)=((i+1:Nat):Int):=fD (by omega)
   refine aA [] ?_
   simp only[seval,kZs,cav,aL,aP,bH,gO,h6,aI]
   exact⟨i+1,⟨by omega,by rw[htake,hno,hqc];rfl⟩,by omega,.of_keep [0,1,7,8] rfl⟩
 ·have he:i=l.length:=by have:=of_decide_eq_false hq;omega
  subst he
  refine dR ?_
  simp only[aI,bL,if_true]
  refine hK1 _ ?_
  clear hK1 K1
  rw[List.take_length] at hno
  refine aE [0] ?_
  simp only[seval,kZq]
  refine aC fun K hK=>aA [] ?_
  simp only[seval,kZs,cav,aI]
  and_intros<;>try first|exact⟨⟩|omega
  refine hK _ ?_
  clear hK K
  refine aE [4] ?_
  simp only[seval,kZq]
  refine aS ?_
  exact⟨_,_,rfl,⟨rfl,trivial⟩,rfl,-1,rfl,by rw[hno];rfl⟩
theorem aNs [Gv] (l:List CavV) (p:Perm) (g:FuncId) (q:CavV→Bool) (hl:l.length≤1000000) (hg:∀ c∈l,ACalls Tryz.prog G0 g [.agg (CA c)] [] (fun r os=>os=[]∧r=.val (.bool (q c)))) :
  ACalls Tryz.prog G0 130 [.sl l.length (CS l) p,.val (.func (.func g) #[] #[])] [] (fun r os=>os=[]∧r=.val (.bool (l.any q))):=by
 have cI:=aNt l (bW p) g q hl hg
 refine aQ Tryz.func130 rfl rfl Tryz.ntmps130 (rts:=#[4]) rfl Tryz.results130 (by simp) ?_
 simp only[seval,aZ]
 refine aC fun K hK=>aA [] ?_
 simp only[seval,kZs,cav,aI]
 and_intros<;>try first|exact⟨⟩|omega
 refine hK _ ?_
 clear hK K
 refine aC fun K hK=>aA [] ?_
 simp only[seval,kZs,aU,bF,aT,bA,bW,aH]
 refine aNT (gZ _) cI ⟨.val (.int .i64 (if l.any q then 0 else -1)),rfl,_,rfl,by cases l.any q<;>rfl⟩ ?_
 rintro r os ⟨rfl,z,rfl,hz⟩
 refine⟨rfl,rfl,?_⟩
 simp only[seval,kZs,aK,cav,aL,aP,bH,hz,aI]
 refine hK _ ?_
 clear hK K
 refine aE [4] ?_
 simp only[seval,kZq]
 refine aS ?_
 simp only[qq,bR,cQ,bN,bO,dA,aB,aH]
theorem eP [Gv] (t:TokV) (p:Perm) (ht:t.tag.length=32):(TA t p).length=36:=by simp[TA,aX,ht]
theorem gP [Gv] (t:TokV) (p:Perm):(TA t p).all dC=true:=by
 simp only[TA,List.all_append,List.all_cons,List.all_nil,str,dC,Value.oneCell',Bool.and_true,Bool.true_and]
 rw[List.all_eq_true]
 intro x hx
 obtain⟨z,_,rfl⟩:=List.mem_map.1 hx
 rfl
theorem fQ [Gv] (t:TokV) (p:Perm) (hp:(match p with | .tok _=>false|_=>true)=true):aM (TA t p)=true:=by
 cases p<;>simp_all [TA,dK,aM,aH,str,gZ,aJ]
theorem sZ [Gv] (t:TokV) (p:Perm):(TA t p).getD 0 .top=.val (.int .u64 (t.key:Int))∧(TA t p).getD 1 .top=str t.id∧(TA t p).getD 2 .top=.sl t.cavs.length (CS t.cavs) p∧(TA t p).getD 3 .top=.val (.bool t.bound):=⟨rfl,rfl,rfl,rfl⟩
theorem aGR [Gv] (t:TokV) (p:Perm):(TA t p).drop 4=Bs t.tag:=rfl
def small (t:TokV):Prop:=t.id.length≤200000∧t.cavs.length≤1000000∧(∀ c∈t.cavs,c.text.length≤200000∧c.id.length≤200000∧c.vault.length≤200000)∧t.tag.length=32∧t.key<18446744073709551616∧∀ c∈t.cavs,c.party<18446744073709551616
theorem rA [Gv] (t:TokV) (p:Perm) (hs:small t) (hp:(match p with | .tok _=>false|_=>true)=true) :
  ACalls Tryz.prog G0 64 [.agg (TA t p)] [] (fun r os=>os=[]∧r=.val (.int .i64 (if okT t then 0 else 1))):=by
 have hoc:=gP t p
 have hlen:=eP t p hs.2.2.2.1
 obtain⟨g0,g1,g2,g3⟩:=sZ t p
 have cH:=aNs t.cavs (bW p) 131 (fun c=>!aGr c) hs.2.1 (fun c hc=>aJI c (by have:=hs.2.2.1 c hc;omega) (by have:=hs.2.2.1 c hc;omega) (by have:=hs.2.2.1 c hc;omega))
 generalize hT:TA t p=T at *
 simp only[str] at g1
 refine aQ Tryz.func64 rfl rfl Tryz.ntmps64 (rts:=#[37]) rfl Tryz.results64 (by simp) ?_
 simp only[seval,aZ]
 refine aC fun K hK=>aA [] ?_
 simp only[seval,kZs,eF,bB,hoc,fN,cav,aI]
 and_intros<;>try first|exact⟨⟩|omega
 refine hK _ ?_
 clear hK K
 refine aE [1] ?_
 simp only[seval,kZq]
 refine aC fun K1 hK1=>?_
 refine aC fun K hK=>?_
 have next:∀ (b:Bool) (s:St),b = !okT t→gE G0 s ⟨18,[(17,.val (.bool b)),(1,.ptr 0 0)],[.cells T]⟩→K s:=by
  intro b s hb hw
  refine hK s (eX hw ?_)
  clear hw hK K
  cases ho:okT t with
  | true=>
   rw[ho] at hb
   subst hb
   refine aR rfl (bC (hK1 _ ?_))
   clear hK1 K1
   refine aC fun K hK=>aA [] ?_
   simp only[seval,kZs,Bool.not_true,cav,aI]
   and_intros<;>try first|exact⟨⟩|omega
   refine hK _ ?_
   clear hK K
   refine aE [2] ?_
   simp only[seval,kZq]
   refine aS ?_
   exact⟨_,_,rfl,⟨rfl,trivial⟩,rfl,by rw[ho];rfl⟩
  | false=>
   rw[ho] at hb
   subst hb
   refine bG rfl ?_
   refine aE [1] ?_
   simp only[seval,kZq]
   refine aC fun K hK=>aA [] ?_
   simp only[seval,kZs,cav,aI]
   and_intros<;>try first|exact⟨⟩|omega
   refine hK _ ?_
   clear hK K
   refine aE [2] ?_
   simp only[seval,kZq]
   refine aS ?_
   exact⟨_,_,rfl,⟨rfl,trivial⟩,rfl,rfl⟩
 refine aA [] ?_
 cases h1:decide (1024<t.id.length) with
 | true=>
  simp only[seval,kZs,aN,Tryz.underlying67,bD,ne_eq,aY,apart,aO,Tryz.underlying9,bI,bV,eN,cav,aL,hlen,g1,dJ,aP,bH,yM,h1,dD,bT,Option.bind_some,aW,eW,gok,bU,aI]
  refine next true _ ?_ (.of_keep [17,1] (by exact rfl))
  have:=of_decide_eq_true h1
  simp[okT]
  omega
 | false=>
  cases h2:decide (64<t.cavs.length) with
  | true=>
   simp only[seval,kZs,aN,Tryz.underlying67,bD,ne_eq,aY,apart,aO,Tryz.underlying9,bI,bV,eN,cav,aL,hlen,g1,dJ,aP,bH,yM,h1,dD,bT,Option.bind_some,aW,Bool.not_false,dQ,gok,Tryz.underlying65,bU,g2,h2,eW,aI]
   refine next true _ ?_ (.of_keep [17,1] (by exact rfl))
   have:=of_decide_eq_true h2
   have h3:decide (t.cavs.length≤64)=false:=by simp;omega
   simp[okT,h3]
  | false=>
   simp only[seval,kZs,aN,Tryz.underlying67,bD,ne_eq,aY,apart,aO,Tryz.underlying9,bI,bV,eN,cav,aL,hlen,g1,dJ,aP,bH,yM,h1,dD,bT,Option.bind_some,aW,Bool.not_false,dQ,gok,Tryz.underlying65,bU,g2,h2,aU,bF,aT,bA,bW,List.headD_cons,aH]
   refine aV (gZ _) cH rfl ?_
   simp only[seval,kZs,aK,bU,cav,aI]
   have h3:okT t=t.cavs.all aGr:=by
    have h4:=of_decide_eq_false h1
    have h5:=of_decide_eq_false h2
    have h6:decide (t.id.length≤1024)=true:=by simp;omega
    have h7:decide (t.cavs.length≤64)=true:=by simp;omega
    simp[okT,h6,h7]
   refine next _ _ ?_ (.of_keep [17,1] (by exact rfl))
   rw[h3,List.all_eq_not_any_not,Bool.not_not]
theorem aLc [Gv] (l:List UInt8) (p:Perm) (f:eK) (hl:l.length≤35184372088832) (hf:f.2.length≤35184372088832):ACalls Tryz.prog G0 51 [.sl l.length (Bs l) p,.agg (FA f)] [] (fun r os=>os=[.tok 1 (l++fby f).length]∧r=.sl (l++fby f).length (Bs (l++fby f)) (.tok 0)):=by
 obtain⟨k,v⟩:=f
 simp only at hf
 have hv10:=jI (n:=v.length) (by omega)
 have lt:l.take l.length=l:=List.take_of_length_le (Nat.le_refl _)
 refine gQ Tryz.func51 rfl rfl Tryz.ntmps51 (rts:=#[54]) rfl Tryz.results51 (by simp) ?_
 simp only[seval,aZ]
 refine aC fun K hK=>aA [] ?_
 simp only[seval,kZs,FA,B,eF,bB,List.all_cons,dC,Value.oneCell',List.all_nil,fN,cav,aI]
 and_intros<;>try first|exact⟨⟩|omega
 refine hK _ ?_
 clear hK K
 refine iH 3 0 [AV.val (Value.int IntKind.u8 (k.toNat:Int)),AV.val (Value.string { data:=v.toArray })] rfl rfl (by simp) rfl ?_
 refine aE [0,3] ?_
 simp only[aD,aB,Nat.reduceEqDiff,if_true,if_false]
 refine aC fun K hK=>?_
 refine dW [12] (by kernel_rfl) (by kernel_rfl) ?_
 simp only[seval,kZs,bI,List.contains_cons,bV,eN,Tryz.underlying54,eY,iR,Option.map_none,Option.map_some,bD,aX,Nat.mul_one,eJ,dH,ne_eq,eA,eS,iC,aN,Tryz.underlying124,aY,beq_self_eq_true,apart,aO,Tryz.underlying5,dV,bS,jJ,List.replicate_succ,List.replicate_zero,dO,eM,spl,bB,dL,fP,lX,gC,eQ,aI,List.all_cons,dC,Value.oneCell',List.all_nil,List.drop_nil,gV,Int.le_refl,or_true,Int.sub_zero,Int.toNat_natCast,Int.toNat_zero,lt]
 refine⟨by omega,⟨by omega,by omega⟩,hK _ ?_⟩
 clear hK K
 refine aE [0,3] ?_
 simp only[aD,aB,Nat.reduceEqDiff,if_true,if_false]
 obtain⟨L,hL⟩:∃ L,L=l++[k]:=⟨_,rfl⟩
 have hLl:l.length+1=L.length:=by rw[hL,List.length_append];rfl
 have hLb:Bs l++[AV.val (Value.int IntKind.u8 (k.toNat:Int))]=Bs L:=by rw[hL,iD];rfl
 rw[hLl,hLb]
 have hvn:v.length%18446744073709551616=v.length:=Nat.mod_eq_of_lt (by omega)
 have cP:=fun q=>aGK L q v.length (by omega) (by omega)
 have iL:l++fby (k,v)=(L++vb v.length)++v:=by rw[hL];simp[fby]
 rw[iL]
 generalize hQ:L++vb v.length=Q at cP ⊢
 have hQl:Q.length≤35184372088832+11:=by rw[← hQ,List.length_append];omega
 refine aC fun K hK=>?_
 refine dW [1000020,17,22] (by kernel_rfl) (by kernel_rfl) ?_
 simp only[seval,kZs,aN,Tryz.underlying124,bD,ne_eq,aY,List.contains_cons,beq_self_eq_true,Bool.false_or,apart,aO,Tryz.underlying9,bI,bV,eN,eL,Tryz.underlying30,eG,bA,bW,Tryz.underlying3,fF,Option.isSome_some,aU,bF,aT,aJ,List.tail_cons,List.headD_cons,dJ,tN,hvn]
 refine oO (by simp[fH,iV,aH,aM,aJ,bW]) (cP .no) (by simp[aJ]) ?_
 simp only[seval,kZs,dE,aN,Tryz.underlying124,bD,ne_eq,aY,List.contains_cons,beq_self_eq_true,Bool.false_or,apart,aO,Tryz.underlying9,bI,fP,Tryz.underlying54,lX,bS,gC,eQ,Nat.mul_one,aX,aI,dJ,eR,← iD]
 refine⟨⟨by omega,by omega⟩,hK _ ?_⟩
 clear hK K
 refine aE [4] ?_
 simp only[aD,aB,Nat.reduceEqDiff,if_true,if_false]
 rw[show Q.length+v.length=(Q++v).length by simp]
 refine aS ?_
 exact oM 4 2 1 rfl rfl (aJ _) ⟨rfl,rfl⟩
def zA (c:CavV):Prop:=c.text.length≤200000∧c.id.length≤200000∧c.vault.length≤200000∧c.party<18446744073709551616
def jo (i n:Nat):List AObj:=match i with
 | 0=>[]
 | i+1=>dd (2*i+1)++[.tok 1 n]
def jp (i:Nat):Perm:=match i with
 | 0=>.full
 | i+1=>.tok (2*i+1)
theorem aNv [Gv] (i n:Nat) (b:List UInt8) (x y z:AV):gE G0 ⟨17,[(3,.sl b.length (Bs b) (jp i)),(6,x),(7,y),(8,z)],jo i n⟩ ⟨17,[(3,.sl b.length (Bs b) .no),(6,x),(7,y),(8,z)],dd (2*i)⟩:=by
 cases i with
 | zero=>exact .trans (.noperm 3 _ _ _ rfl) (.of_keep [3,6,7,8] (by exact rfl))
 | succ i=>
  refine .trans (.noperm 3 _ _ _ rfl) (.trans (.dead (2*i+1)) ?_)
  rw[show (jo (i+1) n).set (2*i+1) .dead=dd (2*(i+1)) by rw[show jo (i+1) n=dd (2*i+1)++[.tok 1 n] from rfl,lU,rN];rfl]
  exact .of_keep [3,6,7,8] rfl
theorem aJS [Gv] (l:List eK) (p:Perm) (hb:kK l≤1048576) (h0:l≠[]):ACalls Tryz.prog G0 50 [.sl l.length (Fs l) p] [] (fun r os=>os=[.tok 1 (V.join l).length]∧r=.sl (V.join l).length (Bs (V.join l)) (.tok 0)):=by
 have hlb:=tM l
 refine gQ Tryz.func50 rfl rfl Tryz.ntmps50 (rts:=#[54]) rfl Tryz.results50 (by simp) ?_
 simp only[seval,aZ]
 refine aC fun K hK=>aA [] ?_
 simp only[seval,kZs,cav,aI]
 and_intros<;>try first|exact⟨⟩|omega
 refine hK _ ?_
 clear hK K
 refine aC fun K hK=>aA [] ?_
 simp only[seval,kZs,cav,aI]
 and_intros<;>try first|exact⟨⟩|omega
 refine hK _ ?_
 clear hK K
 refine aE [0,3] ?_
 simp only[aD,aB,Nat.reduceEqDiff,if_true,if_false]
 refine aC fun K1 hK1=>?_
 refine aC fun K hK=>aA [] ?_
 simp only[seval,kZs,bI,bV,eN,Tryz.underlying186,cav,aI]
 and_intros<;>try first|exact⟨⟩|omega
 refine hK _ ?_
 clear hK K
 refine aE [3,6,7,8] ?_
 simp only[aD,aB,Nat.reduceEqDiff,if_true,if_false]
 refine bK ?_
 refine bZ (fun i:Nat=>⟨17,[(3,.sl (V.join (l.take i)).length (Bs (V.join (l.take i))) (jp i)),(6,.sl l.length (Fs l) p),(7,.val (.int .i64 (l.length:Int))),(8,.val (.int .i64 (i:Int)))],jo i (V.join (l.take i)).length⟩)
  (fun i=>i≤l.length) (fun i=>l.length - i) 0 (by omega) (.of_keep [3,6,7,8] rfl) ?_
 intro i hi
 refine aC fun K hK=>aA [] ?_
 simp only[seval,kZs,aL,aP,bH,jM,aI]
 and_intros<;>try first|exact⟨⟩|omega
 refine hK _ ?_
 clear hK K
 refine bJ ?_
 refine fB rfl rfl (fun h=>?_) (fun h=>?_)
 ·have hlt:i<l.length:=of_decide_eq_true h
  refine bC ?_
  simp only[aI]
  refine aE [3,6,7,8] ?_
  simp only[aD,aB,Nat.reduceEqDiff,if_true,if_false]
  refine eX (aNv i _ _ _ _ _) ?_
  refine bJ ?_
  refine bK ?_
  have hg:=aKa hlt (0,[])
  have hj1:V.join (l.take (i+1))=V.join (l.take i)++fby (l.getD i (0,[])):=by
   rw[aBk l i hlt,nF,join_cons,join_nil,List.append_nil]
  have hjl:=oV (l.take i) (by have:=oC l i;omega)
  have hbt:=oC l i
  have hmem:(l.getD i (0,[])).2.length+1≤kK l:=aFD (by rw[List.getD_eq_getElem?_getD,List.getElem?_eq_getElem hlt];exact List.getElem_mem hlt)
  generalize hf:l.getD i (0,[])=f at hg hj1 hmem
  have cP:=aLc (V.join (l.take i)) .no f (by omega) (by omega)
  have hfl:(Fs l).length=l.length*2:=qE l
  refine aC fun K hK=>aA [] ?_
  simp only[seval,kZs,dN,Tryz.underlying186,bD,hfl,Int.toNat_natCast,aY,apart,aO,Tryz.underlying124,dF,bS,iS,cav,bQ,bX,bB,spl,aI,oR,lU,List.length_drop,hg,wH,lM,List.drop_nil]
  refine⟨by omega,by omega,hK _ ?_⟩
  clear hK K
  refine aE [3,5,6,7,8] ?_
  simp only[aD,aB,Nat.reduceEqDiff,if_true,if_false]
  refine aA [1000014] ?_
  simp only[seval,kZs,aY,List.contains_cons,oR,apart,aO,Tryz.underlying124,bD,lM,aDQ,aU,beq_self_eq_true,bF,aT,bA,aJ,bW,List.tail_cons,List.headD_cons]
  refine oO (by simp[fH,iV,aH,aM,aJ,bW,yU]) cP (aJ _) ?_
  simp only[seval,kZs,dE]
  simp only[bL,aI]
  refine lT (2*i) ?_
  have hset:(dd (2*i)++[AObj.cells (FA f)]++[AObj.tok 1 (V.join (l.take i)++fby f).length]).set (2*i) .dead=dd (2*i+1)++[AObj.tok 1 (V.join (l.take i)++fby f).length]:=by
   rw[List.set_append_left _ _ (by simp[iS]),lU,rN]
  have hlen1:(dd (2*i)++[AObj.cells (FA f)]).length=2*i+1:=by simp[iS]
  rw[hset,hlen1,← hj1]
  refine aE [3,6,7,8] ?_
  simp only[aD,aB,Nat.reduceEqDiff,if_true,if_false]
  have h6:IntKind.i64.wrap ((i+1:Nat):Int)=((i+1:Nat):Int):=fD (by omega)
  refine aA [] ?_
  simp only[seval,kZs,cav,aL,aP,bH,gO,h6,aI]
  exact⟨i+1,by omega,by omega,.of_keep [3,6,7,8] rfl⟩
 ·have he:i=l.length:=by have:=of_decide_eq_false h;omega
  subst he
  refine dR ?_
  simp only[aI,bL,if_true]
  refine hK1 _ ?_
  clear hK1 K1
  rw[List.take_length]
  obtain⟨m,hm⟩:∃ m,l.length=m+1:=⟨l.length - 1,by have:=List.length_pos_iff.2 h0;omega⟩
  rw[hm,show jo (m+1) (V.join l).length=dd (2*m+1)++[.tok 1 (V.join l).length] from rfl,show jp (m+1)=.tok (2*m+1) from rfl]
  refine aE [3] ?_
  simp only[aD,aB,Nat.reduceEqDiff,if_true,if_false]
  refine aC fun K hK=>aA [] ?_
  simp only[seval,kZs,aI]
  and_intros<;>try first|exact⟨⟩|omega
  refine hK _ ?_
  clear hK K
  refine aE [2] ?_
  simp only[aD,aB,Nat.reduceEqDiff,if_true,if_false]
  refine aS ?_
  exact oM 2 (2*m+1) 1 rfl (oR _ _) (aJ _) ⟨rfl,rfl⟩
def kU (c:CavV):List UInt8:=if c.third then V.join [(4,vb c.party),(5,c.id),(6,c.vault)] else V.join [(3,c.text)]
def oS (t:TokV):List UInt8:=V.join [(1,vb t.key),(2,t.id)]++t.cavs.flatMap kU++V.join [(7,[if t.bound then 1 else 0]),(8,t.tag)]
theorem aBX [Gv] (n:Nat) (hn:n<18446744073709551616):ACalls Tryz.prog G0 105 [.val (.int .u64 (n:Int))] [] (fun r os=>os=[]∧r=.val (.string ⟨(vb n).toArray⟩)):=by
 have cP:=aOc [] .full n hn (by simp)
 rw[List.nil_append] at cP
 refine aQ Tryz.func105 rfl rfl Tryz.ntmps105 (rts:=#[9]) rfl Tryz.results105 (by simp) ?_
 simp only[seval,aZ]
 refine aC fun K hK=>aA [] ?_
 simp only[seval,kZs,cav,aI]
 and_intros<;>try first|exact⟨⟩|omega
 refine hK _ ?_
 clear hK K
 refine aC fun K hK=>aA [] ?_
 simp only[seval,kZs,aU,cav,bF,aT,bA,aM,bW,aH]
 refine aV (by simp[aJ,aM,aH]) (cP) (by simp[aH,aM,aJ,flat]) ?_
 simp only[seval,kZs,aK,eL,Tryz.underlying9,eG,bA,aJ,bW,fF,Tryz.underlying54,Tryz.underlying5,aX,jG,kJ,aI]
 refine hK _ ?_
 clear hK K
 refine aE [2] ?_
 simp only[aD,aB,Nat.reduceEqDiff,if_true,if_false]
 refine aS ?_
 simp only[qq,bR,cQ,bN,bO,dA,aB,aH]
theorem aIV [Gv] (c:CavV) (hs:zA c):ACalls Tryz.prog G0 106 [.agg (CA c)] [] (fun r os=>os=[]∧r=.sl (kU c).length (Bs (kU c)) .no):=by
 obtain⟨third,text,party,id,vault⟩:=c
 obtain⟨ht,hi,hv,hp⟩:=hs
 simp only[CA,str] at *
 have hv10:=jI (n:=party) hp
 have cN:=aBX party hp
 have cJ1:=xC [(3,text)] .full (by simp[kK];omega)
 have cJ2:=xC [(4,vb party),(5,id),(6,vault)] .full (by simp[kK];omega)
 have hE:kU ⟨third,text,party,id,vault⟩=if third then V.join [(4,vb party),(5,id),(6,vault)] else V.join [(3,text)]:=rfl
 rw[hE]
 clear hE
 generalize V.join [(3,text)]=J1 at *
 generalize V.join [(4,vb party),(5,id),(6,vault)]=J2 at *
 generalize vb party=vp at *
 simp only[seval,Fs,FA,List.flatMap_cons,List.flatMap_nil,List.append_nil,List.cons_append,List.nil_append,B,Int.cast_ofNat_Int] at cJ1 cJ2
 refine aQ Tryz.func106 rfl rfl Tryz.ntmps106 (rts:=#[54]) rfl Tryz.results106 (by simp) ?_
 simp only[seval,aZ]
 refine aC fun K hK=>aA [] ?_
 simp only[seval,kZs,eF,bB,List.all_cons,dC,Value.oneCell',List.all_nil,fN,cav,aI]
 and_intros<;>try first|exact⟨⟩|omega
 refine hK _ ?_
 clear hK K
 refine aE [1] ?_
 simp only[aD,aB,Nat.reduceEqDiff,if_true,if_false]
 refine aC fun K1 hK1=>?_
 refine aC fun K hK=>aA [] ?_
 simp only[seval,kZs,aN,Tryz.underlying74,bD,ne_eq,aY,apart,aO,Tryz.underlying4,aun,aI]
 and_intros<;>try first|exact⟨⟩|omega
 refine hK _ ?_
 clear hK K
 cases third with
 | false=>
  refine bG rfl ?_
  refine aE [1] ?_
  simp only[aD,aB,Nat.reduceEqDiff,if_true,if_false]
  refine aC fun K hK=>aA [] ?_
  simp only[seval,kZs,aN,Tryz.underlying74,bD,ne_eq,aY,apart,aO,Tryz.underlying9,fA,bS,Tryz.underlying124,kO,cav,dO,eM,spl,bB,List.all_cons,dC,Value.oneCell',List.all_nil,dV,Tryz.underlying186,qC,Nat.zero_mul,dL,aU,bF,aT,bA,dK,bW,Bool.true_and,aM,aH,List.getD_cons_succ,List.drop_nil]
  refine aV (by simp[aJ,aM,aH]) (cJ1) (by simp[aH,aM,aJ,flat]) ?_
  simp only[seval,kZs,aK,aI]
  refine hK _ ?_
  clear hK K
  refine aE [2] ?_
  simp only[aD,aB,Nat.reduceEqDiff,if_true,if_false]
  refine aS ?_
  simp only[qq,aI,bR,cQ,bN,bO,dA,aB,aJ,bW]
 | true=>
  refine aR rfl (bC (hK1 _ ?_))
  clear hK1 K1
  refine aE [1] ?_
  simp only[aD,aB,Nat.reduceEqDiff,if_true,if_false]
  refine aC fun K hK=>?_
  refine dW [] (by kernel_rfl) (by kernel_rfl) ?_
  simp only[seval,kZs,aN,Tryz.underlying74,bD,ne_eq,aY,apart,aO,Tryz.underlying30,aU,bF,aT,bA,bW,List.headD_cons,List.getD_cons_succ,aH]
  refine aV (by simp[aJ,aM,aH]) (cN) (by simp[aH,aM,aJ,flat]) ?_
  simp only[seval,kZs,aK,fA,bS,Tryz.underlying124,kO,cav,dO,eM,spl,bB,List.drop_nil,List.all_cons,dC,Value.oneCell',List.all_nil,aN,Tryz.underlying74,bD,ne_eq,aY,apart,aO,Tryz.underlying9,dV,Tryz.underlying186,aQE,Nat.zero_mul,dL,aU,bF,aT,bA,dK,bW,Bool.true_and,aM,aH,List.getD_cons_succ]
  refine aV (by simp[aJ,aM,aH]) (cJ2) (by simp[aH,aM,aJ,flat]) ?_
  simp only[seval,kZs,aK,aI]
  refine hK _ ?_
  clear hK K
  refine aE [2] ?_
  simp only[aD,aB,Nat.reduceEqDiff,if_true,if_false]
  refine aS ?_
  simp only[qq,bR,cQ,bN,bO,dA,aB,aJ,bW]
theorem uP [Gv] {t:TokV} (h:small t) {c:CavV} (hc:c∈t.cavs):zA c:=⟨(h.2.2.1 c hc).1,(h.2.2.1 c hc).2.1,(h.2.2.1 c hc).2.2,h.2.2.2.2.2 c hc⟩
theorem aBF [Gv] (c:CavV) (h:zA c):(kU c).length≤8000000:=by
 obtain⟨ht,hi,hv,hp⟩:=h
 have hv10:=jI (n:=c.party) hp
 unfold kU
 split
 ·refine Nat.le_trans (oV _ (by simp[kK];omega)) ?_
  simp[kK]
  omega
 ·refine Nat.le_trans (oV _ (by simp[kK];omega)) ?_
  simp[kK]
  omega
theorem aCc [Gv] (l:List CavV) (h:∀ c∈l,zA c):(l.flatMap kU).length≤8000000*l.length:=by
 induction l with
 | nil=>simp
 | cons c l ih=>
  have h1:=aBF c (h c (List.mem_cons_self ..))
  have h2:=ih fun d hd=>h d (List.mem_cons_of_mem _ hd)
  rw[List.flatMap_cons,List.length_append,List.length_cons]
  omega
theorem aHV [Gv] (t:TokV) (p:Perm) (hs:small t) (hp:(match p with | .tok _=>false|_=>true)=true) :
  ACalls Tryz.prog G0 49 [.agg (TA t p)] [] (fun r os=>os=[]∧r=if okT t then .tup [.sl (oS t).length (Bs (oS t)) .no,.val (.int .i64 0)] else .tup [.sl 0 [] .full,.val (.int .i64 1)]):=by
 have hoc:=gP t p
 have hlen:=eP t p hs.2.2.2.1
 obtain⟨g0,g1,g2,g3⟩:=sZ t p
 have g4:=aGR t p
 have hnT:=fQ t p hp
 have cK:=rA t p hs hp
 have cN:=aBX t.key hs.2.2.2.2.1
 have hv10:=jI (n:=t.key) hs.2.2.2.2.1
 have cJ1:=aJS [(1,vb t.key),(2,t.id)] .full (by have:=hs.1;simp[kK];omega) (by simp)
 have cJ2:=fun b:Bool=>xC [(7,[if b then 1 else 0]),(8,t.tag)] .full (by have:=hs.2.2.2.1;simp[kK];omega)
 have hj1:(V.join [(1,vb t.key),(2,t.id)]).length≤3000000:=by
  refine Nat.le_trans (oV _ (by have:=hs.1;simp[kK];omega)) ?_
  have:=hs.1
  simp[kK]
  omega
 have hj2:∀ b:Bool,(V.join [(7,[if b then 1 else 0]),(8,t.tag)]).length≤3000000:=by
  intro b
  refine Nat.le_trans (oV _ (by have:=hs.2.2.2.1;simp[kK];omega)) ?_
  have:=hs.2.2.2.1
  simp[kK]
  omega
 have hE:oS t=V.join [(1,vb t.key),(2,t.id)]++t.cavs.flatMap kU++V.join [(7,[if t.bound then 1 else 0]),(8,t.tag)]:=rfl
 have ht32:=hs.2.2.2.1
 simp only[seval,Fs,FA,List.flatMap_cons,List.flatMap_nil,List.append_nil,List.cons_append,List.nil_append,B,Int.cast_ofNat_Int,List.length_cons,List.length_nil] at cJ1 cJ2
 generalize hT:TA t p=T at *
 simp only[str] at g1
 have hTk:T.take 36=T:=List.take_of_length_le (by omega)
 refine aQ Tryz.func49 rfl rfl Tryz.ntmps49 (rts:=#[54,37]) rfl Tryz.results49 (by simp) ?_
 simp only[seval,aZ]
 refine aC fun K hK=>aA [] ?_
 simp only[seval,kZs,eF,bB,hoc,fN,cav,aI]
 and_intros<;>try first|exact⟨⟩|omega
 refine hK _ ?_
 clear hK K
 refine aE [1,2,3] ?_
 simp only[aD,aB,Nat.reduceEqDiff,if_true,if_false]
 refine aC fun K1 hK1=>?_
 refine aC fun K hK=>aA [] ?_
 simp only[seval,kZs,aY,apart,aO,Tryz.underlying67,bD,hlen,hTk,aU,bF,aT,bA,bW,List.headD_cons,aH]
 refine aV hnT cK rfl ?_
 simp only[seval,kZs,aK,aI]
 refine hK _ ?_
 clear hK K
 refine aE [1,4] ?_
 simp only[aD,aB,Nat.reduceEqDiff,if_true,if_false]
 refine aC fun K hK=>aA [] ?_
 simp only[qq,aF,Nat.reduceLT,aB,Nat.reduceEqDiff,cav,aL,aP,bH,aG,aI]
 and_intros<;>try first|exact⟨⟩|omega
 refine hK _ ?_
 clear hK K
 cases ho:okT t with
 | false=>
  refine bG (by simp only[aB,lk];simp[ho]) ?_
  refine aE [4] ?_
  simp only[aD,aB,Nat.reduceEqDiff,if_true,if_false]
  refine aC fun K hK=>aA [] ?_
  simp only[qq,aF,Nat.reduceLT,aB,cav,Nat.reduceEqDiff,aG,aI]
  and_intros<;>try first|exact⟨⟩|omega
  refine hK _ ?_
  clear hK K
  rw[if_neg (by simp)]
  refine aS ?_
  simp only[seval,qq,aI,bR,cQ,bN,bO,dA,aB,aM,bW,aH]
 | true=>
 refine aR (by simp only[aB,lk];simp[ho]) (bC (hK1 _ ?_))
 clear hK1 K1
 refine aE [1] ?_
 simp only[aD,aB,Nat.reduceEqDiff,if_true,if_false]
 refine aC fun K hK=>?_
 refine dW [1000022] (by kernel_rfl) (by kernel_rfl) ?_
 simp only[seval,kZs,aN,Tryz.underlying67,bD,ne_eq,aY,List.contains_cons,apart,aO,Tryz.underlying30,aU,bF,aT,bA,bW,List.headD_cons,hlen,g0,aH]
 refine aV (by simp[aJ,aM,aH]) (cN) (by simp[aH,aM,aJ,flat]) ?_
 simp only[seval,kZs,aK,fA,bS,Tryz.underlying124,kO,cav,dO,eM,spl,bB,List.drop_nil,List.all_cons,dC,Value.oneCell',List.all_nil,aN,Tryz.underlying67,bD,ne_eq,aY,List.contains_cons,apart,aO,Tryz.underlying9,dV,Tryz.underlying186,aHv,Nat.zero_mul,dL,aU,beq_self_eq_true,bF,aT,bA,dK,bW,Bool.true_and,hlen,g1]
 refine oO (by simp[fH,iV,aH,aM,aJ,bW]) cJ1 (aJ _) ?_
 simp only[seval,kZs,dE,aI]
 refine hK _ ?_
 clear hK K
 refine aE [1,5] ?_
 simp only[aD,aB,Nat.reduceEqDiff,if_true,if_false]
 rw[if_pos ho]
 rw[hE]
 generalize V.join [(1,vb t.key),(2,t.id)]=J1 at *
 refine aC fun K1 hK1=>?_
 refine aC fun K hK=>aA [] ?_
 simp only[seval,kZs,aN,Tryz.underlying67,bD,ne_eq,aY,apart,aO,Tryz.underlying65,bI,bV,eN,cav,aI,hlen,g2]
 and_intros<;>try first|exact⟨⟩|omega
 refine hK _ ?_
 clear hK K
 refine aE [1,5,24,25,26] ?_
 simp only[aD,aB,Nat.reduceEqDiff,if_true,if_false]
 have hCl:=mD t.cavs
 refine bK ?_
 refine bZ (fun i:Nat=>⟨47,[(1,.ptr 0 0),(5,.sl (J1++(t.cavs.take i).flatMap kU).length (Bs (J1++(t.cavs.take i).flatMap kU)) (.tok 1)),(24,.sl t.cavs.length (CS t.cavs) p),(25,.val (.int .i64 (t.cavs.length:Int))),(26,.val (.int .i64 (i:Int)))],.cells T::.tok 1 (J1++(t.cavs.take i).flatMap kU).length::dd i⟩)
  (fun i=>i≤t.cavs.length) (fun i=>t.cavs.length - i) 0 (by omega) (by simp only[List.take_zero,List.flatMap_nil,List.append_nil];exact .of_keep [1,5,24,25,26] rfl) ?_
 intro i hi
 refine aC fun K hK=>aA [] ?_
 simp only[seval,kZs,aL,aP,bH,jM,aI]
 and_intros<;>try first|exact⟨⟩|omega
 refine hK _ ?_
 clear hK K
 refine bJ ?_
 refine fB rfl rfl (fun hq=>?_) (fun hq=>?_)
 ·have hlt:i<t.cavs.length:=of_decide_eq_true hq
  refine bC ?_
  simp only[aI]
  refine aE [1,5,24,25,26] ?_
  simp only[aD,aB,Nat.reduceEqDiff,if_true,if_false]
  have hget:=aDO hlt (t.cavs[i])
  rw[List.getD_eq_getElem?_getD,List.getElem?_eq_getElem hlt] at hget
  simp only[Option.getD_some] at hget
  have hsm:=uP hs (List.getElem_mem hlt)
  have cC:=aIV t.cavs[i] hsm
  have hcl:=aBF t.cavs[i] hsm
  have htl:=aCc (t.cavs.take i) (fun c hc=>uP hs (List.mem_of_mem_take hc))
  have hmx:=hs.2.1
  rw[List.length_take,Nat.min_eq_left hi] at htl
  have hE1:J1++(t.cavs.take (i+1)).flatMap kU=J1++(t.cavs.take i).flatMap kU++kU t.cavs[i]:=by
   rw[List.take_add_one,List.getElem?_eq_getElem hlt,List.flatMap_append,List.append_assoc]
   simp
  have hlA:(J1++(t.cavs.take i).flatMap kU).length≤3000000+8000000*i:=by rw[List.length_append];omega
  generalize hA1:J1++(t.cavs.take (i+1)).flatMap kU=A1 at *
  generalize J1++(t.cavs.take i).flatMap kU=A at *
  generalize t.cavs[i]=c at *
  have hco:=uA c
  have hcn:=mL c
  have hc5:(CA c).length=5:=rfl
  generalize CA c=cs at *
  refine bJ ?_
  refine bK ?_
  refine aC fun K hK=>aA [] ?_
  simp only[seval,kZs,dN,Tryz.underlying65,bD,hCl,Int.toNat_natCast,aY,apart,aO,Tryz.underlying74,dF,bS,iS,cav,bQ,bX,bB,spl,aI,oR,lU,List.length_drop,hget,hco,hc5,List.drop_nil]
  refine⟨⟨by omega,by omega⟩,by omega,hK _ ?_⟩
  clear hK K
  refine aE [1,5,7,24,25,26] ?_
  simp only[aD,aB,Nat.reduceEqDiff,if_true,if_false]
  have hct:cs.take 5=cs:=List.take_of_length_le (by omega)
  refine aA [] ?_
  simp only[seval,kZs,aY,oR,apart,aO,Tryz.underlying74,bD,hc5,hct,aU,bF,aT,bA,bW,List.headD_cons,aH]
  refine aV hcn cC (by simp[aH,aJ]) ?_
  simp only[seval,kZs,aK,bI,fP,Tryz.underlying54,bD,lX,bS,gC,eQ,aX,Nat.mul_one,eR]
  refine⟨⟨by omega,by omega⟩,?_⟩
  simp only[bL,aI]
  refine lT (i+2) ?_
  rw[← iD,show A.length+(kU c).length=(A++kU c).length by simp,← hE1]
  rw[List.set_cons_succ,List.set_cons_succ,lU,rN]
  refine aE [1,5,24,25,26] ?_
  simp only[aD,aB,Nat.reduceEqDiff,if_true,if_false]
  have h6:IntKind.i64.wrap ((i+1:Nat):Int)=((i+1:Nat):Int):=fD (by omega)
  refine aA [] ?_
  simp only[seval,kZs,cav,aL,aP,bH,gO,h6,aI]
  subst hA1
  exact⟨i+1,by omega,by omega,.of_keep [1,5,24,25,26] rfl⟩
 ·have he:i=t.cavs.length:=by have:=of_decide_eq_false hq;omega
  subst he
  refine dR ?_
  simp only[aI,bL,if_true]
  refine hK1 _ ?_
  clear hK1 K1
  have htl:=aCc t.cavs (fun c hc=>uP hs hc)
  have hmx:=hs.2.1
  rw[List.take_length]
  have hlA:(J1++t.cavs.flatMap kU).length≤3000000+8000000*t.cavs.length:=by rw[List.length_append];omega
  generalize J1++t.cavs.flatMap kU=A at *
  refine aE [1,5] ?_
  simp only[aD,aB,Nat.reduceEqDiff,if_true,if_false]
  refine aC fun K hK=>aA [] ?_
  simp only[seval,kZs,cav,aI]
  and_intros<;>try first|exact⟨⟩|omega
  refine hK _ ?_
  clear hK K
  refine aE [1,5,8] ?_
  simp only[aD,aB,Nat.reduceEqDiff,if_true,if_false]
  refine aC fun K2 hK2=>?_
  refine aC fun K hK=>aA [] ?_
  simp only[seval,kZs,aN,Tryz.underlying67,bD,ne_eq,aY,apart,aO,Tryz.underlying4,aI,hlen,g3]
  and_intros<;>try first|exact⟨⟩|omega
  refine hK _ ?_
  clear hK K
  have next:∀ s,gE G0 s ⟨47,[(1,.ptr 0 0),(5,.sl A.length (Bs A) (.tok 1)),(8,str [if t.bound then 1 else 0])],.cells T::.tok 1 A.length::dd t.cavs.length⟩→K2 s:=by
   intro s hw
   refine hK2 s (eX hw ?_)
   clear hK2 K2 hw
   simp only[str]
   have cJ:=cJ2 t.bound
   have hl2:=hj2 t.bound
   generalize (if t.bound then 1 else 0:UInt8)=bb at *
   generalize V.join [(7,[bb]),(8,t.tag)]=J2 at *
   have hbl:(Bs t.tag).length=32:=by rw[aX,ht32]
   have hbt:(Bs t.tag).take 32=Bs t.tag:=List.take_of_length_le (by omega)
   refine aC fun K hK=>?_
   refine aA [42] ?_
   simp only[seval,kZs,fA,bS,Tryz.underlying124,kO,cav,dO,eM,spl,bB,List.drop_nil,List.all_cons,dC,Value.oneCell',List.all_nil,aN,Tryz.underlying67,bD,ne_eq,eY,iR,Option.map_none,Tryz.underlying23,eJ,Int.le_refl,dH,not_true_eq_false,or_false,Int.sub_zero,Int.toNat_natCast,Int.toNat_zero,Nat.zero_mul,iC,eL,Tryz.underlying9,List.contains_cons,beq_self_eq_true,eG,bA,bW,Tryz.underlying54,fF,Tryz.underlying5,dV,Tryz.underlying186,aHv,dL,aU,bF,aT,dK,Bool.true_and,aM,aH,Int.cast_ofNat_Int,Nat.mul_one,hlen,g4,hbt,aJ,hbl,jG,kJ]
   refine aV (by simp[aJ,aM,aH]) (cJ) (by simp[aH,aM,aJ,flat]) ?_
   simp only[seval,kZs,aK,bI,fP,Tryz.underlying54,bD,lX,bS,gC,eQ,aX,Nat.mul_one,eR,← iD,cav,aI]
   refine⟨by omega,hK _ ?_⟩
   clear hK K
   refine lH 2 rfl ?_
   refine aE [2,3] ?_
   simp only[aD,aB,Nat.reduceEqDiff,if_true,if_false]
   rw[show A.length+J2.length=(A++J2).length by simp]
   refine aS ?_
   simp only[seval,qq,bR,cQ,bN,bO,dA,aB,aJ,bW,aH]
  cases hbd:t.bound with
  | true=>
   refine bG (by simp only[aB,lk];simp[hbd]) ?_
   refine aE [1,5] ?_
   simp only[aD,aB,Nat.reduceEqDiff,if_true,if_false]
   refine aA [] ?_
   simp only[seval,kZs,cav,aI]
   rw[hbd] at next
   exact next _ (.of_keep [1,5,8] (by exact rfl))
  | false=>
   refine aR (by simp only[aB,lk];simp[hbd]) (bC ?_)
   rw[hbd] at next
   exact next _ (.of_keep [1,5,8] (by exact rfl))
def fG:Perm→Bool
 | .tok _=>false
 | _=>true
theorem aDF [Gv] (l:List CavV) (p:Perm) (hp:fG p=true) (hl:l.length≤1000000):ACalls Tryz.prog G0 133 [.sl l.length (CS l) p] [] (fun r os=>os=[.tok 5 l.length]∧r=.sl l.length (CS l) (.tok 0)):=by
 have hCl:=mD l
 have hnC:=gZ l
 have hoc:(CS l).all dC=true:=by
  rw[List.all_eq_true]
  intro x hx
  obtain⟨c,_,hc⟩:=List.mem_flatMap.1 hx
  exact List.all_eq_true.1 (uA c) x hc
 have hnil:CS l=[]→l=[]:=fun h=>by rw[h] at hCl;simp only[List.length_nil] at hCl;exact List.length_eq_zero_iff.1 (by omega)
 have hcs:CS l=[]∨CS l≠[]:=by cases CS l<;>simp
 refine gQ Tryz.func133 rfl rfl Tryz.ntmps133 (rts:=#[65]) rfl Tryz.results133 (by simp) ?_
 simp only[seval,aZ]
 refine aC fun K hK=>aA [] ?_
 simp only[seval,kZs,cav,aI]
 and_intros<;>try first|exact⟨⟩|omega
 refine hK _ ?_
 clear hK K
 refine aC fun K1 hK1=>?_
 refine aC fun K hK=>?_
 refine aCS (ht:=Tryz.underlying65) (hs:=rfl) (by omega) (by omega) fun b hb=>hK _ ?_
 clear hK K
 cases b with
 | true=>
  refine bG rfl ?_
  have h0:=hnil (hb rfl)
  subst h0
  refine aE [0] ?_
  simp only[seval,kZq]
  refine aC fun K hK=>aA [] ?_
  simp only[seval,kZs,cav,aI]
  and_intros<;>try first|exact⟨⟩|omega
  refine hK _ ?_
  clear hK K
  refine aE [2] ?_
  simp only[seval,kZq]
  refine oA 5 2 rfl ?_
  refine aS ?_
  exact oM 2 0 5 rfl rfl rfl ⟨rfl,rfl⟩
 | false=>
  refine aR rfl (bC (hK1 _ ?_))
  clear hK1 K1
  refine aE [0] ?_
  simp only[seval,kZq]
  refine aC fun K hK=>aA [] ?_
  simp only[seval,kZs,dV,Tryz.underlying65,bD,bS,aHu,dO,eM,Nat.zero_mul,dL,bI,fP,lX,gC,eQ,hCl,hoc,aI]
  refine⟨⟨by omega,by omega⟩,hK _ ?_⟩
  clear hK K
  refine aE [2] ?_
  simp only[seval,kZq]
  refine aS ?_
  exact oM 2 0 5 rfl rfl (gZ _) ⟨rfl,rfl⟩
theorem aIZ [Gv] (σ:Nat→Nat) (t:TokV) (r:Nat):gH σ (TA t (.tok r))=TA t (.tok (σ r)):=by
 have h1:=cY σ _ (gZ t.cavs)
 have h2:=cY σ _ (aJ t.tag)
 unfold TA str
 rw[tS,List.map_append,← tS,← tS,h2]
 simp only[gH,ren,h1,rB]
theorem aPk [Gv] (t:TokV) (p:Perm):nps (TA t p)=TA t (bW p):=by
 have h1:=iG _ (gZ t.cavs)
 have h2:=iG _ (aJ t.tag)
 unfold TA str
 rw[vZ,h2]
 simp only[nps,np,h1]
theorem aIX [Gv] (p:Nat→Bool) (t:TokV) (r:Nat) (h:p r=true):eV p (TA t (.tok r))=true:=by
 have h1:=bM p _ (gZ t.cavs)
 have h2:=bM p _ (aJ t.tag)
 unfold TA str
 simp only[eV,ref,h1,h2,jH,h,Bool.and_true,Bool.true_and,List.cons_append,List.nil_append]
theorem aJu [Gv] (t:TokV) (p:Perm) (hs:small t) (hp:fG p=true) :
  ACalls Tryz.prog G0 65 [.agg (TA t p)] [] (fun r os=>os=[.tok 5 t.cavs.length]∧r=.agg (TA t (.tok 0))):=by
 have hoc:=gP t p
 have hlen:=eP t p hs.2.2.2.1
 obtain⟨g0,g1,g2,g3⟩:=sZ t p
 have hset:(TA t p).take 2++[.sl t.cavs.length (CS t.cavs) (.tok 2)]++(TA t p).drop 3=TA t (.tok 2):=rfl
 have cC:=aDF t.cavs (bW p) (by cases p<;>rfl) hs.2.1
 generalize hT:TA t p=T at *
 refine dB Tryz.func65 rfl rfl Tryz.ntmps65 (rts:=#[67]) rfl Tryz.results65 (by simp) ?_
 simp only[seval,aZ]
 refine aC fun K hK=>aA [] ?_
 simp only[seval,kZs,eF,bB,hoc,fN,dF,bS,cav,aI]
 and_intros<;>try first|exact⟨⟩|omega
 refine hK _ ?_
 clear hK K
 refine aE [1,2] ?_
 simp only[seval,kZq]
 refine aC fun K hK=>aA [1000005] ?_
 simp only[seval,kZs,aN,Tryz.underlying67,bD,ne_eq,aY,List.contains_cons,apart,aO,Tryz.underlying65,aU,beq_self_eq_true,bF,aT,bA,bW,List.headD_cons,hlen,g2]
 refine oO (by simp[fH,iV,aH,aM,aJ,bW,gZ]) cC (gZ _) ?_
 simp only[seval,kZs,dE,aN,Tryz.underlying67,bD,ne_eq,bQ,bX,bB,List.all_cons,dC,List.all_nil,spl,aI,hlen]
 refine hK _ ?_
 clear hK K
 have hl2:=eP t (.tok 2) hs.2.2.2.1
 have ho2:=gP t (.tok 2)
 have hr2:gH (fun r=>[2].idxOf r) (TA t (.tok 2))=TA t (.tok 0):=aIZ _ t 2
 have hf2:∀ p:Nat→Bool,p 2=true→eV p (TA t (.tok 2))=true:=fun p h=>aIX p t 2 h
 rw[hset]
 generalize TA t (.tok 0)=T0 at *
 generalize TA t (.tok 2)=T2 at *
 have ht2:T2.take 36=T2:=List.take_of_length_le (by omega)
 have hd2:T2.drop 36=[]:=List.drop_eq_nil_of_le (by omega)
 refine aE [1,2] ?_
 simp only[seval,kZq]
 refine aC fun K hK=>aA [] ?_
 simp only[seval,kZs,aY,apart,aO,Tryz.underlying67,bD,hl2,ht2,bQ,bX,bB,spl,aI,ho2,List.drop_nil]
 refine hK _ ?_
 clear hK K
 refine aE [2] ?_
 simp only[seval,kZq]
 refine aS ?_
 refine nW [2] ⟨by simp,by simp,by decide,by simp,by simp[fU]⟩ ?_
 simp only[qq,gS,gB,fJ,fR,aY,aB,apart,aO,Tryz.underlying67,bD,hl2,ht2,List.contains_cons]
 exact⟨hf2 _ rfl,rfl,by simp only[ren];rw[hr2]⟩
theorem aMV [Gv] (t:TokV) (p:Perm) (hs:small t) (hp:fG p=true) :
  ACalls Tryz.prog G0 65 [.agg (TA t p)] [] (fun r os=>os=[]∧r=.agg (TA t .no)):=by
 have hoc:=gP t p
 have hlen:=eP t p hs.2.2.2.1
 obtain⟨g0,g1,g2,g3⟩:=sZ t p
 have hset:(TA t p).take 2++[.sl t.cavs.length (CS t.cavs) (.tok 2)]++(TA t p).drop 3=TA t (.tok 2):=rfl
 have cC:=aDF t.cavs (bW p) (by cases p<;>rfl) hs.2.1
 generalize hT:TA t p=T at *
 refine aQ Tryz.func65 rfl rfl Tryz.ntmps65 (rts:=#[67]) rfl Tryz.results65 (by simp) ?_
 simp only[seval,aZ]
 refine aC fun K hK=>aA [] ?_
 simp only[seval,kZs,eF,bB,hoc,fN,dF,bS,cav,aI]
 and_intros<;>try first|exact⟨⟩|omega
 refine hK _ ?_
 clear hK K
 refine aE [1,2] ?_
 simp only[seval,kZq]
 refine aC fun K hK=>aA [1000005] ?_
 simp only[seval,kZs,aN,Tryz.underlying67,bD,ne_eq,aY,List.contains_cons,apart,aO,Tryz.underlying65,aU,beq_self_eq_true,bF,aT,bA,bW,List.headD_cons,hlen,g2]
 refine oO (by simp[fH,iV,aH,aM,aJ,bW,gZ]) cC (gZ _) ?_
 simp only[seval,kZs,dE,aN,Tryz.underlying67,bD,ne_eq,bQ,bX,bB,List.all_cons,dC,List.all_nil,spl,aI,hlen]
 refine hK _ ?_
 clear hK K
 rw[hset]
 refine aE [1,2] ?_
 simp only[seval,kZq]
 refine aLC ?_
 have hnp:nps (TA t (.tok 2))=TA t .no:=aPk t (.tok 2)
 have hl2:=eP t .no hs.2.2.2.1
 have ho2:=gP t .no
 have hn2:=fQ t .no rfl
 simp only[List.map_cons,List.map_nil,np,npO,nps,bW,hnp]
 generalize TA t .no=T2 at *
 have ht2:T2.take 36=T2:=List.take_of_length_le (by omega)
 have hd2:T2.drop 36=[]:=List.drop_eq_nil_of_le (by omega)
 refine aC fun K hK=>aA [] ?_
 simp only[seval,kZs,aY,apart,aO,Tryz.underlying67,bD,hl2,ht2,bQ,bX,bB,spl,aI,ho2,List.drop_nil]
 refine hK _ ?_
 clear hK K
 refine aE [2] ?_
 simp only[seval,kZq]
 refine aS ?_
 simp only[qq,bR,cQ,bN,bO,aY,aB,apart,aO,Tryz.underlying67,bD,hl2,ht2,dA,aH,hn2]
def lL (C:List Nat→List UInt8→List Nat) (key:List UInt8) (n:Nat) (id:List UInt8):List UInt8:=pL C key [109,105,110,116] [be8 n 8,id]
def qW (C:List Nat→List UInt8→List Nat) (tag:List UInt8) (c:CavV):List UInt8:=pL C tag [99,97,118,101,97,116] [kU c]
theorem aBH [Gv] {Q:AV→List AObj→Prop} {nt:Nat} {s:List (Nat×AV)} {os:List AObj} {x r:Nat} {R:List UInt8} (h:lk s x=.ptr r 0) (ho:os[r]? = some (.cells (Bs R))) (hl:R.length=32) (hq:Q (.agg (Bs R)) []) :
  V.Fin Tryz.prog [23] [.cell x 23] Q .ret ⟨nt,s,os⟩:=by
 have hsz:tsz Tryz.prog 23=some 32:=by simp only[bD]
 exact⟨_,_,uE h ho hsz (by rw[Tryz.underlying23];rfl) (by rw[aX,hl]),⟨⟨by rw[aX,hl];omega,by simp[aH,aJ]⟩,trivial⟩,hq⟩
theorem aCY [Gv] {C:List Nat→List UInt8→List Nat} (hC:COk C) (key:List UInt8) (hk:key.length=32) (n:Nat) (hn:n<18446744073709551616) (id:List UInt8) (hi:id.length≤200000) :
  ACalls Tryz.prog GP 63 [.agg (Bs key),.val (.int .u64 (n:Int)),str id] [] (fun r os=>os=[]∧r=.agg (Bs (lL C key n id))):=by
 have cN:=(aCw n hn).g (G:=GP)
 have cD:=aCa hC key [109,105,110,116] hk [be8 n 8,id] .full (by simp) (by simp[fS,aBK,oQ];omega) (by simp)
 have hl:=fO hC key [109,105,110,116] [be8 n 8,id]
 unfold lL
 generalize pL C key [109,105,110,116] [be8 n 8,id]=R at *
 have hb8:=oQ n 8
 generalize be8 n 8=n8 at *
 simp only[seval,SS,List.map_cons,List.map_nil,List.length_cons,List.length_nil] at cD
 have hkt:key.take 32=key:=List.take_of_length_le (by omega)
 have hkl:(Bs key).length=32:=by rw[aX];omega
 have hRl:(Bs R).length=32:=by rw[aX];omega
 simp only[str]
 refine aQ Tryz.func63 rfl rfl Tryz.ntmps63 (rts:=#[23]) rfl Tryz.results63 (by simp) ?_
 simp only[seval,aZ]
 refine aC fun K hK=>aA [] ?_
 simp only[seval,kZs,eF,bB,eR,fN,dF,bS,jK,aI]
 and_intros<;>try first|exact⟨⟩|omega
 refine hK _ ?_
 clear hK K
 refine aE [1,2,3,6] ?_
 simp only[seval,kZq]
 refine aC fun K hK=>?_
 refine dW [] (by kernel_rfl) (by kernel_rfl) ?_
 simp only[seval,kZs,aY,apart,aO,Tryz.underlying23,bD,hkl,eS,hkt,aU,bF,aT,bA,aH]
 refine aV (by simp[aJ,aM,aH]) (cN) (by simp[aH,aM,aJ,flat]) ?_
 simp only[seval,kZs,aK,eL,Tryz.underlying9,eG,bA,aJ,bW,fF,Tryz.underlying54,Tryz.underlying5,aX,hb8,jG,kJ,dV,Tryz.underlying43,bD,bS,Nat.mul_one,aHv,cav,dO,eM,spl,bB,List.drop_nil,List.all_cons,dC,Value.oneCell',List.all_nil,dL,aU,bF,aT,aH,aM]
 refine aV (by simp[aM,aH,aJ]) cD (by simp[aH,aJ]) ?_
 simp only[seval,qq,aK,bQ,bX,aB,bD,bB,eR,hRl,aX,eZ,spl,eA,aG,aI]
 refine hK _ ?_
 clear hK K
 rw[show (Z 32).drop 32=[] from List.drop_eq_nil_of_le (by rw[eZ];exact Nat.le_refl _),gV,List.append_nil]
 refine aE [6] ?_
 simp only[seval,kZq]
 refine aS ?_
 exact aBH rfl rfl hl ⟨rfl,rfl⟩
theorem aFF [Gv] {C:List Nat→List UInt8→List Nat} (hC:COk C) (tag:List UInt8) (hk:tag.length=32) (c:CavV) (hc:zA c) :
  ACalls Tryz.prog GP 66 [.agg (Bs tag),.agg (CA c)] [] (fun r os=>os=[]∧r=.agg (Bs (qW C tag c))):=by
 have cN:=(aIV c hc).g (G:=GP)
 have hcl:=aBF c hc
 have cD:=aCa hC tag [99,97,118,101,97,116] hk [kU c] .full (by simp) (by simp[fS,aBK,oQ];omega) (by simp)
 have hl:=fO hC tag [99,97,118,101,97,116] [kU c]
 unfold qW
 generalize pL C tag [99,97,118,101,97,116] [kU c]=R at *
 generalize kU c=e at *
 simp only[seval,SS,List.map_cons,List.map_nil,List.length_cons,List.length_nil] at cD
 have hkt:tag.take 32=tag:=List.take_of_length_le (by omega)
 have hkl:(Bs tag).length=32:=by rw[aX];omega
 have hRl:(Bs R).length=32:=by rw[aX];omega
 have ho:=uA c
 have hcl:(CA c).length=5:=rfl
 have hcn:=mL c
 generalize CA c=cs at *
 have hct:cs.take 5=cs:=List.take_of_length_le (by omega)
 refine aQ Tryz.func66 rfl rfl Tryz.ntmps66 (rts:=#[23]) rfl Tryz.results66 (by simp) ?_
 simp only[seval,aZ]
 refine aC fun K hK=>aA [] ?_
 simp only[seval,kZs,eF,bB,eR,fN,ho,dF,bS,jK,aI]
 and_intros<;>try first|exact⟨⟩|omega
 refine hK _ ?_
 clear hK K
 refine aE [2,3,4] ?_
 simp only[seval,kZq]
 refine aC fun K hK=>?_
 refine dW [] (by kernel_rfl) (by kernel_rfl) ?_
 simp only[seval,kZs,aY,apart,aO,Tryz.underlying23,bD,hkl,eS,hkt,Tryz.underlying74,hcl,hct,aU,bF,aT,bA,bW,List.headD_cons,aH]
 refine aV (by simp[aM,aH,hcn]) cN (by simp[aH,aJ]) ?_
 simp only[seval,kZs,aK,eL,Tryz.underlying9,eG,bA,aJ,bW,fF,Tryz.underlying54,Tryz.underlying5,aX,jG,kJ,dV,Tryz.underlying43,bD,bS,Nat.mul_one,qC,cav,dO,eM,spl,bB,List.drop_nil,List.all_cons,dC,Value.oneCell',List.all_nil,dL,aU,bF,aT,aH,aM]
 refine aV (by simp[aM,aH,aJ]) cD (by simp[aH,aJ]) ?_
 simp only[seval,qq,aK,bQ,bX,aB,bD,bB,eR,hRl,aX,eZ,spl,eA,aG,aI]
 refine hK _ ?_
 clear hK K
 rw[show (Z 32).drop 32=[] from List.drop_eq_nil_of_le (by rw[eZ];exact Nat.le_refl _),gV,List.append_nil]
 refine aE [4] ?_
 simp only[seval,kZq]
 refine aS ?_
 exact aBH rfl rfl hl ⟨rfl,rfl⟩
def pU (C:List Nat→List UInt8→List Nat) (t0:List UInt8) (l:List CavV):List UInt8:=l.foldl (qW C) t0
theorem aHn [Gv] (C:List Nat→List UInt8→List Nat) (t0:List UInt8) (l:List CavV) (i:Nat) (h:i<l.length):pU C t0 (l.take (i+1))=qW C (pU C t0 (l.take i)) l[i]:=by
 unfold pU
 rw[List.take_add_one,List.getElem?_eq_getElem h,List.foldl_append]
 rfl
theorem sH [Gv] {C:List Nat→List UInt8→List Nat} (hC:COk C) (t0:List UInt8) (h0:t0.length=32) (l:List CavV):(pU C t0 l).length=32:=by
 induction l generalizing t0 with
 | nil=>exact h0
 | cons c l ih=>exact ih _ (fO hC _ _ _)
def pV (C:List Nat→List UInt8→List Nat) (t0:List UInt8) (l:List CavV) (i:Nat):List UInt8:=(List.range (i+1)).flatMap fun j=>pU C t0 (l.take j)
theorem wE [Gv] (C:List Nat→List UInt8→List Nat) (t0:List UInt8) (l:List CavV) (i:Nat):pV C t0 l (i+1)=pV C t0 l i++pU C t0 (l.take (i+1)):=by
 unfold pV
 rw[List.range_succ,List.flatMap_append]
 simp
theorem lW [Gv] {C:List Nat→List UInt8→List Nat} (hC:COk C) (t0:List UInt8) (h0:t0.length=32) (l:List CavV) (i:Nat):(pV C t0 l i).length=(i+1)*32:=by
 induction i with
 | zero=>simpa[pV] using sH hC t0 h0 (l.take 0)
 | succ i ih=>rw[wE,List.length_append,ih,sH hC t0 h0];omega
theorem aBj [Gv] {C:List Nat→List UInt8→List Nat} (hC:COk C) (t0:List UInt8) (h0:t0.length=32) (l:List CavV) (i:Nat):(pV C t0 l i).drop (i*32)=pU C t0 (l.take i):=by
 cases i with
 | zero=>simp[pV]
 | succ i=>
  rw[wE,List.drop_append_of_le_length (by rw[lW hC t0 h0];omega),List.drop_eq_nil_of_le (by rw[lW hC t0 h0];omega)]
  rfl
theorem aLP [Gv] {C:List Nat→List UInt8→List Nat} (hC:COk C) (key:List UInt8) (hk:key.length=32) (t:TokV) (p:Perm) (hs:small t) (hp:fG p=true) :
  ACalls Tryz.prog GP 72 [.agg (Bs key),.agg (TA t p)] [] (fun r os=>os=[]∧r=.sl (t.cavs.length+1) (Bs (pV C (lL C key t.key t.id) t.cavs t.cavs.length)) .no):=by
 have hoc:=gP t p
 have hlen:=eP t p hs.2.2.2.1
 obtain⟨g0,g1,g2,g3⟩:=sZ t p
 have cS:=aCY hC key hk t.key hs.2.2.2.2.1 t.id hs.1
 have hsl:(lL C key t.key t.id).length=32:=fO hC _ _ _
 generalize lL C key t.key t.id=t0 at *
 generalize hT:TA t p=T at *
 simp only[str] at g1 cS
 have hkt:key.take 32=key:=List.take_of_length_le (by omega)
 have hkl:(Bs key).length=32:=by rw[aX];omega
 have hbt:(Bs t0).length=32:=by rw[aX];omega
 have hCl:=mD t.cavs
 have ht1:pV C t0 t.cavs 0=t0:=by simp[pV,pU]
 refine aQ Tryz.func72 rfl rfl Tryz.ntmps72 (rts:=#[148]) rfl Tryz.results72 (by simp) ?_
 simp only[seval,aZ]
 refine aC fun K hK=>aA [] ?_
 simp only[seval,kZs,eF,bB,eR,fN,hoc,cav,aI]
 and_intros<;>try first|exact⟨⟩|omega
 refine hK _ ?_
 clear hK K
 refine aE [2,3,4] ?_
 simp only[seval,kZq]
 refine aC fun K hK=>aA [] ?_
 simp only[seval,kZs,aY,apart,aO,Tryz.underlying23,bD,hkl,eS,hkt,aN,Tryz.underlying67,ne_eq,Tryz.underlying30,Tryz.underlying9,aU,bF,aT,bA,bW,List.headD_cons,List.tail_cons,hlen,g1,aH,g0,aJ]
 refine aV (by simp[aM,aH,aJ]) cS (by simp[aH,aJ]) ?_
 simp only[seval,kZs,aK,dV,Tryz.underlying148,bD,bS,qC,jK,dO,eM,spl,Nat.zero_mul,bB,hbt,eA,aX,eZ,eR,aBs,dL,aI]
 rw[show (Z 32).drop 32=[] from List.drop_eq_nil_of_le (by rw[eZ];exact Nat.le_refl _),gV,List.append_nil]
 refine hK _ ?_
 clear hK K
 refine oA 32 5 rfl ?_
 refine aE [3,5] ?_
 simp only[seval,kZq]
 refine aC fun K1 hK1=>?_
 refine aC fun K hK=>aA [] ?_
 simp only[seval,kZs,aN,Tryz.underlying67,bD,ne_eq,aY,apart,aO,Tryz.underlying65,bI,bV,eN,cav,aI,hlen,g2]
 and_intros<;>try first|exact⟨⟩|omega
 refine hK _ ?_
 clear hK K
 refine aE [5,16,17,18] ?_
 simp only[seval,kZq]
 rw[← ht1]
 refine bK ?_
 refine bZ (fun i:Nat=>⟨34,[(5,.sl (i+1) (Bs (pV C t0 t.cavs i)) (.tok 2)),(16,.sl t.cavs.length (CS t.cavs) p),(17,.val (.int .i64 (t.cavs.length:Int))),(18,.val (.int .i64 (i:Int)))],.cells (Bs key)::.cells T::.tok 32 (i+1)::dd i⟩)
  (fun i=>i≤t.cavs.length) (fun i=>t.cavs.length - i) 0 (by omega) (.of_keep [5,16,17,18] rfl) ?_
 intro i hi
 refine aC fun K hK=>aA [] ?_
 simp only[seval,kZs,aL,aP,bH,jM,aI]
 and_intros<;>try first|exact⟨⟩|omega
 refine hK _ ?_
 clear hK K
 refine bJ ?_
 refine fB rfl rfl (fun hq=>?_) (fun hq=>?_)
 ·have hlt:i<t.cavs.length:=of_decide_eq_true hq
  refine bC ?_
  simp only[aI]
  refine aE [5,16,17,18] ?_
  simp only[seval,kZq]
  have hget:=aDO hlt (t.cavs[i])
  rw[List.getD_eq_getElem?_getD,List.getElem?_eq_getElem hlt] at hget
  simp only[Option.getD_some] at hget
  have hsm:=uP hs (List.getElem_mem hlt)
  have hmx:=hs.2.1
  have htl:=lW hC t0 hsl t.cavs i
  have htl1:=lW hC t0 hsl t.cavs (i+1)
  have hE1:=wE C t0 t.cavs i
  rw[aHn C t0 t.cavs i hlt] at hE1
  have hlast:=aBj hC t0 hsl t.cavs i
  have hal:=sH hC t0 hsl (t.cavs.take i)
  have cX:=aFF hC (pU C t0 (t.cavs.take i)) hal t.cavs[i] hsm
  have hnl:(qW C (pU C t0 (t.cavs.take i)) t.cavs[i]).length=32:=fO hC _ _ _
  generalize qW C (pU C t0 (t.cavs.take i)) t.cavs[i]=nx at *
  generalize pU C t0 (t.cavs.take i)=at' at *
  generalize hA1:pV C t0 t.cavs (i+1)=A1 at *
  generalize pV C t0 t.cavs i=A at *
  generalize t.cavs[i]=c at *
  have hco:=uA c
  have hcn:=mL c
  have hc5:(CA c).length=5:=rfl
  generalize CA c=cs at *
  have hct:cs.take 5=cs:=List.take_of_length_le (by omega)
  have hnb:(Bs nx).length=32:=by rw[aX];omega
  refine bJ ?_
  refine bK ?_
  refine aC fun K hK=>aA [] ?_
  simp only[seval,kZs,dN,Tryz.underlying65,bD,hCl,Int.toNat_natCast,aY,apart,aO,Tryz.underlying74,dF,bS,iS,cav,bQ,bX,bB,spl,aI,oR,lU,List.length_drop,hget,hco,hc5,List.drop_nil]
  refine⟨⟨by omega,by omega⟩,by omega,hK _ ?_⟩
  clear hK K
  refine aE [5,6,7,16,17,18] ?_
  simp only[seval,kZq]
  have hat:at'.take 32=at':=List.take_of_length_le (by omega)
  have hz:(Z 32).drop 32=[]:=List.drop_eq_nil_of_le (by rw[eZ];exact Nat.le_refl _)
  refine dW [] (by kernel_rfl) (by kernel_rfl) ?_
  simp only[seval,kZs,dN,Tryz.underlying148,bD,aX,htl,Int.toNat_natCast,eA,hlast,aY,apart,aO,Tryz.underlying23,oR,Tryz.underlying74,hct,aU,bF,aT,bA,bW,List.headD_cons,List.tail_cons,aH,hal,eS,hat,aJ]
  refine⟨⟨by omega,by omega⟩,by omega,?_⟩
  refine aV hcn cX (by simp[aH,aJ]) ?_
  simp only[seval,kZs,aK,dV,Tryz.underlying148,bD,bS,qC,jK,dO,eM,spl,Nat.zero_mul,bB,hnb,eA,hz,gV,aX,eZ,eR,aBs,dL,bI,fP,lX,gC,eQ,htl]
  refine⟨⟨by omega,by omega⟩,?_⟩
  simp only[bL,aI]
  refine lT (i+3) ?_
  rw[← iD,← hE1]
  rw[List.set_cons_succ,List.set_cons_succ,List.set_cons_succ,lU,rN]
  refine aE [5,16,17,18] ?_
  simp only[seval,kZq]
  have h6:IntKind.i64.wrap ((i+1:Nat):Int)=((i+1:Nat):Int):=fD (by omega)
  refine aA [] ?_
  simp only[seval,kZs,cav,aL,aP,bH,gO,h6,aI]
  subst hA1
  exact⟨i+1,by omega,by omega,.of_keep [5,16,17,18] rfl⟩
 ·have he:i=t.cavs.length:=by have:=of_decide_eq_false hq;omega
  subst he
  refine dR ?_
  simp only[aI,bL,if_true]
  refine hK1 _ ?_
  clear hK1 K1
  refine lH 5 rfl ?_
  refine aE [5] ?_
  simp only[seval,kZq]
  refine aC fun K hK=>aA [] ?_
  simp only[seval,kZs,aI]
  and_intros<;>try first|exact⟨⟩|omega
  refine hK _ ?_
  clear hK K
  refine aE [4] ?_
  simp only[seval,kZq]
  refine aS ?_
  simp only[qq,bR,cQ,bN,bO,dA,aB,aJ,bW]
def fK:TokV:=⟨0,[],[],false,List.replicate 32 0⟩
theorem uT [Gv]:([.val (.int .u64 0),.val (.string ⟨#[]⟩),.sl 0 [] .full,.val (.bool false),.val (.int .u8 0),.val (.int .u8 0),.val (.int .u8 0),.val (.int .u8 0),.val (.int .u8 0),.val (.int .u8 0),.val (.int .u8 0),.val (.int .u8 0),.val (.int .u8 0),.val (.int .u8 0),.val (.int .u8 0),.val (.int .u8 0),.val (.int .u8 0),.val (.int .u8 0),.val (.int .u8 0),.val (.int .u8 0),.val (.int .u8 0),.val (.int .u8 0),.val (.int .u8 0),.val (.int .u8 0),.val (.int .u8 0),.val (.int .u8 0),.val (.int .u8 0),.val (.int .u8 0),.val (.int .u8 0),.val (.int .u8 0),.val (.int .u8 0),.val (.int .u8 0),.val (.int .u8 0),.val (.int .u8 0),.val (.int .u8 0),.val (.int .u8 0)]:List AV)=TA fK .full:=rfl
def gN (C:List Nat→List UInt8→List Nat) (key:List UInt8) (n:Nat) (id:List UInt8):TokV:=⟨n,id,[],false,lL C key n id⟩
theorem tU [Gv] {C:List Nat→List UInt8→List Nat} (hC:COk C) (key:List UInt8) (n:Nat) (hn:n<18446744073709551616) (id:List UInt8) (hi:id.length≤200000):small (gN C key n id):=by
 refine⟨hi,by simp[gN],by simp[gN],fO hC _ _ _,hn,by simp[gN]⟩
theorem aLM [Gv] {C:List Nat→List UInt8→List Nat} (hC:COk C) (key:List UInt8) (hk:key.length=32) (n:Nat) (hn:n<18446744073709551616) (id:List UInt8) (hi:id.length≤200000) :
  ACalls Tryz.prog GP 25 [.agg (Bs key),.val (.int .u64 (n:Int)),str id] [] (fun r os=>os=[]∧r=if okT (gN C key n id) then .tup [.agg (TA (gN C key n id) .full),.val (.int .i64 0)] else .tup [.agg (TA fK .full),.val (.int .i64 1)]):=by
 have cS:=aCY hC key hk n hn id hi
 have cK:=(rA (gN C key n id) .full (tU hC key n hn id hi) rfl).g (G:=GP)
 have hlT:=eP (gN C key n id) .full (fO hC _ _ _)
 have hoT:=gP (gN C key n id) .full
 have hnT:=fQ (gN C key n id) .full rfl
 have hT:TA (gN C key n id) .full=[.val (.int .u64 (n:Int)),str id,.sl 0 [] .full,.val (.bool false)]++Bs (lL C key n id):=rfl
 have hsl:(lL C key n id).length=32:=fO hC _ _ _
 have hz0:=uT
 have hlz:=eP fK .full (by simp[fK])
 have hoz:=gP fK .full
 have hzt:(TA fK .full).take 36=TA fK .full:=List.take_of_length_le (Nat.le_of_eq hlz)
 have hnz:=fQ fK .full rfl
 have hbs:(Bs (lL C key n id)).length=32:=by rw[aX];omega
 generalize okT (gN C key n id)=ok at *
 generalize lL C key n id=s0 at *
 generalize TA (gN C key n id) .full=T at *
 generalize TA fK .full=T0 at *
 simp only[str] at *
 have hkt:key.take 32=key:=List.take_of_length_le (by omega)
 have hTt:T.take 36=T:=List.take_of_length_le (by omega)
 have hTd:T.drop 36=[]:=List.drop_eq_nil_of_le (by omega)
 refine aQ Tryz.func25 rfl rfl Tryz.ntmps25 (rts:=#[67,37]) rfl Tryz.results25 (by simp) ?_
 simp only[seval,aZ]
 refine aC fun K hK=>aA [] ?_
 simp only[seval,kZs,eF,bB,eR,fN,dF,bS,cav,aI]
 and_intros<;>try first|exact⟨⟩|omega
 refine hK _ ?_
 clear hK K
 refine aE [1,2,3,6,7] ?_
 simp only[seval,kZq]
 refine aC fun K hK=>aA [] ?_
 simp only[seval,kZs,aY,apart,aO,Tryz.underlying23,bD,aX,hk,eS,hkt,aU,bF,aT,bA,bW,List.headD_cons,aH,aJ]
 refine aV (by simp[aM,aH,aJ]) cS (by simp[aH,aJ]) ?_
 simp only[seval,kZs,aK,fA,bS,Tryz.underlying67,kO,cav,dO,eM,spl,bB,hbs,List.drop_nil,eR,List.all_cons,dC,Value.oneCell',List.all_nil,dF,bQ,bX,bD,aI]
 refine hK _ ?_
 clear hK K
 simp only[List.cons_append,List.nil_append] at hT
 rw[← hT]
 refine aE [6,7,8] ?_
 simp only[seval,kZq]
 refine aC fun K1 hK1=>?_
 refine aC fun K hK=>aA [] ?_
 simp only[seval,kZs,aY,apart,aO,Tryz.underlying67,bD,hlT,hTt,aU,bF,aT,bA,bW,List.headD_cons,aH]
 refine aV hnT cK rfl ?_
 simp only[seval,kZs,aK,aI]
 refine hK _ ?_
 clear hK K
 refine aE [6,7,8,9] ?_
 simp only[seval,kZq]
 refine aC fun K hK=>aA [] ?_
 simp only[seval,kZs,cav,aL,aP,bH,aI]
 and_intros<;>try first|exact⟨⟩|omega
 refine hK _ ?_
 clear hK K
 cases ok with
 | true=>
  refine aR rfl (bC (hK1 _ ?_))
  clear hK1 K1
  refine aE [6,8] ?_
  simp only[seval,kZq]
  refine aC fun K hK=>aA [] ?_
  simp only[seval,kZs,aY,apart,aO,Tryz.underlying67,bD,hlT,hTt,bQ,bX,bB,spl,cav,aI,hoT,List.drop_nil]
  refine hK _ ?_
  clear hK K
  refine aE [6,7] ?_
  simp only[seval,kZq]
  refine aS ?_
  simp only[seval,qq,bR,cQ,bN,bO,aY,aB,apart,aO,Tryz.underlying67,bD,hlT,hTt,dA,aH,hnT]
 | false=>
  refine bG rfl ?_
  refine aE [6,9] ?_
  simp only[seval,kZq]
  refine aC fun K hK=>aA [] ?_
  simp only[seval,kZs,fA,bS,Tryz.underlying67,kO,cav,dO,eM,bQ,bX,bD,bB,spl,aI,List.all_cons,dC,Value.oneCell',List.all_nil,List.drop_nil]
  refine hK _ ?_
  clear hK K
  refine aE [6,7] ?_
  simp only[seval,kZq]
  simp only[hz0]
  refine aS ?_
  simp only[seval,qq,aI,bR,cQ,bN,bO,aY,aB,apart,aO,Tryz.underlying67,bD,hlz,hzt,dA,aH,hnz]
def gK (C:List Nat→List UInt8→List Nat) (t:TokV) (c:CavV):TokV:={ t with cavs:=t.cavs++[c],tag:=qW C t.tag c }
theorem aCE [Gv] (a b:List CavV):CS (a++b)=CS a++CS b:=List.flatMap_append
theorem aKV [Gv] (c:CavV):CS [c]=CA c:=by simp[CS]
theorem aNZ [Gv] {C:List Nat→List UInt8→List Nat} (hC:COk C) (t:TokV) (p:Perm) (hs:small t) (hp:fG p=true) (hb:t.bound=false) (c:CavV) (hc:zA c) (hs':small (gK C t c)) :
  ACalls Tryz.prog GP 26 [.agg (TA t p),.agg (CA c)] [] (fun r os=>os=[]∧r=if okT (gK C t c) then .tup [.agg (TA (gK C t c) .no),.val (.int .i64 0)] else .tup [.agg (TA fK .full),.val (.int .i64 1)]):=by
 have hoc:=gP t p
 have hlen:=eP t p hs.2.2.2.1
 have hnT:=fQ t p (by cases p<;>simp_all [fG])
 obtain⟨g0,g1,g2,g3⟩:=sZ t p
 rw[hb] at g3
 have g4:=aGR t p
 have cC:=(aJu t p hs hp).g (G:=GP)
 have cN:=aFF hC t.tag hs.2.2.2.1 c hc
 have cK:=(rA (gK C t c) .no hs' rfl).g (G:=GP)
 have hz0:=uT
 have hlz:=eP fK .full (by simp[fK])
 have hoz:=gP fK .full
 have hzt:(TA fK .full).take 36=TA fK .full:=List.take_of_length_le (Nat.le_of_eq hlz)
 have hnz:=fQ fK .full rfl
 have hco:=uA c
 have hcn:=mL c
 have hc5:(CA c).length=5:=rfl
 have hct:(CA c).take 5=CA c:=List.take_of_length_le (by omega)
 have hTt:(TA t p).take 36=TA t p:=List.take_of_length_le (by omega)
 have hr0:∀ σ,gH σ (TA t (.tok 0))=TA t (.tok (σ 0)):=fun σ=>aIZ σ t 0
 have hf0:∀ q:Nat→Bool,q 0=true→eV q (TA t (.tok 0))=true:=fun q h=>aIX q t 0 h
 have hfin:(TA (gK C t c) .no)=[.val (.int .u64 (t.key:Int)),str t.id,.sl (t.cavs.length+1) (CS t.cavs++CA c) .no,.val (.bool t.bound)]++Bs (qW C t.tag c):=by
  rw[← aKV c,← aCE]
  simp[TA,gK]
 have hnl:(qW C t.tag c).length=32:=fO hC _ _ _
 have hmid:∀ r,TA t (.tok r)=[.val (.int .u64 (t.key:Int)),str t.id,.sl t.cavs.length (CS t.cavs) (.tok r),.val (.bool t.bound)]++Bs t.tag:=fun r=>rfl
 have ht32:=hs.2.2.2.1
 generalize okT (gK C t c)=ok at *
 generalize TA fK .full=T0 at *
 refine aQ Tryz.func26 rfl rfl Tryz.ntmps26 (rts:=#[67,37]) rfl Tryz.results26 (by simp) ?_
 simp only[seval,aZ]
 refine aC fun K hK=>aA [] ?_
 simp only[seval,kZs,eF,bB,hoc,fN,hco,dF,bS,cav,aI]
 and_intros<;>try first|exact⟨⟩|omega
 refine hK _ ?_
 clear hK K
 refine aE [2,3,4,5] ?_
 simp only[seval,kZq]
 rw[hz0]
 refine aC fun K1 hK1=>?_
 refine aC fun K hK=>aA [] ?_
 simp only[seval,kZs,aN,Tryz.underlying67,bD,ne_eq,aY,apart,aO,Tryz.underlying4,aI,hlen,g3]
 and_intros<;>try first|exact⟨⟩|omega
 refine hK _ ?_
 clear hK K
 refine aR rfl (bC (hK1 _ ?_))
 clear hK1 K1
 refine aE [2,3,4,5] ?_
 simp only[seval,kZq]
 refine aC fun K hK=>aA [1000012] ?_
 simp only[seval,kZs,aY,List.contains_cons,apart,aO,Tryz.underlying67,bD,hlen,hTt,aU,beq_self_eq_true,bF,aT,bA,bW,List.headD_cons]
 refine aIt [67] (C:=True∧True) (by simp[gT,nR,bM _ _ hnT,cY _ _ hnT]) ⟨trivial,trivial⟩ cC (hf0 _ rfl) ?_
 have hl3:=eP t (.tok 3) hs.2.2.2.1
 have ho3:=gP t (.tok 3)
 have hd3:∀ l:List AV,l.length=36→l.drop 36=[]:=fun l h=>List.drop_eq_nil_of_le (by omega)
 simp only[seval,kZs,ren,hr0,dE,dF,bS,cav,bQ,bX,bD,bB,ho3,hl3,spl,aI,List.drop_nil]
 refine hK _ ?_
 clear hK K
 refine aE [2,3,4,5,6] ?_
 simp only[seval,kZq]
 have g32:(TA t (.tok 3)).getD 2 .top=.sl t.cavs.length (CS t.cavs) (.tok 3):=rfl
 have hs4:∀ x,(TA t (.tok 3)).take 2++[x]++(TA t (.tok 3)).drop 3=[.val (.int .u64 (t.key:Int)),str t.id,x,.val (.bool t.bound)]++Bs t.tag:=fun x=>rfl
 have hCl:=mD t.cavs
 have hmx:=hs.2.1
 refine aC fun K hK=>aA [] ?_
 simp only[seval,kZs,aN,Tryz.underlying67,bD,ne_eq,aY,apart,aO,Tryz.underlying65,Tryz.underlying74,hc5,hct,dV,bS,qC,cav,dO,eM,spl,Nat.zero_mul,bB,dL,bI,fP,lX,gC,eQ,bQ,bX,aI,hco,List.drop_nil,hl3,g32,hCl,List.all_cons,dC,List.all_nil]
 rw[hs4]
 refine⟨⟨by omega,by omega⟩,hK _ ?_⟩
 clear hK K
 refine aE [2,3,4,5,6] ?_
 simp only[seval,kZq]
 obtain⟨T4,hT4⟩:∃ T4:List AV,T4=[.val (.int .u64 (t.key:Int)),str t.id,.sl (t.cavs.length+1) (CS t.cavs++CA c) (.tok 3),.val (.bool t.bound)]++Bs t.tag:=⟨_,rfl⟩
 rw[← hT4]
 have hl4:T4.length=36:=by rw[hT4];simp[aX,ht32]
 have hs5:∀ x,T4.take 4++x++T4.drop 36=[.val (.int .u64 (t.key:Int)),str t.id,.sl (t.cavs.length+1) (CS t.cavs++CA c) (.tok 3),.val (.bool t.bound)]++x:=by
  intro x
  rw[hd3 _ hl4,hT4]
  simp
 have hbt:(Bs t.tag).take 32=Bs t.tag:=List.take_of_length_le (by rw[aX];omega)
 have htt:t.tag.take 32=t.tag:=List.take_of_length_le (by omega)
 have hbl:(Bs (qW C t.tag c)).length=32:=by rw[aX];omega
 have hbo:(Bs (qW C t.tag c)).all dC=true:=by
  rw[List.all_eq_true]
  intro x hx
  obtain⟨z,_,rfl⟩:=List.mem_map.1 hx
  rfl
 generalize qW C t.tag c=nx at *
 refine aC fun K hK=>aA [] ?_
 simp only[seval,kZs,aN,Tryz.underlying67,bD,ne_eq,aY,apart,aO,Tryz.underlying23,Tryz.underlying74,hc5,hct,aU,bF,aT,bA,bW,List.headD_cons,List.tail_cons,aH,hlen,g4,hbt,aJ]
 refine aV (by simp[aH,hcn]) cN (by simp[aH,aJ]) ?_
 simp only[seval,kZs,aK,aN,Tryz.underlying67,bD,ne_eq,bQ,bX,bB,hbo,hbl,spl,aI,hl4]
 refine hK _ ?_
 clear hK K
 rw[hs5]
 refine aE [4,6] ?_
 simp only[seval,kZq]
 refine aLC ?_
 have hnp5:nps ([.val (.int .u64 (t.key:Int)),str t.id,.sl (t.cavs.length+1) (CS t.cavs++CA c) (.tok 3),.val (.bool t.bound)]++Bs nx)=TA (gK C t c) .no:=by
  rw[hfin,vZ,iG _ (aJ nx)]
  simp only[nps,np,str,bW,vZ,iG _ (gZ t.cavs),iG _ hcn]
 simp only[List.map_cons,List.map_nil,np,npO,iG _ hnT,iG _ hcn,iG _ hnz,hnp5]
 clear hs5 hT4 hnp5 hfin hl4 T4
 have hl6:=eP (gK C t c) .no hs'.2.2.2.1
 have ho6:=gP (gK C t c) .no
 have hn6:=fQ (gK C t c) .no rfl
 generalize TA (gK C t c) .no=T6 at *
 have ht6:T6.take 36=T6:=List.take_of_length_le (by omega)
 have hd6:T6.drop 36=[]:=List.drop_eq_nil_of_le (by omega)
 refine aC fun K1 hK1=>?_
 refine aC fun K hK=>aA [] ?_
 simp only[seval,kZs,aY,apart,aO,Tryz.underlying67,bD,hl6,ht6,aU,bF,aT,bA,bW,List.headD_cons,aH]
 refine aV hn6 cK rfl ?_
 simp only[seval,kZs,aK,aI]
 refine hK _ ?_
 clear hK K
 refine aE [4,6,7] ?_
 simp only[seval,kZq]
 refine aC fun K hK=>aA [] ?_
 simp only[seval,kZs,cav,aL,aP,bH,aI]
 and_intros<;>try first|exact⟨⟩|omega
 refine hK _ ?_
 clear hK K
 cases ok with
 | true=>
  refine aR rfl (bC (hK1 _ ?_))
  clear hK1 K1
  refine aE [4,6] ?_
  simp only[seval,kZq]
  refine aC fun K hK=>aA [] ?_
  simp only[seval,kZs,aY,apart,aO,Tryz.underlying67,bD,hl6,ht6,bQ,bX,bB,hlz,spl,cav,aI,ho6,hd3 _ hlz]
  refine hK _ ?_
  clear hK K
  refine aE [4,5] ?_
  simp only[seval,kZq]
  refine aS ?_
  simp only[seval,qq,bR,cQ,bN,bO,aY,aB,apart,aO,Tryz.underlying67,bD,hl6,ht6,dA,aH,hn6]
 | false=>
  refine bG rfl ?_
  refine aE [4,7] ?_
  simp only[seval,kZq]
  refine aC fun K hK=>aA [] ?_
  simp only[seval,kZs,fA,bS,Tryz.underlying67,kO,cav,dO,eM,bQ,bX,bD,bB,hlz,spl,aI,List.all_cons,dC,Value.oneCell',List.all_nil,hd3 _ hlz]
  refine hK _ ?_
  clear hK K
  refine aE [4,5] ?_
  simp only[seval,kZq]
  simp only[hz0]
  refine aS ?_
  simp only[seval,qq,aI,bR,cQ,bN,bO,aY,aB,apart,aO,Tryz.underlying67,bD,hlz,hzt,dA,aH,hnz]
def eO (s:List UInt8):CavV:=⟨false,s,0,[],[]⟩
theorem aNa [Gv] {C:List Nat→List UInt8→List Nat} (hC:COk C) (t:TokV) (p:Perm) (hs:small t) (hp:fG p=true) (hb:t.bound=false) (text:List UInt8) (ht:text.length≤200000) (hs':small (gK C t (eO text)))
  (PR:List AV) (hPl:PR.length=23) (hPo:PR.all dC=true) (hPn:aM PR=true) (hP:ACalls Tryz.prog GP 24 [str text] [] (fun r os=>os=[]∧r=.tup [.agg PR,.val (.bool true)])) :
  ACalls Tryz.prog GP 158 [.agg (TA t p),str text] [] (fun r os=>os=[]∧r=if okT (gK C t (eO text)) then .tup [.agg (TA (gK C t (eO text)) .no),.val (.int .i64 0)] else .tup [.agg (TA fK .full),.val (.int .i64 1)]):=by
 have hoc:=gP t p
 have hlen:=eP t p hs.2.2.2.1
 have hnT:=fQ t p (by cases p<;>simp_all [fG])
 have hTt:(TA t p).take 36=TA t p:=List.take_of_length_le (by omega)
 obtain⟨g0,g1,g2,g3⟩:=sZ t p
 rw[hb] at g3
 have cA:=aNZ hC t p hs hp hb (eO text) ⟨ht,by simp[eO],by simp[eO],by simp[eO]⟩ hs'
 have hca:CA (eO text)=[.val (.bool false),.val (.string ⟨text.toArray⟩),.val (.int .u64 0),.val (.string ⟨#[]⟩),.val (.string ⟨#[]⟩)]:=rfl
 rw[hca] at cA
 simp only[str] at *
 have hz0:=uT
 have hlz:=eP fK .full (by simp[fK])
 have hl6:=eP (gK C t (eO text)) .no hs'.2.2.2.1
 have ho6:=gP (gK C t (eO text)) .no
 have hn6:=fQ (gK C t (eO text)) .no rfl
 have hoz:=gP fK .full
 have hnz:=fQ fK .full rfl
 generalize okT (gK C t (eO text))=ok at *
 generalize TA (gK C t (eO text)) .no=T6 at *
 generalize TA t p=T at *
 generalize TA fK .full=T0 at *
 obtain⟨V,e,hV,cA',hVl,hVo,hVn⟩:∃ V e,(if ok then AV.tup [.agg T6,.val (.int .i64 0)] else .tup [.agg T0,.val (.int .i64 1)])=.tup [.agg V,.val (.int .i64 e)]∧ACalls Tryz.prog GP 26 [.agg T,.agg [.val (.bool false),.val (.string ⟨text.toArray⟩),.val (.int .u64 0),.val (.string ⟨#[]⟩),.val (.string ⟨#[]⟩)]] [] (fun r os=>os=[]∧r=.tup [.agg V,.val (.int .i64 e)])∧V.length=36∧V.all dC=true∧aM V=true:=by
  cases ok with
  | true=>exact⟨T6,0,rfl,cA,hl6,ho6,hn6⟩
  | false=>exact⟨T0,1,rfl,cA,hlz,hoz,hnz⟩
 rw[hV]
 clear cA hV
 have hVt:V.take 36=V:=List.take_of_length_le (by omega)
 have hd3:∀ l:List AV,l.length=36→l.drop 36=[]:=fun l h=>List.drop_eq_nil_of_le (by omega)
 refine aQ Tryz.func158 rfl rfl Tryz.ntmps158 (rts:=#[67,37]) rfl Tryz.results158 (by simp) ?_
 simp only[seval,aZ]
 refine aC fun K hK=>aA [] ?_
 simp only[seval,kZs,eF,bB,hoc,fN,dF,bS,cav,aI]
 and_intros<;>try first|exact⟨⟩|omega
 refine hK _ ?_
 clear hK K
 refine aE [1,2,4,5] ?_
 simp only[seval,kZq]
 rw[hz0]
 refine aC fun K1 hK1=>?_
 refine aC fun K hK=>aA [] ?_
 simp only[seval,kZs,aU,bF,aT,bA,aH]
 refine aV trivial hP (by simp[aH,aM,hPn]) ?_
 simp only[seval,kZs,aK,gW,dF,bS,cav,bQ,bX,bD,bB,spl,aI,hPo,hPl,List.drop_nil]
 refine hK _ ?_
 clear hK K
 refine aE [1,2,4,5,7] ?_
 simp only[seval,kZq]
 refine aC fun K hK=>aA [] ?_
 simp only[seval,kZs,aun,Bool.not_true,dD,bT,Option.bind_some,aW,eW,gok,bU,cav,aI]
 and_intros<;>try first|exact⟨⟩|omega
 refine hK _ ?_
 clear hK K
 refine aR rfl (bC (hK1 _ ?_))
 clear hK1 K1
 refine aE [1,2,4,5] ?_
 simp only[seval,kZq]
 refine aC fun K hK=>aA [] ?_
 simp only[seval,kZs,aY,apart,aO,Tryz.underlying67,bD,hlen,hTt,fA,bS,Tryz.underlying74,kO,cav,dO,eM,spl,bB,List.all_cons,dC,Value.oneCell',List.all_nil,aU,bF,aT,bA,bW,List.headD_cons,List.tail_cons,aH,aM]
 refine aV (by simp[aM,aH,hnT]) cA' (by simp[aH,aM,hVn]) ?_
 simp only[seval,kZs,aK,gW,bQ,bX,bD,bB,hlz,spl,aI,hVo,hVl,hd3 _ hlz]
 refine hK _ ?_
 clear hK K
 refine aE [4,5] ?_
 simp only[seval,kZq]
 refine aS ?_
 simp only[seval,qq,bR,cQ,bN,bO,aY,aB,apart,aO,Tryz.underlying67,bD,hVl,hVt,dA,aH,hVn]
def BA (t:TokV) (p:Perm):List AV:=TA t p++[.sl 0 [] .full]
theorem fV [Gv] (t:TokV) (p:Perm) (ht:t.tag.length=32):(BA t p).length=37:=by rw[BA,List.length_append,eP t p ht];rfl
theorem kG [Gv] (t:TokV) (p:Perm):(BA t p).all dC=true:=by rw[BA,List.all_append,gP];rfl
theorem iF [Gv] (t:TokV) (p:Perm) (hp:fG p=true):aM (BA t p)=true:=by
 rw[BA,dK,fQ t p (by cases p<;>simp_all [fG])]
 rfl
theorem aDN [Gv] (t:TokV) (p:Perm) (ht:t.tag.length=32):(BA t p).take 36=TA t p:=by rw[BA,← eP t p ht,List.take_left]
theorem aHx [Gv] (t:TokV) (p:Perm) (ht:t.tag.length=32):(BA t p).getD 36 .top=.sl 0 [] .full:=by
 rw[BA,List.getD_eq_getElem?_getD,List.getElem?_append_right (by rw[eP t p ht];omega),eP t p ht]
 rfl
theorem aKU [Gv] (t:TokV) (p:Perm):(BA t p).getD 3 .top=.val (.bool t.bound):=rfl
theorem aNA [Gv] (t:TokV) (p:Perm):(BA t p).getD 2 .top=.sl t.cavs.length (CS t.cavs) p:=rfl
theorem aOu [Gv] (t:TokV) (p:Perm):(BA t p).getD 0 .top=.val (.int .u64 (t.key:Int)):=rfl
theorem aOv [Gv] (t:TokV) (p:Perm) (ht:t.tag.length=32):((BA t p).drop 4).take 32=Bs t.tag:=by
 rw[BA,List.drop_append_of_le_length (by rw[eP t p ht];omega),aGR,List.take_append_of_le_length (by rw[aX];omega),List.take_of_length_le (by rw[aX];omega)]
theorem aLH [Gv] (t:TokV) (p q:Perm) (hs:small t) (hp:fG p=true) :
  ACalls Tryz.prog G0 29 [.agg (TA t p),.sl 0 [] q] [] (fun r os=>os=[]∧r=.agg (BA t .no)):=by
 have hoc:=gP t p
 have hlen:=eP t p hs.2.2.2.1
 have hTt:(TA t p).take 36=TA t p:=List.take_of_length_le (by omega)
 have hnT:=fQ t p (by cases p<;>simp_all [fG])
 have cC:=aMV t p hs hp
 have hlB:=fV t .no hs.2.2.2.1
 have hoB:=kG t .no
 have hnB:=iF t .no rfl
 have hB:BA t .no=TA t .no++[.sl 0 [] .full]:=rfl
 have hl2:=eP t .no hs.2.2.2.1
 have ho2:=gP t .no
 have hn2:=fQ t .no rfl
 have hBt:(BA t .no).take 37=BA t .no:=List.take_of_length_le (by omega)
 have hBd:(BA t .no).drop 37=[]:=List.drop_eq_nil_of_le (by omega)
 generalize TA t p=T at *
 generalize BA t .no=Bd at *
 generalize TA t .no=T2 at *
 refine aQ Tryz.func29 rfl rfl Tryz.ntmps29 (rts:=#[70]) rfl Tryz.results29 (by simp) ?_
 simp only[seval,aZ]
 refine aC fun K hK=>aA [] ?_
 simp only[seval,kZs,eF,bB,hoc,fN,dF,bS,cav,aI]
 and_intros<;>try first|exact⟨⟩|omega
 refine hK _ ?_
 clear hK K
 refine aE [1,2,4] ?_
 simp only[seval,kZq]
 refine aC fun K hK=>aA [] ?_
 simp only[seval,kZs,aY,apart,aO,Tryz.underlying67,bD,hlen,hTt,aU,bF,aT,bA,bW,List.headD_cons,aH]
 refine aV hnT cC (by simp[aH,hn2]) ?_
 simp only[seval,kZs,aK,fA,bS,Tryz.underlying70,kO,cav,dO,eM,spl,bB,hl2,ho2,dF,bQ,bX,bD,aI]
 simp only[← hB]
 simp only[seval,qq,hoB,hlB,List.drop_nil,aB]
 refine hK _ ?_
 clear hK K
 refine aE [1,4,5] ?_
 simp only[seval,kZq]
 refine aC fun K1 hK1=>?_
 refine aC fun K hK=>aA [] ?_
 simp only[seval,kZs,bI,bV,eN,Tryz.underlying68,Int.cast_ofNat_Int,cav,aI]
 and_intros<;>try first|exact⟨⟩|omega
 refine hK _ ?_
 clear hK K
 refine aE [4,5,12,13] ?_
 simp only[seval,kZq]
 refine bK ?_
 refine bZ (fun _:Unit=>_) (fun _=>True) (fun _=>0) () trivial (.refl _) ?_
 intro _ _
 refine aC fun K hK=>aA [] ?_
 simp only[seval,kZs,aL,aP,bH,Int.lt_irrefl,decide_false,aI]
 and_intros<;>try first|exact⟨⟩|omega
 refine hK _ ?_
 clear hK K
 refine bJ ?_
 refine aR rfl ?_
 refine dR ?_
 simp only[aI,bL,if_true]
 refine hK1 _ ?_
 clear hK1 K1
 refine aE [4,5] ?_
 simp only[seval,kZq]
 refine aC fun K hK=>aA [] ?_
 simp only[seval,kZs,aY,apart,aO,Tryz.underlying70,bD,hlB,hBt,bQ,bX,bB,spl,aI,hoB,List.drop_nil]
 refine hK _ ?_
 clear hK K
 refine aE [4] ?_
 simp only[seval,kZq]
 refine aS ?_
 simp only[qq,bR,cQ,bN,bO,aY,aB,apart,aO,Tryz.underlying70,bD,hlB,hBt,dA,aH,hnB]
theorem uF [Gv] (t:TokV) (p:Perm) (hs:small t) (hp:fG p=true) (hb:t.bound=false) :
  ACalls Tryz.prog G0 48 [.agg (BA t p)] [] (fun r os=>os=[]∧r=.val (.int .i64 (if okT t then 0 else 1))):=by
 have hoc:=kG t p
 have hlen:=fV t p hs.2.2.2.1
 have g3:=aKU t p
 rw[hb] at g3
 have g36:=aHx t p hs.2.2.2.1
 have htk:=aDN t p hs.2.2.2.1
 have cK:=rA t p hs (by cases p<;>simp_all [fG])
 have hnT:=fQ t p (by cases p<;>simp_all [fG])
 generalize BA t p=Bd at *
 generalize TA t p=T at *
 generalize okT t=ok at *
 refine aQ Tryz.func48 rfl rfl Tryz.ntmps48 (rts:=#[37]) rfl Tryz.results48 (by simp) ?_
 simp only[seval,aZ]
 refine aC fun K hK=>aA [] ?_
 simp only[seval,kZs,eF,bB,hoc,fN,cav,aI]
 and_intros<;>try first|exact⟨⟩|omega
 refine hK _ ?_
 clear hK K
 refine aE [1] ?_
 simp only[seval,kZq]
 refine aC fun K1 hK1=>?_
 refine aC fun K hK=>aA [] ?_
 simp only[seval,kZs,aN,Tryz.underlying70,bD,ne_eq,Tryz.underlying67,aY,apart,aO,Tryz.underlying4,hlen,g3,dD,bT,Option.bind_some,aW,Bool.not_false,dQ,gok,Tryz.underlying68,bI,bV,eN,cav,aL,bU,g36,Int.cast_ofNat_Int,aP,bH,decide_false,aU,bF,aT,bA,bW,List.headD_cons,htk,aH]
 refine aV hnT cK rfl ?_
 simp only[seval,kZs,aK,dD,bT,Option.bind_some,aW,Bool.not_false,dQ,gok,cav,aL,aP,bH,bU,aI]
 refine hK _ ?_
 clear hK K
 refine aE [1,19] ?_
 simp only[seval,kZq]
 cases ok with
 | false=>
  refine bG rfl ?_
  refine aE [1] ?_
  simp only[seval,kZq]
  refine aC fun K hK=>aA [] ?_
  simp only[seval,kZs,cav,aI]
  and_intros<;>try first|exact⟨⟩|omega
  refine hK _ ?_
  clear hK K
  refine aE [2] ?_
  simp only[seval,kZq]
  refine aS ?_
  exact⟨_,_,rfl,⟨rfl,trivial⟩,rfl,rfl⟩
 | true=>
  refine aR rfl (bC (hK1 _ ?_))
  clear hK1 K1
  refine aE [1] ?_
  simp only[seval,kZq]
  refine aC fun K1 hK1=>?_
  refine aC fun K hK=>aA [] ?_
  simp only[seval,kZs,aN,Tryz.underlying70,bD,ne_eq,aY,apart,aO,Tryz.underlying68,bI,bV,eN,cav,aI,hlen,g36,Int.cast_ofNat_Int]
  and_intros<;>try first|exact⟨⟩|omega
  refine hK _ ?_
  clear hK K
  refine aE [21,22,23] ?_
  simp only[seval,kZq]
  refine bK ?_
  refine bZ (fun _:Unit=>_) (fun _=>True) (fun _=>0) () trivial (.refl _) ?_
  intro _ _
  refine aC fun K hK=>aA [] ?_
  simp only[seval,kZs,aL,aP,bH,Int.lt_irrefl,decide_false,aI]
  and_intros<;>try first|exact⟨⟩|omega
  refine hK _ ?_
  clear hK K
  refine bJ ?_
  refine aR rfl ?_
  refine dR ?_
  simp only[aI,bL,if_true]
  refine hK1 _ ?_
  clear hK1 K1
  refine aE [21] ?_
  simp only[seval,kZq]
  refine aC fun K hK=>aA [] ?_
  simp only[seval,kZs,cav,aI]
  and_intros<;>try first|exact⟨⟩|omega
  refine hK _ ?_
  clear hK K
  refine aE [2] ?_
  simp only[seval,kZq]
  refine aS ?_
  exact⟨_,_,rfl,⟨rfl,trivial⟩,rfl,rfl⟩
def gM (t:TokV):List UInt8:=V.join [(16,oS t)]
theorem aAy [Gv] (t:TokV) (p:Perm) (hs:small t) (hp:fG p=true) (hb:t.bound=false) (hok:okT t=true) (hl:(gM t).length≤65536) :
  ACalls Tryz.prog G0 20 [.agg (BA t p)] [] (fun r os=>os=[]∧r=.tup [.sl (gM t).length (Bs (gM t)) .no,.val (.int .i64 0)]):=by
 have hoc:=kG t p
 have hlen:=fV t p hs.2.2.2.1
 have hnB:=iF t p hp
 have hBt:(BA t p).take 37=BA t p:=List.take_of_length_le (by omega)
 have g36:=aHx t p hs.2.2.2.1
 have htk:=aDN t p hs.2.2.2.1
 have hnT:=fQ t p (by cases p<;>simp_all [fG])
 have cK:=uF t p hs hp hb
 have cE:=aHV t p hs (by cases p<;>simp_all [fG])
 simp only[hok,if_true] at cK cE
 have hle:(oS t).length+1≤(gM t).length:=by simp[gM,V.join,fby]
 have cJ:=xC [(16,oS t)] .full (by simp[kK];omega)
 rw[show V.join [(16,oS t)]=gM t from rfl] at cJ
 generalize oS t=e at *
 generalize gM t=eB at *
 simp only[seval,Fs,FA,List.flatMap_cons,List.flatMap_nil,List.append_nil,List.cons_append,List.nil_append,B,Int.cast_ofNat_Int,List.length_cons,List.length_nil] at cJ
 generalize BA t p=Bd at *
 generalize TA t p=T at *
 refine aQ Tryz.func20 rfl rfl Tryz.ntmps20 (rts:=#[54,37]) rfl Tryz.results20 (by simp) ?_
 simp only[seval,aZ]
 refine aC fun K hK=>aA [] ?_
 simp only[seval,kZs,eF,bB,hoc,fN,cav,aI]
 and_intros<;>try first|exact⟨⟩|omega
 refine hK _ ?_
 clear hK K
 refine aE [1,2,3] ?_
 simp only[seval,kZq]
 refine aC fun K1 hK1=>?_
 refine aC fun K hK=>aA [] ?_
 simp only[seval,kZs,aY,apart,aO,Tryz.underlying70,bD,hlen,hBt,aU,bF,aT,bA,bW,List.headD_cons,aH]
 refine aV hnB cK rfl ?_
 simp only[seval,kZs,aK,aI]
 refine hK _ ?_
 clear hK K
 refine aE [1,4] ?_
 simp only[seval,kZq]
 refine aC fun K hK=>aA [] ?_
 simp only[seval,kZs,cav,aL,aP,bH,aI]
 and_intros<;>try first|exact⟨⟩|omega
 refine hK _ ?_
 clear hK K
 refine aR rfl (bC (hK1 _ ?_))
 clear hK1 K1
 refine aE [1] ?_
 simp only[seval,kZq]
 refine aC fun K hK=>aA [] ?_
 simp only[seval,kZs,aN,Tryz.underlying70,bD,ne_eq,aY,apart,aO,Tryz.underlying67,aU,bF,aT,bA,bW,List.headD_cons,hlen,htk,aH]
 refine aV hnT cE (by simp[aH,aM,aJ]) ?_
 simp only[seval,kZs,aK,gW,aI]
 refine hK _ ?_
 clear hK K
 refine aE [1,5] ?_
 simp only[seval,kZq]
 refine aC fun K hK=>aA [] ?_
 simp only[seval,kZs,eL,Tryz.underlying9,eG,bA,aJ,bW,fF,Tryz.underlying54,Tryz.underlying5,aX,jG,kJ,fA,bS,Tryz.underlying124,kO,cav,dO,eM,spl,bB,List.drop_nil,List.all_cons,dC,Value.oneCell',List.all_nil,dV,Tryz.underlying186,bD,qC,Nat.zero_mul,dL,aU,bF,aT,dK,aM,aH]
 refine aV (by simp[aM,aH]) cJ (by simp[aH,aJ]) ?_
 simp only[seval,kZs,aK,aI]
 refine hK _ ?_
 clear hK K
 refine aE [1,7] ?_
 simp only[seval,kZq]
 refine aC fun K1 hK1=>?_
 refine aC fun K hK=>aA [] ?_
 simp only[seval,kZs,aN,Tryz.underlying70,bD,ne_eq,aY,apart,aO,Tryz.underlying68,bI,bV,eN,cav,aI,hlen,g36,Int.cast_ofNat_Int]
 and_intros<;>try first|exact⟨⟩|omega
 refine hK _ ?_
 clear hK K
 refine aE [7,29,30,31] ?_
 simp only[seval,kZq]
 refine bK ?_
 refine bZ (fun _:Unit=>_) (fun _=>True) (fun _=>0) () trivial (.refl _) ?_
 intro _ _
 refine aC fun K hK=>aA [] ?_
 simp only[seval,kZs,aL,aP,bH,Int.lt_irrefl,decide_false,aI]
 and_intros<;>try first|exact⟨⟩|omega
 refine hK _ ?_
 clear hK K
 refine bJ ?_
 refine aR rfl ?_
 refine dR ?_
 simp only[aI,bL,if_true]
 refine hK1 _ ?_
 clear hK1 K1
 refine aE [7] ?_
 simp only[seval,kZq]
 refine aC fun K1 hK1=>?_
 refine aC fun K hK=>aA [] ?_
 simp only[seval,kZs,bI,bV,eN,Tryz.underlying54,cav,aL,aI,aP,bH,yM]
 and_intros<;>try first|exact⟨⟩|omega
 refine hK _ ?_
 clear hK K
 refine aR (by simp only[aB,lk];simp;omega) (bC (hK1 _ ?_))
 clear hK1 K1
 refine aE [7] ?_
 simp only[seval,kZq]
 refine aC fun K hK=>aA [] ?_
 simp only[seval,kZs,cav,aI]
 and_intros<;>try first|exact⟨⟩|omega
 refine hK _ ?_
 clear hK K
 refine aE [2,3] ?_
 simp only[seval,kZq]
 refine aS ?_
 simp only[seval,qq,bR,cQ,bN,bO,dA,aB,aJ,bW,aH]
def aNV:Option (List eK)→AV
 | none=>.tup [.sl 0 [] .full,.val (.bool false)]
 | some l=>.tup [.sl l.length (Fs l) .no,.val (.bool true)]
theorem aII (b:List UInt8) (hb:b.length≤1048576):ACalls Tryz.prog G0 102 [.sl b.length (Bs b) .no] [] (fun r os=>os=[]∧r=aNV (mB b)):=by
 obtain⟨fs,hu,hs⟩:∃ fs,Tryz.prog.underlying 124=some (.struct fs)∧uO Tryz.prog fs=some [(0,1),(1,1)]:=⟨_,Tryz.underlying124,by kernel_rfl⟩
 refine aQ Tryz.func102 rfl rfl Tryz.ntmps102 (rts:=#[186,4]) rfl Tryz.results102 (by simp) ?_
 simp only[seval,aZ]
 refine aC fun K hK=>aA [] ?_
 simp only[seval,kZs,cav,aI]
 and_intros<;>try first|exact⟨⟩|omega
 refine hK _ ?_
 clear hK K
 refine aC fun K hK=>aA [] ?_
 simp only[seval,kZs,cav,aI]
 and_intros<;>try first|exact⟨⟩|omega
 refine hK _ ?_
 clear hK K
 refine aE [0,4] ?_
 simp only[seval,kZq]
 refine oA 2 4 rfl ?_
 refine aC fun K1 hK1=>?_
 refine bK ?_
 refine bZ (fun x:List UInt8×List eK×Nat=>⟨27,[(0,.sl x.1.length (Bs x.1) .no),(4,.sl x.2.1.length (Fs x.2.1) (.tok 0))],.tok 2 x.2.1.length::dd x.2.2⟩)
  (fun x=>x.1.length+x.2.1.length≤1048576∧mB b=(mB x.1).map (x.2.1 ++ ·)) (fun x=>x.1.length) (b,[],0) ⟨by simpa using hb,by cases mB b<;>simp⟩ (.of_keep [0,4] (by exact rfl)) ?_
 rintro⟨r,out,d⟩ ⟨hlen,hall⟩
 simp only at hlen hall
 refine aC fun K2 hK2=>?_
 refine aC fun K hK=>aA [] ?_
 simp only[seval,kZs,bI,bV,eN,Tryz.underlying54,cav,aL,aI,aP,bH,yM]
 refine hK _ ?_
 clear hK K
 by_cases hr0:r.length=0
 ·refine aR (by simp only[aB,lk];simp[hr0]) ?_
  refine dR ?_
  simp only[aI,bL,if_true]
  refine hK1 _ ?_
  clear hK1 K1 hK2 K2
  rw[aCN hr0] at hall
  have hall':mB b=some out:=by rw[hall];simp
  rw[hall']
  refine aE [4] ?_
  simp only[seval,kZq]
  refine aC fun K hK=>aA [] ?_
  simp only[seval,kZs,cav,aI]
  and_intros<;>try first|exact⟨⟩|omega
  refine hK _ ?_
  clear hK K
  refine aS ?_
  simp only[seval,qq,bR,cQ,bN,bO,dA,aB,qX,bW,aH]
  rfl
 refine bG (by simp only[aB,lk];simp;omega) (bC (hK2 _ ?_))
 clear hK2 K2
 refine aE [0,4] ?_
 simp only[seval,kZq]
 have cG:=aNj r (by omega)
 have ha9:aH (aNq (yQ r))=true:=by
  cases yQ r with
  | none=>rfl
  | some x=>rfl
 refine bK ?_
 cases hg:yQ r with
 | none=>
  rw[hg] at cG
  simp only[aNq] at cG
  refine aC fun K hK=>aA [] ?_
  simp only[seval,kZs,aU,bF,aT,bA,aJ,bW]
  refine aV (by simp[aJ]) cG rfl ?_
  simp only[seval,kZs,aK,gW,dF,bS,iS,cav,bQ,bX,bD,bB,spl,aI,oR,lU,wH,lM,List.drop_nil]
  refine hK _ ?_
  clear hK K
  rw[aGf hr0 hg] at hall
  have hall':mB b=none:=by rw[hall];rfl
  rw[hall']
  refine aE [7] ?_
  simp only[seval,kZq]
  refine aC fun K3 hK3=>?_
  refine aC fun K hK=>aA [] ?_
  simp only[seval,kZs,aun,Bool.not_false,aI]
  and_intros<;>try first|exact⟨⟩|omega
  refine hK _ ?_
  clear hK K
  refine bG rfl ?_
  refine aC fun K hK=>aA [] ?_
  simp only[seval,kZs,cav,aI]
  and_intros<;>try first|exact⟨⟩|omega
  refine hK _ ?_
  clear hK K
  refine aS ?_
  simp only[seval,qq,aI,bL,bR,cQ,bN,bO,dA,aB,aM,bW,aH]
  rfl
 | some x=>
  obtain⟨f,k⟩:=x
  have hk:=yR hg
  rw[hg] at cG
  simp only[aNq] at cG
  refine aC fun K hK=>aA [] ?_
  simp only[seval,kZs,aU,bF,aT,bA,aJ,bW]
  refine aV (by simp[aJ]) cG rfl ?_
  simp only[seval,kZs,aK,gW,dF,bS,iS,cav,bQ,bX,bD,bB,spl,aI,oR,lU,wH,lM,List.drop_nil]
  refine hK _ ?_
  clear hK K
  refine aE [0,4,5,6,7] ?_
  simp only[seval,kZq]
  refine aC fun K3 hK3=>?_
  refine aC fun K hK=>aA [] ?_
  simp only[seval,kZs,aun,Bool.not_true,aI]
  and_intros<;>try first|exact⟨⟩|omega
  refine hK _ ?_
  clear hK K
  refine aR rfl (bC (hK3 _ ?_))
  clear hK3 K3
  refine aE [0,4,5,6] ?_
  simp only[seval,kZq]
  have hzr:kZ [Value.int IntKind.u8 0,Value.string ⟨#[]⟩] 1=[AV.val (.int .u8 0),AV.val (.string ⟨#[]⟩)]:=rfl
  have hfo:(Fs out).length=out.length*2:=qE out
  have hob:out.length+1≤1048576:=by omega
  refine aC fun K hK=>aA [] ?_
  simp only[seval,kZs,aY,oR,apart,aO,hu,bD,lM,aDQ,dV,Tryz.underlying186,bS,hzr,dO,eM,spl,Nat.zero_mul,bB,dL,bI,fP,lX,gC,eQ,hfo,aI,wH,List.drop_nil]
  refine⟨⟨by omega,by omega⟩,hK _ ?_⟩
  clear hK K
  refine lT (d+1) ?_
  rw[List.set_cons_succ,lU,rN,show Fs out++FA f=Fs (out++[f]) by rw[aIk,aOw],show out.length+1=(out++[f]).length by simp]
  refine aE [0,4,6] ?_
  simp only[seval,kZq]
  have e1:((r.length:Int) - (k:Int)).toNat=(r.drop k).length:=by rw[List.length_drop];omega
  have e2:(r.drop k).take (r.length - k)=r.drop k:=List.take_of_length_le (by rw[List.length_drop];exact Nat.le_refl _)
  refine aA [] ?_
  simp only[seval,kZs,eY,iR,Option.map_some,Option.map_none,Tryz.underlying54,bD,aX,Nat.mul_one,eJ,dH,Int.le_refl,ne_eq,not_true_eq_false,or_false,e1,List.length_drop,Int.toNat_natCast,eA,eS,e2,iC]
  refine⟨by omega,?_⟩
  simp only[bL,aI]
  refine⟨(r.drop k,out++[f],d+1),⟨?_,?_⟩,?_,?_⟩
  ·simp only[List.length_drop,List.length_append,List.length_cons,List.length_nil];omega
  ·rw[hall,aAl hg]
   cases mB (r.drop k)<;>simp
  ·simp only[List.length_drop];omega
  ·rw[show r.length - k=(r.drop k).length by rw[List.length_drop]]
   exact .of_keep [0,4] rfl
theorem aQa (b:List UInt8) (p:Perm):ACalls Tryz.prog G0 170 [.sl b.length (Bs b) p] [] (fun r os=>os=[]∧r=.tup [.agg (Bs (if b.length=32 then b else Z 32)),.val (.bool (decide (b.length=32)))]):=by
 refine aQ Tryz.func170 rfl rfl Tryz.ntmps170 (rts:=#[23,4]) rfl Tryz.results170 (by simp) ?_
 simp only[seval,aZ]
 refine aC fun K hK=>aA [] ?_
 simp only[seval,kZs,dF,bS,jK,cav,aI]
 and_intros<;>try first|exact⟨⟩|omega
 refine hK _ ?_
 clear hK K
 refine aC fun K1 hK1=>?_
 refine aC fun K hK=>aA [] ?_
 simp only[seval,kZs,bI,bV,eN,Tryz.underlying54,cav,aL,aI,aP,bH,aLR]
 refine hK _ ?_
 clear hK K
 refine fB rfl rfl (fun h=>?_) (fun h=>?_)
 ·have hne:b.length≠32:=by simpa using h
  refine aE [2] ?_
  simp only[seval,kZq]
  refine aC fun K hK=>aA [] ?_
  simp only[seval,kZs,fA,bS,Tryz.underlying23,bD,Nat.mul_one,jK,dO,eM,bQ,bX,bB,aX,eZ,spl,eA,cav,aI,eR]
  and_intros<;>try first|exact⟨⟩|omega
  refine hK _ ?_
  clear hK K
  refine aS ?_
  simp only[seval,qq,aI,bR,cQ,bN,bO,aY,aB,apart,aO,Tryz.underlying23,bD,dA,aH]
  rw[if_neg hne,decide_eq_false hne]
  have e:List.take 32 (Bs (Z 32)++Bs (List.drop 32 (Z 32)))=Bs (Z 32):=rfl
  rw[e]
  simp[aJ,aX,eZ]
 have hl:b.length=32:=by simpa using h
 refine bC (hK1 _ ?_)
 clear hK1 K1
 refine aE [0,2] ?_
 simp only[seval,kZq]
 have ht:List.take 32 b=b:=List.take_of_length_le (by omega)
 refine aC fun K hK=>aA [] ?_
 simp only[seval,kZs,hl,qI,Tryz.underlying23,aX,aY,apart,aO,bD,bQ,bX,bB,eZ,spl,eA,cav,aI,eS,ht,eR]
 and_intros<;>try first|exact⟨⟩|omega
 refine hK _ ?_
 clear hK K
 have hd:List.drop 32 (Z 32)=[]:=rfl
 refine aS ?_
 simp only[seval,qq,hl,hd,gV,bR,cQ,bN,bO,aY,aB,apart,aO,Tryz.underlying23,bD,aX,eS,ht,dA,aH,aJ]
 simp
def uH (c:CavV):List eK:=if c.third then [(4,vb c.party),(5,c.id),(6,c.vault)] else [(3,c.text)]
def mT (t:TokV):List eK:=[(1,vb t.key),(2,t.id)]++t.cavs.flatMap uH++[(7,[if t.bound then 1 else 0]),(8,t.tag)]
theorem aEH [Gv] (c:CavV):V.join (uH c)=kU c:=by unfold uH kU;split<;>rfl
theorem aJX [Gv] (l:List CavV):V.join (l.flatMap uH)=l.flatMap kU:=by
 induction l with
 | nil=>rfl
 | cons c l ih=>rw[List.flatMap_cons,List.flatMap_cons,V.nF,ih,aEH]
theorem xG [Gv] (t:TokV):V.join (mT t)=oS t:=by unfold mT oS;rw[V.nF,V.nF,aJX]
def RD (l:List eK) (b:Bool):List AV:=[.sl l.length (Fs l) .no,.val (.bool b)]
theorem qX [Gv] (l:List eK):aM (Fs l)=true:=by
 induction l with
 | nil=>rfl
 | cons f l ih=>rw[show Fs (f::l)=FA f++Fs l from rfl,dK,yU,ih];rfl
theorem mM [Gv] (l:List eK) (b:Bool):aM (RD l b)=true:=by simp[RD,aM,aH,qX]
def tH (l:List eK) (k:UInt8):Bool:=match l with
 | []=>false
 | f::_=>f.1 == k
theorem aIM [Gv] (l:List eK) (b:Bool) (k:UInt8):ACalls Tryz.prog G0 217 [.ptr 0 0,.val (.int .u8 (k.toNat:Int))] [.cells (RD l b)] (fun r os=>os=[.cells (RD l b)]∧r=.val (.bool (tH l k))):=by
 have hR:RD l b=[.sl l.length (Fs l) .no,.val (.bool b)]:=rfl
 have hnR:=mM l b
 rw[hR] at *
 cases l with
 | nil=>
  refine dB Tryz.func217 rfl rfl Tryz.ntmps217 (rts:=#[4]) rfl Tryz.results217 (by simp) ?_
  simp only[seval,aZ]
  refine aC fun K hK=>aA [] ?_
  simp only[seval,kZs,cav,aI]
  and_intros<;>try first|exact⟨⟩|omega
  refine hK _ ?_
  clear hK K
  refine aE [0,1] ?_
  simp only[seval,kZq]
  refine aC fun K hK=>aA [] ?_
  simp only[seval,kZs,fY,aN,Tryz.underlying251,bD,ne_eq,aY,apart,aO,Tryz.underlying186,bI,bV,eN,cav,aL,Nat.zero_lt_succ,Int.cast_ofNat_Int,aP,bH,Int.lt_irrefl,decide_false,dD,bT,Option.bind_some,aW,Bool.not_true,eW,gok,bU,aI]
  and_intros<;>try first|exact⟨⟩|omega
  refine hK _ ?_
  clear hK K
  refine aE [4] ?_
  simp only[seval,kZq]
  refine aS ?_
  refine sW _ rfl hnR ?_
  simp only[qq,gS,gB,fJ,fR,aB,aH]
  rfl
 | cons f l=>
  obtain⟨k',v⟩:=f
  have hF:Fs ((k',v)::l)=.val (.int .u8 (k'.toNat:Int))::.val (.string ⟨v.toArray⟩)::Fs l:=rfl
  have hFl:(Fs l).length=l.length*2:=qE l
  rw[hF] at *
  refine dB Tryz.func217 rfl rfl Tryz.ntmps217 (rts:=#[4]) rfl Tryz.results217 (by simp) ?_
  simp only[seval,aZ]
  refine aC fun K hK=>aA [] ?_
  simp only[seval,kZs,cav,aI]
  and_intros<;>try first|exact⟨⟩|omega
  refine hK _ ?_
  clear hK K
  refine aE [0,1] ?_
  simp only[seval,kZq]
  refine aC fun K hK=>aA [] ?_
  simp only[seval,kZs,fY,aN,Tryz.underlying251,bD,ne_eq,aY,apart,aO,Tryz.underlying186,bI,bV,eN,cav,aL,Nat.zero_lt_succ,aP,bH,yM,decide_true,dD,bT,Option.bind_some,aW,dQ,gok,dN,Int.le_refl,Int.toNat_zero,Nat.zero_mul,Tryz.underlying124,Tryz.underlying5,bU,aI,hFl,aOj]
  refine⟨⟨by omega,by omega⟩,hK _ ?_⟩
  clear hK K
  refine aE [0,4] ?_
  simp only[seval,kZq]
  refine aS ?_
  refine sW _ rfl hnR ?_
  simp only[seval,qq,gS,gB,fJ,fR,aB,aH]
  have hk:((k'.toNat == k.toNat):Bool)=(k' == k):=by
   rw[Bool.eq_iff_iff]
   simp only[beq_iff_eq]
   exact⟨fun h=>UInt8.toNat_inj.1 h,fun h=>by rw[h]⟩
  simp[tH,hk]
theorem xW [Gv] (l:List eK) (b:Bool) (k:UInt8) (v:List UInt8) (hl:l.length≤1000000000):ACalls Tryz.prog G0 168 [.ptr 0 0,.val (.int .u8 (k.toNat:Int))] [.cells (RD ((k,v)::l) b)] (fun r os=>os=[.cells (RD l b)]∧r=str v):=by
 have cI:=aIM ((k,v)::l) b k
 have hnR:=mM ((k,v)::l) b
 have hnR':=mM l b
 have hR:RD ((k,v)::l) b=[.sl (l.length+1) (.val (.int .u8 (k.toNat:Int))::.val (.string ⟨v.toArray⟩)::Fs l) .no,.val (.bool b)]:=rfl
 have hR':RD l b=[.sl l.length (Fs l) .no,.val (.bool b)]:=rfl
 have hFl:(Fs l).length=l.length*2:=qE l
 have hFt:(Fs l).take (l.length*2)=Fs l:=List.take_of_length_le (by omega)
 have hnF:=qX l
 rw[show tH ((k,v)::l) k=true by simp[tH]] at cI
 refine dB Tryz.func168 rfl rfl Tryz.ntmps168 (rts:=#[9]) rfl Tryz.results168 (by simp) ?_
 simp only[seval,aZ]
 refine aC fun K hK=>aA [] ?_
 simp only[seval,kZs,cav,aI]
 and_intros<;>try first|exact⟨⟩|omega
 refine hK _ ?_
 clear hK K
 refine aE [0,1] ?_
 simp only[seval,kZq]
 refine aC fun K1 hK1=>?_
 refine aC fun K hK=>aA [1000008] ?_
 simp only[seval,kZs,aU,List.contains_cons,beq_self_eq_true,bF,aT,bA,aH]
 refine gR (v':=.val (.bool true)) 0 (.cells (RD ((k,v)::l) b)) rfl (by simpa[eH] using hnR) (by simp[fH,iV,aH]) cI (by simp[eH,hnR]) (by simp[iL,aH]) ?_
 simp only[seval,kZs,dE,aun,Bool.not_true,aI]
 refine hK _ ?_
 clear hK K
 refine aR rfl (bC (hK1 _ ?_))
 clear hK1 K1
 refine aE [0] ?_
 simp only[seval,kZq]
 rw[hR]
 refine aC fun K hK=>aA [] ?_
 simp only[seval,kZs,fY,aN,Tryz.underlying251,bD,ne_eq,aY,apart,aO,Tryz.underlying186,dN,cav,Int.le_refl,Int.toNat_zero,Nat.zero_mul,Tryz.underlying124,Tryz.underlying9,aI,Nat.zero_lt_succ,hFl]
 refine⟨⟨by omega,by omega⟩,hK _ ?_⟩
 clear hK K
 refine aE [0,5] ?_
 simp only[seval,kZq]
 have e1:((((l.length+1:Nat):Int) - 1).toNat)=l.length:=by omega
 refine aC fun K hK=>aA [] ?_
 simp only[seval,kZs,fY,aN,Tryz.underlying251,bD,ne_eq,aY,apart,aO,Tryz.underlying186,eY,iR,Option.map_some,cav,Option.map_none,eJ,dH,Int.le_refl,not_true_eq_false,or_false,iC,Int.toNat_natCast,bQ,bX,bB,spl,aI,Nat.zero_lt_succ,hFl,e1,hFt,List.all_cons,dC,List.all_nil]
 refine⟨⟨by omega,by omega⟩,hK _ ?_⟩
 clear hK K
 refine aE [0,5] ?_
 simp only[seval,kZq]
 refine aC fun K hK=>aA [] ?_
 simp only[seval,kZs,aI]
 and_intros<;>try first|exact⟨⟩|omega
 refine hK _ ?_
 clear hK K
 refine aE [0,4] ?_
 simp only[seval,kZq]
 rw[hR'] at hnR'
 refine aS ?_
 refine sW _ rfl hnR' ?_
 simp only[seval,qq,gS,gB,fJ,fR,aB,aH]
 exact⟨rfl,rfl⟩
theorem aHZ [Gv] (l:List eK) (k:UInt8) (n:Nat) (hn:n<18446744073709551616) (hl:l.length≤1000000000):ACalls Tryz.prog G0 167 [.ptr 0 0,.val (.int .u8 (k.toNat:Int))] [.cells (RD ((k,vb n)::l) false)] (fun r os=>os=[.cells (RD l false)]∧r=.val (.int .u64 (n:Int))):=by
 have cT:=xW l false k (vb n) hl
 have hG:=aQK [] hn
 rw[List.append_nil] at hG
 have h10:=jI hn
 have hne:=List.length_pos_iff.2 (aBp n)
 have cG:=aIg (vb n) .no (by omega)
 rw[hG,aId] at cG
 have hnR:=mM ((k,vb n)::l) false
 have hnR':=mM l false
 have hR':RD l false=[.sl l.length (Fs l) .no,.val (.bool false)]:=rfl
 generalize vb n=v at *
 simp only[str] at cT
 refine dB Tryz.func167 rfl rfl Tryz.ntmps167 (rts:=#[30]) rfl Tryz.results167 (by simp) ?_
 simp only[seval,aZ]
 refine aC fun K hK=>aA [] ?_
 simp only[seval,kZs,cav,aI]
 and_intros<;>try first|exact⟨⟩|omega
 refine hK _ ?_
 clear hK K
 refine aE [0,1] ?_
 simp only[seval,kZq]
 refine aC fun K hK=>aA [1000010] ?_
 simp only[seval,kZs,aU,List.contains_cons,beq_self_eq_true,bF,aT,bA,aH]
 refine gR (v':=.val (.string ⟨v.toArray⟩)) 0 (.cells (RD ((k,v)::l) false)) rfl (by simpa[eH] using hnR) (by simp[fH,iV,aH]) cT (by simp[eH,hnR']) (by simp[iL,aH]) ?_
 simp only[seval,kZs,dE,eL,Tryz.underlying54,mG,Tryz.underlying9,Tryz.underlying5,dJ,aI]
 refine hK _ ?_
 clear hK K
 refine aE [0,5] ?_
 simp only[seval,kZq]
 refine aC fun K hK=>aA [] ?_
 simp only[seval,kZs,aU,bF,aT,bA,aJ,bW]
 refine aV (by simp[aJ,aM,aH]) (cG) (by simp[aH,aM,aJ,flat]) ?_
 simp only[seval,kZs,aK,gW,aI]
 refine hK _ ?_
 clear hK K
 refine aE [0,5,6,7] ?_
 simp only[seval,kZq]
 have d1:((v.length:Int) == 0)=false:=by rw[beq_eq_false_iff_ne];omega
 have d2:((v.length:Int) != (v.length:Int))=false:=by simp
 rw[hR'] at *
 refine aC fun K hK=>aA [] ?_
 simp only[seval,kZs,fY,aN,Tryz.underlying251,bD,ne_eq,aY,apart,aO,Tryz.underlying4,List.getD_cons_succ,dD,bT,Option.bind_some,aW,Bool.not_false,dQ,gok,cav,aL,aP,bH,d1,bU,bI,bV,eN,Tryz.underlying54,bQ,bX,bB,spl,aI,d2,List.all_cons,dC,Value.oneCell',List.all_nil,List.drop_nil]
 refine hK _ ?_
 clear hK K
 refine aE [0,6] ?_
 simp only[seval,kZq]
 refine aC fun K hK=>aA [] ?_
 simp only[seval,kZs,aI]
 and_intros<;>try first|exact⟨⟩|omega
 refine hK _ ?_
 clear hK K
 refine aE [0,4] ?_
 simp only[seval,kZq]
 refine aS ?_
 refine sW _ rfl hnR' ?_
 simp only[seval,qq,gS,gB,fJ,fR,aB,aH]
def tf (l:List (List UInt8)):List eK:=l.map fun s=>(3,s)
theorem aDP [Gv] (l:List (List UInt8)):(CS (l.map eO)).length=l.length*5:=by rw[mD,List.length_map]
theorem aMc [Gv] (ts:List (List UInt8)) (rest:List eK) (h3:tH rest 3=false) (h4:tH rest 4=false) (hl:(tf ts++rest).length≤1000000000) :
  ACalls Tryz.prog G0 169 [.ptr 0 0] [.cells (RD (tf ts++rest) false)] (fun r os=>os=[.cells (RD rest false)]∧r=.sl ts.length (CS (ts.map eO)) .no):=by
 have hnR:∀ l,aM (RD l false)=true:=fun l=>mM l false
 have hR:∀ l,RD l false=[.sl l.length (Fs l) .no,.val (.bool false)]:=fun l=>rfl
 refine dB Tryz.func169 rfl rfl Tryz.ntmps169 (rts:=#[65]) rfl Tryz.results169 (by simp) ?_
 simp only[seval,aZ]
 refine aC fun K hK=>aA [] ?_
 simp only[seval,kZs,cav,aI]
 and_intros<;>try first|exact⟨⟩|omega
 refine hK _ ?_
 clear hK K
 refine aC fun K hK=>aA [] ?_
 simp only[seval,kZs,cav,aI]
 and_intros<;>try first|exact⟨⟩|omega
 refine hK _ ?_
 clear hK K
 refine oA 5 3 rfl ?_
 refine aE [0,3] ?_
 simp only[seval,kZq]
 refine aC fun K1 hK1=>?_
 refine bK ?_
 refine bZ (fun i:Nat=>⟨36,[(0,.ptr 0 0),(3,.sl i (CS ((ts.take i).map eO)) (.tok 1))],[.cells (RD (tf (ts.drop i)++rest) false),.tok 5 i]⟩)
  (fun i=>i≤ts.length) (fun i=>ts.length - i) 0 (by omega) (.of_keep [0,3] rfl) ?_
 intro i hi
 clear hK1
 refine bJ ?_
 refine bJ ?_
 rw[hR]
 refine aA [] ?_
 simp only[seval,kZs,fY,aN,Tryz.underlying251,bD,ne_eq,aY,apart,aO,Tryz.underlying4,aun,aI,List.getD_cons_succ,Bool.not_false]
 refine bG rfl (bC ?_)
 simp only[aI]
 refine aE [0,3] ?_
 simp only[seval,kZq]
 refine bK ?_
 refine bK ?_
 refine bJ ?_
 rw[← hR]
 rcases Nat.lt_or_ge i ts.length with hlt|hge
 ·have hdr:ts.drop i=ts[i]::ts.drop (i+1):=List.drop_eq_getElem_cons hlt
  have htk:(ts.take (i+1)).map eO=(ts.take i).map eO++[eO ts[i]]:=by rw[List.take_add_one,List.getElem?_eq_getElem hlt,List.map_append];rfl
  have hlr:(tf (ts.drop (i+1))++rest).length≤1000000000:=by
   simp only[tf,List.length_append,List.length_map,List.length_drop] at hl ⊢
   omega
  have hlt2:ts.length≤1000000000:=by simp only[tf,List.length_append,List.length_map] at hl;omega
  rw[hdr]
  generalize ts[i]=v at *
  rw[show tf (v::ts.drop (i+1))++rest=(3,v)::(tf (ts.drop (i+1))++rest) from rfl]
  have cI:=aIM ((3,v)::(tf (ts.drop (i+1))++rest)) false 3
  have cT:=xW (tf (ts.drop (i+1))++rest) false 3 v hlr
  rw[show tH ((3,v)::(tf (ts.drop (i+1))++rest)) 3=true by simp[tH]] at cI
  have hCl:(CS ((ts.take i).map eO)).length=i*5:=by rw[aDP,List.length_take];omega
  generalize hfl:tf (ts.drop (i+1))++rest=fl at *
  refine aA [1000013] ?_
  simp only[seval,kZs,aU,List.contains_cons,beq_self_eq_true,cav,bF,aT,bA,aH]
  refine gR (v':=.val (.bool true)) 0 (.cells (RD ((3,v)::fl) false)) rfl (by simpa[eH] using hnR _) (by simp[fH,iV,aH]) cI (by simp[eH,hnR]) (by simp[iL,aH]) ?_
  simp only[seval,kZs,dE,aI]
  refine bG rfl ?_
  refine aE [0,3] ?_
  simp only[seval,kZq]
  refine aA [1000016] ?_
  simp only[seval,kZs,aU,List.contains_cons,beq_self_eq_true,cav,bF,aT,bA,aH]
  refine gR (v':=str v) 0 (.cells (RD ((3,v)::fl) false)) rfl (by simpa[eH] using hnR _) (by simp[fH,iV,aH]) cT (by simp[eH,hnR]) (by simp[iL,aH,str]) ?_
  simp only[seval,kZs,str,dE,fA,bS,Tryz.underlying74,kO,cav,dO,eM,spl,bB,List.all_cons,dC,Value.oneCell',List.all_nil,List.contains_cons,dV,Tryz.underlying65,bD,qC,Nat.zero_mul,dL,bI,fP,lX,gC,eQ,hCl,List.drop_nil]
  refine⟨⟨by omega,by omega⟩,?_⟩
  simp only[bL,aI]
  rw[show CS ((ts.take i).map eO)++[.val (.bool false),.val (.string ⟨v.toArray⟩),.val (.int .u64 0),.val (.string ⟨#[]⟩),.val (.string ⟨#[]⟩)]=CS ((ts.take (i+1)).map eO) from by rw[htk,aCE,aKV];rfl]
  subst hfl
  exact⟨i+1,by omega,by omega,.of_keep [0,3] rfl⟩
 ·have he:i=ts.length:=by omega
  subst he
  rw[List.drop_length,List.take_length]
  rw[show tf []++rest=rest from rfl]
  have cI:=aIM rest false 3
  have cJ:=aIM rest false 4
  rw[h3] at cI
  rw[h4] at cJ
  refine aA [1000013] ?_
  simp only[seval,kZs,aU,List.contains_cons,beq_self_eq_true,cav,bF,aT,bA,aH]
  refine gR (v':=.val (.bool false)) 0 (.cells (RD rest false)) rfl (by simpa[eH] using hnR _) (by simp[fH,iV,aH]) cI (by simp[eH,hnR]) (by simp[iL,aH]) ?_
  simp only[seval,kZs,dE,aI]
  refine aR rfl ?_
  refine aE [0,3] ?_
  simp only[seval,kZq]
  refine bJ ?_
  refine aA [1000022] ?_
  simp only[seval,kZs,aU,List.contains_cons,beq_self_eq_true,cav,bF,aT,bA,aH]
  refine gR (v':=.val (.bool false)) 0 (.cells (RD rest false)) rfl (by simpa[eH] using hnR _) (by simp[fH,iV,aH]) cJ (by simp[eH,hnR]) (by simp[iL,aH]) ?_
  simp only[seval,kZs,dE,aI]
  refine aR rfl ?_
  refine aE [3] ?_
  simp only[seval,kZq]
  refine lH 3 rfl ?_
  refine aE [3] ?_
  simp only[seval,kZq]
  refine aC fun K hK=>aA [] ?_
  simp only[seval,kZs,aI]
  and_intros<;>try first|exact⟨⟩|omega
  refine hK _ ?_
  clear hK K
  refine aE [2] ?_
  simp only[seval,kZq]
  refine aS ?_
  simp only[bL,aI]
  refine sW _ rfl (hnR _) ?_
  exact⟨⟨trivial,trivial⟩,by simp[aH,gZ,lk],rfl,rfl⟩
def wC (t:TokV) (ts:List (List UInt8)):Prop:=t.cavs=ts.map eO
theorem aGw [Gv] (ts:List (List UInt8)):(ts.map eO).flatMap uH=tf ts:=by
 induction ts with
 | nil=>rfl
 | cons s l ih=>rw[List.map_cons,List.flatMap_cons,ih];rfl
theorem aCC [Gv] {t:TokV} {ts:List (List UInt8)} (h:wC t ts):mT t=(1,vb t.key)::(2,t.id)::(tf ts++[(7,[if t.bound then 1 else 0]),(8,t.tag)]):=by
 have:t.cavs.flatMap uH=tf ts:=by rw[h,aGw]
 simp[mT,this]
theorem aHU [Gv] (t:TokV) (ts:List (List UInt8)) (hs:small t) (hpl:wC t ts) (hok:okT t=true) (hl:(oS t).length≤1048576) :
  ACalls Tryz.prog G0 103 [.sl (oS t).length (Bs (oS t)) .no] [] (fun r os=>os=[]∧r=.tup [.agg (TA t .no),.val (.int .i64 0)]):=by
 have cA:=aII (oS t) hl
 have hbk:kK (mT t)≤1048576:=by
  have h1:=aJD (mT t)
  rw[xG] at h1
  omega
 have hal:mB (oS t)=some (mT t):=by
  rw[← xG]
  exact vJ _ (by omega)
 rw[hal] at cA
 have hff:=aCC hpl
 have hfl:(tf ts).length≤1048576:=by
  have h1:=tM (mT t)
  have h2:(mT t).length≤1048576:=by omega
  rw[hff] at h2
  simp only[List.length_cons,List.length_append] at h2
  omega
 have hR:∀ l b,RD l b=[.sl l.length (Fs l) .no,.val (.bool b)]:=fun l b=>rfl
 have hnR:∀ l b,aM (RD l b)=true:=mM
 have c1:=aHZ ((2,t.id)::(tf ts++[(7,[if t.bound then 1 else 0]),(8,t.tag)])) 1 t.key hs.2.2.2.2.1 (by simp only[List.length_cons,List.length_append,List.length_nil];omega)
 have c2:=xW (tf ts++[(7,[if t.bound then 1 else 0]),(8,t.tag)]) false 2 t.id (by simp only[List.length_cons,List.length_append,List.length_nil];omega)
 have c3:=aMc ts [(7,[if t.bound then 1 else 0]),(8,t.tag)] rfl rfl (by simp only[List.length_cons,List.length_append,List.length_nil];omega)
 have c4:=xW [(8,t.tag)] false 7 [if t.bound then 1 else 0] (by simp)
 have c5:=xW [] false 8 t.tag (by simp)
 rw[← hff] at c1
 have cK:=rA t .no hs rfl
 rw[hok,if_pos rfl] at cK
 have hz0:=uT
 have hlz:=eP fK .full (by simp[fK])
 have hT:TA t .no=[.val (.int .u64 (t.key:Int)),str t.id,.sl ts.length (CS (ts.map eO)) .no,.val (.bool t.bound)]++Bs t.tag:=by
  rw[TA,hpl,List.length_map]
 have hlT:=eP t .no hs.2.2.2.1
 have hoT:=gP t .no
 have hnT:=fQ t .no rfl
 have ht32:=hs.2.2.2.1
 generalize mT t=ff at *
 generalize TA t .no=T at *
 generalize TA fK .full=T0 at *
 generalize oS t=e at *
 simp only[str] at *
 refine aQ Tryz.func103 rfl rfl Tryz.ntmps103 (rts:=#[67,37]) rfl Tryz.results103 (by simp) ?_
 simp only[seval,aZ]
 refine aC fun K hK=>aA [] ?_
 simp only[seval,kZs,dF,bS,cav,aI]
 and_intros<;>try first|exact⟨⟩|omega
 refine hK _ ?_
 clear hK K
 rw[hz0]
 refine aC fun K hK=>aA [] ?_
 simp only[seval,kZs,aU,bF,aT,bA,aJ,bW]
 refine aV (by simp[aJ]) cA (by simp[aNV,aH,aM,qX]) ?_
 simp only[seval,kZs,aNV,aK,gW,aI]
 refine hK _ ?_
 clear hK K
 refine aE [2,3,4,5] ?_
 simp only[seval,kZq]
 refine aC fun K hK=>aA [] ?_
 simp only[seval,kZs,aun,Bool.not_true,fA,bS,Tryz.underlying251,kO,cav,dO,eM,spl,bB,List.all_cons,dC,List.all_nil,eF,fN,aI,Bool.true_and,Value.oneCell',List.drop_nil]
 refine hK _ ?_
 clear hK K
 refine aE [2,3,6] ?_
 simp only[seval,kZq]
 rw[← hR]
 refine aC fun K hK=>aA [1000022,1000024] ?_
 simp only[seval,kZs,aU,List.contains_cons,beq_self_eq_true,cav,bF,aT,bA,aH]
 refine gR (v':=.val (.int .u64 (t.key:Int))) 1 (.cells (RD ff false)) rfl (by simpa[eH] using hnR _ _) (by simp[fH,iV,aH]) c1 (by simp[eH,hnR]) (by simp[iL,aH]) ?_
 simp only[seval,kZs,dE,aU,List.contains_cons,beq_self_eq_true,Bool.false_or,cav,bF,aT,bA,aH]
 refine gR (v':=.val (.string ⟨t.id.toArray⟩)) 1 (.cells (RD _ false)) rfl (by simpa[eH] using hnR _ _) (by simp[fH,iV,aH]) c2 (by simp[eH,hnR]) (by simp[iL,aH]) ?_
 simp only[seval,kZs,dE,fA,bS,Tryz.underlying67,kO,cav,dO,eM,spl,bB,List.all_cons,dC,Value.oneCell',List.all_nil,dF,bQ,bX,bD,aI,List.drop_nil]
 refine hK _ ?_
 clear hK K
 refine aE [2,3,6,7] ?_
 simp only[seval,kZq]
 have e1:([(if t.bound=true then 1 else 0:UInt8)] == [1])=t.bound:=by cases t.bound<;>rfl
 have e2:(!([(if t.bound=true then 1 else 0:UInt8)] == [0]))=t.bound:=by cases t.bound<;>rfl
 generalize (if t.bound=true then 1 else 0:UInt8)=bb at *
 refine aC fun K hK=>aA [1000027] ?_
 simp only[seval,kZs,aU,List.contains_cons,beq_self_eq_true,bF,aT,bA]
 refine gR (v':=.sl ts.length (CS (ts.map eO)) .no) 1 (.cells (RD _ false)) rfl (by simpa[eH] using hnR _ _) (by simp[fH,iV,aH]) c3 (by simp[eH,hnR]) (by simp[iL,aH,gZ]) ?_
 simp only[seval,kZs,dE,aN,Tryz.underlying67,bD,ne_eq,bQ,bX,bB,List.all_cons,dC,List.all_nil,spl,aI]
 refine hK _ ?_
 clear hK K
 refine aE [2,3,6,7] ?_
 simp only[seval,kZq]
 refine aC fun K hK=>aA [1000030] ?_
 simp only[seval,kZs,aU,List.contains_cons,beq_self_eq_true,cav,bF,aT,bA,aH]
 refine gR (v':=.val (.string ⟨#[bb]⟩)) 1 (.cells (RD _ false)) rfl (by simpa[eH] using hnR _ _) (by simp[fH,iV,aH]) c4 (by simp[eH,hnR]) (by simp[iL,aH]) ?_
 simp only[seval,kZs,dE,aI]
 refine hK _ ?_
 clear hK K
 refine aE [2,3,6,7,8] ?_
 simp only[seval,kZq]
 refine aC fun K hK=>aA [] ?_
 simp only[seval,kZs,cav,aL,aP,gL,ByteArray.toList_mk,e1,aN,Tryz.underlying67,bD,ne_eq,bQ,bX,bB,List.all_cons,dC,Value.oneCell',List.all_nil,spl,aI]
 refine hK _ ?_
 clear hK K
 refine aE [2,3,6,7,8] ?_
 simp only[seval,kZq]
 have cO:=aQa t.tag .no
 rw[if_pos ht32,decide_eq_true ht32,ht32] at cO
 have hbt:(Bs t.tag).length=32:=by rw[aX];omega
 have hbo:(Bs t.tag).all dC=true:=by
  rw[List.all_eq_true]
  intro x hx
  obtain⟨z,_,rfl⟩:=List.mem_map.1 hx
  rfl
 have htt:t.tag.take 32=t.tag:=List.take_of_length_le (by omega)
 have hz:(Z 32).drop 32=[]:=List.drop_eq_nil_of_le (by rw[eZ];exact Nat.le_refl _)
 refine aC fun K hK=>aA [1000036] ?_
 simp only[seval,kZs,aU,List.contains_cons,beq_self_eq_true,cav,bF,aT,bA,aH]
 refine gR (v':=.val (.string ⟨t.tag.toArray⟩)) 1 (.cells (RD _ false)) rfl (by simpa[eH] using hnR _ _) (by simp[fH,iV,aH]) c5 (by simp[eH,hnR]) (by simp[iL,aH]) ?_
 simp only[seval,qq,dE,eL,Tryz.underlying54,mG,aB,Tryz.underlying9,Tryz.underlying5,dJ,ht32,aU,List.contains_cons,bF,aT,bA,aJ,bW]
 refine aV (by simp[aJ]) cO (by simp[aH,aM,aJ]) ?_
 simp only[seval,kZs,aK,gW,dF,bS,jK,bQ,bX,bD,bB,spl,aI,aX,eZ,eA,hbo,hbt,hz,gV]
 refine hK _ ?_
 clear hK K
 refine aE [2,3,6,7,8,9,10] ?_
 simp only[seval,kZq]
 refine aC fun K hK=>aA [] ?_
 simp only[seval,kZs,aY,apart,aO,Tryz.underlying23,bD,hbt,eS,htt,aN,Tryz.underlying67,ne_eq,bQ,bX,bB,spl,aI,hbo,List.drop_nil]
 refine hK _ ?_
 clear hK K
 simp only[List.cons_append,List.nil_append] at hT
 rw[← hT]
 rw[hR]
 refine aE [2,3,6,7,8,10] ?_
 simp only[seval,kZq]
 have gT3:T.getD 3 .top=.val (.bool t.bound):=by rw[hT];rfl
 have hTt:T.take 36=T:=List.take_of_length_le (by omega)
 have hTd:T.drop 36=[]:=List.drop_eq_nil_of_le (by omega)
 refine aC fun K1 hK1=>?_
 refine aC fun K hK=>?_
 have next:∀ s,gE G0 s ⟨75,[(72,.val (.bool false)),(2,.ptr 0 0),(7,.ptr 2 0)],[.cells T0,.cells [.sl 0 (Fs []) .no,.val (.bool false)],.cells T,.cells (Bs t.tag)]⟩→K s:=by
  intro s hw
  refine hK s (eX hw ?_)
  clear hw hK K
  refine aR rfl (bC (hK1 _ ?_))
  clear hK1 K1
  refine aE [2,7] ?_
  simp only[seval,kZq]
  refine aC fun K hK=>aA [] ?_
  simp only[seval,kZs,aY,apart,aO,Tryz.underlying67,bD,hlT,hTt,bQ,bX,bB,hlz,spl,cav,aI,hoT]
  refine hK _ ?_
  clear hK K
  refine aE [2,3] ?_
  simp only[seval,kZq]
  refine aS ?_
  simp only[seval,qq,List.drop_eq_nil_of_le (Nat.le_of_eq hlz),bR,cQ,bN,bO,aY,aB,apart,aO,Tryz.underlying67,bD,hlT,hTt,dA,aH,hnT]
 refine aA [] ?_
 cases hbd:t.bound with
 | true=>
  rw[hbd] at e2 gT3
  simp only[seval,kZs,fY,aN,Tryz.underlying251,bD,ne_eq,aY,apart,aO,Tryz.underlying4,List.getD_cons_succ,dD,bT,Option.bind_some,aW,Bool.not_false,dQ,gok,aun,Bool.not_true,bU,cav,Tryz.underlying186,bI,bV,eN,aL,Nat.zero_lt_succ,Int.cast_ofNat_Int,aP,bH,Int.lt_irrefl,decide_false,gL,ByteArray.toList_mk,e2,Tryz.underlying67,hlT,gT3,hTt,aU,bF,aT,bA,bW,List.headD_cons,aH]
  refine aV hnT cK rfl ?_
  simp only[seval,kZs,aK,dD,bT,Option.bind_some,aW,Bool.not_false,dQ,gok,cav,aL,aP,bH,bU,aI]
  exact next _ (.of_keep [72,2,7] (by exact rfl))
 | false=>
  rw[hbd] at e2 gT3
  simp only[seval,kZs,fY,aN,Tryz.underlying251,bD,ne_eq,aY,apart,aO,Tryz.underlying4,List.getD_cons_succ,dD,bT,Option.bind_some,aW,Bool.not_false,dQ,gok,aun,Bool.not_true,bU,cav,Tryz.underlying186,bI,bV,eN,aL,Nat.zero_lt_succ,Int.cast_ofNat_Int,aP,bH,Int.lt_irrefl,decide_false,gL,ByteArray.toList_mk,e2,eW,Tryz.underlying67,hlT,hTt,aU,bF,aT,bA,bW,List.headD_cons,aH]
  refine aV hnT cK rfl ?_
  simp only[seval,kZs,aK,dD,bT,Option.bind_some,aW,Bool.not_false,dQ,gok,cav,aL,aP,bH,bU,aI]
  exact next _ (.of_keep [72,2,7] (by exact rfl))
end Go.Proofs.YtefdnmeopbkflaaGreatDoor
