/-
  Texts of one proof, merged: Lh, Li, Lj, Lk, Ll, Lm, Ln, Lo, Lp, Lq, Lr, Ls, Ng, Lt, Lu, Lv, Lw, Lx, Ly, Lz, Lza, Lzb, Lzc, Nh, Ni, Nj.
-/
import Derived.Test.YtefdnmeopbkflaaGreatDoorBNa4
set_option linter.unusedSimpArgs false
set_option linter.unusedVariables false
namespace Go.Proofs.YtefdnmeopbkflaaGreatDoor
open Go Go.V
set_option linter.unusedSimpArgs false
set_option linter.unusedVariables false
set_option maxRecDepth 20000
theorem aBD [Gv] {b:Bool} {x y:Code} {st:St} {Q:Exit→St→Prop} (h:awp Tryz.prog GP (if b then x else y) st Q):awp Tryz.prog GP (.cond (.const (.bool b)) x y) st Q:=fun E a hr=>wp_cond rfl (h E a hr)
theorem aPN [Gv] (q:Nat) (h:q<2048):bits .and .i64 (q:Int) 2047=(q:Int):=by
 have e:=Nat.and_two_pow_sub_one_eq_mod q 11
 rw[show (2:Nat)^11 - 1=2047 from rfl,show (2:Nat)^11=2048 from rfl,Nat.mod_eq_of_lt h] at e
 rw[show (2047:Int)=((2047:Nat):Int) from rfl]
 simp only[bits,BitVec.ofInt_natCast,BitVec.toNat_and,BitVec.toNat_ofNat]
 have hb:IntKind.i64.bits=64:=rfl
 rw[hb,nH,Nat.mod_eq_of_lt (by omega:q<18446744073709551616),Nat.mod_eq_of_lt (by decide:2047<18446744073709551616),e]
 exact fD (by omega)
theorem aPV [Gv]:ACalls Tryz.prog GP 126 [.val (.int .i64 1)] [] (fun r os=>os=[]∧r=.val (.float .f64 9218868437227405312)):=by
 refine aQ Tryz.func126 rfl rfl Tryz.ntmps126 (rts:=#[27]) rfl Tryz.results126 (by simp) ?_
 simp only[aZ,Nat.reduceAdd]
 refine aC fun K hK=>aA [] ?_
 simp only[qq,aF,Nat.reduceLT,aB,cav,aG,aI]
 and_intros<;>try first|exact⟨⟩|omega
 refine hK _ ?_
 clear hK K
 refine aE [0] ?_
 simp only[aD,aB,Nat.reduceEqDiff,if_true,if_false]
 refine aC fun K hK=>aA [] ?_
 simp only[qq,aF,Nat.reduceLT,aB,cav,aG,aI]
 and_intros<;>try first|exact⟨⟩|omega
 refine hK _ ?_
 clear hK K
 refine aE [0,3] ?_
 simp only[aD,aB,Nat.reduceEqDiff,if_true,if_false]
 refine aC fun K hK=>?_
 refine aC fun K hK=>aA [] ?_
 simp only[seval,kZs,cav,aL,aP,bH,decide_true,aI]
 and_intros<;>try first|exact⟨⟩|omega
 refine hK _ ?_
 clear hK K
 refine bG rfl ?_
 refine aA [] ?_
 simp only[qq,aF,Nat.reduceLT,aB,cav,aG,aI]
 refine hK _ ?_
 clear hK K
 refine aE [3] ?_
 simp only[aD,aB,Nat.reduceEqDiff,if_true,if_false]
 refine aC fun K hK=>aA [] ?_
 simp only[seval,kZs,aU,bF,aT,bA,aH]
 refine iT trivial (oT 9218868437227405312) ?_
 simp only[seval,kZs,aK,aI]
 refine hK _ ?_
 clear hK K
 refine aE [2] ?_
 simp only[aD,aB,Nat.reduceEqDiff,if_true,if_false]
 refine aS ?_
 simp only[qq,bR,cQ,bN,bO,dA,aB,aH]
theorem aDw [Gv] (y:Nat) (h:y<9223372036854775808):ACalls Tryz.prog GP 127 [.val (.float .f64 0),.val (.float .f64 y)] [] (fun r os=>os=[]∧r=.val (.float .f64 0)):=by
 have h1:bits .andNot .u64 0 9223372036854775808=0:=by
  have:=zG (a:=0) (by decide)
  simpa using this
 have h2:bits .and .u64 (y:Int) 9223372036854775808=0:=by
  rw[show (9223372036854775808:Int)=((2^63:Nat):Int) from rfl,(nM .u64 _ _ uV).1,aID (by rw[aMY];exact h)]
  rfl
 have h3:bits .or .u64 0 0=0:=by decide
 refine aQ Tryz.func127 rfl rfl Tryz.ntmps127 (rts:=#[27]) rfl Tryz.results127 (by simp) ?_
 simp only[aZ,Nat.reduceAdd]
 refine aC fun K hK=>aA [] ?_
 simp only[qq,aF,Nat.reduceLT,aB,cav,aG,aI]
 and_intros<;>try first|exact⟨⟩|omega
 refine hK _ ?_
 clear hK K
 refine aE [0,1] ?_
 simp only[aD,aB,Nat.reduceEqDiff,if_true,if_false]
 refine aC fun K hK=>aA [] ?_
 simp only[qq,aF,Nat.reduceLT,aB,reduceCtorEq,aU,Nat.reduceAdd,Nat.reduceEqDiff,bF,aT,bA,aH]
 refine iT trivial (nE 0) ?_
 simp only[seval,kZs,Int.cast_ofNat_Int,aK,cav,aL,aP,bH,aU,bF,aT,bA,aH]
 refine iT trivial (nE y) ?_
 simp only[seval,kZs,h1,aK,cav,aL,aP,bH,h2,h3,aU,bF,aT,bA,aH]
 refine iT trivial (oT 0) ?_
 simp only[qq,aK,aF,Nat.reduceLT,aB,Nat.reduceEqDiff,reduceCtorEq,aG,aI]
 refine hK _ ?_
 clear hK K
 refine aE [4] ?_
 simp only[aD,aB,Nat.reduceEqDiff,if_true,if_false]
 refine aS ?_
 simp only[qq,bR,cQ,bN,bO,dA,aB,aH]
theorem aOr [Gv] (x:Nat) (h0:0<x) (h1:x<18446744073709551616):ACalls Tryz.prog GP 231 [.val (.int .u64 (x:Int))] [] (fun r os=>os=[]∧r=.val (.int .i64 ((Lib.ctz 64 x:Nat):Int))):=by
 obtain⟨hlow,hk⟩:=Lib.lowest_bit 64 x (by omega) h1
 obtain⟨hi,htab⟩:=Lib.deBruijn64_at _ hk
 have hkey:=Go.Proofs.tz64_key x _ h1 (by omega) hlow
 have hz:((x:Int) == 0)=false:=by simp;omega
 refine aQ Tryz.func231 rfl rfl Tryz.ntmps231 (rts:=#[3]) rfl Tryz.results231 (by simp) ?_
 simp only[aZ,Nat.reduceAdd]
 refine aC fun K hK=>aA [] ?_
 simp only[qq,aF,Nat.reduceLT,aB,cav,aG,aI]
 and_intros<;>try first|exact⟨⟩|omega
 refine hK _ ?_
 clear hK K
 refine aE [0] ?_
 simp only[aD,aB,Nat.reduceEqDiff,if_true,if_false]
 refine aC fun K hK=>?_
 refine aC fun K hK=>aA [] ?_
 simp only[seval,kZs,cav,aL,aP,bH,hz,aI]
 and_intros<;>try first|exact⟨⟩|omega
 refine hK _ ?_
 clear hK K
 refine aR rfl (bC ?_)
 simp only[aI]
 refine hK _ ?_
 clear hK K
 refine aE [0] ?_
 simp only[aD,aB,Nat.reduceEqDiff,if_true,if_false]
 obtain⟨I,hI⟩:∃ I,2^Lib.ctz 64 x*285870213051353865%18446744073709551616/288230376151711744=I:=⟨_,rfl⟩
 rw[hI] at hi htab hkey
 have hl:aHl.length=64:=rfl
 have hI64:I<64:=hi
 have hI2:0<64 - I:=by omega
 have hI3:I≤64:=by omega
 have hv:(IntKind.u64.wrap (bits BinOp.and IntKind.u64 (x:Int) (IntKind.u64.wrap (0 - (x:Int)))*285870213051353865)).fdiv (2^58)=(I:Int):=by
  rw[show (0:Int) - (x:Int)=-(x:Int) by omega,Int.fdiv_eq_ediv_of_nonneg _ (by decide)]
  exact hkey
 have htB:∀ j:Fin 64,aHl.getD j.val 0=((Lib.deBruijn64tab.getD j.val 0:Nat):Int):=by decide
 have htI:aHl.getD I 0=((Lib.ctz 64 x:Nat):Int):=by rw[htB ⟨I,hI64⟩];exact congrArg _ htab
 have hw:IntKind.i64.wrap ((Lib.ctz 64 x:Nat):Int)=((Lib.ctz 64 x:Nat):Int):=fD (by omega)
 refine aC fun K hK=>aA [] ?_
 simp only[qq,aF,Nat.reduceLT,aB,reduceCtorEq,aun,Nat.reduceEqDiff,aL,cav,dN,Tryz.underlying336,gp2,bD,Int.cast_ofNat_Int,Nat.mul_one,dZ,hl,mS,aY,apart,aO,Tryz.underlying5,eL,Tryz.underlying3,eG,bA,bW,fF,Option.isSome_some,aG,aI,aP,bH,Int.reduceLE,Int.reduceToNat,IntKind.bits,Nat.min_def,Nat.reduceLeDiff,hv,Int.toNat_natCast,hI3,List.length_drop,hI2,kQ,fL,htI,aQL,hw]
 refine⟨⟨Int.natCast_nonneg _,Int.ofNat_lt.2 hI64⟩,hK _ ?_⟩
 clear hK K
 refine aE [2] ?_
 simp only[aD,aB,Nat.reduceEqDiff,if_true,if_false]
 refine aS ?_
 simp only[qq,bR,cQ,bN,bO,dA,aB,aH]
def qU (y:Nat) (ex:Int):Nat:=
 if ex < -1075 then 0 else if 1023<ex then 9218868437227405312
 else if ex < -1022 then (Ieee.double.mul 4368491638549381120 ((ex+1076).toNat*4503599627370496+y%4503599627370496)).getD 0
 else (ex+1023).toNat*4503599627370496+y%4503599627370496
def vW (x:Nat) (e:Int):Int:=IntKind.i64.wrap (IntKind.i64.wrap (e+aAG x)+(((nrm x/4503599627370496:Nat):Int) - 1023))
theorem aIa [Gv] (n:Nat) (h:n≤2047):IntKind.u64.wrap ((n:Int)*2^52)=((n*4503599627370496:Nat):Int):=by
 have:(n:Int)*2^52=((n*4503599627370496:Nat):Int):=by omega
 rw[this]
 exact uV _ (by rw[show IntKind.u64.bits=64 from rfl,nH];omega)
theorem aJZ [Gv] (x:Nat) (h0:0<x) (h1:x<9218868437227405312) (e:Int):ACalls Tryz.prog GP 195 [.val (.float .f64 x),.val (.int .i64 e)] [] (fun r os=>os=[]∧r=.val (.float .f64 (qU (nrm x) (vW x e)))):=by
 have cI:=xE x (by omega)
 have cN:=xF x
 have cZ:=xK x h0 h1
 obtain⟨b1,b2,b3,b4,b5⟩:=aCv h0 h1
 have hfr:dX x=x:=gD (by omega)
 rw[hfr] at cI
 have hinf:decide (x=9218868437227405312)=false:=decide_eq_false (by omega)
 rw[hinf] at cI
 have hnan:mI x=false:=decide_eq_false (by rw[hfr];omega)
 rw[hnan] at cN
 have hz:=xL x
 rw[hfr,decide_eq_false (by omega)] at hz
 unfold vW
 generalize aAG x=E at *
 generalize nrm x=y at *
 refine aQ Tryz.func195 rfl rfl Tryz.ntmps195 (rts:=#[27]) rfl Tryz.results195 (by simp) ?_
 simp only[aZ,Nat.reduceAdd]
 refine aC fun K hK=>aA [] ?_
 simp only[qq,aF,Nat.reduceLT,aB,cav,aG,aI]
 and_intros<;>try first|exact⟨⟩|omega
 refine hK _ ?_
 clear hK K
 refine aE [0,1] ?_
 simp only[aD,aB,Nat.reduceEqDiff,if_true,if_false]
 refine aC fun K hK=>?_
 refine bK ?_
 refine aC fun K hK=>aA [] ?_
 simp only[qq,aF,Nat.reduceLT,aB,reduceCtorEq,Nat.reduceEqDiff,cav,aL,aP,rH,jU,hz,aG,aI]
 and_intros<;>try first|exact⟨⟩|omega
 refine hK _ ?_
 clear hK K
 refine aR rfl ?_
 refine aE [0,1] ?_
 simp only[aD,aB,Nat.reduceEqDiff,if_true,if_false]
 refine aC fun K2 hK2=>aA [] ?_
 simp only[qq,aF,Nat.reduceLT,aB,reduceCtorEq,aU,Nat.reduceAdd,Nat.reduceEqDiff,cav,bF,aT,bA,aH]
 refine aV (by simp[aJ,aM,aH,eC,fC]) (cI) (by simp[aH,aM,aJ,flat,eC,fC]) ?_
 simp only[qq,aK,aF,Nat.reduceLT,aB,Nat.reduceEqDiff,reduceCtorEq,dD,bT,Option.bind_some,aW,Bool.not_false,dQ,gok,aU,Nat.reduceAdd,bF,aT,bA,aH]
 refine aV (by simp[aJ,aM,aH,eC,fC]) (cN) (by simp[aH,aM,aJ,flat,eC,fC]) ?_
 simp only[qq,aK,aF,bU,aB,Nat.reduceEqDiff,reduceCtorEq,cav,Nat.reduceLT,aG,aI]
 refine hK2 _ ?_
 clear hK2 K2
 refine aR rfl (bC ?_)
 simp only[bL,aI]
 refine hK _ ?_
 clear hK K
 refine aE [0,1] ?_
 simp only[aD,aB,Nat.reduceEqDiff,if_true,if_false]
 refine aC fun K hK=>aA [] ?_
 simp only[qq,aF,Nat.reduceLT,aB,reduceCtorEq,aU,Nat.reduceAdd,Nat.reduceEqDiff,bF,aT,bA,aH]
 refine aV (by simp[aJ,aM,aH,eC,fC]) (cZ) (by simp[aH,aM,aJ,flat,eC,fC]) ?_
 simp only[qq,aK,aF,Nat.reduceLT,aB,Nat.reduceEqDiff,reduceCtorEq,gW,aG,aI]
 refine hK _ ?_
 clear hK K
 refine aE [0,1,5] ?_
 simp only[aD,aB,Nat.reduceEqDiff,if_true,if_false]
 refine aC fun K hK=>aA [] ?_
 simp only[qq,aF,Nat.reduceLT,aB,reduceCtorEq,Nat.reduceEqDiff,aL,aP,bH,aG,aI]
 and_intros<;>try first|exact⟨⟩|omega
 refine hK _ ?_
 clear hK K
 refine aE [0,1] ?_
 simp only[aD,aB,Nat.reduceEqDiff,if_true,if_false]
 refine aC fun K hK=>aA [] ?_
 simp only[qq,aF,Nat.reduceLT,aB,reduceCtorEq,aU,Nat.reduceAdd,Nat.reduceEqDiff,bF,aT,bA,aH]
 refine iT trivial (nE y) ?_
 simp only[qq,aK,aF,Nat.reduceLT,aB,Nat.reduceEqDiff,reduceCtorEq,aG,aI]
 refine hK _ ?_
 clear hK K
 refine aE [0,1,6] ?_
 simp only[aD,aB,Nat.reduceEqDiff,if_true,if_false]
 obtain⟨q,hqq⟩:∃ q,y/4503599627370496=q:=⟨_,rfl⟩
 have w0:IntKind.i64.wrap ((y/2^52:Nat):Int)=(q:Int):=by
  rw[aFi,hqq];exact fD (by omega)
 have hq:bits .and .i64 (q:Int) 2047=(q:Int):=aPN q (by omega)
 have w2:IntKind.i64.wrap ((q:Int) - 1023)=(q:Int) - 1023:=lY (by omega) (by omega)
 rw[hqq]
 refine aC fun K hK=>aA [] ?_
 simp only[qq,aF,Nat.reduceLT,aB,reduceCtorEq,Nat.reduceEqDiff,cav,aL,aP,bH,Int.reduceLE,Int.reduceToNat,IntKind.bits,Nat.min_def,Nat.reduceLeDiff,rV,eL,Tryz.underlying3,eG,bA,aH,fF,Tryz.underlying30,Option.isSome_some,w0,hq,w2,aG,aI]
 and_intros<;>try first|exact⟨⟩|omega
 refine hK _ ?_
 clear hK K
 generalize IntKind.i64.wrap (IntKind.i64.wrap (e+E)+((q:Int) - 1023))=ex at *
 refine aE [0,1,6] ?_
 simp only[aD,aB,Nat.reduceEqDiff,if_true,if_false]
 refine aC fun K hK=>?_
 by_cases c1:ex < -1075
 ·have d1:decide (ex < -1075)=true:=decide_eq_true c1
  have cC:=aDw y (by omega)
  have hr:qU y ex=0:=by unfold qU;rw[if_pos c1]
  refine aC fun K hK=>aA [] ?_
  simp only[qq,aF,Nat.reduceLT,aB,reduceCtorEq,Nat.reduceEqDiff,cav,aL,aP,bH,d1,aG,aI]
  and_intros<;>try first|exact⟨⟩|omega
  refine hK _ ?_
  clear hK K
  refine bG rfl ?_
  refine aE [0] ?_
  simp only[aD,aB,Nat.reduceEqDiff,if_true,if_false]
  refine aC fun K2 hK2=>aA [] ?_
  simp only[qq,aF,Nat.reduceLT,aB,aU,Nat.reduceAdd,cav,reduceCtorEq,bF,aT,bA,aH]
  refine aV (by simp[aJ,aM,aH,eC,fC]) (cC) (by simp[aH,aM,aJ,flat,eC,fC]) ?_
  simp only[qq,aK,aF,Nat.reduceLT,aB,Nat.reduceEqDiff,reduceCtorEq,aG,aI]
  refine hK2 _ ?_
  clear hK2 K2
  refine aE [4] ?_
  simp only[aD,aB,Nat.reduceEqDiff,if_true,if_false]
  refine aS ?_
  simp only[aI]
  simp only[qq,bR,cQ,bN,bO,dA,aB,aH]
  rw[hr]
 have d1:decide (ex < -1075)=false:=decide_eq_false c1
 refine aC fun K hK=>aA [] ?_
 simp only[qq,aF,Nat.reduceLT,aB,reduceCtorEq,Nat.reduceEqDiff,cav,aL,aP,bH,d1,aG,aI]
 and_intros<;>try first|exact⟨⟩|omega
 refine hK _ ?_
 clear hK K
 refine aR rfl (bC ?_)
 simp only[aI]
 refine hK _ ?_
 clear hK K
 refine aE [0,1,6] ?_
 simp only[aD,aB,Nat.reduceEqDiff,if_true,if_false]
 refine aC fun K hK=>?_
 by_cases c2:1023<ex
 ·have d2:decide (ex > 1023)=true:=decide_eq_true c2
  have hr:qU y ex=9218868437227405312:=by unfold qU;rw[if_neg c1,if_pos c2]
  refine aC fun K hK=>aA [] ?_
  simp only[qq,aF,Nat.reduceLT,aB,reduceCtorEq,Nat.reduceEqDiff,cav,aL,aP,bH,d2,aG,aI]
  and_intros<;>try first|exact⟨⟩|omega
  refine hK _ ?_
  clear hK K
  refine bG rfl ?_
  refine aE [0] ?_
  simp only[aD,aB,Nat.reduceEqDiff,if_true,if_false]
  have hlt:(Ieee.double.order y 0 == some .lt)=false:=by
   rw[aHR]
   have:¬ (gX y<gX 0):=by
    have h0:gX 0=0:=by decide
    rw[h0]
    unfold gX
    rw[mJ (x:=y) (by omega)]
    simp only[sE,Bool.false_eq_true,if_false]
    omega
   unfold vU
   rw[decide_eq_false this,Bool.and_false]
  refine aC fun K2 hK2=>?_
  refine aC fun K hK=>aA [] ?_
  simp only[qq,aF,Nat.reduceLT,aB,reduceCtorEq,cav,aL,aP,rH,jU,hlt,aG,aI]
  and_intros<;>try first|exact⟨⟩|omega
  refine hK _ ?_
  clear hK K
  refine aR rfl (bC ?_)
  simp only[aI]
  refine hK2 _ ?_
  clear hK2 K2
  refine aC fun K2 hK2=>aA [] ?_
  simp only[qq,aU,Nat.reduceLT,Nat.reduceAdd,aB,cav,bF,aT,bA,aH]
  refine aV (by simp[aJ,aM,aH,eC,fC]) (aPV) (by simp[aH,aM,aJ,flat,eC,fC]) ?_
  simp only[qq,aK,aF,Nat.reduceLT,aB,Nat.reduceEqDiff,reduceCtorEq,aG,aI]
  refine hK2 _ ?_
  clear hK2 K2
  refine aE [4] ?_
  simp only[aD,aB,Nat.reduceEqDiff,if_true,if_false]
  refine aS ?_
  simp only[aI]
  simp only[qq,bR,cQ,bN,bO,dA,aB,aH]
  rw[hr]
 have d2:decide (ex > 1023)=false:=decide_eq_false c2
 refine aC fun K hK=>aA [] ?_
 simp only[qq,aF,Nat.reduceLT,aB,reduceCtorEq,Nat.reduceEqDiff,cav,aL,aP,bH,d2,aG,aI]
 and_intros<;>try first|exact⟨⟩|omega
 refine hK _ ?_
 clear hK K
 refine aR rfl (bC ?_)
 simp only[aI]
 refine hK _ ?_
 clear hK K
 refine aE [0,1,6] ?_
 simp only[aD,aB,Nat.reduceEqDiff,if_true,if_false]
 refine aC fun K hK=>aA [] ?_
 simp only[qq,aF,Nat.reduceLT,aB,cav,aG,aI]
 and_intros<;>try first|exact⟨⟩|omega
 refine hK _ ?_
 clear hK K
 refine aE [1,6,7] ?_
 simp only[aD,aB,Nat.reduceEqDiff,if_true,if_false]
 refine aC fun K hK=>?_
 have ha:bits .andNot .u64 (y:Int) 9218868437227405312=((y%4503599627370496:Nat):Int):=aAq (by omega)
 have hmod:y%4503599627370496<4503599627370496:=Nat.mod_lt _ (by decide)
 by_cases c3:ex < -1022
 ·have d3:decide (ex < -1022)=true:=decide_eq_true c3
  have w5:IntKind.i64.wrap (ex+53)=ex+53:=lY (by omega) (by omega)
  refine aC fun K hK=>aA [] ?_
  simp only[qq,aF,Nat.reduceLT,aB,Nat.reduceEqDiff,cav,aL,aP,bH,d3,aG,aI]
  and_intros<;>try first|exact⟨⟩|omega
  refine hK _ ?_
  clear hK K
  refine bG rfl ?_
  refine aC fun K hK=>aA [] ?_
  simp only[qq,aF,Nat.reduceLT,aB,Nat.reduceEqDiff,cav,aL,aP,bH,w5,aG,aI]
  and_intros<;>try first|exact⟨⟩|omega
  refine hK _ ?_
  clear hK K
  refine aE [1,6] ?_
  simp only[aD,aB,Nat.reduceEqDiff,if_true,if_false]
  refine aA [] ?_
  simp only[qq,aF,Nat.reduceLT,aB,cav,aG,aI]
  refine hK _ ?_
  clear hK K
  refine aE [1,6,7] ?_
  simp only[aD,aB,Nat.reduceEqDiff,if_true,if_false]
  refine aC fun K hK=>aA [] ?_
  simp only[qq,aF,Nat.reduceLT,aB,Nat.reduceEqDiff,cav,aL,aP,bH,ha,aG,aI]
  and_intros<;>try first|exact⟨⟩|omega
  refine hK _ ?_
  clear hK K
  refine aE [1,6,7] ?_
  simp only[aD,aB,Nat.reduceEqDiff,if_true,if_false]
  obtain⟨n,hn,hn2⟩:∃ n:Nat,ex+1076=(n:Int)∧n≤54:=⟨(ex+1076).toNat,by omega,by omega⟩
  have w6:IntKind.i64.wrap (ex+53+1023)=(n:Int):=by rw[lY (by omega) (by omega)];omega
  have w7:IntKind.u64.wrap (n:Int)=(n:Int):=uV _ (by rw[show IntKind.u64.bits=64 from rfl,nH];omega)
  have w8:=aIa n (by omega)
  have ho:=aHP n (y%4503599627370496) hmod (by omega)
  have hr:qU y ex=(Ieee.double.mul 4368491638549381120 (n*4503599627370496+y%4503599627370496)).getD 0:=by
   unfold qU
   rw[if_neg c1,if_neg c2,if_pos c3,hn,Int.toNat_natCast]
  refine aC fun K hK=>aA [] ?_
  simp only[qq,aF,Nat.reduceLT,aB,Nat.reduceEqDiff,cav,aL,aP,bH,w6,eL,Tryz.underlying30,eG,bA,aH,fF,Tryz.underlying3,Option.isSome_some,w7,Int.reduceLE,Int.reduceToNat,IntKind.bits,Nat.min_def,Nat.reduceLeDiff,w8,ho,aG,aI]
  and_intros<;>try first|exact⟨⟩|omega
  refine hK _ ?_
  clear hK K
  refine aE [6,7] ?_
  simp only[aD,aB,Nat.reduceEqDiff,if_true,if_false]
  refine aC fun K hK=>aA [] ?_
  simp only[qq,aF,Nat.reduceLT,aB,Nat.reduceEqDiff,aU,Nat.reduceAdd,bF,aT,bA,aH]
  refine iT trivial (oT _) ?_
  simp only[qq,aK,aF,aB,Nat.reduceEqDiff,aL,aP,rH,jU,Nat.reduceLT,aG,aI]
  refine⟨?_,hK _ ?_⟩
  ·rw[aEJ _ _ (by decide) (by rw[gD (x:=n*4503599627370496+y%4503599627370496) (by omega)];omega)]
   rfl
  clear hK K
  refine aE [4] ?_
  simp only[aD,aB,Nat.reduceEqDiff,if_true,if_false]
  refine aS ?_
  simp only[qq,bR,cQ,bN,bO,dA,aB,aH]
  rw[hr]
 ·have d3:decide (ex < -1022)=false:=decide_eq_false c3
  refine aC fun K hK=>aA [] ?_
  simp only[qq,aF,Nat.reduceLT,aB,Nat.reduceEqDiff,cav,aL,aP,bH,d3,aG,aI]
  and_intros<;>try first|exact⟨⟩|omega
  refine hK _ ?_
  clear hK K
  refine aR rfl (bC ?_)
  simp only[aI]
  refine hK _ ?_
  clear hK K
  refine aE [1,6,7] ?_
  simp only[aD,aB,Nat.reduceEqDiff,if_true,if_false]
  refine aC fun K hK=>aA [] ?_
  simp only[qq,aF,Nat.reduceLT,aB,Nat.reduceEqDiff,cav,aL,aP,bH,ha,aG,aI]
  and_intros<;>try first|exact⟨⟩|omega
  refine hK _ ?_
  clear hK K
  refine aE [1,6,7] ?_
  simp only[aD,aB,Nat.reduceEqDiff,if_true,if_false]
  obtain⟨n,hn,hn2,hn3⟩:∃ n:Nat,ex+1023=(n:Int)∧n≤2046∧1≤n:=⟨(ex+1023).toNat,by omega,by omega,by omega⟩
  have w6:IntKind.i64.wrap (ex+1023)=(n:Int):=by rw[lY (by omega) (by omega)];omega
  have w7:IntKind.u64.wrap (n:Int)=(n:Int):=uV _ (by rw[show IntKind.u64.bits=64 from rfl,nH];omega)
  have w8:=aIa n (by omega)
  have ho:=aHP n (y%4503599627370496) hmod (by omega)
  have hr:qU y ex=n*4503599627370496+y%4503599627370496:=by
   unfold qU
   rw[if_neg c1,if_neg c2,if_neg c3,hn,Int.toNat_natCast]
  have hm:=mul_one (y:=n*4503599627370496+y%4503599627370496) (by omega) (by omega)
  refine aC fun K hK=>aA [] ?_
  simp only[qq,aF,Nat.reduceLT,aB,Nat.reduceEqDiff,cav,aL,aP,bH,w6,eL,Tryz.underlying30,eG,bA,aH,fF,Tryz.underlying3,Option.isSome_some,w7,Int.reduceLE,Int.reduceToNat,IntKind.bits,Nat.min_def,Nat.reduceLeDiff,w8,ho,aG,aI]
  and_intros<;>try first|exact⟨⟩|omega
  refine hK _ ?_
  clear hK K
  refine aE [6,7] ?_
  simp only[aD,aB,Nat.reduceEqDiff,if_true,if_false]
  refine aC fun K hK=>aA [] ?_
  simp only[qq,aF,Nat.reduceLT,aB,Nat.reduceEqDiff,aU,Nat.reduceAdd,bF,aT,bA,aH]
  refine iT trivial (oT _) ?_
  simp only[qq,aK,aF,aB,Nat.reduceEqDiff,aL,aP,rH,jU,hm,Option.isSome_some,Option.getD_some,Nat.reduceLT,aG,aI]
  refine hK _ ?_
  clear hK K
  refine aE [4] ?_
  simp only[aD,aB,Nat.reduceEqDiff,if_true,if_false]
  refine aS ?_
  simp only[qq,bR,cQ,bN,bO,dA,aB,aH]
  rw[hr]
theorem aOY [Gv] {M:Nat} (h1:4503599627370496≤M) (h2:M<9007199254740992):(FloatKind.f64.decode (1074*4503599627370496+M)).toInt .zero=some (M:Int):=by
 obtain⟨e1,e2⟩:=xQ (k:=1074) h1 h2
 have hs:1074*4503599627370496+M<9223372036854775808:=by omega
 have hr:FloatKind.f64.decode (1074*4503599627370496+M)=Ieee.double.read (1074*4503599627370496+M):=rfl
 rw[hr,nI (by rw[gD hs];omega),gD hs,mJ hs,e1,e2]
 have hc:=yL Ieee.Toward.zero false M 0 (.inr rfl)
 simp only[Nat.pow_zero,Nat.mul_one] at hc
 unfold Ieee.Datum.toInt Ieee.Datum.integral
 have z0:(-1074+((1074:Nat):Int))=0:=rfl
 rw[z0]
 simp only[seval,Int.neg_zero,Nat.shiftLeft_zero,Int.toNat_zero]
 rw[yZ,hc]
 simp[sE]
theorem aLu [Gv] (x:Nat) (h0:0<x) (h1:x<9218868437227405312) (e:Int):ACalls Tryz.prog GP 125 [.val (.float .f64 x),.val (.int .i64 e)] [] (fun r os=>os=[]∧r=.val (.float .f64 (qU (nrm x) (vW x e)))):=by
 have cL:=aJZ x h0 h1 e
 generalize qU (nrm x) (vW x e)=y at *
 refine aQ Tryz.func125 rfl rfl Tryz.ntmps125 (rts:=#[27]) rfl Tryz.results125 (by simp) ?_
 simp only[seval,aZ]
 refine aC fun K hK=>aA [] ?_
 simp only[seval,kZs,cav,aI]
 and_intros<;>try first|exact⟨⟩|omega
 refine hK _ ?_
 clear hK K
 refine aE [0,1] ?_
 simp only[seval,kZq]
 refine aC fun K hK=>?_
 refine aBD (bC ?_)
 simp only[aI]
 refine hK _ ?_
 clear hK K
 refine aC fun K hK=>aA [] ?_
 simp only[seval,kZs,aU,bF,aT,bA,aH]
 refine aV (by simp[aJ,aM,aH]) (cL) (by simp[aH,aM,aJ,flat]) ?_
 simp only[seval,kZs,aK,aI]
 refine hK _ ?_
 clear hK K
 refine aE [4] ?_
 simp only[seval,kZq]
 refine aS ?_
 simp only[qq,bR,cQ,bN,bO,dA,aB,aH]
theorem aNx [Gv] {M:Nat} (h1:4503599627370496≤M) (h2:M<9007199254740992):qU (nrm (1021*4503599627370496+M)) (vW (1021*4503599627370496+M) 53)=1074*4503599627370496+M:=by
 have hn:nrm (1021*4503599627370496+M)=1021*4503599627370496+M:=by unfold nrm;rw[if_neg (by omega)]
 have he:aAG (1021*4503599627370496+M)=0:=by unfold aAG;rw[if_neg (by omega)]
 have hd:(1021*4503599627370496+M)/4503599627370496=1022:=by omega
 have hm:(1021*4503599627370496+M)%4503599627370496=M - 4503599627370496:=by omega
 have hE:vW (1021*4503599627370496+M) 53=52:=by
  unfold vW
  rw[he,hn,hd]
  decide
 rw[hE,hn]
 unfold qU
 rw[if_neg (by decide),if_neg (by decide),if_neg (by decide),hm]
 have:((52:Int)+1023).toNat=1075:=by decide
 rw[this]
 omega
def kH (x:Nat):Nat:=if dX x=0∨9218868437227405312≤dX x then 0 else sV (dX x)/2^Lib.ctz 64 (sV (dX x))
def jR (x:Nat):Int:=if dX x=0∨9218868437227405312≤dX x then 0 else aAE (dX x)+(Lib.ctz 64 (sV (dX x)):Nat)
def rL (x:Nat):Bool:=!mI x&&kV x
theorem aBR [Gv] {r:Nat} (h0:0<r) (h1:r<9218868437227405312):-1126≤aAE r∧aAE r≤971:=by
 unfold aAE
 split
 ·have:=(pP h0 (by omega)).1
  omega
 ·omega
theorem aMU [Gv] (x:Nat) (hx:x<18446744073709551616):ACalls Tryz.prog GP 178 [.val (.float .f64 x)] [] (fun r os=>os=[]∧r=.tup [.val (.bool (rL x)),.val (.int .u64 ((kH x:Nat):Int)),.val (.int .i64 (jR x))]):=by
 have cN:=xF x
 have cS:=aHh x hx
 have cI:=xE x hx
 have cA:=aGW x hx
 have hz:=xL x
 refine aQ Tryz.func178 rfl rfl Tryz.ntmps178 (rts:=#[4,30,3]) rfl Tryz.results178 (by simp) ?_
 simp only[seval,aZ]
 refine aC fun K hK=>aA [] ?_
 simp only[seval,kZs,cav,aI]
 and_intros<;>try first|exact⟨⟩|omega
 refine hK _ ?_
 clear hK K
 refine aE [0,2,3,4] ?_
 simp only[seval,kZq]
 refine aC fun K hK=>?_
 refine aC fun K2 hK2=>aA [] ?_
 simp only[seval,kZs,aU,bF,aT,bA,aH]
 refine aV (by simp[aJ,aM,aH]) (cN) (by simp[aH,aM,aJ,flat]) ?_
 simp only[aK,aG,aI]
 refine hK2 _ ?_
 clear hK2 K2
 by_cases c1:9218868437227405312<dX x
 ·have e1:mI x=true:=decide_eq_true c1
  have r1:rL x=false:=by unfold rL;rw[e1];rfl
  have r2:kH x=0:=if_pos (.inr (by omega))
  have r3:jR x=0:=if_pos (.inr (by omega))
  rw[e1]
  refine bG rfl ?_
  refine aE [0] ?_
  simp only[seval,kZq]
  refine aC fun K hK=>aA [] ?_
  simp only[seval,kZs,cav,aI]
  and_intros<;>try first|exact⟨⟩|omega
  refine hK _ ?_
  clear hK K
  refine aS ?_
  simp only[aI]
  simp only[seval,qq,bR,cQ,bN,bO,dA,aB,aH]
  rw[r1,r2,r3]
  rfl
 have e1:mI x=false:=decide_eq_false c1
 have r1:rL x=kV x:=by unfold rL;rw[e1];rfl
 rw[e1]
 refine aR rfl (bC ?_)
 simp only[aI]
 refine hK _ ?_
 clear hK K
 refine aE [0,2,3,4] ?_
 simp only[seval,kZq]
 refine aC fun K hK=>aA [] ?_
 simp only[seval,kZs,aU,bF,aT,bA,aH]
 refine aV (by simp[aJ,aM,aH]) (cS) (by simp[aH,aM,aJ,flat]) ?_
 simp only[seval,kZs,aK,aI]
 refine hK _ ?_
 clear hK K
 refine aE [0,2,3,4] ?_
 simp only[seval,kZq]
 refine aC fun K hK=>?_
 by_cases c2:dX x=0
 ·have r2:kH x=0:=if_pos (.inl c2)
  have r3:jR x=0:=if_pos (.inl c2)
  rw[c2] at hz
  refine aC fun K2 hK2=>aA [] ?_
  simp only[seval,kZs,cav,aL,aP,rH,jU,hz,decide_true,dD,bT,Option.bind_some,aW,eW,gok,bU,aI]
  refine hK2 _ ?_
  clear hK2 K2
  refine bG rfl ?_
  refine aE [2] ?_
  simp only[seval,kZq]
  refine aC fun K hK=>aA [] ?_
  simp only[seval,kZs,cav,aI]
  and_intros<;>try first|exact⟨⟩|omega
  refine hK _ ?_
  clear hK K
  refine aS ?_
  simp only[aI]
  simp only[seval,qq,bR,cQ,bN,bO,dA,aB,aH]
  rw[r1,r2,r3]
  rfl
 have e2:decide (dX x=0)=false:=decide_eq_false c2
 rw[e2] at hz
 refine aC fun K2 hK2=>aA [] ?_
 simp only[seval,kZs,cav,aL,aP,rH,jU,hz,dD,bT,Option.bind_some,aW,Bool.not_false,dQ,gok,aU,bF,aT,bA,aH]
 refine aV (by simp[aJ,aM,aH]) (cI) (by simp[aH,aM,aJ,flat]) ?_
 simp only[seval,kZs,aK,bU,cav,aI]
 refine hK2 _ ?_
 clear hK2 K2
 by_cases c3:dX x=9218868437227405312
 ·have r2:kH x=0:=if_pos (.inr (by omega))
  have r3:jR x=0:=if_pos (.inr (by omega))
  have e3:decide (dX x=9218868437227405312)=true:=decide_eq_true c3
  rw[e3]
  refine bG rfl ?_
  refine aE [2] ?_
  simp only[seval,kZq]
  refine aC fun K hK=>aA [] ?_
  simp only[seval,kZs,cav,aI]
  and_intros<;>try first|exact⟨⟩|omega
  refine hK _ ?_
  clear hK K
  refine aS ?_
  simp only[aI]
  simp only[seval,qq,bR,cQ,bN,bO,dA,aB,aH]
  rw[r1,r2,r3]
  rfl
 have e3:decide (dX x=9218868437227405312)=false:=decide_eq_false c3
 rw[e3]
 refine aR rfl (bC ?_)
 simp only[aI]
 refine hK _ ?_
 clear hK K
 have p0:0<dX x:=by omega
 have p1:dX x<9218868437227405312:=by omega
 have cF:=aLd (dX x) p0 p1
 obtain⟨m1,m2⟩:=rU p0
 obtain⟨x1,x2⟩:=aBR p0 p1
 have r2:kH x=sV (dX x)/2^Lib.ctz 64 (sV (dX x)):=if_neg (by omega)
 have r3:jR x=aAE (dX x)+(Lib.ctz 64 (sV (dX x)):Nat):=if_neg (by omega)
 rw[r1,r2,r3]
 generalize sV (dX x)=M at *
 generalize aAE (dX x)=E at *
 have cL:=aLu (1021*4503599627370496+M) (by omega) (by omega) 53
 rw[aNx m1 m2] at cL
 have cT:=aOr M (by omega) (by omega)
 have hk:Lib.ctz 64 M<64:=(Lib.lowest_bit 64 M (by omega) (by omega)).2
 have cv:=aOY m1 m2
 refine aE [0,2,3,4] ?_
 simp only[seval,kZq]
 refine aC fun K hK=>aA [] ?_
 simp only[seval,kZs,aU,bF,aT,bA,aH]
 refine aV (by simp[aJ,aM,aH]) (cA) (by simp[aH,aM,aJ,flat]) ?_
 simp only[seval,qq,aK,aU,aB,bF,aT,bA,aH]
 refine aV (by simp[aJ,aM,aH]) (cF) (by simp[aH,aM,aJ,flat]) ?_
 simp only[seval,kZs,aK,gW,aI]
 refine hK _ ?_
 clear hK K
 refine aE [2,3,4,5,6] ?_
 simp only[seval,kZq]
 have w1:IntKind.i64.wrap (IntKind.i64.wrap (E+53 - 52) - 1)=E:=by
  rw[lY (n:=E+53 - 52) (by omega) (by omega),lY (by omega) (by omega)]
  omega
 refine aC fun K hK=>aA [] ?_
 simp only[seval,kZs,aU,cav,bF,aT,bA,aH]
 refine aV (by simp[aJ,aM,aH]) (cL) (by simp[aH,aM,aJ,flat]) ?_
 simp only[seval,kZs,aK,eL,Tryz.underlying30,eG,bA,aH,fF,Tryz.underlying27,Option.isSome_some,cv,Option.getD_some,cav,aL,aP,bH,aI]
 refine⟨⟨_,rfl,by have:IntKind.u64.min=0:=rfl;omega,by have:IntKind.u64.max=18446744073709551615:=rfl;omega⟩,?_⟩
 simp only[w1]
 refine hK _ ?_
 clear hK K
 refine aE [2,3,4] ?_
 simp only[seval,kZq]
 refine aC fun K hK=>aA [] ?_
 simp only[seval,kZs,aU,bF,aT,bA,aH]
 refine aV (by simp[aJ,aM,aH]) (cT) (by simp[aH,aM,aJ,flat]) ?_
 simp only[seval,kZs,aK,aI]
 refine hK _ ?_
 clear hK K
 refine aE [2,3,4,7] ?_
 simp only[seval,kZq]
 have hf:(M:Int).fdiv (2^Lib.ctz 64 M)=((M/2^Lib.ctz 64 M:Nat):Int):=by
  rw[Int.fdiv_eq_ediv_of_nonneg _ (Int.pow_nonneg (by decide)),Int.natCast_ediv,Int.natCast_pow]
  rfl
 have w2:IntKind.i64.wrap (E+((Lib.ctz 64 M:Nat):Int))=E+((Lib.ctz 64 M:Nat):Int):=lY (by omega) (by omega)
 refine aC fun K hK=>?_
 refine dW [] (by kernel_rfl) (by kernel_rfl) ?_
 simp only[seval,kZs,aL,aP,bH,Int.natCast_nonneg,Int.toNat_natCast,IntKind.bits,Nat.min_def,w2,aI]
 refine hK _ ?_
 clear hK K
 refine aE [2,3,4] ?_
 simp only[seval,kZq]
 refine aS ?_
 simp only[seval,qq,bR,cQ,bN,bO,dA,aB,aH]
 rw[if_pos (by omega:Lib.ctz 64 M≤64),hf]
def lS (x y:Nat):Bool:=vU x y (gX x≤gX y)
theorem aIw [Gv] (x y:Nat):ACalls Tryz.prog GP 156 [.val (.float .f64 x),.val (.float .f64 y)] [] (fun r os=>os=[]∧r=.val (.bool (lS x y))):=by
 unfold lS
 have h:=aMQ x y
 refine aQ Tryz.func156 rfl rfl Tryz.ntmps156 (rts:=#[4]) rfl Tryz.results156 (by simp) ?_
 simp only[seval,aZ]
 refine aC fun K hK=>aA [] ?_
 simp only[seval,kZs,cav,aI]
 and_intros<;>try first|exact⟨⟩|omega
 refine hK _ ?_
 clear hK K
 refine aC fun K hK=>aA [] ?_
 simp only[seval,kZs,aL,aP,rH,jU,h,aI]
 and_intros<;>try first|exact⟨⟩|omega
 refine hK _ ?_
 clear hK K
 refine aE [4] ?_
 simp only[seval,kZq]
 refine aS ?_
 simp only[qq,bR,cQ,bN,bO,dA,aB,aH]
end Go.Proofs.YtefdnmeopbkflaaGreatDoor
namespace Go.Proofs.YtefdnmeopbkflaaGreatDoor
open Go Go.V
open Go.RowKit (Below)
open Go.Sort (Holds putRow putCells)
set_option linter.unusedSimpArgs false
set_option linter.unusedVariables false
set_option maxRecDepth 20000
theorem aNX [Gv] {E:Env} {l:List UInt8} {vs:List Value} (h:bY E (Bs l) vs):vs=l.map fun b=>Value.int .u8 (b.toNat:Int):=by
 induction l generalizing vs with
 | nil=>simpa[Bs,bY] using h
 | cons c l ih=>
  simp only[Bs,List.map_cons,bY] at h ih ⊢
  obtain⟨v,vs',rfl,h1,h2⟩:=h
  simp only[B,bE] at h1
  rw[h1,ih h2]
theorem aQq [Gv] {w:World} {g o:Nat} {vs:Array Value} {t:TypeId} {fz:Nat×Nat} (h:w.heap[g]? = some (.cells vs t fz)) (hf:aGN vs fz) (ho:o<vs.size):w.frozen? ⟨g,o,none⟩=false:=by
 simp only[World.frozen?,h]
 unfold aGN at hf
 simp
 omega
theorem aBJ [Gv] (l:List UInt8) (off u:Nat) (cap:Option Nat) (h1:off+Lib.nDigits u≤l.length) (hnd:0<Lib.nDigits u) (hu64:u<18446744073709551616) (hl4:l.length≤4096) :
  ACalls Tryz.prog GP 220 [.osl 0 off (Lib.nDigits u) cap,.val (.int .u64 (u:Int))] [.cells (Bs l)] (fun r os=>os=[.cells (Bs (l.take off++Lib.decDigits u++l.drop (off+Lib.nDigits u)))]∧r=.tup []):=by
 refine⟨⟨_,Tryz.func220,rfl,rfl⟩,fun E vs0 hl ho hG=>?_⟩
 simp only[bY,bE] at hl
 obtain⟨_,_,rfl,⟨hk,A,c,rfl,hnc,_,hA⟩,_,_,rfl,rfl,rfl⟩:=hl
 obtain⟨g,hg,rfl⟩:=hA (by omega)
 have hobj:=ho.2.1 0 (.cells (Bs l)) rfl
 have hne:Bs l≠[]:=by
  intro e
  have:=congrArg List.length e
  simp[Bs] at this
  simp[this] at h1
  omega
 obtain h|⟨g',vs,t,fz,e,hh,hfz,hlim,hlen,hrep⟩:=hobj
 ·exact absurd h hne
 rw[hg] at e
 injection e with e
 injection e with e
 injection e with e
 subst e
 have hbl:(Bs l).length=l.length:=by simp[Bs]
 rw[hbl] at hlen hrep
 have hvals:=aNX hrep
 have hcell:∀ i (hi:i<l.length),vs[i]? = some (Value.int .u8 (l[i].toNat:Int)):=fun i hi=>by
  have:=congrArg (fun x=>x[i]?) hvals
  simp only[List.getElem?_take,hi,if_true,List.getElem?_map,List.getElem?_eq_getElem hi,Option.map_some] at this
  simpa using this
 obtain⟨nd,hnd'⟩:∃ nd,Lib.nDigits u=nd:=⟨_,rfl⟩
 have hds:((l.drop off).take nd).toArray.size=nd:=by simp;omega
 have hH:Holds (fun (b:UInt8)=>Value.int .u8 (b.toNat:Int)) E.w g off ((l.drop off).take nd).toArray:=fun j hj=>by
  rw[hds] at hj
  refine⟨?_,aQq hh hfz (by omega)⟩
  rw[World.cell?,hh]
  have:=hcell (off+j) (by omega)
  simp only[this]
  rw[getElem!_pos _ j (by omega)]
  simp
 have hc:=Tryz.internal_strconv_formatBase10 g off c u ((l.drop off).take nd).toArray E.w hH (by rw[hds,← hnd'];exact Lib.lt_pow_nDigits u) hu64 (by omega)
 rw[hds,← hnd'] at hc
 refine hc.mono ?_
 rintro e w' ⟨rfl,n,v',dk,rfl,hF⟩
 have hdk:dk.size=Lib.nDigits u:=hF.size
 have hD:dk.toList=Lib.decDigits u:=by
  apply List.ext_getElem
  ·rw[Lib.decDigits_length];simpa using hdk
  ·intro i hi1 hi2
   rw[Lib.row_is_numeral hF i hi2,getElem!_pos dk i (by simpa using hi1)]
   simp
 have hdl:(Lib.decDigits u).length=Lib.nDigits u:=Lib.decDigits_length u
 have hL:(l.take off++Lib.decDigits u++l.drop (off+Lib.nDigits u)).length=l.length:=by simp[hdl];omega
 obtain⟨L,hLL⟩:∃ L,l.take off++Lib.decDigits u++l.drop (off+Lib.nDigits u)=L:=⟨_,rfl⟩
 rw[hLL] at hL
 have hLi:∀ i (hi:i<l.length),L[i]? = if off≤i∧i<off+dk.size then some dk[i - off]! else l[i]?:=fun i hi=>by
  rw[← hLL,← hD]
  have hdk':dk.toList.length=Lib.nDigits u:=by simpa using hdk
  by_cases c1:i<off
  ·rw[if_neg (by omega),List.append_assoc,List.getElem?_append_left (by simp;omega),List.getElem?_take,if_pos c1]
  ·by_cases c2:i<off+dk.size
   ·rw[if_pos ⟨by omega,c2⟩,List.getElem?_append_left (by simp;omega),List.getElem?_append_right (by simp;omega),List.length_take,Nat.min_eq_left (by omega)]
    rw[List.getElem?_eq_getElem (by simp;omega),getElem!_pos dk _ (by omega)]
    simp
   ·rw[if_neg (by omega),List.getElem?_append_right (by simp;omega),List.getElem?_drop]
    congr 1
    simp
    omega
 have hnew:(putCells (fun (b:UInt8)=>Value.int .u8 (b.toNat:Int)) off dk vs).toList.take L.length=L.map fun b=>Value.int .u8 (b.toNat:Int):=by
  apply List.ext_getElem?
  intro i
  rw[List.getElem?_take]
  by_cases hi:i<L.length
  ·have hi':i<l.length:=by omega
   rw[if_pos hi]
   have e1:(putCells (fun (b:UInt8)=>Value.int .u8 (b.toNat:Int)) off dk vs)[i]? = (vs[i]?).map fun x=>if off≤i∧i<off+dk.size then Value.int .u8 (dk[i - off]!.toNat:Int) else x:=by
    simp only[putCells,Array.getElem?_mapIdx]
   rw[List.getElem?_map,Array.getElem?_toList,e1,hcell i hi',hLi i hi']
   split
   ·rfl
   ·rw[List.getElem?_eq_getElem hi'];rfl
  ·rw[if_neg hi,List.getElem?_eq_none (by simp;omega)]
 have hw:=aDL (E:=E) ho (r:=0) (g:=g) (cs:=Bs l) (cs':=Bs L) rfl hne hg (w':=(putRow (fun (b:UInt8)=>Value.int .u8 (b.toNat:Int)) E.w g off dk).drewN n)
  (cur':=putCells (fun (b:UInt8)=>Value.int .u8 (b.toNat:Int)) off dk vs) (t:=t) (fz:=fz) (by simp) rfl rfl rfl
  (fun j hj=>by simp[putRow,Go.Sort.mapBlock,Array.getElem?_modify,Ne.symm hj])
  (by simp[putRow,Go.Sort.mapBlock,Array.getElem?_modify,hh,Go.Sort.onCells])
  (by unfold aGN at hfz ⊢;simpa[putCells] using hfz) hlim (by simp[putCells,Bs];omega)
  (by intro e;have:=congrArg List.length e;simp[Bs] at this;simp[this] at hL;omega)
  (by
   have:(Bs L).length=L.length:=by simp[Bs]
   rw[this,hnew]
   exact oN _ L)
 refine⟨{ E with w:=(putRow (fun (b:UInt8)=>Value.int .u8 (b.toNat:Int)) E.w g off dk).drewN n },_,.tup [],[.cells (Bs L)],rfl,rfl,⟨by rw[hLL],rfl⟩,⟨[],rfl,rfl⟩,?_,?_⟩
 ·exact hw.1
 ·exact hw.2
section
open Go.Shelf Go.RowKit Go.Sort Go.Lib
set_option maxHeartbeats 6400000 in
set_option maxRecDepth 100000 in
theorem aMN [Gv] {P:Program} {ρ:Ren} (L:LaysM.n284 P ρ) (u:Nat) (h1:1≤u) (h2:u<18446744073709551616) (w:World) (hc:∀ i,i<20→w.cell? ⟨ρ.g 17,i,none⟩=some (.int .u64 ((10^i:Nat):Int))) :
  Calls P (ρ.f 284) #[.int .u64 u] w fun e w'=>e=.returned (.int .i64 (Lib.nDigits u))∧w'=w:=by
 have mixed:=L.mixed
 have t53:=L.t53;have a53:=L.a53;have z53:=L.z53;have v53:=L.v53
 have t3:=L.t3;have a3:=L.a3;have z3:=L.z3;have v3:=L.v3
 have t212:=L.t212;have a212:=L.a212;have z212:=L.z212;have v212:=L.v212
 have t0:=L.t0;have a0:=L.a0;have z0:=L.z0;have v0:=L.v0
 have t4:=L.t4;have a4:=L.a4;have z4:=L.z4;have v4:=L.v4
 have e129:∀ args w,(callFunc (ρ.f 129) args).run P w=.ok (.enter (ρ.f 129) args) w:=enters_of L.f129 (by kernel_rfl) rfl
 have e317:∀ args w,(callFunc (ρ.f 317) args).run P w=.ok (.enter (ρ.f 317) args) w:=enters_of L.f317 (by kernel_rfl) rfl
 have e318:∀ args w,(callFunc (ρ.f 318) args).run P w=.ok (.enter (ρ.f 318) args) w:=enters_of L.f318 (by kernel_rfl) rfl
 obtain⟨hnd,h19⟩:=Lib.numDigits_eq u h1 h2
 have hL:Lib.bitLen u≤64:=Lib.bitLen_le u 64 (Nat.le_refl _) h2
 have hcell:=hc (Lib.l10 (Lib.bitLen u)) (by omega)
 have hto:((u:Int)).toNat=u:=by omega
 generalize hq:Lib.l10 (Lib.bitLen u)=q at hnd h19 hcell
 generalize hT:10^q=T at hnd hcell
 have h20:q<20:=by omega
 have Hnd:=Lib.hid hnd
 clear hnd hc
 go_enter L.f284,Body.n284_ntmps ρ
 go_wp2_with (first
  | (go_at_fn (ρ.f 129);refine(Any.bits_Len64 { L with } _ _ (by omega) (by omega)).mono ?_;rintro e w' ⟨rfl,rfl⟩)
  | (go_at_fn (ρ.f 317);refine(Any.internal_strconv_log10Pow2 { L with } _ (by first|exact hL|(rw[hto];exact hL)) _).mono ?_;rintro e w' ⟨rfl,rfl⟩)
  | (go_at_fn (ρ.f 318);refine(Any.internal_strconv_bool2_int { L with } _ _).mono ?_;rintro e w' ⟨rfl,rfl⟩))
 all_goals go_ret
 all_goals (
  refine⟨?_,rfl⟩
  have hnd:=Hnd.out
  congr 2
  split at hnd<;>simp_all<;>omega)
end
theorem aIS [Gv] (u:Nat) (h1:1≤u) (h2:u<18446744073709551616):ACalls Tryz.prog GP 219 [.val (.int .u64 (u:Int))] [] (fun r os=>os=[]∧r=.val (.int .i64 ((Lib.nDigits u:Nat):Int))):=by
 refine jA ⟨_,Tryz.func219,rfl,rfl⟩ fun E vs hl hG=>?_
 simp only[bY,bE] at hl
 obtain⟨_,_,rfl,rfl,rfl⟩:=hl
 have ht:∀ i:Fin 20,aHm.getD i.val 0=((10^i.val:Nat):Int):=by decide
 refine(aMN Tryz.laysM284 u h1 h2 E.w fun i hi=>?_).mono ?_
 ·obtain⟨_,_,hr,_⟩:=hG 1 (Is .u64 aHm) (by simp[GP])
  obtain⟨v,hv,hx⟩:=hr.cell i (.val (.int .u64 (aHm.getD i 0))) (by rw[Is,List.getElem?_map,List.getD_eq_getElem?_getD,List.getElem?_eq_getElem (show i<aHm.length from hi)];rfl)
  simp only[bE] at hx
  rw[ht ⟨i,hi⟩] at hx
  rw[← hx]
  rw[Nat.zero_add] at hv
  exact hv
 ·rintro e w' ⟨rfl,rfl⟩
  exact⟨rfl,Below.refl _ _⟩
theorem aDH [Gv] (i:Nat) (h:i<100):ACalls Tryz.prog GP 218 [.val (.int .i64 (i:Int))] [] (fun r os=>os=[]∧r=str (Lib.decDigits i)):=by
 refine jA ⟨_,Tryz.func218,rfl,rfl⟩ fun E vs hl hG=>?_
 simp only[bY,bE] at hl
 obtain⟨_,_,rfl,rfl,rfl⟩:=hl
 refine(Tryz.internal_strconv_small i h E.w).mono ?_
 rintro e w' ⟨rfl,rfl⟩
 exact⟨rfl,Below.refl _ _⟩
end Go.Proofs.YtefdnmeopbkflaaGreatDoor
namespace Go.Proofs.YtefdnmeopbkflaaGreatDoor
open Go Go.V
set_option linter.unusedSimpArgs false
set_option linter.unusedVariables false
set_option maxRecDepth 20000
theorem pX [Gv] {u:Nat} (h1:1≤u) (h:u<18446744073709551616):0<Lib.nDigits u∧Lib.nDigits u≤20:=by
 have:=Lib.numDigits_eq u h1 h
 refine⟨?_,by split at this<;>omega⟩
 rw[← Lib.decDigits_length]
 cases hd:Lib.decDigits u with
 | nil=>
  have:=Lib.lt_pow_nDigits u
  rw[← Lib.decDigits_length,hd] at this
  simp at this
  omega
 | cons=>simp
theorem aJT [Gv] (u:Nat) (h:u<18446744073709551616):ACalls Tryz.prog GP 172 [.val (.int .u64 (u:Int)),.val (.int .i64 10)] [] (fun r os=>os=[]∧r=str (Lib.decDigits u)):=by
 refine aQ Tryz.func172 rfl rfl Tryz.ntmps172 (rts:=#[9]) rfl Tryz.results172 (by simp) ?_
 simp only[seval,aZ]
 refine aC fun K hK=>aA [] ?_
 simp only[seval,kZs,cav,aI]
 and_intros<;>try first|exact⟨⟩|omega
 refine hK _ ?_
 clear hK K
 refine aE [0,1] ?_
 simp only[seval,kZq]
 refine aC fun K hK=>?_
 refine aC fun K hK=>aA [] ?_
 simp only[seval,kZs,cav,aL,aP,bH,beq_self_eq_true,aI]
 and_intros<;>try first|exact⟨⟩|omega
 refine hK _ ?_
 clear hK K
 refine bG rfl ?_
 refine aE [0,4] ?_
 simp only[seval,kZq]
 refine aC fun K2 hK2=>?_
 by_cases hs:u<100
 ·have d:decide ((u:Int)<100)=true:=decide_eq_true (by omega)
  have w1:IntKind.i64.wrap (u:Int)=(u:Int):=fD (by omega)
  have cS:=aDH u hs
  simp only[str] at cS
  refine aC fun K hK=>aA [] ?_
  simp only[seval,kZs,cav,aL,aP,bH,d,aI]
  and_intros<;>try first|exact⟨⟩|omega
  refine hK _ ?_
  clear hK K
  refine bG rfl ?_
  refine aC fun K3 hK3=>aA [] ?_
  simp only[seval,kZs,eL,Tryz.underlying3,eG,bA,aH,fF,Tryz.underlying30,Option.isSome_some,w1,aU,bF,aT]
  refine aV (by simp[aJ,aM,aH]) (cS) (by simp[aH,aM,aJ,flat]) ?_
  simp only[seval,kZs,str,aK,aI]
  refine hK3 _ ?_
  clear hK3 K3
  refine aE [4] ?_
  simp only[seval,kZq]
  refine aS ?_
  simp only[aI]
  simp only[qq,str,bR,cQ,bN,bO,dA,aB,aH]
 have d:decide ((u:Int)<100)=false:=decide_eq_false (by omega)
 refine aC fun K hK=>aA [] ?_
 simp only[seval,kZs,cav,aL,aP,bH,d,aI]
 and_intros<;>try first|exact⟨⟩|omega
 refine hK _ ?_
 clear hK K
 refine aR rfl (bC ?_)
 simp only[aI]
 refine hK2 _ ?_
 clear hK2 K2
 refine aE [0,4] ?_
 simp only[seval,kZq]
 refine aC fun K hK=>aA [] ?_
 simp only[seval,kZs,dF,bS,jK,aI]
 and_intros<;>try first|exact⟨⟩|omega
 refine hK _ ?_
 clear hK K
 have cN:=aIS u (by omega) h
 obtain⟨n1,n2⟩:=pX (u:=u) (by omega) h
 refine aE [0,5] ?_
 simp only[seval,kZq]
 refine aC fun K2 hK2=>aA [] ?_
 simp only[seval,kZs,aU,bF,aT,bA,aH]
 refine aV (by simp[aJ,aM,aH]) (cN) (by simp[aH,aM,aJ,flat]) ?_
 simp only[seval,kZs,aK,aI]
 refine hK2 _ ?_
 clear hK2 K2
 refine aE [0,5,6] ?_
 simp only[seval,kZq]
 have cF:=aBJ (List.replicate 24 0) 0 u (some 24) (by simp;omega) n1 h (by simp)
 obtain⟨L,hL⟩:∃ L,List.take 0 (List.replicate 24 0)++Lib.decDigits u++List.drop (0+Lib.nDigits u) (List.replicate 24 0)=L:=⟨_,rfl⟩
 have hdl:(Lib.decDigits u).length=Lib.nDigits u:=Lib.decDigits_length u
 have hLl:L.length=24:=by rw[← hL];simp[hdl];omega
 have hLt:L.take (Lib.nDigits u)=Lib.decDigits u:=by rw[← hL];simp[← hdl]
 rw[hL] at cF
 clear hL
 generalize Lib.nDigits u=nd at *
 generalize Lib.decDigits u=D at *
 refine aC fun K2 hK2=>aA [1000021] ?_
 simp only[seval,kZs,eY,iR,Option.map_none,Option.map_some,Tryz.underlying293,bD,eJ,Int.le_refl,dH,Int.cast_ofNat_Int,ne_eq,or_true,Int.toNat_zero,Nat.mul_one,Int.sub_zero,Int.toNat_natCast,aU,List.contains_cons,beq_self_eq_true,bF,aT,bA,bW,List.headD_cons,Tryz.underlying54,aH]
 refine⟨⟨Int.natCast_nonneg _,by omega⟩,gF [0] false [54,30] ⟨by decide,by simp,by simp[fU,bM _ _ (aJ _)]⟩ rfl (by simp[aH]) (by simp only[GHd,List.map_cons,List.map_nil,List.getD_cons_zero,gJ,cY _ _ (aJ _)];exact cF) ⟨by simp,by simp[fU,bM _ _ (aJ _)],by simp[eV,ref],fun h=>by cases h⟩ ?_⟩
 simp only[ren,gH,jD,gG,List.map_cons,gJ,cY _ _ (aJ L),List.map_nil,List.headD_cons,List.set_cons_zero,List.length_cons,List.length_nil,Nat.zero_add,List.drop_succ_cons,List.drop_nil,List.append_nil,dE,aG,aI]
 refine hK2 _ ?_
 clear hK2 K2
 refine aE [5,6] ?_
 simp only[seval,kZq]
 have hbl:(Bs L).length=24:=by simp[Bs,hLl]
 refine aC fun K2 hK2=>aA [24] ?_
 simp only[seval,kZs,eY,iR,Option.map_none,Option.map_some,Tryz.underlying293,bD,eJ,Int.le_refl,dH,Int.cast_ofNat_Int,ne_eq,or_true,Int.toNat_zero,Nat.mul_one,Int.sub_zero,Int.toNat_natCast,eL,Tryz.underlying9,List.contains_cons,beq_self_eq_true,eG,bA,bW,Tryz.underlying54,fF,Option.isSome_some,Tryz.underlying5,aI,hbl,eS,hLt,aJ,aX,jG,kJ]
 refine⟨⟨Int.natCast_nonneg _,by omega⟩,⟨by omega,hdl⟩,hK2 _ ?_⟩
 clear hK2 K2
 refine aE [4] ?_
 simp only[seval,kZq]
 refine aS ?_
 simp only[aI]
 simp only[qq,str,bR,cQ,bN,bO,dA,aB,aH]
theorem aEA [Gv] (u:Nat) (h:u<18446744073709551616):ACalls Tryz.prog GP 108 [.val (.int .u64 (u:Int)),.val (.int .i64 10)] [] (fun r os=>os=[]∧r=str (Lib.decDigits u)):=by
 have cU:=aJT u h
 simp only[str] at cU
 generalize Lib.decDigits u=D at *
 refine aQ Tryz.func108 rfl rfl Tryz.ntmps108 (rts:=#[9]) rfl Tryz.results108 (by simp) ?_
 simp only[seval,aZ]
 refine aC fun K hK=>aA [] ?_
 simp only[seval,kZs,cav,aI]
 and_intros<;>try first|exact⟨⟩|omega
 refine hK _ ?_
 clear hK K
 refine aE [0,1] ?_
 simp only[seval,kZq]
 refine aC fun K hK=>aA [] ?_
 simp only[seval,kZs,aU,bF,aT,bA,aH]
 refine aV (by simp[aJ,aM,aH]) (cU) (by simp[aH,aM,aJ,flat]) ?_
 simp only[seval,kZs,aK,aI]
 refine hK _ ?_
 clear hK K
 refine aE [4] ?_
 simp only[seval,kZq]
 refine aS ?_
 simp only[qq,bR,cQ,bN,bO,dA,aB,aH]
 rfl
theorem aNl [Gv] (n:Int) (h0:-9223372036854775808≤n) (h1:n≤9223372036854775807):ACalls Tryz.prog GP 266 [.val (.int .i64 n),.val (.int .i64 10)] [] (fun r os=>os=[]∧r=str (Lib.itoa n)):=by
 obtain⟨T,hT⟩:∃ T,Lib.itoa n=T:=⟨_,rfl⟩
 rw[hT]
 refine aQ Tryz.func266 rfl rfl Tryz.ntmps266 (rts:=#[9]) rfl Tryz.results266 (by simp) ?_
 simp only[seval,aZ]
 refine aC fun K hK=>aA [] ?_
 simp only[seval,kZs,cav,aI]
 and_intros<;>try first|exact⟨⟩|omega
 refine hK _ ?_
 clear hK K
 refine aE [0,1] ?_
 simp only[seval,kZq]
 refine aC fun K hK=>?_
 refine aC fun K hK=>aA [] ?_
 simp only[seval,kZs,cav,aL,aP,bH,beq_self_eq_true,aI]
 and_intros<;>try first|exact⟨⟩|omega
 refine hK _ ?_
 clear hK K
 refine bG rfl ?_
 refine aE [0] ?_
 simp only[seval,kZq]
 refine aC fun K2 hK2=>?_
 by_cases hs:0≤n∧n<100
 ·have d1:decide (0≤n)=true:=decide_eq_true hs.1
  have d2:decide (n<100)=true:=decide_eq_true hs.2
  obtain⟨i,rfl⟩:∃ i:Nat,n=i:=⟨n.toNat,by omega⟩
  have cS:=aDH i (by omega)
  have hi:Lib.decDigits i=T:=(Lib.itoa_nonneg i).symm.trans hT
  rw[hi] at cS
  simp only[str] at cS
  refine aC fun K hK=>aA [] ?_
  simp only[seval,kZs,cav,aL,aP,bH,d1,dD,bT,Option.bind_some,aW,dQ,gok,d2,bU,aI]
  and_intros<;>try first|exact⟨⟩|omega
  refine hK _ ?_
  clear hK K
  refine bG rfl ?_
  refine aC fun K3 hK3=>aA [] ?_
  simp only[seval,kZs,aU,bF,aT,bA,aH]
  refine aV (by simp[aJ,aM,aH]) (cS) (by simp[aH,aM,aJ,flat]) ?_
  simp only[seval,kZs,str,aK,aI]
  refine hK3 _ ?_
  clear hK3 K3
  refine aE [4] ?_
  simp only[seval,kZq]
  refine aS ?_
  simp only[aI]
  simp only[qq,str,bR,cQ,bN,bO,dA,aB,aH]
 obtain⟨u,hneg,h,hu,hun⟩:∃ u:Nat,(n<0∧n=-(u:Int)∨0≤n∧n=(u:Int))∧u<18446744073709551616∧1≤u∧u≤9223372036854775808:=by
  rcases Int.lt_or_le n 0 with hn|hn
  ·exact⟨(-n).toNat,.inl ⟨hn,by omega⟩,by omega,by omega,by omega⟩
  ·exact⟨n.toNat,.inr ⟨hn,by omega⟩,by omega,by omega,by omega⟩
 have cN:=aIS u hu h
 obtain⟨n1,n2⟩:=pX hu h
 rcases hneg with⟨hn,rfl⟩|⟨hn,rfl⟩
 ·have hi:45::Lib.decDigits u=T:=(Lib.itoa_neg u hu).symm.trans hT
  subst hi
  obtain⟨n,hnn⟩:∃ n,-(u:Int)=n:=⟨_,rfl⟩
  rw[hnn] at hn ⊢
  have d1:decide (0≤n)=false:=decide_eq_false (by omega)
  have d3:decide (n<0)=true:=decide_eq_true hn
  have w1:IntKind.u64.wrap (0 - IntKind.u64.wrap n)=(u:Int):=by rw[← hnn,IntKind.wrap_u64,IntKind.wrap_u64];omega
  refine aC fun K hK=>aA [] ?_
  simp only[seval,kZs,cav,aL,aP,bH,d1,dD,bT,Option.bind_some,aW,Bool.not_true,eW,gok,bU,aI]
  and_intros<;>try first|exact⟨⟩|omega
  refine hK _ ?_
  clear hK K
  refine aR rfl (bC ?_)
  simp only[aI]
  refine hK2 _ ?_
  clear hK2 K2
  refine aE [0] ?_
  simp only[seval,kZq]
  refine aC fun K hK=>aA [] ?_
  simp only[seval,kZs,dF,bS,jK,aI]
  and_intros<;>try first|exact⟨⟩|omega
  refine hK _ ?_
  clear hK K
  refine aC fun K hK=>aA [] ?_
  simp only[seval,kZs,eL,Tryz.underlying30,eG,bA,aH,fF,Tryz.underlying2,Option.isSome_some,aI]
  and_intros<;>try first|exact⟨⟩|omega
  refine hK _ ?_
  clear hK K
  refine aE [0,5,6] ?_
  simp only[seval,kZq]
  refine aC fun K2 hK2=>?_
  refine aC fun K hK=>aA [] ?_
  simp only[seval,kZs,cav,aL,aP,bH,d3,aI]
  and_intros<;>try first|exact⟨⟩|omega
  refine hK _ ?_
  clear hK K
  refine bG rfl ?_
  refine aA [] ?_
  simp only[seval,kZs,aun,w1,aI]
  refine hK2 _ ?_
  clear hK2 K2
  refine aE [0,5,6] ?_
  simp only[seval,kZq]
  refine aC fun K2 hK2=>aA [] ?_
  simp only[seval,kZs,aU,bF,aT,bA,aH]
  refine aV (by simp[aJ,aM,aH]) (cN) (by simp[aH,aM,aJ,flat]) ?_
  simp only[seval,kZs,aK,aI]
  refine hK2 _ ?_
  clear hK2 K2
  refine aE [0,5,6,7] ?_
  simp only[seval,kZq]
  have cF:=aBJ (List.replicate 24 0) 1 u (some 23) (by simp;omega) n1 h (by simp)
  obtain⟨L,hL⟩:∃ L,List.take 1 (List.replicate 24 0)++Lib.decDigits u++List.drop (1+Lib.nDigits u) (List.replicate 24 0)=L:=⟨_,rfl⟩
  have hdl:(Lib.decDigits u).length=Lib.nDigits u:=Lib.decDigits_length u
  have hLl:L.length=24:=by rw[← hL];simp[hdl];omega
  have hLt:(L.drop 1).take (Lib.nDigits u)=Lib.decDigits u:=by rw[← hL];simp[← hdl]
  have hLs:(Bs L).length=24:=by simp[Bs,hLl]
  rw[hL] at cF
  clear hL
  generalize Lib.nDigits u=nd at *
  generalize Lib.decDigits u=D at *
  have w9:IntKind.i64.wrap (1+(nd:Int))=1+(nd:Int):=lY (by omega) (by omega)
  have hto:(1+(nd:Int) - 1).toNat=nd:=by omega
  have h24:((24:Int) - 1).toNat=23:=rfl
  refine aC fun K2 hK2=>aA [1000032] ?_
  simp only[seval,kZs,cav,aL,aP,bH,w9,eY,iR,Option.map_some,Option.map_none,Tryz.underlying293,bD,eJ,dH,Int.cast_ofNat_Int,Int.le_refl,ne_eq,or_true,Nat.mul_one,hto,h24,aU,List.contains_cons,beq_self_eq_true,bF,aT,bA,bW,List.headD_cons,Tryz.underlying54,aH]
  refine⟨⟨by omega,by omega⟩,gF [0] false [54,30] ⟨by decide,by simp,by simp[fU,bM _ _ (aJ _)]⟩ rfl (by simp[aH]) (by simp only[GHd,List.map_cons,List.map_nil,List.getD_cons_zero,gJ,cY _ _ (aJ _)];exact cF) ⟨by simp,by simp[fU,bM _ _ (aJ _)],by simp[eV,ref],fun h=>by cases h⟩ ?_⟩
  simp only[ren,gH,jD,gG,List.map_cons,gJ,cY _ _ (aJ L),List.map_nil,List.headD_cons,List.set_cons_zero,List.length_cons,List.length_nil,Nat.zero_add,List.drop_succ_cons,List.drop_nil,List.append_nil,dE,aG,aI]
  refine hK2 _ ?_
  clear hK2 K2
  refine aE [0,5,7] ?_
  simp only[seval,kZq]
  refine aC fun K2 hK2=>?_
  refine aC fun K hK=>aA [] ?_
  simp only[seval,kZs,cav,aL,aP,bH,d3,aI]
  and_intros<;>try first|exact⟨⟩|omega
  refine hK _ ?_
  clear hK K
  refine bG rfl ?_
  refine aC fun K hK=>aA [] ?_
  simp only[seval,kZs,dN,cav,Tryz.underlying293,bD,Int.le_refl,Int.cast_ofNat_Int,Int.toNat_zero,Nat.mul_one,bQ,bX,bB,List.all_cons,dC,Value.oneCell',List.all_nil,spl,aI,aX,eA]
  and_intros<;>try first|exact⟨⟩|omega
  refine hK _ ?_
  clear hK K
  refine aE [5,7] ?_
  simp only[seval,kZq]
  have hB:AV.val (Value.int .u8 45)::Bs (List.drop 1 L)=Bs (45::L.drop 1):=rfl
  rw[hB]
  obtain⟨L2,hL2⟩:∃ L2,45::L.drop 1=L2:=⟨_,rfl⟩
  have hLt2:L2.take (1+nd)=45::D:=by rw[← hL2,Nat.add_comm,List.take_succ_cons,hLt]
  have hLl2:L2.length=24:=by rw[← hL2];simp;omega
  have hLs2:(Bs L2).length=24:=by simp[Bs,hLl2]
  have hto2:(1+(nd:Int)).toNat=1+nd:=by omega
  rw[hL2]
  clear hL2 hB
  refine aC fun K2 hK2=>aA [39] ?_
  simp only[seval,kZs,cav,aL,aP,bH,w9,eY,iR,Option.map_none,Option.map_some,Tryz.underlying293,bD,eJ,Int.le_refl,dH,Int.cast_ofNat_Int,ne_eq,or_true,Int.toNat_zero,Nat.mul_one,Int.sub_zero,hto2,eL,Tryz.underlying9,List.contains_cons,beq_self_eq_true,eG,bA,bW,Tryz.underlying54,fF,Option.isSome_some,Tryz.underlying5,aI,hLs2,eS,hLt2,aJ,aX,jG,kJ]
  refine⟨⟨by omega,by omega⟩,⟨by omega,by omega⟩,hK2 _ ?_⟩
  clear hK2 K2
  refine aE [4] ?_
  simp only[seval,kZq]
  refine aS ?_
  simp only[aI]
  simp only[qq,str,bR,cQ,bN,bO,dA,aB,aH]
 ·have hi:Lib.decDigits u=T:=(Lib.itoa_nonneg u).symm.trans hT
  subst hi
  have d1:decide (0≤(u:Int))=true:=decide_eq_true hn
  have d2:decide ((u:Int)<100)=false:=decide_eq_false (by omega)
  have d3:decide ((u:Int)<0)=false:=decide_eq_false (by omega)
  have w1:IntKind.u64.wrap (u:Int)=(u:Int):=uV _ (by rw[show IntKind.u64.bits=64 from rfl,nH];exact h)
  refine aC fun K hK=>aA [] ?_
  simp only[seval,kZs,cav,aL,aP,bH,d1,dD,bT,Option.bind_some,aW,dQ,gok,d2,bU,aI]
  and_intros<;>try first|exact⟨⟩|omega
  refine hK _ ?_
  clear hK K
  refine aR rfl (bC ?_)
  simp only[aI]
  refine hK2 _ ?_
  clear hK2 K2
  refine aE [0] ?_
  simp only[seval,kZq]
  refine aC fun K hK=>aA [] ?_
  simp only[seval,kZs,dF,bS,jK,aI]
  and_intros<;>try first|exact⟨⟩|omega
  refine hK _ ?_
  clear hK K
  refine aC fun K hK=>aA [] ?_
  simp only[seval,kZs,eL,Tryz.underlying30,eG,bA,aH,fF,Tryz.underlying2,Option.isSome_some,w1,aI]
  and_intros<;>try first|exact⟨⟩|omega
  refine hK _ ?_
  clear hK K
  refine aE [0,5,6] ?_
  simp only[seval,kZq]
  refine aC fun K2 hK2=>?_
  refine aC fun K hK=>aA [] ?_
  simp only[seval,kZs,cav,aL,aP,bH,d3,aI]
  and_intros<;>try first|exact⟨⟩|omega
  refine hK _ ?_
  clear hK K
  refine aR rfl (bC ?_)
  simp only[aI]
  refine hK2 _ ?_
  clear hK2 K2
  refine aE [0,5,6] ?_
  simp only[seval,kZq]
  refine aC fun K2 hK2=>aA [] ?_
  simp only[seval,kZs,aU,bF,aT,bA,aH]
  refine aV (by simp[aJ,aM,aH]) (cN) (by simp[aH,aM,aJ,flat]) ?_
  simp only[seval,kZs,aK,aI]
  refine hK2 _ ?_
  clear hK2 K2
  refine aE [0,5,6,7] ?_
  simp only[seval,kZq]
  have cF:=aBJ (List.replicate 24 0) 1 u (some 23) (by simp;omega) n1 h (by simp)
  obtain⟨L,hL⟩:∃ L,List.take 1 (List.replicate 24 0)++Lib.decDigits u++List.drop (1+Lib.nDigits u) (List.replicate 24 0)=L:=⟨_,rfl⟩
  have hdl:(Lib.decDigits u).length=Lib.nDigits u:=Lib.decDigits_length u
  have hLl:L.length=24:=by rw[← hL];simp[hdl];omega
  have hLt:(L.drop 1).take (Lib.nDigits u)=Lib.decDigits u:=by rw[← hL];simp[← hdl]
  have hLs:(Bs L).length=24:=by simp[Bs,hLl]
  rw[hL] at cF
  clear hL
  generalize Lib.nDigits u=nd at *
  generalize Lib.decDigits u=D at *
  have w9:IntKind.i64.wrap (1+(nd:Int))=1+(nd:Int):=lY (by omega) (by omega)
  have hto:(1+(nd:Int) - 1).toNat=nd:=by omega
  have h24:((24:Int) - 1).toNat=23:=rfl
  refine aC fun K2 hK2=>aA [1000032] ?_
  simp only[seval,kZs,cav,aL,aP,bH,w9,eY,iR,Option.map_some,Option.map_none,Tryz.underlying293,bD,eJ,dH,Int.cast_ofNat_Int,Int.le_refl,ne_eq,or_true,Nat.mul_one,hto,h24,aU,List.contains_cons,beq_self_eq_true,bF,aT,bA,bW,List.headD_cons,Tryz.underlying54,aH]
  refine⟨⟨by omega,by omega⟩,gF [0] false [54,30] ⟨by decide,by simp,by simp[fU,bM _ _ (aJ _)]⟩ rfl (by simp[aH]) (by simp only[GHd,List.map_cons,List.map_nil,List.getD_cons_zero,gJ,cY _ _ (aJ _)];exact cF) ⟨by simp,by simp[fU,bM _ _ (aJ _)],by simp[eV,ref],fun h=>by cases h⟩ ?_⟩
  simp only[ren,gH,jD,gG,List.map_cons,gJ,cY _ _ (aJ L),List.map_nil,List.headD_cons,List.set_cons_zero,List.length_cons,List.length_nil,Nat.zero_add,List.drop_succ_cons,List.drop_nil,List.append_nil,dE,aG,aI]
  refine hK2 _ ?_
  clear hK2 K2
  refine aE [0,5,7] ?_
  simp only[seval,kZq]
  refine aC fun K2 hK2=>?_
  refine aC fun K hK=>aA [] ?_
  simp only[seval,kZs,cav,aL,aP,bH,d3,aI]
  and_intros<;>try first|exact⟨⟩|omega
  refine hK _ ?_
  clear hK K
  refine aR rfl (bC ?_)
  simp only[aI]
  refine hK2 _ ?_
  clear hK2 K2
  refine aE [5,7] ?_
  simp only[seval,kZq]
  refine aC fun K2 hK2=>aA [43] ?_
  simp only[seval,kZs,cav,aL,aP,bH,w9,eY,iR,Option.map_some,Option.map_none,Tryz.underlying293,bD,eJ,dH,Int.cast_ofNat_Int,Int.le_refl,ne_eq,or_true,Nat.mul_one,hto,h24,eL,Tryz.underlying9,List.contains_cons,beq_self_eq_true,eG,bA,bW,Tryz.underlying54,fF,Option.isSome_some,Tryz.underlying5,aI,hLs,eA,eS,hLt,aJ,aX,jG,kJ]
  refine⟨⟨by omega,by omega⟩,⟨by omega,hdl⟩,hK2 _ ?_⟩
  clear hK2 K2
  refine aE [4] ?_
  simp only[seval,kZq]
  refine aS ?_
  simp only[aI]
  simp only[qq,str,bR,cQ,bN,bO,dA,aB,aH]
theorem aLq [Gv] (n:Int) (h0:-9223372036854775808≤n) (h1:n≤9223372036854775807):ACalls Tryz.prog GP 227 [.val (.int .i64 n)] [] (fun r os=>os=[]∧r=str (Lib.itoa n)):=by
 have c:=aNl n h0 h1
 simp only[str] at c
 generalize Lib.itoa n=T at *
 refine aQ Tryz.func227 rfl rfl Tryz.ntmps227 (rts:=#[9]) rfl Tryz.results227 (by simp) ?_
 simp only[seval,aZ]
 refine aC fun K hK=>aA [] ?_
 simp only[seval,kZs,cav,aI]
 and_intros<;>try first|exact⟨⟩|omega
 refine hK _ ?_
 clear hK K
 refine aE [0] ?_
 simp only[seval,kZq]
 refine aC fun K hK=>aA [] ?_
 simp only[seval,kZs,aU,cav,bF,aT,bA,aH]
 refine aV (by simp[aJ,aM,aH]) (c) (by simp[aH,aM,aJ,flat]) ?_
 simp only[seval,kZs,aK,aI]
 refine hK _ ?_
 clear hK K
 refine aE [2] ?_
 simp only[seval,kZq]
 refine aS ?_
 simp only[qq,bR,cQ,bN,bO,dA,aB,aH]
 rfl
theorem aEG [Gv] (n:Int) (h0:-9223372036854775808≤n) (h1:n≤9223372036854775807):ACalls Tryz.prog GP 176 [.val (.int .i64 n)] [] (fun r os=>os=[]∧r=str (Lib.itoa n)):=by
 have c:=aLq n h0 h1
 simp only[str] at c
 generalize Lib.itoa n=T at *
 refine aQ Tryz.func176 rfl rfl Tryz.ntmps176 (rts:=#[9]) rfl Tryz.results176 (by simp) ?_
 simp only[seval,aZ]
 refine aC fun K hK=>aA [] ?_
 simp only[seval,kZs,cav,aI]
 and_intros<;>try first|exact⟨⟩|omega
 refine hK _ ?_
 clear hK K
 refine aE [0] ?_
 simp only[seval,kZq]
 refine aC fun K hK=>aA [] ?_
 simp only[seval,kZs,aU,bF,aT,bA,aH]
 refine aV (by simp[aJ,aM,aH]) (c) (by simp[aH,aM,aJ,flat]) ?_
 simp only[seval,kZs,aK,aI]
 refine hK _ ?_
 clear hK K
 refine aE [2] ?_
 simp only[seval,kZq]
 refine aS ?_
 simp only[qq,bR,cQ,bN,bO,dA,aB,aH]
 rfl
def aED (d:Nat):UInt8:=if d<10 then UInt8.ofNat (48+d) else UInt8.ofNat (87+d)
def pD (v:Nat):List UInt8:=if h:v<16 then [aED v] else pD (v/16)++[aED (v%16)]
termination_by v
decreasing_by omega
theorem aEC [Gv] {v:Nat} (h:v<16):pD v=[aED v]:=by rw[pD,dif_pos h]
theorem aIJ [Gv] {v:Nat} (h:¬ v<16):pD v=pD (v/16)++[aED (v%16)]:=by rw[pD,dif_neg h]
def aJO:List UInt8:=[48,49,50,51,52,53,54,55,56,57,97,98,99,100,101,102,103,104,105,106,107,108,109,110,111,112,113,114,115,116,117,118,119,120,121,122]
theorem aIG [Gv] {d:Nat} (h:d<16):aJO.getD d 0=aED d:=by
 have:∀ d:Fin 16,aJO.getD d.val 0=aED d.val:=by decide
 exact this ⟨d,h⟩
theorem aOi [Gv] (v:Nat) (h:v<18446744073709551616):bits .and .u64 (v:Int) 15=((v%16:Nat):Int):=by
 have e:=Nat.and_two_pow_sub_one_eq_mod v 4
 rw[show (2:Nat)^4 - 1=15 from rfl,show (2:Nat)^4=16 from rfl] at e
 rw[show (15:Int)=((15:Nat):Int) from rfl]
 simp only[bits,BitVec.ofInt_natCast,BitVec.toNat_and,BitVec.toNat_ofNat]
 have hb:IntKind.u64.bits=64:=rfl
 rw[hb,nH,Nat.mod_eq_of_lt h,Nat.mod_eq_of_lt (by decide:15<18446744073709551616),e]
 exact uV _ (by rw[hb,nH];omega)
theorem aOO [Gv]:ACalls Tryz.prog GP 262 [.val (.int .i64 16)] [] (fun r os=>os=[]∧r=.val (.bool true)):=by
 refine aQ Tryz.func262 rfl rfl Tryz.ntmps262 (rts:=#[4]) rfl Tryz.results262 (by simp) ?_
 simp only[aZ,Nat.reduceAdd]
 refine aC fun K hK=>aA [] ?_
 simp only[qq,aF,Nat.reduceLT,aB,cav,aG,aI]
 and_intros<;>try first|exact⟨⟩|omega
 refine hK _ ?_
 clear hK K
 refine aE [0] ?_
 simp only[aD,aB,Nat.reduceEqDiff,if_true,if_false]
 have h1:IntKind.i64.wrap (16 - 1)=15:=by decide
 have h2:bits .and .i64 16 15=0:=by decide
 refine aC fun K hK=>aA [] ?_
 simp only[qq,aF,Nat.reduceLT,aB,reduceCtorEq,Nat.reduceEqDiff,cav,aL,aP,bH,h1,h2,beq_self_eq_true,aG,aI]
 refine hK _ ?_
 clear hK K
 refine aE [2] ?_
 simp only[aD,aB,Nat.reduceEqDiff,if_true,if_false]
 refine aS ?_
 simp only[qq,bR,cQ,bN,bO,dA,aB,aH]
theorem aQi [Gv]:ACalls Tryz.prog GP 263 [.val (.int .u64 16)] [] (fun r os=>os=[]∧r=.val (.int .i64 4)):=by
 have c:=aOr 16 (by decide) (by decide)
 have e:Lib.ctz 64 16=4:=by decide
 rw[e] at c
 refine aQ Tryz.func263 rfl rfl Tryz.ntmps263 (rts:=#[3]) rfl Tryz.results263 (by simp) ?_
 simp only[aZ,Nat.reduceAdd]
 refine aC fun K hK=>aA [] ?_
 simp only[qq,aF,Nat.reduceLT,aB,cav,aG,aI]
 and_intros<;>try first|exact⟨⟩|omega
 refine hK _ ?_
 clear hK K
 refine aE [0] ?_
 simp only[aD,aB,Nat.reduceEqDiff,if_true,if_false]
 refine aC fun K hK=>?_
 refine aBD (bC ?_)
 simp only[aI]
 refine hK _ ?_
 clear hK K
 refine aC fun K hK=>aA [] ?_
 simp only[seval,kZs,aU,bF,aT,bA,aH]
 refine aV (by simp[aJ,aM,aH]) (c) (by simp[aH,aM,aJ,flat]) ?_
 simp only[seval,kZs,Int.cast_ofNat_Int,aK,aI]
 refine hK _ ?_
 clear hK K
 refine aE [2] ?_
 simp only[aD,aB,Nat.reduceEqDiff,if_true,if_false]
 refine aS ?_
 simp only[qq,bR,cQ,bN,bO,dA,aB,aH]
theorem aLb [Gv] (u:Nat) (h:u<18446744073709551616):ACalls Tryz.prog GP 221 [.sl 0 [] .full,.val (.int .u64 (u:Int)),.val (.int .i64 16),.val (.bool false),.val (.bool false)] [] (fun r os=>os=[]∧r=.tup [.sl 0 [] .full,str (pD u)]):=by
 refine aQ Tryz.func221 rfl rfl Tryz.ntmps221 (rts:=#[54,9]) rfl Tryz.results221 (by simp) ?_
 simp only[aZ,Nat.reduceAdd]
 refine aC fun K hK=>aA [] ?_
 simp only[qq,aF,Nat.reduceLT,aB,cav,aG,aI]
 and_intros<;>try first|exact⟨⟩|omega
 refine hK _ ?_
 clear hK K
 refine aE [1,2,3,4,10] ?_
 simp only[aD,aB,Nat.reduceEqDiff,if_true,if_false]
 refine aC fun K hK=>?_
 refine aC fun K hK=>aA [] ?_
 simp only[seval,kZs,cav,aL,aP,bH,decide_false,dD,bT,Option.bind_some,aW,Bool.not_false,dQ,gok,bU,aI]
 and_intros<;>try first|exact⟨⟩|omega
 refine hK _ ?_
 clear hK K
 refine aR rfl (bC ?_)
 simp only[aI]
 refine hK _ ?_
 clear hK K
 refine aE [1,2,3,4,10] ?_
 simp only[aD,aB,Nat.reduceEqDiff,if_true,if_false]
 refine aC fun K hK=>aA [] ?_
 simp only[seval,kZs,dF,bS,jK,aI]
 and_intros<;>try first|exact⟨⟩|omega
 refine hK _ ?_
 clear hK K
 refine aC fun K hK=>aA [] ?_
 simp only[qq,aF,Nat.reduceLT,aB,cav,aG,aI]
 and_intros<;>try first|exact⟨⟩|omega
 refine hK _ ?_
 clear hK K
 refine aE [1,2,3,4,10,12,13] ?_
 simp only[aD,aB,Nat.reduceEqDiff,if_true,if_false]
 refine aC fun K hK=>?_
 refine aC fun K hK=>aA [] ?_
 simp only[seval,kZs,aI]
 and_intros<;>try first|exact⟨⟩|omega
 refine hK _ ?_
 clear hK K
 refine aR rfl (bC ?_)
 simp only[aI]
 refine hK _ ?_
 clear hK K
 refine aE [1,2,3,4,10,12,13] ?_
 simp only[aD,aB,Nat.reduceEqDiff,if_true,if_false]
 refine aC fun K0 hK0=>?_
 refine aC fun K2 hK2=>aA [] ?_
 simp only[seval,kZs,aU,bF,aT,bA,aH]
 refine aV (by simp[aJ,aM,aH]) (aOO) (by simp[aH,aM,aJ,flat]) ?_
 simp only[aK,aG,aI]
 refine hK2 _ ?_
 clear hK2 K2
 refine bG rfl ?_
 refine aE [1,2,3,4,10,12,13] ?_
 simp only[aD,aB,Nat.reduceEqDiff,if_true,if_false]
 refine aC fun K2 hK2=>aA [] ?_
 simp only[seval,kZs,eL,Tryz.underlying160,eG,bA,aH,fF,Tryz.underlying3,Option.isSome_some,aU,bF,aT]
 refine aV (by simp[aJ,aM,aH]) (aQi) (by simp[aH,aM,aJ,flat]) ?_
 simp only[seval,kZs,aK,eL,Tryz.underlying160,eG,bA,aH,fF,Tryz.underlying3,Option.isSome_some,aI]
 refine hK2 _ ?_
 clear hK2 K2
 have w16:IntKind.u64.wrap 16=16:=by decide
 have w15:IntKind.u64.wrap (16 - 1)=15:=by decide
 have w4:IntKind.u64.wrap 4=4:=by decide
 refine aE [1,2,3,4,10,12,13,14] ?_
 simp only[aD,aB,Nat.reduceEqDiff,if_true,if_false]
 rw[w4]
 refine aC fun K hK=>aA [] ?_
 simp only[seval,kZs,eL,Tryz.underlying30,eG,bA,aH,fF,Tryz.underlying3,Option.isSome_some,w16,aI]
 and_intros<;>try first|exact⟨⟩|omega
 refine hK _ ?_
 clear hK K
 refine aC fun K hK=>aA [] ?_
 simp only[seval,kZs,eL,Tryz.underlying160,eG,bA,aH,fF,Tryz.underlying3,Option.isSome_some,w16,cav,aL,aP,bH,w15,aI]
 and_intros<;>try first|exact⟨⟩|omega
 refine hK _ ?_
 clear hK K
 refine aE [1,3,4,10,12,13,14,15,16] ?_
 simp only[aD,aB,Nat.reduceEqDiff,if_true,if_false]
 refine aC fun K2 hK2=>bK ?_
 refine bZ (fun p:Nat×List UInt8=>⟨102,[(1,.val (.int .u64 (p.1:Int))),(3,.val (.bool false)),(4,.val (.bool false)),(10,.sl 0 [] .full),(12,.ptr 0 0),(13,.val (.int .i64 ((65 - p.2.length:Nat):Int))),(14,.val (.int .u64 4)),(15,.val (.int .u64 16)),(16,.val (.int .u64 15))],[.cells (Bs (List.replicate (65 - p.2.length) 0++p.2))]⟩)
  (fun p=>pD p.1++p.2=pD u∧p.1*16^p.2.length≤u∧p.2.length≤16) (fun p=>p.1) (u,[]) ⟨by simp,by simp,by simp⟩ (by simp only[List.length_nil,Nat.sub_zero,List.append_nil];exact .of_keep [1,3,4,10,12,13,14,15,16] rfl) ?_
 rintro⟨v,acc⟩ ⟨i1,i2,i3⟩
 simp only at i1 i2 i3 ⊢
 refine aC fun K hK=>?_
 have hv:v<18446744073709551616:=by
  refine Nat.lt_of_le_of_lt (Nat.le_trans ?_ i2) h
  exact Nat.le_mul_of_pos_right _ (Nat.pow_pos (by decide))
 obtain⟨k,hk⟩:∃ k,65 - acc.length=k+1:=⟨64 - acc.length,by omega⟩
 have hk64:k≤64:=by omega
 obtain⟨L,hL⟩:∃ L,List.replicate (k+1) (0:UInt8)++acc=L:=⟨_,rfl⟩
 have hLl:L.length=65:=by rw[← hL];simp;omega
 have hLt:L.take k=List.replicate k 0:=by rw[← hL];simp[List.take_append]
 have hLd:L.drop (k+1)=acc:=by rw[← hL];simp
 have hbl:(Bs L).length=65:=by rw[Bs,List.length_map,hLl]
 have w1:IntKind.i64.wrap (((k+1:Nat):Int) - 1)=(k:Int):=by rw[lY (by omega) (by omega)];omega
 have hnew:∀ x:UInt8,Bs (List.replicate k 0)++[AV.val (.int .u8 (x.toNat:Int))]++Bs acc=Bs (List.replicate k 0++x::acc):=fun x=>by simp[Bs,B]
 rw[hk,hL]
 clear hL
 by_cases hlt:v<16
 ·have d:decide ((v:Int)≥16)=false:=decide_eq_false (by omega)
  refine aC fun K hK=>aA [] ?_
  simp only[seval,kZs,aL,aP,bH,d,aI]
  and_intros<;>try first|exact⟨⟩|omega
  refine hK _ ?_
  clear hK K
  refine aR rfl ?_
  refine dR ?_
  simp only[aI,bL,if_true]
  refine hK2 _ ?_
  clear hK2 K2 hK K
  refine aE [1,3,4,10,12,13] ?_
  simp only[aD,aB,Nat.reduceEqDiff,if_true,if_false]
  refine aC fun K hK=>aA [] ?_
  simp only[seval,kZs,cav,aL,aP,bH,w1,aI]
  and_intros<;>try first|exact⟨⟩|omega
  refine hK _ ?_
  clear hK K
  refine aE [1,3,4,10,12,13] ?_
  simp only[aD,aB,Nat.reduceEqDiff,if_true,if_false]
  have hd:=aIG hlt
  unfold aJO at hd
  refine aA [] ?_
  simp only[seval,kZs,uU,Tryz.underlying9,cav,dJ,Int.cast_ofNat_Int,B,Int.toNat_natCast,hd,dN,Tryz.underlying331,bD,Nat.mul_one,bQ,bX,bB,spl,aI,hbl,eS,hLt,eA,List.all_cons,dC,Value.oneCell',List.all_nil,hLd,hnew]
  refine⟨⟨by omega,by omega⟩,⟨by omega,by omega⟩,by omega,hK0 _ ?_⟩
  clear hK0 K0
  rw[aEC hlt] at i1
  simp only[List.cons_append,List.nil_append] at i1
  have hl2:(aED v::acc).length=65 - k:=by simp;omega
  rw[i1] at hl2 ⊢
  obtain⟨M,hM⟩:∃ M,List.replicate k (0:UInt8)++pD u=M:=⟨_,rfl⟩
  have hMl:M.length=65:=by rw[← hM];simp;omega
  have hMd:M.drop k=pD u:=by rw[← hM];simp
  have hMb:(Bs M).length=65:=by rw[Bs,List.length_map,hMl]
  have hMt:(pD u).take (65 - k)=pD u:=List.take_of_length_le (by omega)
  rw[hM]
  clear hM
  generalize pD u=T at *
  refine aE [3,4,10,12,13] ?_
  simp only[aD,aB,Nat.reduceEqDiff,if_true,if_false]
  refine aC fun K hK=>?_
  refine aC fun K hK=>aA [] ?_
  simp only[seval,kZs,aI]
  and_intros<;>try first|exact⟨⟩|omega
  refine hK _ ?_
  clear hK K
  refine aR rfl (bC ?_)
  simp only[aI]
  refine hK _ ?_
  clear hK K
  refine aE [4,10,12,13] ?_
  simp only[aD,aB,Nat.reduceEqDiff,if_true,if_false]
  refine aC fun K hK=>?_
  refine aC fun K hK=>aA [] ?_
  simp only[seval,kZs,aI]
  and_intros<;>try first|exact⟨⟩|omega
  refine hK _ ?_
  clear hK K
  refine aR rfl (bC ?_)
  simp only[aI]
  refine hK _ ?_
  clear hK K
  refine aE [10,12,13] ?_
  simp only[aD,aB,Nat.reduceEqDiff,if_true,if_false]
  have hto:((65:Int) - (k:Int)).toNat=65 - k:=by omega
  refine aC fun K hK=>aA [101] ?_
  simp only[seval,kZs,eY,iR,Option.map_some,Option.map_none,Tryz.underlying331,bD,eJ,dH,Int.cast_ofNat_Int,Int.le_refl,ne_eq,not_true_eq_false,or_false,Int.toNat_natCast,Nat.mul_one,hto,eL,Tryz.underlying9,List.contains_cons,beq_self_eq_true,eG,bA,bW,Tryz.underlying54,fF,Option.isSome_some,Tryz.underlying5,aI,hMb,eA,hMd,eS,hMt,aJ,aX,jG,kJ]
  refine⟨⟨by omega,by omega⟩,⟨by omega,by omega⟩,hK _ ?_⟩
  clear hK K
  refine aE [10,11] ?_
  simp only[aD,aB,Nat.reduceEqDiff,if_true,if_false]
  refine aS ?_
  simp only[seval,qq,bR,cQ,bN,bO,dA,aB,aM,bW,aH]
  rfl
 have d:decide ((v:Int)≥16)=true:=decide_eq_true (by omega)
 refine aC fun K hK=>aA [] ?_
 simp only[seval,kZs,aL,aP,bH,d,aI]
 and_intros<;>try first|exact⟨⟩|omega
 refine hK _ ?_
 clear hK K
 refine bG rfl (bC ?_)
 simp only[aI]
 refine hK _ ?_
 clear hK K
 refine aE [1,3,4,10,12,13,14,15,16] ?_
 simp only[aD,aB,Nat.reduceEqDiff,if_true,if_false]
 refine bK ?_
 refine aC fun K hK=>aA [] ?_
 simp only[seval,kZs,cav,aL,aP,bH,w1,aI]
 and_intros<;>try first|exact⟨⟩|omega
 refine hK _ ?_
 clear hK K
 refine aE [1,3,4,10,12,13,14,15,16] ?_
 simp only[aD,aB,Nat.reduceEqDiff,if_true,if_false]
 have hd:=aIG (d:=v%16) (by omega)
 unfold aJO at hd
 have ha:=aOi v hv
 refine aC fun K hK=>aA [] ?_
 simp only[seval,kZs,aL,aP,bH,ha,uU,Tryz.underlying9,cav,dJ,Int.cast_ofNat_Int,B,Int.toNat_natCast,hd,dN,Tryz.underlying331,bD,Nat.mul_one,bQ,bX,bB,spl,aI,hbl,eS,hLt,eA,List.all_cons,dC,Value.oneCell',List.all_nil,hLd,hnew]
 refine⟨⟨by omega,by omega⟩,⟨by omega,by omega⟩,by omega,hK _ ?_⟩
 clear hK K
 refine aE [1,3,4,10,12,13,14,15,16] ?_
 simp only[aD,aB,Nat.reduceEqDiff,if_true,if_false]
 have hsh:(v:Int).fdiv (2^4)=((v/16:Nat):Int):=by
  rw[Int.fdiv_eq_ediv_of_nonneg _ (by decide)]
  omega
 refine aA [] ?_
 simp only[qq,aF,Nat.reduceLT,aB,Nat.reduceEqDiff,aL,aP,bH,Int.reduceLE,Int.reduceToNat,IntKind.bits,Nat.min_def,Nat.reduceLeDiff,hsh,aG]
 refine⟨(v/16,aED (v%16)::acc),⟨?_,?_,?_⟩,by omega,?_⟩
 ·rw[← i1,aIJ (v:=v) hlt]
  simp
 ·simp only[List.length_cons,Nat.pow_succ]
  refine Nat.le_trans ?_ i2
  rw[Nat.mul_comm (16^acc.length),← Nat.mul_assoc]
  exact Nat.mul_le_mul_right _ (Nat.div_mul_le_self v 16)
 ·simp only[List.length_cons]
  rcases Nat.lt_or_ge acc.length 15 with hq|hq
  ·omega
  ·exfalso
   have p15:16^15≤16^acc.length:=Nat.pow_le_pow_right (by decide) hq
   have:16*16^15≤v*16^acc.length:=Nat.mul_le_mul (by omega) p15
   have e:16*16^15=18446744073709551616:=by decide
   omega
 ·have e1:65 - (aED (v%16)::acc).length=k:=by simp;omega
  simp only[e1]
  exact .of_keep [1,3,4,10,12,13,14,15,16] rfl
theorem aGy [Gv] (u:Nat) (h:u<18446744073709551616):ACalls Tryz.prog GP 172 [.val (.int .u64 (u:Int)),.val (.int .i64 16)] [] (fun r os=>os=[]∧r=str (pD u)):=by
 have c:=aLb u h
 simp only[str] at c
 generalize pD u=T at *
 refine aQ Tryz.func172 rfl rfl Tryz.ntmps172 (rts:=#[9]) rfl Tryz.results172 (by simp) ?_
 simp only[aZ,Nat.reduceAdd]
 refine aC fun K hK=>aA [] ?_
 simp only[qq,aF,Nat.reduceLT,aB,cav,aG,aI]
 and_intros<;>try first|exact⟨⟩|omega
 refine hK _ ?_
 clear hK K
 refine aE [0,1] ?_
 simp only[aD,aB,Nat.reduceEqDiff,if_true,if_false]
 refine aC fun K hK=>?_
 refine aC fun K hK=>aA [] ?_
 simp only[seval,kZs,cav,aL,aP,bH,aI]
 and_intros<;>try first|exact⟨⟩|omega
 refine hK _ ?_
 clear hK K
 refine aR rfl (bC ?_)
 simp only[aI]
 refine hK _ ?_
 clear hK K
 refine aE [0,1] ?_
 simp only[aD,aB,Nat.reduceEqDiff,if_true,if_false]
 refine aC fun K hK=>aA [] ?_
 simp only[seval,kZs,aU,cav,bF,aT,bA,aM,bW,aH]
 refine aV (by simp[aJ,aM,aH]) (c) (by simp[aH,aM,aJ,flat]) ?_
 simp only[seval,kZs,aK,gW,aI]
 refine hK _ ?_
 clear hK K
 refine aE [8] ?_
 simp only[aD,aB,Nat.reduceEqDiff,if_true,if_false]
 refine aC fun K hK=>aA [] ?_
 simp only[seval,kZs,aI]
 and_intros<;>try first|exact⟨⟩|omega
 refine hK _ ?_
 clear hK K
 refine aE [4] ?_
 simp only[aD,aB,Nat.reduceEqDiff,if_true,if_false]
 refine aS ?_
 simp only[qq,bR,cQ,bN,bO,dA,aB,aH]
 rfl
theorem aJU [Gv] (u:Nat) (h:u<18446744073709551616):ACalls Tryz.prog GP 108 [.val (.int .u64 (u:Int)),.val (.int .i64 16)] [] (fun r os=>os=[]∧r=str (pD u)):=by
 have c:=aGy u h
 simp only[str] at c
 generalize pD u=T at *
 refine aQ Tryz.func108 rfl rfl Tryz.ntmps108 (rts:=#[9]) rfl Tryz.results108 (by simp) ?_
 simp only[aZ,Nat.reduceAdd]
 refine aC fun K hK=>aA [] ?_
 simp only[qq,aF,Nat.reduceLT,aB,cav,aG,aI]
 and_intros<;>try first|exact⟨⟩|omega
 refine hK _ ?_
 clear hK K
 refine aE [0,1] ?_
 simp only[aD,aB,Nat.reduceEqDiff,if_true,if_false]
 refine aC fun K hK=>aA [] ?_
 simp only[seval,kZs,aU,bF,aT,bA,aH]
 refine aV (by simp[aJ,aM,aH]) (c) (by simp[aH,aM,aJ,flat]) ?_
 simp only[seval,kZs,aK,aI]
 refine hK _ ?_
 clear hK K
 refine aE [4] ?_
 simp only[aD,aB,Nat.reduceEqDiff,if_true,if_false]
 refine aS ?_
 simp only[qq,bR,cQ,bN,bO,dA,aB,aH]
 rfl
def nV (x:Nat):List UInt8:=if kV x then [45] else []
def wX (x:Nat):List UInt8:=
 if mI x then [] else if dX x=9218868437227405312 then nV x++[105,110,102] else if dX x=0 then nV x++[48]
 else nV x++Lib.decDigits (kH x)++[112]++Lib.itoa (jR x)
theorem vT [Gv] (x:Nat):kH x<18446744073709551616:=by
 unfold kH
 split
 ·decide
 ·have:=(rU (x:=dX x) (by omega)).2
  exact Nat.lt_of_le_of_lt (Nat.div_le_self _ _) (by omega)
theorem uX [Gv] (x:Nat):-2000≤jR x∧jR x≤2000:=by
 unfold jR
 split
 ·decide
 ·obtain⟨m1,m2⟩:=rU (x:=dX x) (by omega)
  obtain⟨x1,x2⟩:=aBR (r:=dX x) (by omega) (by omega)
  have hk:=(Lib.lowest_bit 64 (sV (dX x)) (by omega) (by omega)).2
  omega
theorem aBE [Gv] (u:Nat) (h:u<18446744073709551616):(Lib.decDigits u).length≤20:=by
 rw[Lib.decDigits_length]
 by_cases h1:1≤u
 ·exact(pX h1 h).2
 ·rw[Lib.nDigits_small (by omega)];decide
theorem tJ [Gv] (n:Int) (h0:-9223372036854775808≤n) (h1:n≤9223372036854775807):(Lib.itoa n).length≤21:=by
 rcases Int.lt_or_le n 0 with hn|hn
 ·obtain⟨u,rfl⟩:∃ u:Nat,n=-(u:Int):=⟨(-n).toNat,by omega⟩
  rw[Lib.itoa_neg u (by omega),List.length_cons]
  have:=aBE u (by omega)
  omega
 ·obtain⟨u,rfl⟩:∃ u:Nat,n=(u:Int):=⟨n.toNat,by omega⟩
  rw[Lib.itoa_nonneg u]
  have:=aBE u (by omega)
  omega
theorem aPK [Gv] (a b:Array UInt8):(⟨a⟩:ByteArray)++⟨b⟩=⟨a++b⟩:=by
 apply ByteArray.ext
 simp
theorem oB [Gv] (a b:List UInt8):(⟨a.toArray⟩:ByteArray)++⟨b.toArray⟩=⟨(a++b).toArray⟩:=by
 rw[aPK]
 simp
theorem aNe [Gv] (x:Nat) (hx:x<18446744073709551616):ACalls Tryz.prog GP 111 [.val (.float .f64 x)] [] (fun r os=>os=[]∧r=str (wX x)):=by
 have cN:=xF x
 have cP:=aMU x hx
 have cI:=xE x hx
 have hz:=xL x
 have cU:=aEA (kH x) (vT x)
 obtain⟨p1,p2⟩:=uX x
 have cW:=aEG (jR x) (by omega) (by omega)
 simp only[str] at cU cW
 refine aQ Tryz.func111 rfl rfl Tryz.ntmps111 (rts:=#[9]) rfl Tryz.results111 (by simp) ?_
 simp only[seval,aZ]
 refine aC fun K hK=>aA [] ?_
 simp only[seval,kZs,cav,aI]
 and_intros<;>try first|exact⟨⟩|omega
 refine hK _ ?_
 clear hK K
 refine aE [0,2] ?_
 simp only[seval,kZq]
 refine aC fun K hK=>?_
 refine aC fun K2 hK2=>aA [] ?_
 simp only[seval,kZs,aU,bF,aT,bA,aH]
 refine aV (by simp[aJ,aM,aH]) (cN) (by simp[aH,aM,aJ,flat]) ?_
 simp only[aK,aG,aI]
 refine hK2 _ ?_
 clear hK2 K2
 by_cases c1:mI x=true
 ·have hr:wX x=[]:=if_pos c1
  rw[c1]
  refine bG rfl ?_
  refine aE [0] ?_
  simp only[seval,kZq]
  refine aC fun K hK=>aA [] ?_
  simp only[seval,kZs,cav,aI]
  and_intros<;>try first|exact⟨⟩|omega
  refine hK _ ?_
  clear hK K
  refine aS ?_
  simp only[aI]
  simp only[seval,qq,bR,cQ,bN,bO,dA,aB,aH]
  rw[hr]
  rfl
 have e1:mI x=false:=by simpa using c1
 have hn:rL x=kV x:=by unfold rL;rw[e1];rfl
 rw[e1]
 refine aR rfl (bC ?_)
 simp only[aI]
 refine hK _ ?_
 clear hK K
 refine aE [0] ?_
 simp only[seval,kZq]
 refine aC fun K hK=>aA [] ?_
 simp only[seval,kZs,aU,bF,aT,bA,aH]
 refine aV (by simp[aJ,aM,aH]) (cP) (by simp[aH,aM,aJ,flat]) ?_
 simp only[seval,kZs,hn,aK,gW,aI]
 refine hK _ ?_
 clear hK K
 refine aE [0,3,4,5] ?_
 simp only[seval,kZq]
 refine aC fun K hK=>aA [] ?_
 simp only[seval,kZs,cav,aI]
 and_intros<;>try first|exact⟨⟩|omega
 refine hK _ ?_
 clear hK K
 refine aE [0,3,4,5,6] ?_
 simp only[seval,kZq]
 refine aC fun K hK=>?_
 have next:∀ s,gE GP s ⟨34,[(0,.val (.float .f64 x)),(4,.val (.int .u64 ((kH x:Nat):Int))),(5,.val (.int .i64 (jR x))),(6,.val (.string ⟨(nV x).toArray⟩))],[]⟩→K s:=by
  intro s hw
  refine hK s (eX hw ?_)
  clear hw hK K
  have hU:wX x=if dX x=9218868437227405312 then nV x++[105,110,102] else if dX x=0 then nV x++[48]
    else nV x++Lib.decDigits (kH x)++[112]++Lib.itoa (jR x):=if_neg c1
  have s1:(nV x).length≤1:=by unfold nV;split<;>simp
  have s2:=aBE (kH x) (vT x)
  have s3:=tJ (jR x) (by omega) (by omega)
  generalize nV x=sg at *
  generalize kH x=odd at *
  generalize jR x=pw at *
  generalize Lib.decDigits odd=D1 at *
  generalize Lib.itoa pw=D2 at *
  refine aC fun K hK=>?_
  refine bK ?_
  refine aC fun K2 hK2=>aA [] ?_
  simp only[seval,kZs,aU,cav,bF,aT,bA,aH]
  refine aV (by simp[aJ,aM,aH]) (cI) (by simp[aH,aM,aJ,flat]) ?_
  simp only[seval,kZs,aK,aI]
  refine hK2 _ ?_
  clear hK2 K2
  by_cases c2:dX x=9218868437227405312
  ·have e2:decide (dX x=9218868437227405312)=true:=decide_eq_true c2
   rw[e2]
   refine bG rfl ?_
   refine aE [6] ?_
   simp only[seval,kZq]
   refine aC fun K hK=>aA [] ?_
   simp only[seval,kZs,cav,aL,aP,gL,dJ,aI]
   refine⟨by omega,hK _ ?_⟩
   rw[oB _ [105,110,102]]
   refine aE [2] ?_
   simp only[seval,kZq]
   refine aS ?_
   simp only[aI,bL]
   simp only[qq,bR,cQ,bN,bO,dA,aB,aH]
   rw[hU,if_pos c2]
   rfl
  have e2:decide (dX x=9218868437227405312)=false:=decide_eq_false c2
  rw[e2]
  refine aR rfl ?_
  refine aE [0,4,5,6] ?_
  simp only[seval,kZq]
  by_cases c3:dX x=0
  ·rw[c3] at hz
   refine aC fun K hK=>aA [] ?_
   simp only[seval,kZs,cav,aL,aP,rH,jU,hz,decide_true,aI]
   and_intros<;>try first|exact⟨⟩|omega
   refine hK _ ?_
   clear hK K
   refine bG rfl ?_
   refine aE [6] ?_
   simp only[seval,kZq]
   refine aC fun K hK=>aA [] ?_
   simp only[seval,kZs,cav,aL,aP,gL,dJ,aI]
   refine⟨by omega,hK _ ?_⟩
   rw[oB _ [48]]
   refine aE [2] ?_
   simp only[seval,kZq]
   refine aS ?_
   simp only[aI,bL]
   simp only[qq,bR,cQ,bN,bO,dA,aB,aH]
   rw[hU,if_neg c2,if_pos c3]
   rfl
  have e3:decide (dX x=0)=false:=decide_eq_false c3
  rw[e3] at hz
  refine aC fun K hK=>aA [] ?_
  simp only[seval,kZs,cav,aL,aP,rH,jU,hz,aI]
  and_intros<;>try first|exact⟨⟩|omega
  refine hK _ ?_
  clear hK K
  refine aR rfl (bC ?_)
  simp only[aI,bL]
  refine hK _ ?_
  clear hK K
  refine aE [4,5,6] ?_
  simp only[seval,kZq]
  refine aC fun K hK=>aA [] ?_
  simp only[seval,kZs,aU,cav,bF,aT,bA,aH]
  refine aV (by simp[aJ,aM,aH]) (cU) (by simp[aH,aM,aJ,flat]) ?_
  simp only[seval,kZs,aK,aL,aP,gL,dJ,oB,cav,List.length_append,oB _ [112],aU,bF,aT,bA,aH]
  refine⟨by omega,by omega,?_⟩
  refine aV (by simp[aJ,aM,aH]) (cW) (by simp[aH,aM,aJ,flat]) ?_
  simp only[seval,kZs,aK,aL,aP,gL,dJ,List.length_append,oB,aI]
  refine⟨by omega,hK _ ?_⟩
  clear hK K
  refine aE [2] ?_
  simp only[seval,kZq]
  refine aS ?_
  simp only[qq,bR,cQ,bN,bO,dA,aB,aH]
  rw[hU,if_neg c2,if_neg c3]
  rfl
 refine aE [0,3,4,5,6] ?_
 simp only[seval,kZq]
 refine aC fun K2 hK2=>aA [] ?_
 simp only[seval,kZs,aI]
 refine hK2 _ ?_
 clear hK2 K2
 cases hf:kV x
 ·refine aR rfl (bC ?_)
  simp only[aI]
  refine next _ ?_
  have:nV x=[]:=by unfold nV;rw[hf];rfl
  rw[this]
  exact .of_keep [0,4,5,6] rfl
 ·refine bG rfl ?_
  refine aA [] ?_
  simp only[seval,kZs,cav,aI]
  refine next _ ?_
  have:nV x=[45]:=by unfold nV;rw[hf];rfl
  rw[this]
  exact .of_keep [0,4,5,6] rfl
def oY (l:List (List UInt8)) (k:Nat):Nat:=if h:k<l.length then (if l.getD k []=[48] then oY l (k+1) else k) else k
termination_by l.length - k
theorem aFq [Gv] (l:List (List UInt8)) (k:Nat):k≤oY l k:=by
 fun_induction oY l k<;>omega
theorem aFr [Gv] (l:List (List UInt8)) (k:Nat) (hk:k≤l.length):oY l k≤l.length:=by
 fun_induction oY l k<;>omega
def aAQ (l:List (List UInt8)) (r:Nat×Nat) (i:Nat):Nat×Nat:=
 if 2≤oY l i - i∧r.2 - r.1<oY l i - i then (i,oY l i) else r
def rX (l:List (List UInt8)) (n:Nat):Nat×Nat:=(List.range n).foldl (aAQ l) (0,0)
theorem aCu [Gv] (l:List (List UInt8)) (n:Nat):rX l (n+1)=aAQ l (rX l n) n:=by
 simp[rX,List.range_succ]
theorem aEL [Gv] (l:List (List UInt8)) (n:Nat) (h:n≤l.length):(rX l n).1≤(rX l n).2∧(rX l n).2≤l.length:=by
 induction n with
 | zero=>simp[rX]
 | succ n ih=>
  rw[aCu]
  unfold aAQ
  have:=aFq l n
  have:=aFr l n (by omega)
  have:=ih (by omega)
  split
  ·exact⟨by simpa,by simpa⟩
  ·exact this
theorem aPj [Gv] (l:List (List UInt8)) (p:Perm) (hl:l.length≤1000):ACalls Tryz.prog GP 226 [.sl l.length (dU l) p] [] (fun r os=>os=[]∧r=.tup [.val (.int .i64 (((rX l l.length).1:Nat):Int)),.val (.int .i64 (((rX l l.length).2:Nat):Int))]):=by
 have hsl:=dY l
 refine aQ Tryz.func226 rfl rfl Tryz.ntmps226 (rts:=#[3,3]) rfl Tryz.results226 (by simp) ?_
 simp only[seval,aZ]
 refine aC fun K hK=>aA [] ?_
 simp only[seval,kZs,cav,aI]
 and_intros<;>try first|exact⟨⟩|omega
 refine hK _ ?_
 clear hK K
 refine aE [0,2,3] ?_
 simp only[seval,kZq]
 refine aC fun K0 hK0=>?_
 refine aC fun K hK=>aA [] ?_
 simp only[seval,kZs,cav,aI]
 and_intros<;>try first|exact⟨⟩|omega
 refine hK _ ?_
 clear hK K
 refine aE [0,2,3,4] ?_
 simp only[seval,kZq]
 refine bK ?_
 refine bZ (fun i:Nat=>⟨43,[(0,.sl l.length (dU l) p),(2,.val (.int .i64 (((rX l i).1:Nat):Int))),(3,.val (.int .i64 (((rX l i).2:Nat):Int))),(4,.val (.int .i64 (i:Int)))],[]⟩)
  (fun i=>i≤l.length) (fun i=>l.length - i) 0 (by omega) (.of_keep [0,2,3,4] rfl) ?_
 intro i hi
 refine aC fun K hK=>?_
 refine aC fun K hK=>aA [] ?_
 simp only[seval,kZs,bI,bV,eN,Tryz.underlying43,aL,aI,aP,bH,jM]
 and_intros<;>try first|exact⟨⟩|omega
 refine hK _ ?_
 clear hK K
 by_cases hlt:i<l.length
 ·have d:decide (i<l.length)=true:=decide_eq_true hlt
  refine bG (by simp[lk,d]) (bC ?_)
  simp only[aI]
  refine hK _ ?_
  clear hK K
  refine aE [0,2,3,4] ?_
  simp only[seval,kZq]
  obtain⟨n1,n2⟩:=aEL l i hi
  have n3:=aCu l i
  unfold aAQ at n3
  generalize rX l i=F at *
  refine aC fun K hK=>bK ?_
  refine aC fun K hK=>aA [] ?_
  simp only[seval,kZs,aI]
  and_intros<;>try first|exact⟨⟩|omega
  refine hK _ ?_
  clear hK K
  refine aE [0,2,3,4,5] ?_
  simp only[seval,kZq]
  refine aC fun K2 hK2=>?_
  have next:∀ s,gE GP s ⟨43,[(0,.sl l.length (dU l) p),(2,.val (.int .i64 (F.1:Int))),(3,.val (.int .i64 (F.2:Int))),(4,.val (.int .i64 (i:Int))),(5,.val (.int .i64 ((oY l i:Nat):Int)))],[]⟩→K2 s:=by
   intro s hw
   refine hK2 s (eX hw ?_)
   clear hw hK2 K2
   have r1:=aFq l i
   have r2:=aFr l i hi
   generalize oY l i=k at *
   have w1:IntKind.i64.wrap ((k:Int) - (i:Int))=((k - i:Nat):Int):=by rw[lY (by omega) (by omega)];omega
   have w2:IntKind.i64.wrap ((F.2:Int) - (F.1:Int))=((F.2 - F.1:Nat):Int):=by rw[lY (by omega) (by omega)];omega
   have fin:∀ s G,G=rX l (i+1)→gE GP s ⟨43,[(0,.sl l.length (dU l) p),(2,.val (.int .i64 (G.1:Int))),(3,.val (.int .i64 (G.2:Int))),(4,.val (.int .i64 (i:Int)))],[]⟩→K s:=by
    intro s G hG hw
    refine hK s (eX hw ?_)
    clear hw hK K
    have w3:IntKind.i64.wrap ((i+1:Nat):Int)=((i+1:Nat):Int):=fD (by omega)
    refine aA [] ?_
    simp only[seval,kZs,cav,aL,aP,bH,gO,w3,aI]
    refine⟨i+1,by omega,by omega,?_⟩
    rw[← hG]
    exact .of_keep [0,2,3,4] rfl
   by_cases c1:2≤k - i
   ·have d1:decide (((k - i:Nat):Int)≥2)=true:=decide_eq_true (by omega)
    by_cases c2:F.2 - F.1<k - i
    ·have d2:decide (((k - i:Nat):Int) > ((F.2 - F.1:Nat):Int))=true:=decide_eq_true (by omega)
     refine aC fun K3 hK3=>aA [] ?_
     simp only[seval,kZs,aL,aP,bH,w1,cav,d1,dD,bT,Option.bind_some,aW,dQ,gok,w2,d2,bU,aI]
     refine hK3 _ ?_
     clear hK3 K3
     refine bG rfl ?_
     refine aE [0,2,3,4,5] ?_
     simp only[seval,kZq]
     refine aA [] ?_
     simp only[seval,kZs]
     refine fin _ (i,k) (by rw[n3,if_pos ⟨c1,c2⟩]) ?_
     exact .of_keep [0,2,3,4] rfl
    have d2:decide (((k - i:Nat):Int) > ((F.2 - F.1:Nat):Int))=false:=decide_eq_false (by omega)
    refine aC fun K3 hK3=>aA [] ?_
    simp only[seval,kZs,aL,aP,bH,w1,cav,d1,dD,bT,Option.bind_some,aW,dQ,gok,w2,d2,bU,aI]
    refine hK3 _ ?_
    clear hK3 K3
    refine aR rfl (bC ?_)
    simp only[bL,aI]
    refine fin _ F (by rw[n3,if_neg (by omega)]) ?_
    exact .of_keep [0,2,3,4] rfl
   have d1:decide (((k - i:Nat):Int)≥2)=false:=decide_eq_false (by omega)
   refine aC fun K3 hK3=>aA [] ?_
   simp only[seval,kZs,aL,aP,bH,w1,cav,d1,dD,bT,Option.bind_some,aW,Bool.not_true,eW,gok,bU,aI]
   refine hK3 _ ?_
   clear hK3 K3
   refine aR rfl (bC ?_)
   simp only[bL,aI]
   refine fin _ F (by rw[n3,if_neg (by omega)]) ?_
   exact .of_keep [0,2,3,4] rfl
  refine bK ?_
  refine bZ (fun k:Nat=>⟨43,[(0,.sl l.length (dU l) p),(2,.val (.int .i64 (F.1:Int))),(3,.val (.int .i64 (F.2:Int))),(4,.val (.int .i64 (i:Int))),(5,.val (.int .i64 (k:Int)))],[]⟩)
   (fun k=>i≤k∧k≤l.length∧oY l k=oY l i) (fun k=>l.length - k) i (by simp;omega) (.of_keep [0,2,3,4,5] rfl) ?_
  rintro k ⟨k1,k2,k3⟩
  refine aC fun K3 hK3=>?_
  by_cases hkl:k<l.length
  ·have d1:decide (k<l.length)=true:=decide_eq_true hkl
   have hgd:=mR hkl
   refine aC fun K4 hK4=>aA [] ?_
   simp only[seval,kZs,bI,bV,eN,Tryz.underlying43,aL,aP,bH,jM,d1,dD,bT,Option.bind_some,aW,dQ,gok,dN,bD,hsl,Nat.mul_one,Int.toNat_natCast,aY,apart,aO,Tryz.underlying9,cav,bU,aI,List.length_drop,fL,hgd,str,gL,ByteArray.toList_mk]
   refine⟨⟨by omega,by omega⟩,by omega,hK4 _ ?_⟩
   clear hK4 K4
   by_cases hz:l.getD k []=[48]
   ·have e:(l.getD k [] == [48])=true:=by rw[hz];rfl
    rw[e]
    refine bG rfl (bC ?_)
    simp only[aI]
    refine hK3 _ ?_
    clear hK3 K3
    refine aE [0,2,3,4,5] ?_
    simp only[seval,kZq]
    have w3:IntKind.i64.wrap ((k+1:Nat):Int)=((k+1:Nat):Int):=fD (by omega)
    refine bK ?_
    refine aA [] ?_
    simp only[seval,kZs,cav,aL,aP,bH,gO,w3]
    refine⟨k+1,⟨by omega,by omega,?_⟩,by omega,.of_keep [0,2,3,4,5] rfl⟩
    rw[← k3]
    conv=>rhs;rw[oY,dif_pos hkl,if_pos hz]
   have e:(l.getD k [] == [48])=false:=by simpa using hz
   rw[e]
   refine aR rfl ?_
   refine dR ?_
   simp only[aI,bL,if_true]
   refine next _ ?_
   rw[← k3,oY,dif_pos hkl,if_neg hz]
   exact .of_keep [0,2,3,4,5] rfl
  have d1:decide (k<l.length)=false:=decide_eq_false hkl
  refine aC fun K4 hK4=>aA [] ?_
  simp only[seval,kZs,bI,bV,eN,Tryz.underlying43,aL,aP,bH,jM,d1,dD,bT,Option.bind_some,aW,Bool.not_true,eW,gok,bU,cav,aI]
  refine hK4 _ ?_
  clear hK4 K4
  refine aR rfl ?_
  refine dR ?_
  simp only[aI,bL,if_true]
  refine next _ ?_
  rw[← k3,oY,dif_neg hkl]
  exact .of_keep [0,2,3,4,5] rfl
 have d:decide (i<l.length)=false:=decide_eq_false hlt
 have he:i=l.length:=by omega
 subst he
 refine aR (by simp[lk,d]) ?_
 refine dR ?_
 simp only[aI,bL,if_true]
 refine hK0 _ ?_
 clear hK0 K0 hK K
 refine aE [2,3] ?_
 simp only[seval,kZq]
 refine aC fun K hK=>aA [] ?_
 simp only[seval,kZs,aI]
 and_intros<;>try first|exact⟨⟩|omega
 refine hK _ ?_
 clear hK K
 refine aE [2,3] ?_
 simp only[seval,kZq]
 refine aS ?_
 simp only[seval,qq,bR,cQ,bN,bO,dA,aB,aH]
theorem aAO [Gv] (sep:List UInt8) (m:Nat):∀ l:List (List UInt8),(∀ x∈l,x.length≤m)→(Lib.join l sep).length≤l.length*(m+sep.length)
 | [],_=>by simp[Lib.join_nil]
 | x::r,h=>by
  have h1:=h x (by simp)
  have h2:(Lib.joinTail sep r).length≤r.length*(m+sep.length):=by
   clear h1
   induction r with
   | nil=>simp[Lib.joinTail]
   | cons y r ih=>
    have:=ih (fun z hz=>h z (by simp at hz ⊢;rcases hz with hz|hz<;>simp[hz]))
    have h3:=h y (by simp)
    simp only[Lib.joinTail,List.map_cons,List.flatten_cons,List.length_append,List.length_cons,Nat.add_mul,Nat.one_mul] at this ⊢
    omega
  rw[Lib.join_cons,List.length_append,List.length_cons,Nat.add_mul,Nat.one_mul]
  omega
def jN (b:List UInt8):List (List UInt8):=(b.take 4).map fun x=>Lib.itoa (x.toNat:Int)
def aEB (b:List UInt8) (i:Nat):Nat:=(b.getD (2*i) 0).toNat*256+(b.getD (2*i+1) 0).toNat
def kI (b:List UInt8):List (List UInt8):=(List.range 8).map fun i=>pD (aEB b i)
def aDv (l:List (List UInt8)):List UInt8:=
 if (rX l l.length).2=0 then Lib.join l [58] else Lib.join (l.take (rX l l.length).1) [58]++[58,58]++Lib.join (l.drop (rX l l.length).2) [58]
def tB (v6:Bool) (b:List UInt8):List UInt8:=if lP v6 b then (if v6 then aDv (kI b) else Lib.join (jN b) [46]) else []
theorem aFH [Gv] (b:List UInt8):∀ x∈jN b,x.length≤21:=by
 intro x hx
 obtain⟨y,_,rfl⟩:=List.mem_map.1 hx
 have:=y.toNat_lt
 exact tJ _ (by omega) (by omega)
theorem aNg [Gv] {b:List UInt8} {i:Nat} (hi:i<4) (hb:b.length=16):(jN b).take (i+1)=(jN b).take i++[Lib.itoa ((b.getD i 0).toNat:Int)]:=by
 have hl:i<(jN b).length:=by simp[jN];omega
 rw[List.take_add_one,List.getElem?_eq_getElem hl]
 simp only[Option.toList_some]
 congr 2
 simp[jN,List.getD_eq_getElem?_getD,List.getElem?_eq_getElem (show i<b.length by omega)]
def sN (T:List (List UInt8)) (r i:Nat):AV:=if i=0 then .sl 0 [] .full else .sl i (dU (T.take i)) (.tok r)
def uZ (i:Nat):List AObj:=if i=0 then [] else [.tok 1 i]
theorem aIu [Gv] (b:List UInt8) (hb:b.length=16):ACalls Tryz.prog GP 175 [.agg (AD false b)] [] (fun r os=>os=[]∧r=str (tB false b)):=by
 have cA:=yE false b hb
 obtain⟨T,hT⟩:∃ T,tB false b=T:=⟨_,rfl⟩
 rw[hT]
 unfold tB at hT
 unfold AD at *
 have htk:(Bs b).take 16=Bs b:=List.take_of_length_le (by rw[aX];omega)
 have hlen:(Bs b).length=16:=by rw[aX];exact hb
 refine aQ Tryz.func175 rfl rfl Tryz.ntmps175 (rts:=#[9]) rfl Tryz.results175 (by simp) ?_
 simp only[aZ,Nat.reduceAdd]
 refine aC fun K hK=>aA [] ?_
 simp only[qq,aF,eF,bB,aB,List.all_cons,dC,Value.oneCell',eR,fN,Nat.reduceLT,cav,aG,aI]
 and_intros<;>try first|exact⟨⟩|omega
 refine hK _ ?_
 clear hK K
 refine aE [1] ?_
 simp only[aD,aB,Nat.reduceEqDiff,if_true,if_false]
 refine aC fun K hK=>?_
 refine aC fun K2 hK2=>aA [] ?_
 simp only[qq,aF,aY,aB,apart,aO,Tryz.underlying26,bD,hlen,Nat.reduceAdd,htk,Nat.reduceLT,aU,Nat.reduceEqDiff,bF,aT,bA,bW,List.headD_cons,aH,aM,aJ]
 refine aV (by simp[aJ,aM,aH]) (cA) (by simp[aH,aM,aJ,flat]) ?_
 simp only[seval,kZs,aK,aun,aI]
 refine hK2 _ ?_
 clear hK2 K2
 cases hf:lP false b with
 | false=>
  rw[hf] at hT
  refine bG rfl ?_
  refine aC fun K hK=>aA [] ?_
  simp only[seval,kZs,Bool.not_false,cav,aI]
  and_intros<;>try first|exact⟨⟩|omega
  refine hK _ ?_
  clear hK K
  refine aE [2] ?_
  simp only[aD,aB,Nat.reduceEqDiff,if_true,if_false]
  refine aS ?_
  simp only[aI]
  simp only[qq,bR,cQ,bN,bO,dA,aB,aH]
  rw[← hT];rfl
 | true=>
 rw[hf] at hT
 simp only[if_true,Bool.false_eq_true,if_false] at hT
 refine aR rfl (bC ?_)
 simp only[aI]
 refine hK _ ?_
 clear hK K
 refine aE [1] ?_
 simp only[aD,aB,Nat.reduceEqDiff,if_true,if_false]
 refine aC fun K hK=>aA [] ?_
 simp only[qq,aF,Nat.reduceLT,aB,cav,aG,aI]
 and_intros<;>try first|exact⟨⟩|omega
 refine hK _ ?_
 clear hK K
 refine aE [1,3] ?_
 simp only[aD,aB,Nat.reduceEqDiff,if_true,if_false]
 refine aC fun K hK=>?_
 refine aC fun K hK=>aA [] ?_
 simp only[seval,kZs,aN,Tryz.underlying26,bD,ne_eq,aY,apart,aO,Tryz.underlying4,aun,aI,aX,Bool.not_false]
 and_intros<;>try first|exact⟨⟩|omega
 refine hK _ ?_
 clear hK K
 refine bG rfl ?_
 refine aE [1,3] ?_
 simp only[aD,aB,Nat.reduceEqDiff,if_true,if_false]
 have hdl:(jN b).length=4:=by simp[jN];omega
 have h1:=aFH b
 have h2:=fun i (hi:i<4)=>aNg (b:=b) hi hb
 refine aC fun K2 hK2=>?_
 refine aC fun K hK=>aA [] ?_
 simp only[seval,kZs,aN,Tryz.underlying26,bD,ne_eq,eY,iR,Option.map_none,Option.map_some,cav,Tryz.underlying24,eJ,Int.le_refl,dH,true_or,Int.sub_zero,Int.toNat_zero,Nat.zero_mul,iC,or_true,Int.toNat_natCast,bI,bV,Tryz.underlying54,eN,aI,Int.cast_ofNat_Int]
 and_intros<;>try first|exact⟨⟩|omega
 refine hK _ ?_
 clear hK K
 refine aE [1,3,16,17,18] ?_
 simp only[aD,aB,Nat.reduceEqDiff,if_true,if_false]
 refine bK ?_
 refine bZ (fun i:Nat=>⟨71,[(1,.ptr 0 0),(3,sN (jN b) 1 i),(16,.osl 0 1 4 (some 16)),(17,.val (.int .i64 4)),(18,.val (.int .i64 (i:Int)))],.cells (.val (.bool false)::Bs b)::uZ i⟩)
  (fun i=>i≤4) (fun i=>4 - i) 0 (by omega) (.of_keep [1,3,16,17,18] rfl) ?_
 intro i hi
 refine aC fun K hK=>aA [] ?_
 simp only[seval,kZs,aL,aP,bH,aCB,aI]
 and_intros<;>try first|exact⟨⟩|omega
 refine hK _ ?_
 clear hK K
 by_cases hlt:i<4
 ·have d:decide (i<4)=true:=decide_eq_true hlt
  rw[d]
  refine bJ ?_
  refine bG rfl (bC ?_)
  simp only[aI]
  refine aC fun K3 hK3=>bK ?_
  have hgd:(AV.val (.bool false)::Bs b).getD (1+i) .top=.val (.int .u8 ((b.getD i 0).toNat:Int)):=by
   rw[Nat.add_comm,List.getD_cons_succ,kP (by omega)];rfl
  have cI:=aEG ((b.getD i 0).toNat:Int) (by omega) (by have:=(b.getD i 0).toNat_lt;omega)
  have wc:IntKind.i64.wrap ((b.getD i 0).toNat:Int)=((b.getD i 0).toNat:Int):=fD (by have:=(b.getD i 0).toNat_lt;omega)
  have h2i:=h2 i hlt
  simp only[str] at cI
  generalize Lib.itoa ((b.getD i 0).toNat:Int)=D at *
  have w3:IntKind.i64.wrap ((i+1:Nat):Int)=((i+1:Nat):Int):=fD (by omega)
  have step:∀ s,gE GP s ⟨71,[(1,.ptr 0 0),(3,.sl (i+1) (dU ((jN b).take i)++[str D]) (.tok 1)),(16,.osl 0 1 4 (some 16)),(17,.val (.int .i64 4)),(18,.val (.int .i64 (i:Int)))],[.cells (.val (.bool false)::Bs b),.tok 1 (i+1)]⟩→K3 s:=by
   intro s hw
   refine hK3 s (eX hw ?_)
   clear hw hK3 K3
   refine aA [] ?_
   simp only[seval,kZs,cav,aL,aP,bH,gO,w3,aI]
   refine⟨i+1,by omega,by omega,?_⟩
   have e3:dU ((jN b).take i)++[str D]=dU ((jN b).take (i+1)):=by rw[h2i];simp[dU]
   rw[e3]
   simp only[sN,uZ,Nat.add_one_ne_zero,if_false]
   exact .of_keep [1,3,16,17,18] rfl
  refine aC fun K hK=>aA [] ?_
  simp only[seval,kZs,dN,Tryz.underlying54,bD,Int.cast_ofNat_Int,Int.toNat_natCast,Nat.mul_one,aY,apart,aO,Tryz.underlying5,aI,hlen,hgd]
  and_intros<;>try first|exact⟨⟩|omega
  refine hK _ ?_
  clear hK K
  have hz:List.drop 1 (kZ [Value.string ⟨#[]⟩] 1)=[]:=rfl
  by_cases h0:i=0
  ·subst h0
   have g1:sN (jN b) 1 0=.sl 0 [] .full:=rfl
   have g2:uZ 0=[]:=rfl
   rw[g1,g2]
   refine aA [] ?_
   simp only[seval,kZs,Int.cast_ofNat_Int,eL,Tryz.underlying3,eG,bA,aH,fF,Tryz.underlying5,Option.isSome_some,wc,aU,bF,aT]
   refine aV (by simp[aJ,aM,aH]) (cI) (by simp[aH,aM,aJ,flat]) ?_
   simp only[seval,kZs,aK,dV,Tryz.underlying43,bD,bS,Nat.mul_one,dO,eM,spl,bB,hz,List.all_cons,dC,Value.oneCell',List.all_nil,dL,bI,fP,lX,gC,eQ]
   refine⟨Nat.le_refl _,step _ ?_⟩
   exact .of_keep [1,3,16,17,18] rfl
  have hsl:(dU ((jN b).take i)).length=i:=by rw[dY];simp;omega
  have g1:sN (jN b) 1 i=.sl i (dU ((jN b).take i)) (.tok 1):=if_neg h0
  have g2:uZ i=[.tok 1 i]:=if_neg h0
  rw[g1,g2]
  refine aA [] ?_
  simp only[seval,kZs,eL,Tryz.underlying3,eG,bA,aH,fF,Tryz.underlying5,Option.isSome_some,wc,aU,bF,aT]
  refine aV (by simp[aJ,aM,aH]) (cI) (by simp[aH,aM,aJ,flat]) ?_
  simp only[seval,kZs,aK,dV,Tryz.underlying43,bD,bS,Nat.mul_one,dO,eM,spl,bB,hz,List.all_cons,dC,Value.oneCell',List.all_nil,dL,bI,fP,lX,gC,eQ,hsl]
  refine⟨Nat.le_refl _,⟨by omega,by omega⟩,step _ ?_⟩
  exact .of_keep [1,3,16,17,18] rfl
 have d:decide (i<4)=false:=decide_eq_false hlt
 have he:i=4:=by omega
 subst he
 rw[d]
 refine bJ ?_
 refine aR rfl ?_
 refine dR ?_
 simp only[aI,bL,if_true]
 refine hK2 _ ?_
 clear hK2 K2
 have g1:sN (jN b) 1 4=.sl 4 (dU (jN b)) (.tok 1):=by
  unfold sN;rw[if_neg (by decide),List.take_of_length_le (by omega)]
 have g2:uZ 4=[.tok 1 4]:=rfl
 rw[g1,g2]
 refine aE [3] ?_
 simp only[aD,aB,Nat.reduceEqDiff,if_true,if_false]
 have hj:=aAO [46] 21 (jN b) h1
 rw[hdl] at hj
 have cJ:=uJ (jN b) [46] .no (by omega) (Nat.le_trans hj (by decide))
 rw[hdl,hT] at cJ
 generalize jN b=L at *
 simp only[str] at cJ
 refine aC fun K2 hK2=>aA [] ?_
 simp only[qq,aF,Nat.reduceLT,aB,aU,Nat.reduceAdd,Nat.reduceEqDiff,cav,bF,aT,bA,bW,aH]
 refine aV (by simp[dP,aM,aH]) cJ rfl ?_
 simp only[qq,aK,aF,Nat.reduceLT,aB,Nat.reduceEqDiff,aG,aI]
 refine hK2 _ ?_
 clear hK2 K2
 refine aE [2] ?_
 simp only[aD,aB,Nat.reduceEqDiff,if_true,if_false]
 refine aS ?_
 simp only[aI]
 simp only[qq,str,bR,cQ,bN,bO,dA,aB,aH]
theorem aQc [Gv] (a b:Nat) (ha:a<256) (hb:b<256):bits .or .u64 ((a*256:Nat):Int) (b:Int)=((a*256+b:Nat):Int):=by
 have e:a*256 ||| b=a*256+b:=by
  have:=Nat.shiftLeft_add_eq_or_of_lt (i:=8) (b:=b) hb a
  rw[Nat.shiftLeft_eq] at this
  exact this.symm
 rw[(nM .u64 _ _ uV).2.1,e,Nat.mod_eq_of_lt (by rw[show IntKind.u64.bits=64 from rfl,nH];omega)]
theorem aFS [Gv]:∀ (k u:Nat),u<16^(k+1)→(pD u).length≤k+1
 | 0,u,h=>by rw[aEC (by simpa using h)];simp
 | k+1,u,h=>by
  by_cases hu:u<16
  ·rw[aEC hu];simp
  ·have:=aFS k (u/16) (by rw[Nat.div_lt_iff_lt_mul (by decide),← Nat.pow_succ];exact h)
   rw[aIJ hu,List.length_append]
   simp only[List.length_cons,List.length_nil]
   omega
theorem aNo [Gv] (b:List UInt8) (i:Nat):aEB b i<65536:=by
 unfold aEB
 have:=(b.getD (2*i) 0).toNat_lt
 have:=(b.getD (2*i+1) 0).toNat_lt
 omega
theorem aFQ [Gv] (b:List UInt8):∀ x∈kI b,x.length≤16:=by
 intro x hx
 obtain⟨i,_,rfl⟩:=List.mem_map.1 hx
 have:=aFS 3 (aEB b i) (aNo b i)
 omega
theorem aNp [Gv] {b:List UInt8} {i:Nat} (hi:i<8):(kI b).take (i+1)=(kI b).take i++[pD (aEB b i)]:=by
 have hl:i<(kI b).length:=by simp[kI];omega
 rw[List.take_add_one,List.getElem?_eq_getElem hl]
 simp[kI]
theorem aIv [Gv] (b:List UInt8) (hb:b.length=16):ACalls Tryz.prog GP 175 [.agg (AD true b)] [] (fun r os=>os=[]∧r=str (tB true b)):=by
 have cA:=yE true b hb
 obtain⟨T,hT⟩:∃ T,tB true b=T:=⟨_,rfl⟩
 rw[hT]
 unfold tB at hT
 have hf:lP true b=true:=rfl
 rw[hf] at hT cA
 simp only[if_true] at hT
 unfold AD at *
 have htk:(Bs b).take 16=Bs b:=List.take_of_length_le (by rw[aX];omega)
 have hlen:(Bs b).length=16:=by rw[aX];exact hb
 refine aQ Tryz.func175 rfl rfl Tryz.ntmps175 (rts:=#[9]) rfl Tryz.results175 (by simp) ?_
 simp only[aZ,Nat.reduceAdd]
 refine aC fun K hK=>aA [] ?_
 simp only[qq,aF,eF,bB,aB,List.all_cons,dC,Value.oneCell',eR,fN,Nat.reduceLT,cav,aG,aI]
 and_intros<;>try first|exact⟨⟩|omega
 refine hK _ ?_
 clear hK K
 refine aE [1] ?_
 simp only[aD,aB,Nat.reduceEqDiff,if_true,if_false]
 refine aC fun K hK=>?_
 refine aC fun K2 hK2=>aA [] ?_
 simp only[qq,aF,aY,aB,apart,aO,Tryz.underlying26,bD,hlen,Nat.reduceAdd,htk,Nat.reduceLT,aU,Nat.reduceEqDiff,bF,aT,bA,bW,List.headD_cons,aH,aM,aJ]
 refine aV (by simp[aJ,aM,aH]) (cA) (by simp[aH,aM,aJ,flat]) ?_
 simp only[qq,aK,aF,aun,aB,Nat.reduceEqDiff,Bool.not_true,Nat.reduceLT,aG,aI]
 refine hK2 _ ?_
 clear hK2 K2
 refine aR rfl (bC ?_)
 simp only[aI]
 refine hK _ ?_
 clear hK K
 refine aE [1] ?_
 simp only[aD,aB,Nat.reduceEqDiff,if_true,if_false]
 refine aC fun K hK=>aA [] ?_
 simp only[qq,aF,Nat.reduceLT,aB,cav,aG,aI]
 and_intros<;>try first|exact⟨⟩|omega
 refine hK _ ?_
 clear hK K
 refine aE [1,3] ?_
 simp only[aD,aB,Nat.reduceEqDiff,if_true,if_false]
 refine aC fun K hK=>?_
 refine aC fun K hK=>aA [] ?_
 simp only[qq,aF,aN,Tryz.underlying26,bD,aB,Nat.reduceEqDiff,ne_eq,reduceCtorEq,Nat.reduceLT,aY,apart,aO,Tryz.underlying4,aun,aG,aI,aX,Bool.not_true]
 and_intros<;>try first|exact⟨⟩|omega
 refine hK _ ?_
 clear hK K
 refine aR rfl (bC ?_)
 simp only[aI]
 refine hK _ ?_
 clear hK K
 refine aE [1,3] ?_
 simp only[aD,aB,Nat.reduceEqDiff,if_true,if_false]
 have hdl:(kI b).length=8:=by simp[kI]
 have h1:=aFQ b
 have h2:=fun i (hi:i<8)=>aNp (b:=b) hi
 refine aC fun K2 hK2=>?_
 refine aC fun K hK=>aA [] ?_
 simp only[qq,aF,Nat.reduceLT,aB,cav,aG,aI]
 and_intros<;>try first|exact⟨⟩|omega
 refine hK _ ?_
 clear hK K
 refine aE [1,3,6] ?_
 simp only[aD,aB,Nat.reduceEqDiff,if_true,if_false]
 refine bK ?_
 refine bZ (fun i:Nat=>⟨71,[(1,.ptr 0 0),(3,sN (kI b) 1 i),(6,.val (.int .i64 ((2*i:Nat):Int)))],.cells (.val (.bool true)::Bs b)::uZ i⟩)
  (fun i=>i≤8) (fun i=>8 - i) 0 (by omega) (.of_keep [1,3,6] rfl) ?_
 intro i hi
 by_cases hlt:i<8
 ·have d:decide (2*i<16)=true:=decide_eq_true (by omega)
  refine aC fun K3 hK3=>?_
  refine aC fun K hK=>aA [] ?_
  simp only[qq,aF,Nat.reduceLT,aB,Nat.reduceEqDiff,cav,aL,aP,bH,aCB,d,aG,aI]
  and_intros<;>try first|exact⟨⟩|omega
  refine hK _ ?_
  clear hK K
  refine bG rfl (bC ?_)
  simp only[aI]
  refine hK3 _ ?_
  clear hK3 K3
  refine aE [1,3,6] ?_
  simp only[aD,aB,Nat.reduceEqDiff,if_true,if_false]
  have b1:=(b.getD (2*i) 0).toNat_lt
  have b2:=(b.getD (2*i+1) 0).toNat_lt
  have g1:(AV.val (.bool true)::Bs b).getD (1+2*i) .top=.val (.int .u8 ((b.getD (2*i) 0).toNat:Int)):=by
   rw[Nat.add_comm,List.getD_cons_succ,kP (by omega)];rfl
  have g2:(AV.val (.bool true)::Bs b).getD (1+(2*i+1)) .top=.val (.int .u8 ((b.getD (2*i+1) 0).toNat:Int)):=by
   rw[Nat.add_comm,List.getD_cons_succ,kP (by omega)];rfl
  have hN:aEB b i=(b.getD (2*i) 0).toNat*256+(b.getD (2*i+1) 0).toNat:=rfl
  have h2i:=h2 i hlt
  have cI:=aJU (aEB b i) (by rw[hN];omega)
  have ho:=aQc _ _ b1 b2
  rw[← hN] at ho
  have wi:IntKind.i64.wrap ((2*i+1:Nat):Int)=((2*i+1:Nat):Int):=fD (by omega)
  have w1:IntKind.u64.wrap ((b.getD (2*i) 0).toNat:Int)=((b.getD (2*i) 0).toNat:Int):=uV _ (by rw[show IntKind.u64.bits=64 from rfl,nH];omega)
  have w2:IntKind.u64.wrap ((b.getD (2*i+1) 0).toNat:Int)=((b.getD (2*i+1) 0).toNat:Int):=uV _ (by rw[show IntKind.u64.bits=64 from rfl,nH];omega)
  have w4:(b.getD (2*i) 0).toNat*2^8%18446744073709551616=(b.getD (2*i) 0).toNat*256:=by
   rw[show (2:Nat)^8=256 from rfl];omega
  simp only[str] at cI
  generalize pD (aEB b i)=D at *
  generalize aEB b i=g at *
  have w3:IntKind.i64.wrap ((2*i+2:Nat):Int)=((2*i+2:Nat):Int):=fD (by omega)
  have hz:List.drop 1 (kZ [Value.string ⟨#[]⟩] 1)=[]:=rfl
  refine aC fun K3 hK3=>bK ?_
  have step:∀ s,gE GP s ⟨71,[(1,.ptr 0 0),(3,.sl (i+1) (dU ((kI b).take i)++[str D]) (.tok 1)),(6,.val (.int .i64 ((2*i:Nat):Int)))],[.cells (.val (.bool true)::Bs b),.tok 1 (i+1)]⟩→K3 s:=by
   intro s hw
   refine hK3 s (eX hw ?_)
   clear hw hK3 K3
   refine aA [] ?_
   simp only[qq,aF,Nat.reduceLT,aB,Nat.reduceEqDiff,cav,aL,aP,bH,gO,w3,aG,aI]
   refine⟨i+1,by omega,by omega,?_⟩
   have e3:dU ((kI b).take i)++[str D]=dU ((kI b).take (i+1)):=by rw[h2i];simp[dU]
   rw[e3,show 2*(i+1)=2*i+2 by omega]
   simp only[sN,uZ,Nat.add_one_ne_zero,if_false]
   exact .of_keep [1,3,6] rfl
  by_cases h0:i=0
  ·have e1:sN (kI b) 1 i=.sl 0 [] .full:=if_pos h0
   have e2:uZ i=[]:=if_pos h0
   rw[e1,e2]
   refine dW [49] (by kernel_rfl) (by kernel_rfl) ?_
   simp only[qq,aF,Nat.reduceLT,aB,Nat.reduceEqDiff,aN,Tryz.underlying26,bD,ne_eq,reduceCtorEq,dN,Tryz.underlying24,Int.toNat_natCast,aY,List.contains_cons,Nat.reduceBEq,apart,aO,Tryz.underlying5,eL,Tryz.underlying30,eG,bA,bW,fF,Option.isSome_some,cav,aL,aP,bH,gO,wi,aU,Nat.reduceAdd,bF,beq_self_eq_true,aT,List.headD_cons,aH,Int.cast_ofNat_Int,Nat.mul_one,hlen,g1,w1,Int.reduceLE,Int.reduceToNat,IntKind.bits,Nat.min_def,Nat.reduceLeDiff,aCq,tN,w4,g2,w2,ho]
   refine⟨⟨by omega,by omega⟩,by omega,⟨by omega,by omega⟩,by omega,?_⟩
   refine aV (by simp[aJ,aM,aH]) (cI) (by simp[aH,aM,aJ,flat]) ?_
   simp only[qq,aK,aF,List.contains_cons,Nat.reduceBEq,dV,Tryz.underlying43,bD,bS,Nat.mul_one,dO,aB,Nat.reduceEqDiff,eM,spl,bB,hz,List.all_cons,dC,Value.oneCell',List.all_nil,Nat.reduceLeDiff,dL,Nat.reduceLT,bI,fP,lX,gC,eQ,Nat.reduceMul,aG]
   subst h0
   refine⟨Nat.le_refl _,step _ ?_⟩
   exact .of_keep [1,3,6] rfl
  have hsl:(dU ((kI b).take i)).length=i:=by rw[dY];simp;omega
  have e1:sN (kI b) 1 i=.sl i (dU ((kI b).take i)) (.tok 1):=if_neg h0
  have e2:uZ i=[.tok 1 i]:=if_neg h0
  rw[e1,e2]
  refine dW [49] (by kernel_rfl) (by kernel_rfl) ?_
  simp only[qq,aF,Nat.reduceLT,aB,Nat.reduceEqDiff,aN,Tryz.underlying26,bD,ne_eq,reduceCtorEq,dN,Tryz.underlying24,Int.toNat_natCast,aY,List.contains_cons,Nat.reduceBEq,apart,aO,Tryz.underlying5,eL,Tryz.underlying30,eG,bA,bW,fF,Option.isSome_some,cav,aL,aP,bH,gO,wi,aU,Nat.reduceAdd,bF,beq_self_eq_true,aT,List.headD_cons,aH,Int.cast_ofNat_Int,Nat.mul_one,hlen,g1,w1,Int.reduceLE,Int.reduceToNat,IntKind.bits,Nat.min_def,Nat.reduceLeDiff,aCq,tN,w4,g2,w2,ho]
  refine⟨⟨by omega,by omega⟩,by omega,⟨by omega,by omega⟩,by omega,?_⟩
  refine aV (by simp[aJ,aM,aH]) (cI) (by simp[aH,aM,aJ,flat]) ?_
  simp only[qq,aK,aF,List.contains_cons,Nat.reduceBEq,dV,Tryz.underlying43,bD,bS,Nat.mul_one,dO,aB,Nat.reduceEqDiff,eM,spl,bB,hz,List.all_cons,dC,Value.oneCell',List.all_nil,Nat.reduceLeDiff,Nat.reduceAdd,dL,Nat.reduceLT,bI,fP,lX,gC,eQ,hsl,aG]
  refine⟨Nat.le_refl _,⟨by omega,by omega⟩,step _ ?_⟩
  exact .of_keep [1,3,6] rfl
 have d:decide (2*i<16)=false:=decide_eq_false (by omega)
 have he:i=8:=by omega
 subst he
 refine aC fun K3 hK3=>?_
 refine aC fun K hK=>aA [] ?_
 simp only[qq,Nat.reduceMul,Int.cast_ofNat_Int,Nat.reduceSub,aF,Nat.reduceLT,aB,Nat.reduceEqDiff,cav,aL,aP,bH,Int.reduceLT,aG,aI]
 and_intros<;>try first|exact⟨⟩|omega
 refine hK _ ?_
 clear hK K
 refine aR rfl ?_
 refine dR ?_
 simp only[aI,bL,if_true]
 refine hK2 _ ?_
 clear hK2 K2 hK3 K3
 have g1:sN (kI b) 1 8=.sl 8 (dU (kI b)) (.tok 1):=by
  unfold sN;rw[if_neg (by decide),List.take_of_length_le (by omega)]
 have g2:uZ 8=[.tok 1 8]:=rfl
 rw[g1,g2]
 refine aE [3] ?_
 simp only[aD,aB,Nat.reduceEqDiff,if_true,if_false]
 unfold aDv at hT
 have cO:=aPj (kI b) .no (by omega)
 have jj:=fun (l:List (List UInt8)) (h:∀ x∈l,x.length≤16)=>aAO [58] 16 l h
 rw[hdl] at hT cO
 obtain⟨n1,n2⟩:=aEL (kI b) 8 (by omega)
 have n3:(rX (kI b) 8).2≤8:=by omega
 generalize kI b=L at *
 generalize rX L 8=F at *
 refine aC fun K2 hK2=>aA [] ?_
 simp only[qq,aF,Nat.reduceLT,aB,aU,Nat.reduceAdd,Nat.reduceEqDiff,bF,aT,bA,bW]
 refine aV (by simp[dP,aM,aH]) cO rfl ?_
 simp only[qq,aK,aF,Nat.reduceLT,aB,Nat.reduceEqDiff,gW,aG,aI]
 refine hK2 _ ?_
 clear hK2 K2
 refine aE [3,7,8] ?_
 simp only[aD,aB,Nat.reduceEqDiff,if_true,if_false]
 refine aC fun K2 hK2=>?_
 by_cases hz:F.2=0
 ·rw[if_pos hz] at hT
  have d:((F.2:Int) == 0)=true:=by rw[hz];rfl
  have hj:=jj L h1
  have cJ:=uJ L [58] .no (by omega) (Nat.le_trans hj (by rw[hdl];decide))
  rw[hdl,hT] at cJ
  refine aC fun K hK=>aA [] ?_
  simp only[qq,aF,Nat.reduceLT,aB,Nat.reduceEqDiff,cav,aL,aP,bH,d,aG,aI]
  and_intros<;>try first|exact⟨⟩|omega
  refine hK _ ?_
  clear hK K
  refine bG rfl ?_
  refine aE [3] ?_
  simp only[aD,aB,Nat.reduceEqDiff,if_true,if_false]
  simp only[str] at cJ
  refine aC fun K3 hK3=>aA [] ?_
  simp only[qq,aF,Nat.reduceLT,aB,aU,Nat.reduceAdd,Nat.reduceEqDiff,cav,bF,aT,bA,bW,aH]
  refine aV (by simp[dP,aM,aH]) cJ rfl ?_
  simp only[qq,aK,aF,Nat.reduceLT,aB,Nat.reduceEqDiff,aG,aI]
  refine hK3 _ ?_
  clear hK3 K3
  refine aE [2] ?_
  simp only[aD,aB,Nat.reduceEqDiff,if_true,if_false]
  refine aS ?_
  simp only[aI]
  simp only[qq,str,bR,cQ,bN,bO,dA,aB,aH]
 rw[if_neg hz] at hT
 have d:((F.2:Int) == 0)=false:=by rw[beq_eq_false_iff_ne];omega
 refine aC fun K hK=>aA [] ?_
 simp only[qq,aF,Nat.reduceLT,aB,Nat.reduceEqDiff,cav,aL,aP,bH,d,aG,aI]
 and_intros<;>try first|exact⟨⟩|omega
 refine hK _ ?_
 clear hK K
 refine aR rfl (bC ?_)
 simp only[aI]
 refine hK2 _ ?_
 clear hK2 K2
 refine aE [3,7,8] ?_
 simp only[aD,aB,Nat.reduceEqDiff,if_true,if_false]
 refine aC fun K2 hK2=>?_
 have st:∀ n,(dU L).take n=dU (L.take n):=fun n=>by simp[dU]
 have sd:∀ n,(dU L).drop n=dU (L.drop n):=fun n=>by simp[dU]
 have l1:(L.take F.1).length=F.1:=by simp;omega
 have l2:(L.drop F.2).length=8 - F.2:=by simp[hdl]
 have j1:=jj (L.take F.1) (fun x hx=>h1 x (List.mem_of_mem_take hx))
 have j2:=jj (L.drop F.2) (fun x hx=>h1 x (List.mem_of_mem_drop hx))
 rw[l1] at j1
 rw[l2] at j2
 have k1:F.1*(16+[(58:UInt8)].length)≤8*17:=Nat.mul_le_mul (by omega) (Nat.le_refl _)
 have k2:(8 - F.2)*(16+[(58:UInt8)].length)≤8*17:=Nat.mul_le_mul (by omega) (Nat.le_refl _)
 have c1:=uJ (L.take F.1) [58] .no (by omega) (by omega)
 have c2:=uJ (L.drop F.2) [58] .no (by omega) (by omega)
 rw[l1] at c1
 rw[l2] at c2
 have hto:((8:Int) - (F.2:Int)).toNat=8 - F.2:=by omega
 have hts:((dU (L.drop F.2)).take (8 - F.2))=dU (L.drop F.2):=List.take_of_length_le (by rw[dY];omega)
 generalize Lib.join (L.take F.1) [58]=D1 at *
 generalize Lib.join (L.drop F.2) [58]=D2 at *
 simp only[str] at c1 c2
 refine dW [64,69] (by kernel_rfl) (by kernel_rfl) ?_
 simp only[qq,aF,Nat.reduceLT,aB,Nat.reduceEqDiff,eY,iR,Option.map_none,Option.map_some,Tryz.underlying43,bD,dY,hdl,Nat.mul_one,eJ,Int.le_refl,dH,Int.cast_ofNat_Int,ne_eq,reduceCtorEq,true_or,Int.sub_zero,Int.toNat_natCast,Int.toNat_zero,st,iC,aU,Nat.reduceAdd,List.contains_cons,Nat.reduceBEq,cav,bF,beq_self_eq_true,aT,bA,bW,List.headD_cons,aH,dP]
 refine⟨by omega,?_⟩
 refine aV (by simp[dP,aM,aH]) c1 rfl ?_
 simp only[qq,aK,aF,aB,Nat.reduceEqDiff,cav,aL,aP,gL,dJ,Nat.reduceAdd,oB _ [58,58],Nat.reduceLT,eY,iR,Option.map_some,Option.map_none,Tryz.underlying43,bD,dY,hdl,Nat.mul_one,eJ,dH,Int.cast_ofNat_Int,Int.le_refl,ne_eq,not_true_eq_false,or_false,hto,Int.toNat_natCast,sd,hts,iC,aU,List.contains_cons,Nat.reduceBEq,bF,beq_self_eq_true,Bool.false_or,aT,bA,bW,List.headD_cons,aH]
 refine⟨by omega,by omega,?_⟩
 refine aV (by simp[dP,aM,aH]) c2 rfl ?_
 simp only[qq,aK,aF,aB,Nat.reduceEqDiff,aL,aP,gL,dJ,List.length_append,Nat.reduceAdd,oB,Nat.reduceLT,aG,aI]
 refine⟨by omega,hK2 _ ?_⟩
 clear hK2 K2
 refine aE [2] ?_
 simp only[aD,aB,Nat.reduceEqDiff,if_true,if_false]
 refine aS ?_
 simp only[qq,bR,cQ,bN,bO,dA,aB,aH]
 rw[← hT];rfl
theorem aKx [Gv] (v6:Bool) (b:List UInt8) (hb:b.length=16):ACalls Tryz.prog GP 175 [.agg (AD v6 b)] [] (fun r os=>os=[]∧r=str (tB v6 b)):=by
 cases v6
 ·exact aIu b hb
 ·exact aIv b hb
def aEK (v6:Bool) (b:List UInt8) (bits:Int):List UInt8:=if yT v6 b bits then tB v6 b++[47]++Lib.itoa bits else []
theorem aGu [Gv] (l:List (List UInt8)) (h:l.length=8) (h1:∀ x∈l,x.length≤16):(aDv l).length≤300:=by
 have jj:=fun (l:List (List UInt8)) (h:∀ x∈l,x.length≤16)=>aAO [58] 16 l h
 obtain⟨n1,n2⟩:=aEL l l.length (by omega)
 unfold aDv
 split
 ·have:=jj l h1
  rw[h] at this
  exact Nat.le_trans this (by decide)
 ·generalize rX l l.length=F at *
  have j1:=jj (l.take F.1) (fun x hx=>h1 x (List.mem_of_mem_take hx))
  have j2:=jj (l.drop F.2) (fun x hx=>h1 x (List.mem_of_mem_drop hx))
  have l1:(l.take F.1).length≤8:=by simp;omega
  have l2:(l.drop F.2).length≤8:=by simp;omega
  have k1:(l.take F.1).length*(16+[(58:UInt8)].length)≤8*17:=Nat.mul_le_mul l1 (Nat.le_refl _)
  have k2:(l.drop F.2).length*(16+[(58:UInt8)].length)≤8*17:=Nat.mul_le_mul l2 (Nat.le_refl _)
  simp only[List.length_append,List.length_cons,List.length_nil] at *
  omega
theorem aCM [Gv] (v6:Bool) (b:List UInt8):(tB v6 b).length≤300:=by
 unfold tB
 split
 ·split
  ·exact aGu _ (by simp[kI]) (aFQ b)
  ·have:=aAO [46] 21 (jN b) (aFH b)
   have l1:(jN b).length≤4:=by simp[jN];omega
   have k1:(jN b).length*(21+[(46:UInt8)].length)≤4*22:=Nat.mul_le_mul l1 (Nat.le_refl _)
   omega
 ·simp
theorem aJi [Gv] {v6:Bool} {b:List UInt8} {bits:Int} (h:yT v6 b bits=true):0≤bits∧bits≤128∧lP v6 b=true:=by
 unfold yT at h
 cases hn:nG v6 b bits with
 | none=>rw[hn] at h;cases h
 | some l=>
  unfold nG at hn
  by_cases hc:lP v6 b=true∧0≤bits∧bits≤(if v6 then 128 else 32)
  ·refine⟨hc.2.1,?_,hc.1⟩
   have:=hc.2.2
   split at this<;>omega
  ·rw[if_neg hc] at hn;cases hn
theorem aMM [Gv] (v6:Bool) (b:List UInt8) (bits:Int) (hb:b.length=16) (h64:-9223372036854775808≤bits∧bits≤9223372036854775807) :
  ACalls Tryz.prog GP 110 [.agg (NT v6 b bits)] [] (fun r os=>os=[]∧r=str (aEK v6 b bits)):=by
 have cC:=aCr v6 b bits hb h64
 have cA:=aKx v6 b hb
 have cI:=aEG bits h64.1 h64.2
 have la:=aCM v6 b
 have li:=tJ bits h64.1 h64.2
 have hNl:=fZ v6 b bits hb
 have hNo:=jO v6 b bits
 have hNn:=iZ v6 b bits
 have hNt:(NT v6 b bits).take 18=NT v6 b bits:=List.take_of_length_le (by omega)
 have hN0:(NT v6 b bits).take 17=AD v6 b:=by
  have:(Bs b).length=16:=by rw[aX];exact hb
  simp[NT,AD,List.take_append,this]
 have hN17:(NT v6 b bits).getD 17 .top=.val (.int .i64 bits):=by
  have:(Bs b).length=16:=by rw[aX];exact hb
  simp[NT,List.getD_eq_getElem?_getD,List.getElem?_append_right,this]
 have hAn:aM (AD v6 b)=true:=by simp[AD,aM,aH,Go.V.aJ]
 unfold aEK
 generalize tB v6 b=D1 at *
 generalize Lib.itoa bits=D2 at *
 generalize AD v6 b=AV1 at *
 generalize NT v6 b bits=N0 at *
 simp only[str] at *
 cases hf:yT v6 b bits with
 | false=>
  rw[hf] at cC
  refine aQ Tryz.func110 rfl rfl Tryz.ntmps110 (rts:=#[9]) rfl Tryz.results110 (by simp) ?_
  simp only[seval,aZ]
  refine aC fun K hK=>aA [] ?_
  simp only[seval,kZs,eF,bB,hNo,fN,cav,aI]
  and_intros<;>try first|exact⟨⟩|omega
  refine hK _ ?_
  clear hK K
  refine aE [1] ?_
  simp only[seval,kZq]
  refine aC fun K hK=>?_
  refine aC fun K2 hK2=>aA [] ?_
  simp only[seval,kZs,aY,apart,aO,Tryz.underlying79,bD,hNl,hNt,aU,bF,aT,bA,bW,List.headD_cons,aH]
  refine aV hNn cC rfl ?_
  simp only[seval,kZs,aK,aun,Bool.not_false,aI]
  refine hK2 _ ?_
  clear hK2 K2
  refine bG rfl ?_
  refine aC fun K hK=>aA [] ?_
  simp only[seval,kZs,cav,aI]
  and_intros<;>try first|exact⟨⟩|omega
  refine hK _ ?_
  clear hK K
  refine aE [2] ?_
  simp only[seval,kZq]
  refine aS ?_
  simp only[aI]
  simp only[qq,bR,cQ,bN,bO,dA,aB,aH]
 | true=>
  rw[hf] at cC
  refine aQ Tryz.func110 rfl rfl Tryz.ntmps110 (rts:=#[9]) rfl Tryz.results110 (by simp) ?_
  simp only[seval,aZ]
  refine aC fun K hK=>aA [] ?_
  simp only[seval,kZs,eF,bB,hNo,fN,cav,aI]
  and_intros<;>try first|exact⟨⟩|omega
  refine hK _ ?_
  clear hK K
  refine aE [1] ?_
  simp only[seval,kZq]
  refine aC fun K hK=>?_
  refine aC fun K2 hK2=>aA [] ?_
  simp only[seval,kZs,aY,apart,aO,Tryz.underlying79,bD,hNl,hNt,aU,bF,aT,bA,bW,List.headD_cons,aH]
  refine aV hNn cC rfl ?_
  simp only[seval,kZs,aK,aun,Bool.not_true,aI]
  refine hK2 _ ?_
  clear hK2 K2
  refine aR rfl (bC ?_)
  simp only[aI]
  refine hK _ ?_
  clear hK K
  refine aE [1] ?_
  simp only[seval,kZq]
  refine aC fun K hK=>?_
  refine dW [8,12] (by kernel_rfl) (by kernel_rfl) ?_
  simp only[seval,kZs,aN,Tryz.underlying79,bD,ne_eq,aY,List.contains_cons,apart,aO,Tryz.underlying26,aU,bF,beq_self_eq_true,aT,bA,bW,List.headD_cons,hNl,hN0,aH]
  refine aV hAn cA rfl ?_
  simp only[seval,kZs,aK,cav,aL,aP,gL,dJ,oB _ [47],aN,Tryz.underlying79,bD,ne_eq,aY,List.contains_cons,apart,aO,Tryz.underlying3,aU,bF,beq_self_eq_true,Bool.false_or,aT,bA,bW,List.headD_cons,hNl,hN17,aH]
  refine⟨by omega,?_⟩
  refine aV (by simp[aJ,aM,aH]) (cI) (by simp[aH,aM,aJ,flat]) ?_
  simp only[seval,kZs,aK,aL,aP,gL,dJ,List.length_append,oB,aI]
  refine⟨by omega,hK _ ?_⟩
  clear hK K
  refine aE [2] ?_
  simp only[seval,kZq]
  refine aS ?_
  simp only[qq,bR,cQ,bN,bO,dA,aB,aH]
theorem aKM [Gv] (t:Nat) (ht:t<18446744073709551616) (l:List (List UInt8)) (q:Perm) (hq:fG q=true) (pa:List UInt8) (M N:List AV) (c:Nat) (hM:MF M N c) :
  ACalls Tryz.prog GP 53 [.ptr 0 0] [.cells (PD 1 t l.length (dU l) q pa M)] (fun r os=>os=[.cells (PD 1 0 l.length (dU l) q pa M)]∧r=.tup [str [98,101,102,111,114,101],str (Lib.decDigits t)]):=by
 have cU:=aEA t ht
 have hn:=dP l
 have hMl:M.length=19:=by rw[hM.eq];simp[hM.len]
 have hMo:M.all dC=true:=by rw[hM.eq,List.all_append,hM.ones];rfl
 have hMn:aM M=true:=by rw[hM.eq,dK,hM.nor];rfl
 have hMt:M.take 19=M:=List.take_of_length_le (by omega)
 have hMd:M.drop 19=[]:=List.drop_eq_nil_of_le (by omega)
 simp only[str,PD] at *
 generalize Lib.decDigits t=D at *
 refine dB Tryz.func53 rfl rfl Tryz.ntmps53 (rts:=#[9,9]) rfl Tryz.results53 (by simp) ?_
 simp only[seval,aZ]
 refine aC fun K hK=>aA [] ?_
 simp only[seval,kZs,Int.cast_ofNat_Int,cav,aI]
 and_intros<;>try first|exact⟨⟩|omega
 refine hK _ ?_
 clear hK K
 refine aE [0,2,3] ?_
 simp only[seval,kZq]
 refine aC fun K hK=>aA [] ?_
 simp only[seval,kZs,Int.cast_ofNat_Int,fY,aY,apart,aO,Tryz.underlying81,bD,dF,bS,cav,bQ,bX,bB,spl,aI,hMl,hMt,List.all_cons,dC,Value.oneCell',hMo,List.drop_nil]
 refine hK _ ?_
 clear hK K
 refine aE [0,2,3,4] ?_
 simp only[seval,kZq]
 refine aC fun K1 hK1=>?_
 refine bJ ?_
 refine aA [] ?_
 simp only[seval,kZs,Int.cast_ofNat_Int,fY,aN,Tryz.underlying81,bD,ne_eq,aY,apart,aO,Tryz.underlying3,aI,hMl]
 refine bK ?_
 refine aC fun K2 hK2=>?_
 refine bJ ?_
 refine aA [] ?_
 simp only[seval,kZs,cav,aL,aP,bH,beq_self_eq_true,aI]
 refine bG rfl (bC ?_)
 simp only[aI]
 refine hK2 _ ?_
 clear hK2 K2
 refine bG rfl ?_
 refine aE [0,4] ?_
 simp only[seval,kZq]
 refine aC fun K2 hK2=>aA [] ?_
 simp only[seval,kZs,aN,Tryz.underlying81,bD,ne_eq,aY,apart,aO,Tryz.underlying30,aU,cav,bF,aT,bA,bW,List.headD_cons,aH,hMl,List.getD_cons_succ]
 refine aV (by simp[aJ,aM,aH]) (cU) (by simp[aH,aM,aJ,flat]) ?_
 simp only[seval,kZs,aK,cav,aI]
 refine hK2 _ ?_
 clear hK2 K2
 refine aE [0,2,3,4] ?_
 simp only[seval,kZq]
 refine aC fun K2 hK2=>?_
 refine aC fun K3 hK3=>aA [] ?_
 simp only[seval,kZs,fY,aN,Tryz.underlying81,bD,ne_eq,aY,apart,aO,Tryz.underlying3,cav,aL,aI,hMl,Nat.zero_lt_succ,aP,bH]
 refine hK3 _ ?_
 clear hK3 K3
 refine aR rfl (bC ?_)
 simp only[aI]
 refine hK2 _ ?_
 clear hK2 K2
 refine aE [0,2,3] ?_
 simp only[seval,kZq]
 refine aA [] ?_
 simp only[seval,kZs,fY,aN,Tryz.underlying81,bD,ne_eq,bQ,bX,bB,cav,List.all_cons,dC,Value.oneCell',List.all_nil,spl,hMl]
 simp only[bL,aI]
 refine hK1 _ ?_
 clear hK1 K1
 refine aE [2,3] ?_
 simp only[seval,kZq]
 refine aC fun K hK=>aA [] ?_
 simp only[seval,kZs,Int.cast_ofNat_Int,aI]
 and_intros<;>try first|exact⟨⟩|omega
 refine hK _ ?_
 clear hK K
 refine aE [2,3] ?_
 simp only[seval,kZq]
 refine aS ?_
 refine fE (by simp) ?_ ?_
 ·intro o ho
  simp only[List.take_succ_cons,List.take_zero,List.mem_cons,List.not_mem_nil,or_false,List.length_cons,List.length_nil] at ho
  subst ho
  cases q<;>simp[fU,eV,ref,jH,bM _ _ hMn,bM _ _ hn,fG] at hq ⊢
 simp only[seval,qq,gS,gB,fJ,fR,aB,Int.cast_ofNat_Int]
 rfl
theorem aKQ [Gv] (t:Nat) (ht:t<18446744073709551616) (l:List (List UInt8)) (q:Perm) (hq:fG q=true) (pa:List UInt8) (M N:List AV) (c:Nat) (hM:MF M N c) :
  ACalls Tryz.prog GP 53 [.ptr 0 0] [.cells (PD 2 t l.length (dU l) q pa M)] (fun r os=>os=[.cells (PD 2 0 l.length (dU l) q pa M)]∧r=.tup [str [115,105,110,99,101],str (Lib.decDigits t)]):=by
 have cU:=aEA t ht
 have hn:=dP l
 have hMl:M.length=19:=by rw[hM.eq];simp[hM.len]
 have hMo:M.all dC=true:=by rw[hM.eq,List.all_append,hM.ones];rfl
 have hMn:aM M=true:=by rw[hM.eq,dK,hM.nor];rfl
 have hMt:M.take 19=M:=List.take_of_length_le (by omega)
 have hMd:M.drop 19=[]:=List.drop_eq_nil_of_le (by omega)
 simp only[str,PD] at *
 generalize Lib.decDigits t=D at *
 refine dB Tryz.func53 rfl rfl Tryz.ntmps53 (rts:=#[9,9]) rfl Tryz.results53 (by simp) ?_
 simp only[seval,aZ]
 refine aC fun K hK=>aA [] ?_
 simp only[seval,kZs,Int.cast_ofNat_Int,cav,aI]
 and_intros<;>try first|exact⟨⟩|omega
 refine hK _ ?_
 clear hK K
 refine aE [0,2,3] ?_
 simp only[seval,kZq]
 refine aC fun K hK=>aA [] ?_
 simp only[seval,kZs,Int.cast_ofNat_Int,fY,aY,apart,aO,Tryz.underlying81,bD,dF,bS,cav,bQ,bX,bB,spl,aI,hMl,hMt,List.all_cons,dC,Value.oneCell',hMo,List.drop_nil]
 refine hK _ ?_
 clear hK K
 refine aE [0,2,3,4] ?_
 simp only[seval,kZq]
 refine aC fun K1 hK1=>?_
 refine bJ ?_
 refine aA [] ?_
 simp only[seval,kZs,Int.cast_ofNat_Int,fY,aN,Tryz.underlying81,bD,ne_eq,aY,apart,aO,Tryz.underlying3,aI,hMl]
 refine bK ?_
 refine aC fun K2 hK2=>?_
 refine bJ ?_
 refine aA [] ?_
 simp only[seval,kZs,cav,aL,aP,bH,aI]
 refine aR rfl ?_
 refine aA [] ?_
 simp only[seval,kZs,cav,aL,aP,bH,beq_self_eq_true,aI]
 refine hK2 _ ?_
 clear hK2 K2
 refine bG rfl ?_
 refine aE [0,4] ?_
 simp only[seval,kZq]
 refine aC fun K2 hK2=>aA [] ?_
 simp only[seval,kZs,aN,Tryz.underlying81,bD,ne_eq,aY,apart,aO,Tryz.underlying30,aU,cav,bF,aT,bA,bW,List.headD_cons,aH,hMl,List.getD_cons_succ]
 refine aV (by simp[aJ,aM,aH]) (cU) (by simp[aH,aM,aJ,flat]) ?_
 simp only[seval,kZs,aK,cav,aI]
 refine hK2 _ ?_
 clear hK2 K2
 refine aE [0,2,3,4] ?_
 simp only[seval,kZq]
 refine aC fun K2 hK2=>?_
 refine aC fun K3 hK3=>aA [] ?_
 simp only[seval,kZs,fY,aN,Tryz.underlying81,bD,ne_eq,aY,apart,aO,Tryz.underlying3,cav,aL,aI,hMl,Nat.zero_lt_succ,aP,bH,beq_self_eq_true]
 refine hK3 _ ?_
 clear hK3 K3
 refine bG rfl ?_
 refine aA [] ?_
 simp only[seval,kZs,cav,aI]
 refine hK2 _ ?_
 clear hK2 K2
 refine aE [0,2,3] ?_
 simp only[seval,kZq]
 refine aA [] ?_
 simp only[seval,kZs,fY,aN,Tryz.underlying81,bD,ne_eq,bQ,bX,bB,cav,List.all_cons,dC,Value.oneCell',List.all_nil,spl,hMl]
 simp only[bL,aI]
 refine hK1 _ ?_
 clear hK1 K1
 refine aE [2,3] ?_
 simp only[seval,kZq]
 refine aC fun K hK=>aA [] ?_
 simp only[seval,kZs,Int.cast_ofNat_Int,aI]
 and_intros<;>try first|exact⟨⟩|omega
 refine hK _ ?_
 clear hK K
 refine aE [2,3] ?_
 simp only[seval,kZq]
 refine aS ?_
 refine fE (by simp) ?_ ?_
 ·intro o ho
  simp only[List.take_succ_cons,List.take_zero,List.mem_cons,List.not_mem_nil,or_false,List.length_cons,List.length_nil] at ho
  subst ho
  cases q<;>simp[fU,eV,ref,jH,bM _ _ hMn,bM _ _ hn,fG] at hq ⊢
 simp only[seval,qq,gS,gB,fJ,fR,aB,Int.cast_ofNat_Int]
 rfl
theorem aKP [Gv] (t:Nat) (pa:List UInt8) (hpa:pa.length≤200000) (l:List (List UInt8)) (q:Perm) (hq:fG q=true) (M N:List AV) (c:Nat) (hM:MF M N c) :
  ACalls Tryz.prog GP 53 [.ptr 0 0] [.cells (PD 4 t l.length (dU l) q pa M)] (fun r os=>os=[.cells (PD 4 t l.length (dU l) q [] M)]∧r=.tup [str [112,97,116,104],str (if iI pa then pa else [])]):=by
 have cR:=xR pa hpa
 have hn:=dP l
 have hMl:M.length=19:=by rw[hM.eq];simp[hM.len]
 have hMo:M.all dC=true:=by rw[hM.eq,List.all_append,hM.ones];rfl
 have hMn:aM M=true:=by rw[hM.eq,dK,hM.nor];rfl
 have hMt:M.take 19=M:=List.take_of_length_le (by omega)
 have hMd:M.drop 19=[]:=List.drop_eq_nil_of_le (by omega)
 have hx:∃ X,(if iI pa then pa else [])=X:=⟨_,rfl⟩
 obtain⟨X,hX⟩:=hx
 rw[hX]
 simp only[str,PD] at *
 refine dB Tryz.func53 rfl rfl Tryz.ntmps53 (rts:=#[9,9]) rfl Tryz.results53 (by simp) ?_
 simp only[seval,aZ]
 refine aC fun K hK=>aA [] ?_
 simp only[seval,kZs,cav,aI]
 and_intros<;>try first|exact⟨⟩|omega
 refine hK _ ?_
 clear hK K
 refine aE [0,2,3] ?_
 simp only[seval,kZq]
 refine aC fun K hK=>aA [] ?_
 simp only[seval,kZs,fY,aY,apart,aO,Tryz.underlying81,bD,dF,bS,cav,bQ,bX,bB,spl,aI,hMl,hMt,List.all_cons,dC,Value.oneCell',hMo,List.drop_nil]
 refine hK _ ?_
 clear hK K
 refine aE [0,2,3,4] ?_
 simp only[seval,kZq]
 refine aC fun K1 hK1=>?_
 refine bJ ?_
 refine aA [] ?_
 simp only[seval,kZs,fY,aN,Tryz.underlying81,bD,ne_eq,aY,apart,aO,Tryz.underlying3,aI,hMl]
 refine bK ?_
 refine aC fun K2 hK2=>?_
 refine bJ ?_
 refine aA [] ?_
 simp only[seval,kZs,cav,aL,aP,bH,aI]
 refine aR rfl ?_
 refine aA [] ?_
 simp only[seval,kZs,cav,aL,aP,bH,aI]
 refine hK2 _ ?_
 clear hK2 K2
 refine aR rfl ?_
 refine bJ ?_
 refine aA [] ?_
 simp only[seval,kZs,cav,aL,aP,bH,aI]
 refine aR rfl ?_
 refine bJ ?_
 refine aA [] ?_
 simp only[seval,kZs,cav,aL,aP,bH,beq_self_eq_true,aI]
 refine bG rfl ?_
 refine aE [0,3,4] ?_
 simp only[seval,kZq]
 refine aC fun K2 hK2=>?_
 refine aC fun K3 hK3=>aA [] ?_
 simp only[seval,kZs,aN,Tryz.underlying81,bD,ne_eq,aY,apart,aO,Tryz.underlying9,aU,bF,aT,bA,bW,List.headD_cons,hMl,List.getD_cons_succ,aH]
 refine aV (by simp[aJ,aM,aH]) (cR) (by simp[aH,aM,aJ,flat]) ?_
 simp only[aK,aG,aI]
 refine hK3 _ ?_
 clear hK3 K3
 have next:∀ s,gE GP s ⟨63,[(0,.ptr 0 0),(3,.val (.string ⟨X.toArray⟩))],[.cells (.val (.int .i64 4)::.val (.int .u64 (t:Int))::.sl l.length (dU l) q::.val (.string ⟨pa.toArray⟩)::M),.cells (.val (.int .i64 4)::.val (.int .u64 (t:Int))::.sl l.length (dU l) q::.val (.string ⟨pa.toArray⟩)::M)]⟩→K2 s:=by
  intro s hw
  refine hK2 s (eX hw ?_)
  clear hw hK2 K2
  refine aA [] ?_
  simp only[seval,kZs,cav,fY,aN,Tryz.underlying81,bD,ne_eq,bQ,bX,bB,List.all_cons,dC,Value.oneCell',List.all_nil,spl,hMl]
  simp only[bL,aI]
  refine hK1 _ ?_
  clear hK1 K1
  refine aE [2,3] ?_
  simp only[seval,kZq]
  refine aC fun K hK=>aA [] ?_
  simp only[seval,kZs,aI]
  and_intros<;>try first|exact⟨⟩|omega
  refine hK _ ?_
  clear hK K
  refine aE [2,3] ?_
  simp only[seval,kZq]
  refine aS ?_
  refine fE (by simp) ?_ ?_
  ·intro o ho
   simp only[List.take_succ_cons,List.take_zero,List.mem_cons,List.not_mem_nil,or_false,List.length_cons,List.length_nil] at ho
   subst ho
   cases q<;>simp[fU,eV,ref,jH,bM _ _ hMn,bM _ _ hn,fG] at hq ⊢
  simp only[seval,qq,gS,gB,fJ,fR,aB]
  rfl
 cases hr:iI pa with
 | false=>
  rw[hr] at hX
  refine aR rfl (bC ?_)
  simp only[aI]
  refine next _ ?_
  rw[← hX]
  exact .of_keep [0,3] rfl
 | true=>
  rw[hr] at hX
  refine bG rfl ?_
  refine aA [] ?_
  simp only[seval,kZs,aN,Tryz.underlying81,bD,ne_eq,aY,apart,aO,Tryz.underlying9,aI,hMl,List.getD_cons_succ]
  refine next _ ?_
  rw[← hX]
  exact .of_keep [0,3] rfl
theorem aKR [Gv] (k:Int) (hk:k<1∨6<k) (t:Nat) (l:List (List UInt8)) (q:Perm) (hq:fG q=true) (pa:List UInt8) (M N:List AV) (c:Nat) (hM:MF M N c) :
  ACalls Tryz.prog GP 53 [.ptr 0 0] [.cells (PD k t l.length (dU l) q pa M)] (fun r os=>os=[.cells (PD k t l.length (dU l) q pa M)]∧r=.tup [str [],str []]):=by
 have k1:(k == 1)=false:=by rw[beq_eq_false_iff_ne];omega
 have k2:(k == 2)=false:=by rw[beq_eq_false_iff_ne];omega
 have k3:(k == 3)=false:=by rw[beq_eq_false_iff_ne];omega
 have k4:(k == 4)=false:=by rw[beq_eq_false_iff_ne];omega
 have k5:(k == 5)=false:=by rw[beq_eq_false_iff_ne];omega
 have k6:(k == 6)=false:=by rw[beq_eq_false_iff_ne];omega
 have hn:=dP l
 have hMl:M.length=19:=by rw[hM.eq];simp[hM.len]
 have hMo:M.all dC=true:=by rw[hM.eq,List.all_append,hM.ones];rfl
 have hMn:aM M=true:=by rw[hM.eq,dK,hM.nor];rfl
 have hMt:M.take 19=M:=List.take_of_length_le (by omega)
 have hMd:M.drop 19=[]:=List.drop_eq_nil_of_le (by omega)
 simp only[str,PD] at *
 refine dB Tryz.func53 rfl rfl Tryz.ntmps53 (rts:=#[9,9]) rfl Tryz.results53 (by simp) ?_
 simp only[seval,aZ]
 refine aC fun K hK=>aA [] ?_
 simp only[seval,kZs,cav,aI]
 and_intros<;>try first|exact⟨⟩|omega
 refine hK _ ?_
 clear hK K
 refine aE [0,2,3] ?_
 simp only[seval,kZq]
 refine aC fun K hK=>aA [] ?_
 simp only[seval,kZs,fY,aY,apart,aO,Tryz.underlying81,bD,dF,bS,cav,bQ,bX,bB,spl,aI,hMl,hMt,List.all_cons,dC,Value.oneCell',hMo,List.drop_nil]
 refine hK _ ?_
 clear hK K
 refine aE [0,2,3,4] ?_
 simp only[seval,kZq]
 refine aC fun K1 hK1=>?_
 refine bJ ?_
 refine aA [] ?_
 simp only[seval,kZs,fY,aN,Tryz.underlying81,bD,ne_eq,aY,apart,aO,Tryz.underlying3,aI,hMl]
 refine bK ?_
 refine aC fun K2 hK2=>?_
 refine bJ ?_
 refine aA [] ?_
 simp only[seval,kZs,cav,aL,aP,bH,k1,aI]
 refine aR rfl ?_
 refine aA [] ?_
 simp only[seval,kZs,cav,aL,aP,bH,k2,aI]
 refine hK2 _ ?_
 clear hK2 K2
 refine aR rfl ?_
 refine bJ ?_
 refine aA [] ?_
 simp only[seval,kZs,cav,aL,aP,bH,k3,aI]
 refine aR rfl ?_
 refine bJ ?_
 refine aA [] ?_
 simp only[seval,kZs,cav,aL,aP,bH,k4,aI]
 refine aR rfl ?_
 refine bJ ?_
 refine aA [] ?_
 simp only[seval,kZs,cav,aL,aP,bH,k5,aI]
 refine aR rfl ?_
 refine bJ ?_
 refine aA [] ?_
 simp only[seval,kZs,cav,aL,aP,bH,k6,aI]
 refine aR rfl (bC ?_)
 simp only[bL,aI]
 refine hK1 _ ?_
 clear hK1 K1
 refine aE [2,3] ?_
 simp only[seval,kZq]
 refine aC fun K hK=>aA [] ?_
 simp only[seval,kZs,aI]
 and_intros<;>try first|exact⟨⟩|omega
 refine hK _ ?_
 clear hK K
 refine aE [2,3] ?_
 simp only[seval,kZq]
 refine aS ?_
 refine fE (by simp) ?_ ?_
 ·intro o ho
  simp only[List.take_succ_cons,List.take_zero,List.mem_cons,List.not_mem_nil,or_false,List.length_cons,List.length_nil] at ho
  subst ho
  cases q<;>simp[fU,eV,ref,jH,bM _ _ hMn,bM _ _ hn,fG] at hq ⊢
 simp only[seval,qq,gS,gB,fJ,fR,aB]
 rfl
theorem aKO [Gv] (t:Nat) (c:Nat) (l:List (List UInt8)) (q:Perm) (hq:fG q=true) (pa:List UInt8) (v6:Bool) (b:List UInt8) (bits:Int) (hb:b.length=16) (h64:-9223372036854775808≤bits∧bits≤9223372036854775807) :
  ACalls Tryz.prog GP 53 [.ptr 0 0] [.cells (PD 5 t l.length (dU l) q pa (NT v6 b bits++[.val (.float .f64 c)]))] (fun r os=>os=[.cells (PD 5 t l.length (dU l) q pa (NT false (Z 16) 0++[.val (.float .f64 c)]))]∧r=.tup [str [110,101,116],str (aEK v6 b bits)]):=by
 have cN:=aMM v6 b bits hb h64
 have hn:=dP l
 have hNl:=fZ v6 b bits hb
 have hNo:=jO v6 b bits
 have hNn:=iZ v6 b bits
 have hMl:(NT v6 b bits++[AV.val (.float .f64 c)]).length=19:=by simp[hNl]
 have hMo:(NT v6 b bits++[AV.val (.float .f64 c)]).all dC=true:=by rw[List.all_append,hNo];rfl
 have hMn:aM (NT v6 b bits++[AV.val (.float .f64 c)])=true:=by rw[dK,hNn];rfl
 have hMt:(NT v6 b bits++[AV.val (.float .f64 c)]).take 19=NT v6 b bits++[AV.val (.float .f64 c)]:=List.take_of_length_le (by omega)
 have hMd:(NT v6 b bits++[AV.val (.float .f64 c)]).drop 19=[]:=List.drop_eq_nil_of_le (by omega)
 have hM18:(NT v6 b bits++[AV.val (.float .f64 c)]).take 18=NT v6 b bits:=by rw[List.take_append_of_le_length (by omega),List.take_of_length_le (by omega)]
 have hMe:(NT v6 b bits++[AV.val (.float .f64 c)]).drop 18=[AV.val (.float .f64 c)]:=by rw[List.drop_append_of_le_length (by omega),List.drop_eq_nil_of_le (by omega)];rfl
 have hMg:(NT v6 b bits++[AV.val (.float .f64 c)]).getD 18 .top=AV.val (.float .f64 c):=by simp[List.getD_eq_getElem?_getD,List.getElem?_append_right,hNl]
 simp only[str,PD] at *
 generalize aEK v6 b bits=D at *
 generalize NT v6 b bits=N at *
 generalize hMM:N++[AV.val (.float .f64 c)]=M at *
 refine dB Tryz.func53 rfl rfl Tryz.ntmps53 (rts:=#[9,9]) rfl Tryz.results53 (by simp) ?_
 simp only[seval,aZ]
 refine aC fun K hK=>aA [] ?_
 simp only[seval,kZs,cav,aI]
 and_intros<;>try first|exact⟨⟩|omega
 refine hK _ ?_
 clear hK K
 refine aE [0,2,3] ?_
 simp only[seval,kZq]
 refine aC fun K hK=>aA [] ?_
 simp only[seval,kZs,fY,aY,apart,aO,Tryz.underlying81,bD,dF,bS,cav,bQ,bX,bB,spl,aI,hMl,hMt,List.all_cons,dC,Value.oneCell',hMo,List.drop_nil]
 refine hK _ ?_
 clear hK K
 refine aE [0,2,3,4] ?_
 simp only[seval,kZq]
 refine aC fun K1 hK1=>?_
 refine bJ ?_
 refine aA [] ?_
 simp only[seval,kZs,fY,aN,Tryz.underlying81,bD,ne_eq,aY,apart,aO,Tryz.underlying3,aI,hMl]
 refine bK ?_
 refine aC fun K2 hK2=>?_
 refine bJ ?_
 refine aA [] ?_
 simp only[seval,kZs,cav,aL,aP,bH,aI]
 refine aR rfl ?_
 refine aA [] ?_
 simp only[seval,kZs,cav,aL,aP,bH,aI]
 refine hK2 _ ?_
 clear hK2 K2
 refine aR rfl ?_
 refine bJ ?_
 refine aA [] ?_
 simp only[seval,kZs,cav,aL,aP,bH,aI]
 refine aR rfl ?_
 refine bJ ?_
 refine aA [] ?_
 simp only[seval,kZs,cav,aL,aP,bH,aI]
 refine aR rfl ?_
 refine bJ ?_
 refine aA [] ?_
 simp only[seval,kZs,cav,aL,aP,bH,beq_self_eq_true,aI]
 refine bG rfl ?_
 refine aE [0,4] ?_
 simp only[seval,kZq]
 refine aA [] ?_
 simp only[seval,kZs,aN,Tryz.underlying81,bD,ne_eq,aY,apart,aO,Tryz.underlying79,aU,bF,aT,bA,bW,List.headD_cons,hMl,hM18,aH]
 refine aV hNn cN rfl ?_
 simp only[seval,kZs,aK,fA,bS,Tryz.underlying79,kO,cav,dO,eM,fY,aN,Tryz.underlying81,bD,ne_eq,bQ,bX,bB,spl,hMl,List.all_cons,dC,Value.oneCell',List.all_nil,hMe]
 simp only[bL,aI]
 refine hK1 _ ?_
 clear hK1 K1
 refine aE [2,3] ?_
 simp only[seval,kZq]
 refine aC fun K hK=>aA [] ?_
 simp only[seval,kZs,aI]
 and_intros<;>try first|exact⟨⟩|omega
 refine hK _ ?_
 clear hK K
 refine aE [2,3] ?_
 simp only[seval,kZq]
 refine aS ?_
 refine fE (by simp) ?_ ?_
 ·intro o ho
  simp only[List.take_succ_cons,List.take_zero,List.mem_cons,List.not_mem_nil,or_false,List.length_cons,List.length_nil] at ho
  subst ho
  cases q<;>simp[fU,eV,ref,jH,bM _ _ hn,fG] at hq ⊢
 simp only[seval,qq,gS,gB,fJ,fR,aB]
 exact⟨rfl,rfl⟩
theorem aKN [Gv] (t:Nat) (c:Nat) (hc:c<18446744073709551616) (l:List (List UInt8)) (q:Perm) (hq:fG q=true) (pa:List UInt8) (v6:Bool) (b:List UInt8) (bits:Int) (hb:b.length=16) :
  ACalls Tryz.prog GP 53 [.ptr 0 0] [.cells (PD 6 t l.length (dU l) q pa (NT v6 b bits++[.val (.float .f64 c)]))] (fun r os=>os=[.cells (PD 6 t l.length (dU l) q pa (NT v6 b bits++[.val (.float .f64 0)]))]∧r=.tup [str [99,111,115,116],str (wX c)]):=by
 have cN:=aNe c hc
 have hn:=dP l
 have hNl:=fZ v6 b bits hb
 have hNo:=jO v6 b bits
 have hNn:=iZ v6 b bits
 have hMl:(NT v6 b bits++[AV.val (.float .f64 c)]).length=19:=by simp[hNl]
 have hMo:(NT v6 b bits++[AV.val (.float .f64 c)]).all dC=true:=by rw[List.all_append,hNo];rfl
 have hMn:aM (NT v6 b bits++[AV.val (.float .f64 c)])=true:=by rw[dK,hNn];rfl
 have hMt:(NT v6 b bits++[AV.val (.float .f64 c)]).take 19=NT v6 b bits++[AV.val (.float .f64 c)]:=List.take_of_length_le (by omega)
 have hMd:(NT v6 b bits++[AV.val (.float .f64 c)]).drop 19=[]:=List.drop_eq_nil_of_le (by omega)
 have hM18:(NT v6 b bits++[AV.val (.float .f64 c)]).take 18=NT v6 b bits:=by rw[List.take_append_of_le_length (by omega),List.take_of_length_le (by omega)]
 have hMe:(NT v6 b bits++[AV.val (.float .f64 c)]).drop 18=[AV.val (.float .f64 c)]:=by rw[List.drop_append_of_le_length (by omega),List.drop_eq_nil_of_le (by omega)];rfl
 have hMg:(NT v6 b bits++[AV.val (.float .f64 c)]).getD 18 .top=AV.val (.float .f64 c):=by simp[List.getD_eq_getElem?_getD,List.getElem?_append_right,hNl]
 simp only[str,PD] at *
 generalize wX c=D at *
 generalize NT v6 b bits=N at *
 generalize hMM:N++[AV.val (.float .f64 c)]=M at *
 refine dB Tryz.func53 rfl rfl Tryz.ntmps53 (rts:=#[9,9]) rfl Tryz.results53 (by simp) ?_
 simp only[seval,aZ]
 refine aC fun K hK=>aA [] ?_
 simp only[seval,kZs,cav,aI]
 and_intros<;>try first|exact⟨⟩|omega
 refine hK _ ?_
 clear hK K
 refine aE [0,2,3] ?_
 simp only[seval,kZq]
 refine aC fun K hK=>aA [] ?_
 simp only[seval,kZs,fY,aY,apart,aO,Tryz.underlying81,bD,dF,bS,cav,bQ,bX,bB,spl,aI,hMl,hMt,List.all_cons,dC,Value.oneCell',hMo,List.drop_nil]
 refine hK _ ?_
 clear hK K
 refine aE [0,2,3,4] ?_
 simp only[seval,kZq]
 refine aC fun K1 hK1=>?_
 refine bJ ?_
 refine aA [] ?_
 simp only[seval,kZs,fY,aN,Tryz.underlying81,bD,ne_eq,aY,apart,aO,Tryz.underlying3,aI,hMl]
 refine bK ?_
 refine aC fun K2 hK2=>?_
 refine bJ ?_
 refine aA [] ?_
 simp only[seval,kZs,cav,aL,aP,bH,aI]
 refine aR rfl ?_
 refine aA [] ?_
 simp only[seval,kZs,cav,aL,aP,bH,aI]
 refine hK2 _ ?_
 clear hK2 K2
 refine aR rfl ?_
 refine bJ ?_
 refine aA [] ?_
 simp only[seval,kZs,cav,aL,aP,bH,aI]
 refine aR rfl ?_
 refine bJ ?_
 refine aA [] ?_
 simp only[seval,kZs,cav,aL,aP,bH,aI]
 refine aR rfl ?_
 refine bJ ?_
 refine aA [] ?_
 simp only[seval,kZs,cav,aL,aP,bH,aI]
 refine aR rfl ?_
 refine bJ ?_
 refine aA [] ?_
 simp only[seval,kZs,cav,aL,aP,bH,beq_self_eq_true,aI]
 refine bG rfl ?_
 refine aE [0,4] ?_
 simp only[seval,kZq]
 refine aA [] ?_
 simp only[seval,kZs,aN,Tryz.underlying81,bD,ne_eq,aY,apart,aO,Tryz.underlying27,aU,bF,aT,bA,bW,List.headD_cons,hMl,List.getD_cons_succ,hMg,aH]
 refine aV (by simp[aJ,aM,aH]) (cN) (by simp[aH,aM,aJ,flat]) ?_
 simp only[seval,kZs,aK,cav,fY,aN,Tryz.underlying81,bD,ne_eq,bQ,bX,bB,List.all_cons,dC,Value.oneCell',List.all_nil,spl,hMl,hM18,hMd]
 have hM0:aM (N++[AV.val (.float .f64 0)])=true:=by rw[dK,hNn];rfl
 simp only[bL,aI]
 refine hK1 _ ?_
 clear hK1 K1
 refine aE [2,3] ?_
 simp only[seval,kZq]
 refine aC fun K hK=>aA [] ?_
 simp only[seval,kZs,aI]
 and_intros<;>try first|exact⟨⟩|omega
 refine hK _ ?_
 clear hK K
 refine aE [2,3] ?_
 simp only[seval,kZq]
 refine aS ?_
 refine fE (by simp) ?_ ?_
 ·intro o ho
  simp only[List.take_succ_cons,List.take_zero,List.mem_cons,List.not_mem_nil,or_false,List.length_cons,List.length_nil] at ho
  subst ho
  cases q<;>simp[fU,eV,ref,jH,bM _ _ hM0,bM _ _ hn,fG] at hq ⊢
 simp only[seval,qq,gS,gB,fJ,fR,aB]
 rfl
structure OkP (p:PV):Prop where
 small:sF p
 time:p.time<18446744073709551616
 bits:-9223372036854775808≤p.bits∧p.bits≤9223372036854775807
 cost:p.cost<18446744073709551616
def iW (p:PV):List UInt8×List UInt8×PV:=
 if p.kind=1 then ([98,101,102,111,114,101],Lib.decDigits p.time,{ p with time:=0 })
 else if p.kind=2 then ([115,105,110,99,101],Lib.decDigits p.time,{ p with time:=0 })
 else if p.kind=3 then ([111,112],lV p.names,{ p with names:=[] })
 else if p.kind=4 then ([112,97,116,104],if iI p.path then p.path else [],{ p with path:=[] })
 else if p.kind=5 then ([110,101,116],aEK p.v6 p.addr p.bits,{ p with v6:=false,addr:=Z 16,bits:=0 })
 else if p.kind=6 then ([99,111,115,116],wX p.cost,{ p with cost:=0 })
 else ([],[],p)
def zY (p:PV):List UInt8:=tX (iW p).1 (iW p).2.1 (aFu (iW p).2.2 (vB p.kind))
def nL (p:PV):Bool:=!(zY p == [])
theorem aJN [Gv] (x:Nat) (hx:x<18446744073709551616):(wX x).length≤50:=by
 have s1:(nV x).length≤1:=by unfold nV;split<;>simp
 have s2:=aBE (kH x) (vT x)
 obtain⟨p1,p2⟩:=uX x
 have s3:=tJ (jR x) (by omega) (by omega)
 unfold wX
 split
 ·simp
 ·split
  ·simp;omega
  ·split
   ·simp;omega
   ·simp;omega
theorem aMJ [Gv] (v6:Bool) (b:List UInt8) (bits:Int):(aEK v6 b bits).length≤400:=by
 unfold aEK
 split
 ·rename_i h
  obtain⟨h1,h2,_⟩:=aJi h
  have s1:=aCM v6 b
  have s3:=tJ bits (by omega) (by omega)
  simp;omega
 ·simp
theorem aFY [Gv] (l:List (List UInt8)) (h:(Lib.join l [44]).length≤200000):(lV l).length≤200000:=by
 unfold lV
 split
 ·exact h
 ·simp
theorem sI [Gv] (p p':PV) (q q':Perm) (hq:fG q=true) (hq':fG q'=true) (hp:sF p) (hp':sF p') (w x:List UInt8) (e:iW p=(w,x,p')) (hw:w.length≤20) (hx:x.length≤300000)
  (hW:ACalls Tryz.prog GP 53 [.ptr 0 0] [.cells (PA p q)] (fun r os=>os=[.cells (PA p' q')]∧r=.tup [str w,str x])) :
  ACalls Tryz.prog GP 22 [.agg (PA p q)] [] (fun r os=>os=[]∧r=str (zY p)):=by
 unfold zY
 rw[e]
 exact aFG p p' q q' hq hq' hp hp' w x hw hx hW
theorem aOX [Gv] (p:PV) (q:Perm) (hq:fG q=true) (hp:OkP p):ACalls Tryz.prog GP 22 [.agg (PA p q)] [] (fun r os=>os=[]∧r=str (zY p)):=by
 obtain⟨hs,ht,hb,hc⟩:=hp
 have ha:=hs.1
 have l1:=aBE p.time ht
 have mf:∀ (v:Bool) (b:List UInt8) (i:Int) (c:Nat),b.length=16→MF (NT v b i++[.val (.float .f64 c)]) (NT v b i) c:=fun v b i c hb=>⟨rfl,fZ _ _ _ hb,jO _ _ _,iZ _ _ _⟩
 by_cases k1:p.kind=1
 ·have e:iW p=([98,101,102,111,114,101],Lib.decDigits p.time,{ p with time:=0 }):=by unfold iW;rw[if_pos k1]
  refine sI p { p with time:=0 } q q hq hq hs hs _ _ e (by decide) (by omega) ?_
  unfold PA
  rw[k1]
  exact aKM p.time ht p.names q hq p.path _ _ p.cost (mf _ _ _ _ ha)
 by_cases k2:p.kind=2
 ·have e:iW p=([115,105,110,99,101],Lib.decDigits p.time,{ p with time:=0 }):=by unfold iW;rw[if_neg k1];rw[if_pos k2]
  refine sI p { p with time:=0 } q q hq hq hs hs _ _ e (by decide) (by omega) ?_
  unfold PA
  rw[k2]
  exact aKQ p.time ht p.names q hq p.path _ _ p.cost (mf _ _ _ _ ha)
 by_cases k3:p.kind=3
 ·have e:iW p=([111,112],lV p.names,{ p with names:=[] }):=by unfold iW;rw[if_neg k1];rw[if_neg k2];rw[if_pos k3]
  have:=aFY p.names hs.2.2.1
  refine sI p { p with names:=[] } q .full hq rfl hs ⟨ha,by simp,by simp[Lib.join_nil],hs.2.2.2⟩ _ _ e (by decide) (by omega) ?_
  unfold PA
  rw[k3]
  exact aBq p.time p.names q hq p.path _ _ p.cost (mf _ _ _ _ ha) hs.2.1 hs.2.2.1
 by_cases k4:p.kind=4
 ·have e:iW p=([112,97,116,104],if iI p.path then p.path else [],{ p with path:=[] }):=by unfold iW;rw[if_neg k1];rw[if_neg k2];rw[if_neg k3];rw[if_pos k4]
  have hx:(if iI p.path then p.path else []).length≤200000:=by
   have:=hs.2.2.2
   split<;>simp<;>omega
  refine sI p { p with path:=[] } q q hq hq hs ⟨ha,hs.2.1,hs.2.2.1,by simp⟩ _ _ e (by decide) (by omega) ?_
  unfold PA
  rw[k4]
  exact aKP p.time p.path hs.2.2.2 p.names q hq _ _ p.cost (mf _ _ _ _ ha)
 by_cases k5:p.kind=5
 ·have e:iW p=([110,101,116],aEK p.v6 p.addr p.bits,{ p with v6:=false,addr:=Z 16,bits:=0 }):=by unfold iW;rw[if_neg k1];rw[if_neg k2];rw[if_neg k3];rw[if_neg k4];rw[if_pos k5]
  have:=aMJ p.v6 p.addr p.bits
  refine sI p { p with v6:=false,addr:=Z 16,bits:=0 } q q hq hq hs ⟨rfl,hs.2.1,hs.2.2.1,hs.2.2.2⟩ _ _ e (by decide) (by omega) ?_
  unfold PA
  rw[k5]
  exact aKO p.time p.cost p.names q hq p.path p.v6 p.addr p.bits ha hb
 by_cases k6:p.kind=6
 ·have e:iW p=([99,111,115,116],wX p.cost,{ p with cost:=0 }):=by unfold iW;rw[if_neg k1];rw[if_neg k2];rw[if_neg k3];rw[if_neg k4];rw[if_neg k5];rw[if_pos k6]
  have:=aJN p.cost hc
  refine sI p { p with cost:=0 } q q hq hq hs hs _ _ e (by decide) (by omega) ?_
  unfold PA
  rw[k6]
  exact aKN p.time p.cost hc p.names q hq p.path p.v6 p.addr p.bits ha
 have e:iW p=([],[],p):=by unfold iW;rw[if_neg k1,if_neg k2,if_neg k3,if_neg k4,if_neg k5,if_neg k6]
 refine sI p p q q hq hq hs hs _ _ e (by decide) (by decide) ?_
 exact aKR p.kind (by omega) p.time p.names q hq p.path _ _ p.cost (mf _ _ _ _ ha)
theorem aBB [Gv] (p:PV) (q:Perm) (hq:fG q=true) (hp:OkP p):ACalls Tryz.prog GP 31 [.agg (PA p q)] [] (fun r os=>os=[]∧r=.val (.bool (nL p))):=
 aCW p q hq hp.small.1 (zY p) (aOX p q hq hp)
theorem aPU [Gv]:aOy Tryz.prog 82:=by
 refine⟨⟨_,Tryz.func82,rfl,rfl⟩,fun cap w _=>?_⟩
 refine callsD_of_wpS Tryz.func82 rfl fun c₀ cs hm=>?_
 have hrec:recoverD (c₀::cs)=none:=by simp[recoverD,hm]
 have hn:Tryz.f82.ntmps=3:=Tryz.ntmps82
 rw[hn]
 have hc:({ c₀ with mode:=.returning }:Frame)=c₀:=by rw[← hm]
 refine wpS_seq (wpS_region ?_)
 simp[wpOpsS,Region.wanted,execOp,resolve,Deferred.ofValue,invoke,builtin,hrec,Act.put,Act.eval,List.range,List.range.loop,Oper.upon,Exit.thenS,(aOq 0 .nilIface).1]
 refine wpS_cond (t:=false) (by simp[Act.eval]) ?_
 refine wpS_of_wp (wp_skip ?_)
 refine⟨rfl,.returning,by rw[hc],.tuple #[],?_,⟨_,rfl⟩,rfl,rfl⟩
 simp[jY,sQ]
theorem aFT [Gv] (p:PV) (q:Perm) (hq:fG q=true) (hp:p.addr.length=16) (RQ:List AV) (hRl:RQ.length=20) (hRo:RQ.all dC=true) (hRn:aM RQ=true) (clock:Nat) (ch a:Bool)
  (hC:ACalls Tryz.prog GP 31 [.agg (PA p q)] [] (fun r os=>os=[]∧r=.val (.bool ch)))
  (hA:ch=true→ACalls Tryz.prog GP 83 [.agg (PA p q),.agg RQ,.val (.int .u64 (clock:Int))] [] (fun r os=>os=[]∧r=.val (.bool a))) :
  ACalls Tryz.prog GP 34 [.agg (PA p q),.agg RQ,.val (.int .u64 (clock:Int))] [] (fun r os=>os=[]∧r=.val (.bool (ch&&a))):=by
 have h1:=iE p q hp
 have h2:=lE p q
 have h3:=sX p q hq
 have h5:(PA p q).take 23=PA p q:=List.take_of_length_le (by omega)
 have hRt:RQ.take 20=RQ:=List.take_of_length_le (by omega)
 generalize PA p q=P at *
 refine jP Tryz.func34 rfl rfl Tryz.ntmps34 (rts:=#[4]) rfl Tryz.results34 (by simp) aPU rfl ?_
 simp only[seval,aZ]
 refine aA [] ?_
 simp only[seval,kZs,eF,bB,h2,fN,hRo,dF,bS,cav]
 refine⟨2,0,rfl,fun d=>?_⟩
 refine aE [2,3,4,6] ?_
 simp only[seval,kZq]
 refine aC fun K hK=>aA [] ?_
 simp only[seval,kZs,aY,apart,aO,Tryz.underlying81,bD,h1,h5,aU,bF,aT,bA,bW,List.headD_cons,aH]
 refine aV h3 (hC.defer [d]) rfl ?_
 cases hch:ch with
 | false=>
  simp only[seval,kZs,aK,dD,bT,Option.bind_some,aW,Bool.not_true,eW,gok,bU,cav,bQ,bX,bD,bB,spl,aI,List.all_cons,dC,Value.oneCell',List.all_nil,List.drop_nil]
  refine hK _ ?_
  clear hK K
  refine aE [6] ?_
  simp only[seval,kZq]
  refine aS ?_
  refine wI (fE (by simp) (by simp) ?_)
  simp only[seval,qq,gS,gB,fJ,fR,aY,aB,apart,aO,Tryz.underlying4]
  exact⟨rfl,by rw[hch];rfl⟩
 | true=>
  simp only[seval,kZs,Bool.true_and,aK,dD,bT,Option.bind_some,aW,dQ,gok,aY,apart,aO,Tryz.underlying81,bD,h1,h5,Tryz.underlying29,hRl,hRt,aU,bF,aT,bA,bW,List.headD_cons,List.tail_cons,aH]
  refine aV (by simp[aH,aM,h3,hRn]) ((hA hch).defer [d]) rfl ?_
  simp only[seval,kZs,aK,bU,cav,bQ,bX,bD,bB,spl,aI,List.all_cons,dC,Value.oneCell',List.all_nil,List.drop_nil]
  refine hK _ ?_
  clear hK K
  refine aE [6] ?_
  simp only[seval,kZq]
  refine aS ?_
  refine wI (fE (by simp) (by simp) ?_)
  simp only[seval,qq,gS,gB,fJ,fR,aY,aB,apart,aO,Tryz.underlying4]
  exact⟨rfl,by rw[hch];rfl⟩
theorem aCQ [Gv] (p:PV) (q:Perm) (hq:fG q=true) (hp:p.addr.length=16) (hk:p.kind=3) (hl:p.names.length≤200000) (RQ:List AV) (hRl:RQ.length=20) (hRo:RQ.all dC=true) (hRn:aM RQ=true) (op:List UInt8) (hop:RQ.getD 0 .top=str op) (clock:Nat) :
  ACalls Tryz.prog GP 83 [.agg (PA p q),.agg RQ,.val (.int .u64 (clock:Int))] [] (fun r os=>os=[]∧r=.val (.bool (p.names.contains op))):=by
 have cC:=fun q=>zM p.names op q (by omega)
 have h1:=iE p q hp
 have h2:=lE p q
 have h4:=nY p q
 rw[hk] at h4
 have h6:(PA p q).getD 2 .top=.sl p.names.length (dU p.names) q:=rfl
 have hn:=dP p.names
 generalize PA p q=P at *
 generalize p.names=l at *
 simp only[str] at *
 refine aQ Tryz.func83 rfl rfl Tryz.ntmps83 (rts:=#[4]) rfl Tryz.results83 (by simp) ?_
 simp only[seval,aZ]
 refine aC fun K hK=>aA [] ?_
 simp only[seval,kZs,eF,bB,h2,fN,hRo,cav,aI]
 and_intros<;>try first|exact⟨⟩|omega
 refine hK _ ?_
 clear hK K
 refine aE [2,3,4,6] ?_
 simp only[seval,kZq]
 refine aC fun K1 hK1=>?_
 refine bJ ?_
 refine aA [] ?_
 simp only[seval,kZs,aN,Tryz.underlying81,bD,ne_eq,aY,apart,aO,Tryz.underlying3,aI,h1,h4]
 refine bK ?_
 refine bJ ?_
 refine aA [] ?_
 simp only[seval,kZs,cav,aL,aP,bH,aI]
 refine aR rfl ?_
 refine bJ ?_
 refine aA [] ?_
 simp only[seval,kZs,cav,aL,aP,bH,aI]
 refine aR rfl ?_
 refine bJ ?_
 refine aA [] ?_
 simp only[seval,kZs,cav,aL,aP,bH,beq_self_eq_true,aI]
 refine bG rfl ?_
 refine aE [3,4] ?_
 simp only[seval,kZq]
 refine aC fun K hK=>aA [] ?_
 simp only[seval,kZs,aN,Tryz.underlying81,bD,ne_eq,aY,apart,aO,Tryz.underlying43,Tryz.underlying29,Tryz.underlying9,aU,bF,aT,bA,bW,List.headD_cons,List.tail_cons,hRl,hop,aH,h1,h6]
 refine aV (by simp[aH,aM,hn]) (cC _) rfl ?_
 simp only[seval,kZs,aK,aI]
 refine hK _ ?_
 clear hK K
 refine aE [6] ?_
 simp only[seval,kZq]
 refine aS ?_
 simp only[qq,bL,aI,bR,cQ,bN,bO,dA,aB,aH]
def aQD:PV:=⟨0,0,[],[],false,Z 16,0,0⟩
def aAS (t:List UInt8):AV:=match lJ t with
 | some l=>.tup [.agg (PA ⟨3,0,l,[],false,Z 16,0,0⟩ .full),.val (.bool true)]
 | none=>.tup [.agg (PA aQD .full),.val (.bool false)]
theorem aHT [Gv] (s t:List UInt8) (hs:s.length≤200000) (ht:t.length≤200000) (hw:qB s=some [[111,112],t]):ACalls Tryz.prog GP 24 [str s] [] (fun r os=>os=[]∧r=aAS t):=by
 have cW:=aMv s hs
 have hv:zD s=.tup [.sl 2 [.val (.string ⟨#[111,112]⟩),.val (.string ⟨t.toArray⟩)] .full,.val (.bool true)]:=by unfold zD;rw[hw];rfl
 rw[hv] at cW
 have cN:=aFb t ht
 simp only[str] at *
 refine aQ Tryz.func24 rfl rfl Tryz.ntmps24 (rts:=#[81,4]) rfl Tryz.results24 (by simp) ?_
 simp only[seval,aZ]
 refine aC fun K hK=>aA [] ?_
 simp only[seval,kZs,dF,bS,cav,aI]
 and_intros<;>try first|exact⟨⟩|omega
 refine hK _ ?_
 clear hK K
 refine aE [0,2,3] ?_
 simp only[seval,kZq]
 refine aC fun K hK=>aA [] ?_
 simp only[seval,kZs,aU,bF,aT,bA,aH]
 refine aV (by simp[aH,aM]) cW (by simp[aH,aM]) ?_
 simp only[seval,kZs,aK,gW,aI]
 refine hK _ ?_
 clear hK K
 refine aE [2,3,4] ?_
 simp only[seval,kZq]
 refine aC fun K1 hK1=>?_
 refine aC fun K hK=>aA [] ?_
 simp only[seval,kZs,aun,Bool.not_true,dD,bT,Option.bind_some,aW,Bool.not_false,dQ,gok,bI,bV,eN,Tryz.underlying43,Int.cast_ofNat_Int,cav,aL,bU,aI,aP,bH]
 and_intros<;>try first|exact⟨⟩|omega
 refine hK _ ?_
 clear hK K
 refine aR rfl (bC (hK1 _ ?_))
 clear hK1 K1
 refine aE [2,3,4] ?_
 simp only[seval,kZq]
 refine aC fun K hK=>?_
 refine dW [] (by kernel_rfl) (by kernel_rfl) ?_
 simp only[seval,kZs,dN,cav,Tryz.underlying43,bD,Nat.mul_one,Int.le_refl,Int.cast_ofNat_Int,Nat.zero_lt_succ,Int.toNat_zero,aY,apart,aO,Tryz.underlying9,aI]
 refine hK _ ?_
 clear hK K
 refine aE [2,3,5,6] ?_
 simp only[seval,kZq]
 refine aC fun K1 hK1=>?_
 refine bJ ?_
 refine aA [] ?_
 simp only[seval,kZs,aI]
 refine bK ?_
 refine aC fun K2 hK2=>?_
 refine bJ ?_
 refine aA [] ?_
 simp only[seval,kZs,cav,aL,aP,gL,ByteArray.toList_mk,aI]
 refine aR rfl ?_
 refine aA [] ?_
 simp only[seval,kZs,cav,aL,aP,gL,ByteArray.toList_mk,aI]
 refine hK2 _ ?_
 clear hK2 K2
 refine aR rfl ?_
 refine bJ ?_
 refine aA [] ?_
 simp only[seval,kZs,cav,aL,aP,gL,ByteArray.toList_mk,beq_self_eq_true,aI]
 refine bG rfl ?_
 refine aE [2,3,6] ?_
 simp only[seval,kZq]
 refine bJ ?_
 refine aA [] ?_
 simp only[seval,kZs,aN,Tryz.underlying81,bD,ne_eq,bQ,bX,bB,cav,List.all_cons,dC,Value.oneCell',List.all_nil,spl,aI]
 refine aE [2,6] ?_
 simp only[seval,kZq]
 refine aA [] ?_
 simp only[seval,kZs,aU,bF,aT,bA,aH]
 have hnv:aH (nN t)=true:=by
  unfold nN
  split
  ·simp only[aH,aM,dP,Bool.and_true]
  ·rfl
 refine aV (by simp[aH,aM]) cN hnv ?_
 cases hF:lJ t with
 | none=>
  simp only[seval,kZs,nN,hF,aK,gW,aN,Tryz.underlying81,bD,ne_eq,bQ,bX,bB,spl,List.all_cons,dC,List.all_nil]
  simp only[bL,aI]
  refine hK1 _ ?_
  clear hK1 K1
  refine aE [2,3] ?_
  simp only[seval,kZq]
  refine aC fun K1 hK1=>?_
  refine aC fun K hK=>aA [] ?_
  simp only[seval,kZs,aun,Bool.not_false,aI]
  and_intros<;>try first|exact⟨⟩|omega
  refine hK _ ?_
  clear hK K
  refine bG rfl ?_
  refine aE [2,3] ?_
  simp only[seval,kZq]
  refine aC fun K hK=>aA [] ?_
  simp only[seval,kZs,fA,bS,Tryz.underlying81,kO,cav,dO,eM,bQ,bX,bD,bB,spl,aI,List.all_cons,dC,Value.oneCell',List.all_nil,List.drop_nil]
  and_intros<;>try first|exact⟨⟩|omega
  refine hK _ ?_
  clear hK K
  refine aE [2,3] ?_
  simp only[seval,kZq]
  refine aS ?_
  simp only[seval,qq,aI,bR,cQ,bN,bO,aY,aB,apart,aO,Tryz.underlying81,bD,List.take_nil,dA,aH,aM]
  unfold aAS
  rw[hF]
  rfl
 | some l=>
  have hn:=dP l
  simp only[seval,kZs,nN,hF,aK,gW,aN,Tryz.underlying81,bD,ne_eq,bQ,bX,bB,spl,List.all_cons,dC,List.all_nil]
  simp only[bL,aI]
  refine hK1 _ ?_
  clear hK1 K1
  refine aE [2,3] ?_
  simp only[seval,kZq]
  refine aC fun K1 hK1=>?_
  refine aC fun K hK=>aA [] ?_
  simp only[seval,kZs,aun,Bool.not_true,aI]
  and_intros<;>try first|exact⟨⟩|omega
  refine hK _ ?_
  clear hK K
  refine aR rfl (bC (hK1 _ ?_))
  clear hK1 K1
  refine aE [2,3] ?_
  simp only[seval,kZq]
  refine aC fun K hK=>aA [] ?_
  simp only[seval,kZs,aY,apart,aO,Tryz.underlying81,bD,List.take_nil,bQ,bX,bB,spl,cav,aI,List.all_cons,dC,Value.oneCell',List.all_nil,List.drop_nil]
  and_intros<;>try first|exact⟨⟩|omega
  refine hK _ ?_
  clear hK K
  refine aE [2,3] ?_
  simp only[seval,kZq]
  refine aS ?_
  simp only[seval,qq,bR,cQ,bN,bO,aY,aB,apart,aO,Tryz.underlying81,bD,List.take_nil,dA,aH,aM,Bool.true_and]
  exact⟨hn,by unfold aAS;rw[hF];rfl⟩
theorem aLf [Gv] (s:List UInt8) (p:PV) (hp:p.addr.length=16) (ok h:Bool) (RQ:List AV) (hRl:RQ.length=20) (hRo:RQ.all dC=true) (hRn:aM RQ=true) (clock:Nat)
  (cP:ACalls Tryz.prog GP 24 [str s] [] (fun r os=>os=[]∧r=.tup [.agg (PA p .full),.val (.bool ok)]))
  (cH:ok=true→ACalls Tryz.prog GP 34 [.agg (PA p .full),.agg RQ,.val (.int .u64 (clock:Int))] [] (fun r os=>os=[]∧r=.val (.bool h))) :
  ACalls Tryz.prog GP 75 [str s,.agg RQ,.val (.int .u64 (clock:Int))] [] (fun r os=>os=[]∧r=.val (.bool (ok&&h))):=by
 have h1:=iE p .full hp
 have h2:=lE p .full
 have h3:=sX p .full rfl
 have h5:(PA p .full).take 23=PA p .full:=List.take_of_length_le (by omega)
 have h6:(PA p .full).drop 23=[]:=List.drop_eq_nil_of_le (by omega)
 have hRt:RQ.take 20=RQ:=List.take_of_length_le (by omega)
 generalize PA p .full=P at *
 simp only[str] at *
 refine aQ Tryz.func75 rfl rfl Tryz.ntmps75 (rts:=#[4]) rfl Tryz.results75 (by simp) ?_
 simp only[seval,aZ]
 refine aC fun K hK=>aA [] ?_
 simp only[seval,kZs,eF,bB,hRo,fN,cav,aI]
 and_intros<;>try first|exact⟨⟩|omega
 refine hK _ ?_
 clear hK K
 refine aE [0,2,4,6] ?_
 simp only[seval,kZq]
 refine aC fun K hK=>aA [] ?_
 simp only[seval,kZs,aU,bF,aT,bA,aH]
 refine aV (by simp[aH,aM]) cP (by simp[aH,aM,h3]) ?_
 simp only[seval,kZs,aK,gW,dF,bS,cav,bQ,bX,bD,bB,spl,aI,h2,h1,List.drop_nil]
 refine hK _ ?_
 clear hK K
 refine aE [2,4,6,7,8] ?_
 simp only[seval,kZq]
 refine aC fun K hK=>aA [] ?_
 cases hok:ok with
 | false=>
  simp only[seval,kZs,dD,bT,Option.bind_some,aW,Bool.not_true,eW,gok,bU,cav,aI]
  refine hK _ ?_
  refine aE [6] ?_
  simp only[seval,kZq]
  refine aS ?_
  simp only[qq,bR,cQ,bN,bO,dA,aB,aH]
  rw[hok]
  rfl
 | true=>
  simp only[seval,kZs,Bool.true_and,dD,bT,Option.bind_some,aW,dQ,gok,aY,apart,aO,Tryz.underlying81,bD,h1,h5,Tryz.underlying29,hRl,hRt,aU,bF,aT,bA,bW,List.headD_cons,List.tail_cons,aH]
  refine aV (by simp[aH,aM,h3,hRn]) (cH hok) rfl ?_
  simp only[seval,kZs,aK,bU,cav,aI]
  refine hK _ ?_
  refine aE [6] ?_
  simp only[seval,kZq]
  refine aS ?_
  simp only[qq,bR,cQ,bN,bO,dA,aB,aH]
  rw[hok]
  rfl
structure RV where
 op:List UInt8
 path:List UInt8
 v6:Bool
 addr:List UInt8
 cost:Nat
def RA (r:RV):List AV:=str r.op::str r.path::(AD r.v6 r.addr++[.val (.float .f64 r.cost)])
theorem kA [Gv] (r:RV) (h:r.addr.length=16):(RA r).length=20:=by simp[RA,AD,aX,h]
theorem pW [Gv] (r:RV):(RA r).all dC=true:=by simp[RA,AD,eR,dC,Value.oneCell',str]
theorem aAZ [Gv] (r:RV):aM (RA r)=true:=by simp[RA,AD,aM,aH,dK,Go.V.aJ,str]
theorem aNQ [Gv] (r:RV):(RA r).getD 1 .top=str r.path:=rfl
theorem aNO [Gv] (r:RV) (h:r.addr.length=16):((RA r).drop 2).take 17=AD r.v6 r.addr:=by
 have:(Bs r.addr).length=16:=by rw[aX];exact h
 simp[RA,AD,List.take_append,this]
theorem aNP [Gv] (r:RV) (h:r.addr.length=16):(RA r).getD 19 .top=.val (.float .f64 r.cost):=by
 have:(Bs r.addr).length=16:=by rw[aX];exact h
 simp[RA,AD,List.getD_eq_getElem?_getD,List.getElem?_append_right,this]
theorem aGP [Gv] (p:PV) (q:Perm) (h:p.addr.length=16):((PA p q).drop 4).take 18=NT p.v6 p.addr p.bits:=by
 have:=fZ p.v6 p.addr p.bits h
 simp only[PA,PD,List.drop_succ_cons,List.drop_zero]
 rw[List.take_append_of_le_length (by omega),List.take_of_length_le (by omega)]
theorem aDU [Gv] (p:PV) (q:Perm) (h:p.addr.length=16):(PA p q).getD 22 .top=.val (.float .f64 p.cost):=by
 have:=fZ p.v6 p.addr p.bits h
 simp[PA,PD,List.getD_eq_getElem?_getD,List.getElem?_append_right,this]
theorem aJl [Gv] {s t:List UInt8} (h:sO s=some t):t.length≤256:=by
 unfold sO at h
 split at h
 ·split at h
  ·split at h
   ·cases h
   ·injection h with h;subst h;omega
  ·cases h
 ·cases h
theorem aKs [Gv] (p:PV) (q:Perm) (hp:p.addr.length=16) (hk:p.kind=1) (rq:RV) (ha:rq.addr.length=16) (clock:Nat) :
  ACalls Tryz.prog GP 83 [.agg (PA p q),.agg (RA rq),.val (.int .u64 (clock:Int))] [] (fun r os=>os=[]∧r=.val (.bool (decide (clock<p.time)))):=by
 have h1:=iE p q hp
 have h2:=lE p q
 have h4:=nY p q
 rw[hk] at h4
 have hRl:=kA rq ha
 have hRo:=pW rq
 have ht:(PA p q).getD 1 .top=.val (.int .u64 (p.time:Int)):=rfl
 have hd:decide ((clock:Int)<(p.time:Int))=decide (clock<p.time):=by simp
 generalize PA p q=P at *
 generalize RA rq=R at *
 refine aQ Tryz.func83 rfl rfl Tryz.ntmps83 (rts:=#[4]) rfl Tryz.results83 (by simp) ?_
 simp only[seval,aZ]
 refine aC fun K hK=>aA [] ?_
 simp only[seval,kZs,eF,bB,h2,fN,hRo,cav,aI]
 and_intros<;>try first|exact⟨⟩|omega
 refine hK _ ?_
 clear hK K
 refine aE [2,3,4,6] ?_
 simp only[seval,kZq]
 refine aC fun K1 hK1=>?_
 refine bJ ?_
 refine aA [] ?_
 simp only[seval,kZs,aN,Tryz.underlying81,bD,ne_eq,aY,apart,aO,Tryz.underlying3,aI,h1,h4]
 refine bK ?_
 refine bJ ?_
 refine aA [] ?_
 simp only[seval,kZs,cav,aL,aP,bH,beq_self_eq_true,aI]
 refine bG rfl ?_
 refine aE [2,3] ?_
 simp only[seval,kZq]
 refine aC fun K hK=>aA [] ?_
 simp only[seval,kZs,aN,Tryz.underlying81,bD,ne_eq,aY,apart,aO,Tryz.underlying30,aL,aI,h1,ht,aP,bH,hd]
 refine hK _ ?_
 clear hK K
 refine aE [6] ?_
 simp only[seval,kZq]
 refine aS ?_
 simp only[qq,bL,aI,bR,cQ,bN,bO,dA,aB,aH]
theorem aKw [Gv] (p:PV) (q:Perm) (hp:p.addr.length=16) (hk:p.kind=2) (rq:RV) (ha:rq.addr.length=16) (clock:Nat) :
  ACalls Tryz.prog GP 83 [.agg (PA p q),.agg (RA rq),.val (.int .u64 (clock:Int))] [] (fun r os=>os=[]∧r=.val (.bool (decide (p.time≤clock)))):=by
 have h1:=iE p q hp
 have h2:=lE p q
 have h4:=nY p q
 rw[hk] at h4
 have hRl:=kA rq ha
 have hRo:=pW rq
 have ht:(PA p q).getD 1 .top=.val (.int .u64 (p.time:Int)):=rfl
 have hd:decide ((clock:Int)≥(p.time:Int))=decide (p.time≤clock):=by simp
 generalize PA p q=P at *
 generalize RA rq=R at *
 refine aQ Tryz.func83 rfl rfl Tryz.ntmps83 (rts:=#[4]) rfl Tryz.results83 (by simp) ?_
 simp only[seval,aZ]
 refine aC fun K hK=>aA [] ?_
 simp only[seval,kZs,eF,bB,h2,fN,hRo,cav,aI]
 and_intros<;>try first|exact⟨⟩|omega
 refine hK _ ?_
 clear hK K
 refine aE [2,3,4,6] ?_
 simp only[seval,kZq]
 refine aC fun K1 hK1=>?_
 refine bJ ?_
 refine aA [] ?_
 simp only[seval,kZs,aN,Tryz.underlying81,bD,ne_eq,aY,apart,aO,Tryz.underlying3,aI,h1,h4]
 refine bK ?_
 refine bJ ?_
 refine aA [] ?_
 simp only[seval,kZs,cav,aL,aP,bH,aI]
 refine aR rfl ?_
 refine bJ ?_
 refine aA [] ?_
 simp only[seval,kZs,cav,aL,aP,bH,beq_self_eq_true,aI]
 refine bG rfl ?_
 refine aE [2,3] ?_
 simp only[seval,kZq]
 refine aC fun K hK=>aA [] ?_
 simp only[seval,kZs,aN,Tryz.underlying81,bD,ne_eq,aY,apart,aO,Tryz.underlying30,aL,aI,h1,ht,aP,bH,hd]
 refine hK _ ?_
 clear hK K
 refine aE [6] ?_
 simp only[seval,kZq]
 refine aS ?_
 simp only[qq,bL,aI,bR,cQ,bN,bO,dA,aB,aH]
theorem aKt [Gv] (p:PV) (q:Perm) (hp:p.addr.length=16) (hk:p.kind=6) (rq:RV) (ha:rq.addr.length=16) (clock:Nat) :
  ACalls Tryz.prog GP 83 [.agg (PA p q),.agg (RA rq),.val (.int .u64 (clock:Int))] [] (fun r os=>os=[]∧r=.val (.bool (lS rq.cost p.cost))):=by
 have h1:=iE p q hp
 have h2:=lE p q
 have h4:=nY p q
 rw[hk] at h4
 have hRl:=kA rq ha
 have hRo:=pW rq
 have hc:=aDU p q hp
 have hRc:=aNP rq ha
 have cA:=aIw rq.cost p.cost
 generalize PA p q=P at *
 generalize RA rq=R at *
 refine aQ Tryz.func83 rfl rfl Tryz.ntmps83 (rts:=#[4]) rfl Tryz.results83 (by simp) ?_
 simp only[seval,aZ]
 refine aC fun K hK=>aA [] ?_
 simp only[seval,kZs,eF,bB,h2,fN,hRo,cav,aI]
 and_intros<;>try first|exact⟨⟩|omega
 refine hK _ ?_
 clear hK K
 refine aE [2,3,4,6] ?_
 simp only[seval,kZq]
 refine aC fun K1 hK1=>?_
 refine bJ ?_
 refine aA [] ?_
 simp only[seval,kZs,aN,Tryz.underlying81,bD,ne_eq,aY,apart,aO,Tryz.underlying3,aI,h1,h4]
 refine bK ?_
 refine bJ ?_
 refine aA [] ?_
 simp only[seval,kZs,cav,aL,aP,bH,aI]
 refine aR rfl ?_
 refine bJ ?_
 refine aA [] ?_
 simp only[seval,kZs,cav,aL,aP,bH,aI]
 refine aR rfl ?_
 refine bJ ?_
 refine aA [] ?_
 simp only[seval,kZs,cav,aL,aP,bH,aI]
 refine aR rfl ?_
 refine bJ ?_
 refine aA [] ?_
 simp only[seval,kZs,cav,aL,aP,bH,aI]
 refine aR rfl ?_
 refine bJ ?_
 refine aA [] ?_
 simp only[seval,kZs,cav,aL,aP,bH,aI]
 refine aR rfl ?_
 refine bJ ?_
 refine aA [] ?_
 simp only[seval,kZs,cav,aL,aP,bH,beq_self_eq_true,aI]
 refine bG rfl ?_
 refine aE [3,4] ?_
 simp only[seval,kZq]
 refine aC fun K hK=>aA [] ?_
 simp only[seval,kZs,aN,Tryz.underlying29,bD,ne_eq,aY,apart,aO,Tryz.underlying27,Tryz.underlying81,aU,bF,aT,bA,bW,List.headD_cons,List.tail_cons,h1,hc,aH,hRl,hRc]
 refine aV (by simp[aJ,aM,aH]) (cA) (by simp[aH,aM,aJ,flat]) ?_
 simp only[seval,kZs,aK,aI]
 refine hK _ ?_
 clear hK K
 refine aE [6] ?_
 simp only[seval,kZq]
 refine aS ?_
 simp only[qq,bL,aI,bR,cQ,bN,bO,dA,aB,aH]
theorem aKu [Gv] (p:PV) (q:Perm) (hp:p.addr.length=16) (hk:p.kind=5) (rq:RV) (ha:rq.addr.length=16) (clock:Nat) (h64:-9223372036854775808≤p.bits∧p.bits≤9223372036854775807) :
  ACalls Tryz.prog GP 83 [.agg (PA p q),.agg (RA rq),.val (.int .u64 (clock:Int))] [] (fun r os=>os=[]∧r=.val (.bool (aHC p.v6 p.addr p.bits rq.v6 rq.addr))):=by
 have h1:=iE p q hp
 have h2:=lE p q
 have h4:=nY p q
 rw[hk] at h4
 have hRl:=kA rq ha
 have hRo:=pW rq
 have hN:=aGP p q hp
 have hRa:=aNO rq ha
 have cA:=aOH p.v6 p.addr p.bits hp h64 rq.v6 rq.addr ha
 have hNn:=iZ p.v6 p.addr p.bits
 have hAn:aM (AD rq.v6 rq.addr)=true:=by simp[AD,aM,aH,Go.V.aJ]
 generalize PA p q=P at *
 generalize RA rq=R at *
 generalize NT p.v6 p.addr p.bits=N at *
 generalize AD rq.v6 rq.addr=A0 at *
 refine aQ Tryz.func83 rfl rfl Tryz.ntmps83 (rts:=#[4]) rfl Tryz.results83 (by simp) ?_
 simp only[seval,aZ]
 refine aC fun K hK=>aA [] ?_
 simp only[seval,kZs,eF,bB,h2,fN,hRo,cav,aI]
 and_intros<;>try first|exact⟨⟩|omega
 refine hK _ ?_
 clear hK K
 refine aE [2,3,4,6] ?_
 simp only[seval,kZq]
 refine aC fun K1 hK1=>?_
 refine bJ ?_
 refine aA [] ?_
 simp only[seval,kZs,aN,Tryz.underlying81,bD,ne_eq,aY,apart,aO,Tryz.underlying3,aI,h1,h4]
 refine bK ?_
 refine bJ ?_
 refine aA [] ?_
 simp only[seval,kZs,cav,aL,aP,bH,aI]
 refine aR rfl ?_
 refine bJ ?_
 refine aA [] ?_
 simp only[seval,kZs,cav,aL,aP,bH,aI]
 refine aR rfl ?_
 refine bJ ?_
 refine aA [] ?_
 simp only[seval,kZs,cav,aL,aP,bH,aI]
 refine aR rfl ?_
 refine bJ ?_
 refine aA [] ?_
 simp only[seval,kZs,cav,aL,aP,bH,aI]
 refine aR rfl ?_
 refine bJ ?_
 refine aA [] ?_
 simp only[seval,kZs,cav,aL,aP,bH,beq_self_eq_true,aI]
 refine bG rfl ?_
 refine aE [3,4] ?_
 simp only[seval,kZq]
 refine aC fun K hK=>aA [] ?_
 simp only[seval,kZs,aN,Tryz.underlying81,bD,ne_eq,aY,apart,aO,Tryz.underlying79,Tryz.underlying29,Tryz.underlying26,aU,bF,aT,bA,bW,List.headD_cons,List.tail_cons,hRl,hRa,aH,h1,hN]
 refine aV (by simp[aM,aH,hNn,hAn]) cA rfl ?_
 simp only[seval,kZs,aK,aI]
 refine hK _ ?_
 clear hK K
 refine aE [6] ?_
 simp only[seval,kZq]
 refine aS ?_
 simp only[qq,bL,aI,bR,cQ,bN,bO,dA,aB,aH]
def qK (top path:List UInt8):Bool:=match sO path with
 | some t=>aBo top t
 | none=>false
theorem aKv [Gv] (p:PV) (q:Perm) (hp:p.addr.length=16) (hk:p.kind=4) (rq:RV) (ha:rq.addr.length=16) (clock:Nat) (hpa:p.path.length≤200000) (hr:rq.path.length≤200000) :
  ACalls Tryz.prog GP 83 [.agg (PA p q),.agg (RA rq),.val (.int .u64 (clock:Int))] [] (fun r os=>os=[]∧r=.val (.bool (qK p.path rq.path))):=by
 have h1:=iE p q hp
 have h2:=lE p q
 have h4:=nY p q
 rw[hk] at h4
 have hRl:=kA rq ha
 have hRo:=pW rq
 have hPp:(PA p q).getD 3 .top=str p.path:=rfl
 have hRp:=aNQ rq
 have cN:=aCt rq.path hr
 have cU:=fun t (h:t.length≤200000)=>aMq p.path t hpa h
 unfold qK
 unfold qY at cN
 have hlen:=fun t=>aJl (s:=rq.path) (t:=t)
 generalize sO rq.path=np at *
 generalize PA p q=P at *
 generalize RA rq=R at *
 simp only[str] at *
 refine aQ Tryz.func83 rfl rfl Tryz.ntmps83 (rts:=#[4]) rfl Tryz.results83 (by simp) ?_
 simp only[seval,aZ]
 refine aC fun K hK=>aA [] ?_
 simp only[seval,kZs,eF,bB,h2,fN,hRo,cav,aI]
 and_intros<;>try first|exact⟨⟩|omega
 refine hK _ ?_
 clear hK K
 refine aE [2,3,4,6] ?_
 simp only[seval,kZq]
 refine aC fun K1 hK1=>?_
 refine bJ ?_
 refine aA [] ?_
 simp only[seval,kZs,aN,Tryz.underlying81,bD,ne_eq,aY,apart,aO,Tryz.underlying3,aI,h1,h4]
 refine bK ?_
 refine bJ ?_
 refine aA [] ?_
 simp only[seval,kZs,cav,aL,aP,bH,aI]
 refine aR rfl ?_
 refine bJ ?_
 refine aA [] ?_
 simp only[seval,kZs,cav,aL,aP,bH,aI]
 refine aR rfl ?_
 refine bJ ?_
 refine aA [] ?_
 simp only[seval,kZs,cav,aL,aP,bH,aI]
 refine aR rfl ?_
 refine bJ ?_
 refine aA [] ?_
 simp only[seval,kZs,cav,aL,aP,bH,beq_self_eq_true,aI]
 refine bG rfl ?_
 refine aE [3,4] ?_
 simp only[seval,kZq]
 cases np with
 | none=>
  simp only[str] at cN
  refine aC fun K hK=>aA [] ?_
  simp only[seval,kZs,aN,Tryz.underlying29,bD,ne_eq,aY,apart,aO,Tryz.underlying9,aU,bF,aT,bA,bW,List.headD_cons,hRl,hRp,aH]
  refine aV (by simp[aJ,aM,aH]) (cN) (by simp[aH,aM,aJ,flat]) ?_
  simp only[seval,kZs,aK,gW,aI]
  refine hK _ ?_
  clear hK K
  refine aE [3,7,8] ?_
  simp only[seval,kZq]
  refine aC fun K hK=>aA [] ?_
  simp only[seval,kZs,dD,bT,Option.bind_some,aW,Bool.not_true,eW,gok,bU,cav,aI]
  and_intros<;>try first|exact⟨⟩|omega
  refine hK _ ?_
  clear hK K
  refine aE [6] ?_
  simp only[seval,kZq]
  refine aS ?_
  simp only[qq,bL,aI,bR,cQ,bN,bO,dA,aB,aH]
 | some t=>
  have c2:=cU t (by have:=hlen t rfl;omega)
  simp only[str] at cN c2
  refine aC fun K hK=>aA [] ?_
  simp only[seval,kZs,aN,Tryz.underlying29,bD,ne_eq,aY,apart,aO,Tryz.underlying9,aU,bF,aT,bA,bW,List.headD_cons,hRl,hRp,aH]
  refine aV (by simp[aJ,aM,aH]) (cN) (by simp[aH,aM,aJ,flat]) ?_
  simp only[seval,kZs,aK,gW,aI]
  refine hK _ ?_
  clear hK K
  refine aE [3,7,8] ?_
  simp only[seval,kZq]
  refine aC fun K hK=>aA [] ?_
  simp only[seval,kZs,dD,bT,Option.bind_some,aW,dQ,gok,aN,Tryz.underlying81,bD,ne_eq,aY,apart,aO,Tryz.underlying9,aU,bF,aT,bA,bW,List.headD_cons,aH,h1,hPp]
  refine aV (by simp[aJ,aM,aH]) (c2) (by simp[aH,aM,aJ,flat]) ?_
  simp only[seval,kZs,aK,bU,cav,aI]
  refine hK _ ?_
  clear hK K
  refine aE [6] ?_
  simp only[seval,kZq]
  refine aS ?_
  simp only[qq,bL,aI,bR,cQ,bN,bO,dA,aB,aH]
def aAt (p:PV) (rq:RV) (clock:Nat):Bool:=
 if p.kind=1 then decide (clock<p.time) else if p.kind=2 then decide (p.time≤clock) else if p.kind=3 then p.names.contains rq.op
 else if p.kind=4 then qK p.path rq.path else if p.kind=5 then aHC p.v6 p.addr p.bits rq.v6 rq.addr else lS rq.cost p.cost
theorem vR [Gv] {p:PV} (h:nL p=true):1≤p.kind∧p.kind≤6:=by
 by_cases hk:1≤p.kind∧p.kind≤6
 ·exact hk
 ·exfalso
  have e:iW p=([],[],p):=by
   unfold iW
   rw[if_neg (by omega),if_neg (by omega),if_neg (by omega),if_neg (by omega),if_neg (by omega),if_neg (by omega)]
  have:zY p=[]:=by
   unfold zY
   rw[e]
   simp[tX]
  unfold nL at h
  rw[this] at h
  cases h
theorem aNU [Gv] (p:PV) (q:Perm) (hq:fG q=true) (hp:OkP p) (rq:RV) (ha:rq.addr.length=16) (hr:rq.path.length≤200000) (clock:Nat) (hk:1≤p.kind∧p.kind≤6) :
  ACalls Tryz.prog GP 83 [.agg (PA p q),.agg (RA rq),.val (.int .u64 (clock:Int))] [] (fun r os=>os=[]∧r=.val (.bool (aAt p rq clock))):=by
 obtain⟨hs,ht,hb,hc⟩:=hp
 unfold aAt
 by_cases k1:p.kind=1
 ·rw[if_pos k1];exact aKs p q hs.1 k1 rq ha clock
 rw[if_neg k1]
 by_cases k2:p.kind=2
 ·rw[if_pos k2];exact aKw p q hs.1 k2 rq ha clock
 rw[if_neg k2]
 by_cases k3:p.kind=3
 ·rw[if_pos k3];exact aCQ p q hq hs.1 k3 hs.2.1 (RA rq) (kA rq ha) (pW rq) (aAZ rq) rq.op rfl clock
 rw[if_neg k3]
 by_cases k4:p.kind=4
 ·rw[if_pos k4];exact aKv p q hs.1 k4 rq ha clock hs.2.2.2 hr
 rw[if_neg k4]
 by_cases k5:p.kind=5
 ·rw[if_pos k5];exact aKu p q hs.1 k5 rq ha clock hb
 rw[if_neg k5]
 exact aKt p q hs.1 (by omega) rq ha clock
theorem aCj [Gv] (p:PV) (q:Perm) (hq:fG q=true) (hp:OkP p) (rq:RV) (ha:rq.addr.length=16) (hr:rq.path.length≤200000) (clock:Nat) :
  ACalls Tryz.prog GP 34 [.agg (PA p q),.agg (RA rq),.val (.int .u64 (clock:Int))] [] (fun r os=>os=[]∧r=.val (.bool (nL p&&aAt p rq clock))):=
 aFT p q hq hp.small.1 (RA rq) (kA rq ha) (pW rq) (aAZ rq) clock _ _ (aBB p q hq hp) fun h=>aNU p q hq hp rq ha hr clock (vR h)
set_option maxHeartbeats 4000000 in
theorem aMf [Gv] (c:UInt8):ACalls Tryz.prog GP 210 [.val (.int .u8 (c.toNat:Int))] [] (fun r os=>os=[]∧r=.val (.bool (iP c.toNat))):=by
 have hlt:=c.toNat_lt
 refine aQ Tryz.func210 rfl rfl Tryz.ntmps210 (rts:=#[4]) rfl Tryz.results210 (by simp) ?_
 simp only[seval,aZ]
 refine aC fun K hK=>aA [] ?_
 simp only[seval,kZs,cav,aI]
 and_intros<;>try first|exact⟨⟩|omega
 refine hK _ ?_
 clear hK K
 refine aE [0] ?_
 simp only[seval,kZq]
 have hcase:c.toNat≤44∨(45≤c.toNat∧c.toNat≤45)∨(46≤c.toNat∧c.toNat≤46)∨(47≤c.toNat∧c.toNat≤47)∨(48≤c.toNat∧c.toNat≤57)∨(58≤c.toNat∧c.toNat≤64)∨(65≤c.toNat∧c.toNat≤90)∨(91≤c.toNat∧c.toNat≤94)∨(95≤c.toNat∧c.toNat≤95)∨(96≤c.toNat∧c.toNat≤96)∨(97≤c.toNat∧c.toNat≤122)∨(123≤c.toNat∧c.toNat≤255):=by omega
 rcases hcase with h|h|h|h|h|h|h|h|h|h|h|h
 ·have a0:decide ((c.toNat:Int)≥97)=false:=decide_eq_false (by omega)
  have a1:decide ((c.toNat:Int)≤122)=true:=decide_eq_true (by omega)
  have a2:decide ((c.toNat:Int)≥65)=false:=decide_eq_false (by omega)
  have a3:decide ((c.toNat:Int)≤90)=true:=decide_eq_true (by omega)
  have a4:decide ((c.toNat:Int)≥48)=false:=decide_eq_false (by omega)
  have a5:decide ((c.toNat:Int)≤57)=true:=decide_eq_true (by omega)
  have a6:((c.toNat:Int) == 46)=false:=by rw[beq_eq_false_iff_ne];omega
  have a7:((c.toNat:Int) == 95)=false:=by rw[beq_eq_false_iff_ne];omega
  have a8:((c.toNat:Int) == 45)=false:=by rw[beq_eq_false_iff_ne];omega
  have hs:iP c.toNat=false:=decide_eq_false (by omega)
  refine aC fun K hK=>aA [] ?_
  simp only[seval,kZs,cav,aL,aP,bH,a0,dD,bT,Option.bind_some,aW,Bool.not_true,eW,gok,bU,Bool.not_false,dQ,a2,a4,a6,a7,a8,aI]
  refine hK _ ?_
  clear hK K
  refine aE [2] ?_
  simp only[seval,kZq]
  refine aS ?_
  simp only[qq,bR,cQ,bN,bO,dA,aB,aH]
  rw[hs]
 ·have a0:decide ((c.toNat:Int)≥97)=false:=decide_eq_false (by omega)
  have a1:decide ((c.toNat:Int)≤122)=true:=decide_eq_true (by omega)
  have a2:decide ((c.toNat:Int)≥65)=false:=decide_eq_false (by omega)
  have a3:decide ((c.toNat:Int)≤90)=true:=decide_eq_true (by omega)
  have a4:decide ((c.toNat:Int)≥48)=false:=decide_eq_false (by omega)
  have a5:decide ((c.toNat:Int)≤57)=true:=decide_eq_true (by omega)
  have a6:((c.toNat:Int) == 46)=false:=by rw[beq_eq_false_iff_ne];omega
  have a7:((c.toNat:Int) == 95)=false:=by rw[beq_eq_false_iff_ne];omega
  have a8:((c.toNat:Int) == 45)=true:=by rw[beq_iff_eq];omega
  have hs:iP c.toNat=true:=decide_eq_true (by omega)
  refine aC fun K hK=>aA [] ?_
  simp only[seval,kZs,cav,aL,aP,bH,a0,dD,bT,Option.bind_some,aW,Bool.not_true,eW,gok,bU,Bool.not_false,dQ,a2,a4,a6,a7,a8,aI]
  refine hK _ ?_
  clear hK K
  refine aE [2] ?_
  simp only[seval,kZq]
  refine aS ?_
  simp only[qq,bR,cQ,bN,bO,dA,aB,aH]
  rw[hs]
 ·have a0:decide ((c.toNat:Int)≥97)=false:=decide_eq_false (by omega)
  have a1:decide ((c.toNat:Int)≤122)=true:=decide_eq_true (by omega)
  have a2:decide ((c.toNat:Int)≥65)=false:=decide_eq_false (by omega)
  have a3:decide ((c.toNat:Int)≤90)=true:=decide_eq_true (by omega)
  have a4:decide ((c.toNat:Int)≥48)=false:=decide_eq_false (by omega)
  have a5:decide ((c.toNat:Int)≤57)=true:=decide_eq_true (by omega)
  have a6:((c.toNat:Int) == 46)=true:=by rw[beq_iff_eq];omega
  have a7:((c.toNat:Int) == 95)=false:=by rw[beq_eq_false_iff_ne];omega
  have a8:((c.toNat:Int) == 45)=false:=by rw[beq_eq_false_iff_ne];omega
  have hs:iP c.toNat=true:=decide_eq_true (by omega)
  refine aC fun K hK=>aA [] ?_
  simp only[seval,kZs,cav,aL,aP,bH,a0,dD,bT,Option.bind_some,aW,Bool.not_true,eW,gok,bU,Bool.not_false,dQ,a2,a4,a6,aI]
  refine hK _ ?_
  clear hK K
  refine aE [2] ?_
  simp only[seval,kZq]
  refine aS ?_
  simp only[qq,bR,cQ,bN,bO,dA,aB,aH]
  rw[hs]
 ·have a0:decide ((c.toNat:Int)≥97)=false:=decide_eq_false (by omega)
  have a1:decide ((c.toNat:Int)≤122)=true:=decide_eq_true (by omega)
  have a2:decide ((c.toNat:Int)≥65)=false:=decide_eq_false (by omega)
  have a3:decide ((c.toNat:Int)≤90)=true:=decide_eq_true (by omega)
  have a4:decide ((c.toNat:Int)≥48)=false:=decide_eq_false (by omega)
  have a5:decide ((c.toNat:Int)≤57)=true:=decide_eq_true (by omega)
  have a6:((c.toNat:Int) == 46)=false:=by rw[beq_eq_false_iff_ne];omega
  have a7:((c.toNat:Int) == 95)=false:=by rw[beq_eq_false_iff_ne];omega
  have a8:((c.toNat:Int) == 45)=false:=by rw[beq_eq_false_iff_ne];omega
  have hs:iP c.toNat=false:=decide_eq_false (by omega)
  refine aC fun K hK=>aA [] ?_
  simp only[seval,kZs,cav,aL,aP,bH,a0,dD,bT,Option.bind_some,aW,Bool.not_true,eW,gok,bU,Bool.not_false,dQ,a2,a4,a6,a7,a8,aI]
  refine hK _ ?_
  clear hK K
  refine aE [2] ?_
  simp only[seval,kZq]
  refine aS ?_
  simp only[qq,bR,cQ,bN,bO,dA,aB,aH]
  rw[hs]
 ·have a0:decide ((c.toNat:Int)≥97)=false:=decide_eq_false (by omega)
  have a1:decide ((c.toNat:Int)≤122)=true:=decide_eq_true (by omega)
  have a2:decide ((c.toNat:Int)≥65)=false:=decide_eq_false (by omega)
  have a3:decide ((c.toNat:Int)≤90)=true:=decide_eq_true (by omega)
  have a4:decide ((c.toNat:Int)≥48)=true:=decide_eq_true (by omega)
  have a5:decide ((c.toNat:Int)≤57)=true:=decide_eq_true (by omega)
  have a6:((c.toNat:Int) == 46)=false:=by rw[beq_eq_false_iff_ne];omega
  have a7:((c.toNat:Int) == 95)=false:=by rw[beq_eq_false_iff_ne];omega
  have a8:((c.toNat:Int) == 45)=false:=by rw[beq_eq_false_iff_ne];omega
  have hs:iP c.toNat=true:=decide_eq_true (by omega)
  refine aC fun K hK=>aA [] ?_
  simp only[seval,kZs,cav,aL,aP,bH,a0,dD,bT,Option.bind_some,aW,Bool.not_true,eW,gok,bU,Bool.not_false,dQ,a2,a4,a5,aI]
  refine hK _ ?_
  clear hK K
  refine aE [2] ?_
  simp only[seval,kZq]
  refine aS ?_
  simp only[qq,bR,cQ,bN,bO,dA,aB,aH]
  rw[hs]
 ·have a0:decide ((c.toNat:Int)≥97)=false:=decide_eq_false (by omega)
  have a1:decide ((c.toNat:Int)≤122)=true:=decide_eq_true (by omega)
  have a2:decide ((c.toNat:Int)≥65)=false:=decide_eq_false (by omega)
  have a3:decide ((c.toNat:Int)≤90)=true:=decide_eq_true (by omega)
  have a4:decide ((c.toNat:Int)≥48)=true:=decide_eq_true (by omega)
  have a5:decide ((c.toNat:Int)≤57)=false:=decide_eq_false (by omega)
  have a6:((c.toNat:Int) == 46)=false:=by rw[beq_eq_false_iff_ne];omega
  have a7:((c.toNat:Int) == 95)=false:=by rw[beq_eq_false_iff_ne];omega
  have a8:((c.toNat:Int) == 45)=false:=by rw[beq_eq_false_iff_ne];omega
  have hs:iP c.toNat=false:=decide_eq_false (by omega)
  refine aC fun K hK=>aA [] ?_
  simp only[seval,kZs,cav,aL,aP,bH,a0,dD,bT,Option.bind_some,aW,Bool.not_true,eW,gok,bU,Bool.not_false,dQ,a2,a4,a5,a6,a7,a8,aI]
  refine hK _ ?_
  clear hK K
  refine aE [2] ?_
  simp only[seval,kZq]
  refine aS ?_
  simp only[qq,bR,cQ,bN,bO,dA,aB,aH]
  rw[hs]
 ·have a0:decide ((c.toNat:Int)≥97)=false:=decide_eq_false (by omega)
  have a1:decide ((c.toNat:Int)≤122)=true:=decide_eq_true (by omega)
  have a2:decide ((c.toNat:Int)≥65)=true:=decide_eq_true (by omega)
  have a3:decide ((c.toNat:Int)≤90)=true:=decide_eq_true (by omega)
  have a4:decide ((c.toNat:Int)≥48)=true:=decide_eq_true (by omega)
  have a5:decide ((c.toNat:Int)≤57)=false:=decide_eq_false (by omega)
  have a6:((c.toNat:Int) == 46)=false:=by rw[beq_eq_false_iff_ne];omega
  have a7:((c.toNat:Int) == 95)=false:=by rw[beq_eq_false_iff_ne];omega
  have a8:((c.toNat:Int) == 45)=false:=by rw[beq_eq_false_iff_ne];omega
  have hs:iP c.toNat=true:=decide_eq_true (by omega)
  refine aC fun K hK=>aA [] ?_
  simp only[seval,kZs,cav,aL,aP,bH,a0,dD,bT,Option.bind_some,aW,Bool.not_true,eW,gok,bU,Bool.not_false,dQ,a2,a3,aI]
  refine hK _ ?_
  clear hK K
  refine aE [2] ?_
  simp only[seval,kZq]
  refine aS ?_
  simp only[qq,bR,cQ,bN,bO,dA,aB,aH]
  rw[hs]
 ·have a0:decide ((c.toNat:Int)≥97)=false:=decide_eq_false (by omega)
  have a1:decide ((c.toNat:Int)≤122)=true:=decide_eq_true (by omega)
  have a2:decide ((c.toNat:Int)≥65)=true:=decide_eq_true (by omega)
  have a3:decide ((c.toNat:Int)≤90)=false:=decide_eq_false (by omega)
  have a4:decide ((c.toNat:Int)≥48)=true:=decide_eq_true (by omega)
  have a5:decide ((c.toNat:Int)≤57)=false:=decide_eq_false (by omega)
  have a6:((c.toNat:Int) == 46)=false:=by rw[beq_eq_false_iff_ne];omega
  have a7:((c.toNat:Int) == 95)=false:=by rw[beq_eq_false_iff_ne];omega
  have a8:((c.toNat:Int) == 45)=false:=by rw[beq_eq_false_iff_ne];omega
  have hs:iP c.toNat=false:=decide_eq_false (by omega)
  refine aC fun K hK=>aA [] ?_
  simp only[seval,kZs,cav,aL,aP,bH,a0,dD,bT,Option.bind_some,aW,Bool.not_true,eW,gok,bU,Bool.not_false,dQ,a2,a3,a4,a5,a6,a7,a8,aI]
  refine hK _ ?_
  clear hK K
  refine aE [2] ?_
  simp only[seval,kZq]
  refine aS ?_
  simp only[qq,bR,cQ,bN,bO,dA,aB,aH]
  rw[hs]
 ·have a0:decide ((c.toNat:Int)≥97)=false:=decide_eq_false (by omega)
  have a1:decide ((c.toNat:Int)≤122)=true:=decide_eq_true (by omega)
  have a2:decide ((c.toNat:Int)≥65)=true:=decide_eq_true (by omega)
  have a3:decide ((c.toNat:Int)≤90)=false:=decide_eq_false (by omega)
  have a4:decide ((c.toNat:Int)≥48)=true:=decide_eq_true (by omega)
  have a5:decide ((c.toNat:Int)≤57)=false:=decide_eq_false (by omega)
  have a6:((c.toNat:Int) == 46)=false:=by rw[beq_eq_false_iff_ne];omega
  have a7:((c.toNat:Int) == 95)=true:=by rw[beq_iff_eq];omega
  have a8:((c.toNat:Int) == 45)=false:=by rw[beq_eq_false_iff_ne];omega
  have hs:iP c.toNat=true:=decide_eq_true (by omega)
  refine aC fun K hK=>aA [] ?_
  simp only[seval,kZs,cav,aL,aP,bH,a0,dD,bT,Option.bind_some,aW,Bool.not_true,eW,gok,bU,Bool.not_false,dQ,a2,a3,a4,a5,a6,a7,aI]
  refine hK _ ?_
  clear hK K
  refine aE [2] ?_
  simp only[seval,kZq]
  refine aS ?_
  simp only[qq,bR,cQ,bN,bO,dA,aB,aH]
  rw[hs]
 ·have a0:decide ((c.toNat:Int)≥97)=false:=decide_eq_false (by omega)
  have a1:decide ((c.toNat:Int)≤122)=true:=decide_eq_true (by omega)
  have a2:decide ((c.toNat:Int)≥65)=true:=decide_eq_true (by omega)
  have a3:decide ((c.toNat:Int)≤90)=false:=decide_eq_false (by omega)
  have a4:decide ((c.toNat:Int)≥48)=true:=decide_eq_true (by omega)
  have a5:decide ((c.toNat:Int)≤57)=false:=decide_eq_false (by omega)
  have a6:((c.toNat:Int) == 46)=false:=by rw[beq_eq_false_iff_ne];omega
  have a7:((c.toNat:Int) == 95)=false:=by rw[beq_eq_false_iff_ne];omega
  have a8:((c.toNat:Int) == 45)=false:=by rw[beq_eq_false_iff_ne];omega
  have hs:iP c.toNat=false:=decide_eq_false (by omega)
  refine aC fun K hK=>aA [] ?_
  simp only[seval,kZs,cav,aL,aP,bH,a0,dD,bT,Option.bind_some,aW,Bool.not_true,eW,gok,bU,Bool.not_false,dQ,a2,a3,a4,a5,a6,a7,a8,aI]
  refine hK _ ?_
  clear hK K
  refine aE [2] ?_
  simp only[seval,kZq]
  refine aS ?_
  simp only[qq,bR,cQ,bN,bO,dA,aB,aH]
  rw[hs]
 ·have a0:decide ((c.toNat:Int)≥97)=true:=decide_eq_true (by omega)
  have a1:decide ((c.toNat:Int)≤122)=true:=decide_eq_true (by omega)
  have a2:decide ((c.toNat:Int)≥65)=true:=decide_eq_true (by omega)
  have a3:decide ((c.toNat:Int)≤90)=false:=decide_eq_false (by omega)
  have a4:decide ((c.toNat:Int)≥48)=true:=decide_eq_true (by omega)
  have a5:decide ((c.toNat:Int)≤57)=false:=decide_eq_false (by omega)
  have a6:((c.toNat:Int) == 46)=false:=by rw[beq_eq_false_iff_ne];omega
  have a7:((c.toNat:Int) == 95)=false:=by rw[beq_eq_false_iff_ne];omega
  have a8:((c.toNat:Int) == 45)=false:=by rw[beq_eq_false_iff_ne];omega
  have hs:iP c.toNat=true:=decide_eq_true (by omega)
  refine aC fun K hK=>aA [] ?_
  simp only[seval,kZs,cav,aL,aP,bH,a0,dD,bT,Option.bind_some,aW,dQ,gok,a1,bU,eW,aI]
  refine hK _ ?_
  clear hK K
  refine aE [2] ?_
  simp only[seval,kZq]
  refine aS ?_
  simp only[qq,bR,cQ,bN,bO,dA,aB,aH]
  rw[hs]
 ·have a0:decide ((c.toNat:Int)≥97)=true:=decide_eq_true (by omega)
  have a1:decide ((c.toNat:Int)≤122)=false:=decide_eq_false (by omega)
  have a2:decide ((c.toNat:Int)≥65)=true:=decide_eq_true (by omega)
  have a3:decide ((c.toNat:Int)≤90)=false:=decide_eq_false (by omega)
  have a4:decide ((c.toNat:Int)≥48)=true:=decide_eq_true (by omega)
  have a5:decide ((c.toNat:Int)≤57)=false:=decide_eq_false (by omega)
  have a6:((c.toNat:Int) == 46)=false:=by rw[beq_eq_false_iff_ne];omega
  have a7:((c.toNat:Int) == 95)=false:=by rw[beq_eq_false_iff_ne];omega
  have a8:((c.toNat:Int) == 45)=false:=by rw[beq_eq_false_iff_ne];omega
  have hs:iP c.toNat=false:=decide_eq_false (by omega)
  refine aC fun K hK=>aA [] ?_
  simp only[seval,kZs,cav,aL,aP,bH,a0,dD,bT,Option.bind_some,aW,dQ,gok,a1,bU,Bool.not_false,a2,a3,a4,a5,a6,a7,a8,aI]
  refine hK _ ?_
  clear hK K
  refine aE [2] ?_
  simp only[seval,kZq]
  refine aS ?_
  simp only[qq,bR,cQ,bN,bO,dA,aB,aH]
  rw[hs]
def mP (s:List UInt8):Bool:=decide (s≠[]∧s.length≤64∧s≠[46]∧s≠[46,46])&&s.all fun b=>iP b.toNat
theorem xS [Gv] {s:List UInt8} (h:s=[]∨64<s.length∨s=[46]∨s=[46,46]):mP s=false:=by
 unfold mP
 rw[decide_eq_false ?_,Bool.false_and]
 rintro⟨a,b,c,d⟩
 rcases h with h|h|h|h
 ·exact a h
 ·omega
 ·exact c h
 ·exact d h
theorem aMe [Gv] (s:List UInt8) (hs:s.length≤9223372036854775000):ACalls Tryz.prog GP 151 [str s] [] (fun r os=>os=[]∧r=.val (.bool (mP s))):=by
 have hsz:((⟨s.toArray⟩:ByteArray).size:Int)=(s.length:Int):=by simp[ByteArray.size]
 unfold str
 refine aQ Tryz.func151 rfl rfl Tryz.ntmps151 (rts:=#[4]) rfl Tryz.results151 (by simp) ?_
 simp only[seval,aZ]
 refine aC fun K hK=>aA [] ?_
 simp only[seval,kZs,cav,aI]
 and_intros<;>try first|exact⟨⟩|omega
 refine hK _ ?_
 clear hK K
 refine aE [0] ?_
 simp only[seval,kZq]
 refine aC fun K1 hK1=>?_
 refine aC fun K hK=>?_
 have nope:∀ st,mP s=false→lk st.slots 19=.val (.bool true)→st.nt=31→st.objs=[]→K st:=by
  rintro⟨nt,sl,os⟩ hw h19 hnt hos
  simp only at h19 hnt hos
  subst hnt hos
  refine hK _ ?_
  refine bG h19 ?_
  refine aE [] ?_
  simp only[aD]
  refine aC fun K hK=>aA [] ?_
  simp only[seval,kZs,cav,aI]
  and_intros<;>try first|exact⟨⟩|omega
  refine hK _ ?_
  clear hK K
  refine aE [2] ?_
  simp only[seval,kZq]
  refine aS ?_
  simp only[aI,bL]
  simp only[qq,bR,cQ,bN,bO,dA,aB,aH]
  rw[hw]
 by_cases c1:s=[]
 ·subst c1
  refine aA [] ?_
  simp only[seval,kZs,bI,bV,eN,Tryz.underlying9,dJ,Int.cast_ofNat_Int,cav,aL,aP,bH,decide_true,dD,bT,Option.bind_some,aW,eW,gok,bU,aI]
  exact nope _ (xS (.inl rfl)) rfl rfl rfl
 have hpos:0<s.length:=List.length_pos_iff.2 c1
 have d1:decide ((s.length:Int)<1)=false:=decide_eq_false (by omega)
 by_cases c2:64<s.length
 ·have d2:decide ((s.length:Int) > 64)=true:=decide_eq_true (by omega)
  refine aA [] ?_
  simp only[seval,kZs,bI,bV,eN,Tryz.underlying9,dJ,cav,aL,aP,bH,d1,dD,bT,Option.bind_some,aW,Bool.not_false,dQ,gok,bU,d2,eW,aI]
  exact nope _ (xS (.inr (.inl c2))) rfl rfl rfl
 have d2:decide ((s.length:Int) > 64)=false:=decide_eq_false (by omega)
 by_cases c3:s=[46]
 ·have d3:(s == [46])=true:=beq_iff_eq.2 c3
  refine aA [] ?_
  simp only[seval,kZs,bI,bV,eN,Tryz.underlying9,dJ,cav,aL,aP,bH,d1,dD,bT,Option.bind_some,aW,Bool.not_false,dQ,gok,bU,d2,gL,ByteArray.toList_mk,d3,eW,aI]
  exact nope _ (xS (.inr (.inr (.inl c3)))) rfl rfl rfl
 have d3:(s == [46])=false:=beq_eq_false_iff_ne.2 c3
 by_cases c4:s=[46,46]
 ·have d4:(s == [46,46])=true:=beq_iff_eq.2 c4
  refine aA [] ?_
  simp only[seval,kZs,bI,bV,eN,Tryz.underlying9,dJ,cav,aL,aP,bH,d1,dD,bT,Option.bind_some,aW,Bool.not_false,dQ,gok,bU,d2,gL,ByteArray.toList_mk,d3,d4,aI]
  exact nope _ (xS (.inr (.inr (.inr c4)))) rfl rfl rfl
 have d4:(s == [46,46])=false:=beq_eq_false_iff_ne.2 c4
 have hF:mP s=s.all fun b=>iP b.toNat:=by
  unfold mP
  rw[decide_eq_true ⟨c1,by omega,c3,c4⟩,Bool.true_and]
 clear nope
 refine aA [] ?_
 simp only[seval,kZs,bI,bV,eN,Tryz.underlying9,dJ,cav,aL,aP,bH,d1,dD,bT,Option.bind_some,aW,Bool.not_false,dQ,gok,bU,d2,gL,ByteArray.toList_mk,d3,d4,aI]
 refine hK _ ?_
 clear hK K
 refine aR rfl (bC (hK1 _ ?_))
 clear hK1 K1
 rw[hF]
 clear hF
 refine aE [0] ?_
 simp only[seval,kZq]
 refine aC fun K1 hK1=>?_
 refine aC fun K hK=>aA [] ?_
 simp only[seval,kZs,cav,aI]
 and_intros<;>try first|exact⟨⟩|omega
 refine hK _ ?_
 clear hK K
 refine aE [0,3] ?_
 simp only[seval,kZq]
 refine bK ?_
 refine bZ (fun i:Nat=>⟨31,[(0,.val (.string ⟨s.toArray⟩)),(3,.val (.int .i64 (i:Int)))],[]⟩) (fun i=>i≤s.length∧∀ j,j<i→iP (s.getD j 0).toNat=true) (fun i=>s.length - i) 0 (by simp) (.of_keep [0,3] rfl) ?_
 rintro i ⟨hi,hgood⟩
 refine aC fun K hK=>?_
 by_cases hlt:i<s.length
 ·have d:decide ((i:Int)<(s.length:Int))=true:=decide_eq_true (by omega)
  refine aC fun K hK=>aA [] ?_
  simp only[seval,kZs,bI,bV,eN,Tryz.underlying9,dJ,aL,aI,aP,bH,d]
  and_intros<;>try first|exact⟨⟩|omega
  refine hK _ ?_
  clear hK K
  refine bG rfl (bC ?_)
  simp only[aI]
  refine hK _ ?_
  clear hK K
  refine aE [0,3] ?_
  simp only[seval,kZq]
  have cS:=aMf (s.getD i 0)
  refine aC fun K hK=>bK ?_
  refine aC fun K2 hK2=>aA [] ?_
  simp only[seval,kZs,uU,Tryz.underlying9,dJ,B,Int.toNat_natCast,aU,bF,aT,bA,bW,List.headD_cons,Tryz.underlying5,aH]
  refine⟨⟨by omega,by omega⟩,?_⟩
  refine aV (by simp[aJ,aM,aH]) (cS) (by simp[aH,aM,aJ,flat]) ?_
  simp only[seval,kZs,aK,aun,aI]
  refine hK2 _ ?_
  clear hK2 K2
  by_cases hs:iP (s.getD i 0).toNat=true
  ·rw[hs]
   refine aR rfl (bC ?_)
   simp only[bL,aI]
   refine hK _ ?_
   clear hK K
   refine aE [0,3] ?_
   simp only[seval,kZq]
   have w3:IntKind.i64.wrap ((i+1:Nat):Int)=((i+1:Nat):Int):=fD (by omega)
   refine aA [] ?_
   simp only[seval,kZs,cav,aL,aP,bH,gO,w3,aI]
   refine⟨i+1,⟨by omega,fun j hj=>?_⟩,by omega,.of_keep [0,3] rfl⟩
   by_cases hji:j=i
   ·rw[hji];exact hs
   ·exact hgood j (by omega)
  ·have hs':iP (s.getD i 0).toNat=false:=by simpa using hs
   rw[hs']
   refine bG rfl ?_
   refine aE [0] ?_
   simp only[seval,kZq]
   refine aC fun K hK=>aA [] ?_
   simp only[seval,kZs,cav,aI]
   and_intros<;>try first|exact⟨⟩|omega
   refine hK _ ?_
   clear hK K
   refine aS ?_
   simp only[bL,aI]
   simp only[seval,qq,bR,cQ,bN,bO,dA,aB,aH]
   have:(s.all fun b=>iP b.toNat)=false:=by
    rw[List.all_eq_false]
    refine⟨s.getD i 0,?_,by simpa using hs'⟩
    rw[List.getD_eq_getElem?_getD,List.getElem?_eq_getElem hlt]
    exact List.getElem_mem hlt
   rw[this]
 have he:i=s.length:=by omega
 subst he
 have d:decide ((s.length:Int)<(s.length:Int))=false:=decide_eq_false (by omega)
 refine aC fun K hK=>aA [] ?_
 simp only[seval,kZs,bI,bV,eN,Tryz.underlying9,dJ,aL,aI,aP,bH,d]
 and_intros<;>try first|exact⟨⟩|omega
 refine hK _ ?_
 clear hK K
 refine aR rfl ?_
 refine dR ?_
 simp only[bL,aI,if_true]
 refine hK1 _ ?_
 clear hK K hK1 K1
 refine aE [] ?_
 simp only[aD]
 refine aC fun K hK=>aA [] ?_
 simp only[seval,kZs,cav,aI]
 and_intros<;>try first|exact⟨⟩|omega
 refine hK _ ?_
 clear hK K
 refine aE [2] ?_
 simp only[seval,kZq]
 refine aS ?_
 simp only[qq,bR,cQ,bN,bO,dA,aB,aH]
 have:(s.all fun b=>iP b.toNat)=true:=by
  rw[List.all_eq_true]
  intro x hx
  obtain⟨j,hj,rfl⟩:=List.mem_iff_getElem.1 hx
  have:=hgood j hj
  rwa [List.getD_eq_getElem?_getD,List.getElem?_eq_getElem hj] at this
 rw[this]
theorem xU [Gv] {c:UInt8}:∀ {n:Nat} {l:List UInt8},n<l.length→(∀ j,j<n→l.getD j 0≠c)→l.getD n 0=c→dM c l=l.take n::dM c (l.drop (n+1))
 | 0,x::xs,_,_,h=>by
  have:x=c:=h
  rw[dM,if_pos this];rfl
 | n+1,x::xs,hl,hno,h=>by
  have hx:x≠c:=hno 0 (by omega)
  have ih:=xU (c:=c) (n:=n) (l:=xs) (by simpa using hl) (fun j hj=>hno (j+1) (by omega)) (by simpa using h)
  rw[dM,if_neg hx,ih];rfl
theorem tV [Gv] {c:UInt8}:∀ {l:List UInt8},(∀ j,j<l.length→l.getD j 0≠c)→dM c l=[l]
 | [],_=>rfl
 | x::xs,h=>by
  have hx:x≠c:=h 0 (by simp)
  have ih:=tV (c:=c) (l:=xs) fun j hj=>h (j+1) (by simpa using hj)
  rw[dM,if_neg hx,ih];rfl
def aFg (r:Nat) (out:List (List UInt8)):AV:=if out=[] then .sl 0 [] .full else .sl out.length (dU out) (.tok r)
def aFf (out:List (List UInt8)):List AObj:=if out=[] then [] else [.tok 1 out.length]
theorem aJv [Gv] (s:List UInt8) (hs:s.length≤1000000):ACalls Tryz.prog GP 150 [str s] [] (fun r os=>os=[]∧r=.sl (dM 47 s).length (dU (dM 47 s)) .no):=by
 have hsz:((⟨s.toArray⟩:ByteArray).size:Int)=(s.length:Int):=by simp[ByteArray.size]
 unfold str
 refine aQ Tryz.func150 rfl rfl Tryz.ntmps150 (rts:=#[43]) rfl Tryz.results150 (by simp) ?_
 simp only[seval,aZ]
 refine aC fun K hK=>aA [] ?_
 simp only[seval,kZs,cav,aI]
 and_intros<;>try first|exact⟨⟩|omega
 refine hK _ ?_
 clear hK K
 refine aE [0] ?_
 simp only[seval,kZq]
 refine aC fun K hK=>aA [] ?_
 simp only[seval,kZs,dV,Tryz.underlying43,bD,bS,Nat.mul_one,dO,eM,dL,aI]
 and_intros<;>try first|exact⟨⟩|omega
 refine hK _ ?_
 clear hK K
 refine aE [0,3] ?_
 simp only[seval,kZq]
 refine aC fun K hK=>aA [] ?_
 simp only[seval,kZs,cav,aI]
 and_intros<;>try first|exact⟨⟩|omega
 refine hK _ ?_
 clear hK K
 refine aE [0,3,4] ?_
 simp only[seval,kZq]
 refine aC fun K1 hK1=>?_
 refine aC fun K hK=>aA [] ?_
 simp only[seval,kZs,cav,aI]
 and_intros<;>try first|exact⟨⟩|omega
 refine hK _ ?_
 clear hK K
 refine aE [0,3,4,5] ?_
 simp only[seval,kZq]
 refine bK ?_
 refine bZ (fun x:Nat×Nat×List (List UInt8)=>⟨33,[(0,.val (.string ⟨s.toArray⟩)),(3,aFg 0 x.2.2),(4,.val (.int .i64 (x.2.1:Int))),(5,.val (.int .i64 (x.1:Int)))],aFf x.2.2⟩)
  (fun x=>x.1≤s.length+1∧x.2.1≤x.1∧x.2.2.length≤x.2.1∧(∀ j,x.2.1≤j→j<x.1→s.getD j 0≠47)∧(x.1≤s.length→x.2.2++dM 47 (s.drop x.2.1)=dM 47 s)∧(s.length<x.1→x.2.2=dM 47 s))
  (fun x=>s.length+1 - x.1) (0,0,[]) ⟨by simp,by simp,by simp,by intro j _ h;simp at h,by simp,by simp⟩ (.of_keep [0,3,4,5] (by exact rfl)) ?_
 rintro⟨i,f,out⟩ ⟨h1,h2,h3,h4,h5,h6⟩
 simp only at h1 h2 h3 h4 h5 h6 ⊢
 refine aC fun K hK=>?_
 by_cases hlt:i≤s.length
 ·have d:decide ((i:Int)≤(s.length:Int))=true:=decide_eq_true (by omega)
  refine aC fun K hK=>aA [] ?_
  simp only[seval,kZs,ne_eq,bI,bV,eN,Tryz.underlying9,dJ,aL,aI,aP,bH,d]
  and_intros<;>try first|exact⟨⟩|omega
  refine hK _ ?_
  clear hK K
  refine bG rfl (bC ?_)
  simp only[aI]
  refine hK _ ?_
  clear hK K
  refine aE [0,3,4,5] ?_
  simp only[seval,kZq]
  refine aC fun K hK=>bK ?_
  refine aC fun K2 hK2=>?_
  have h5':=h5 hlt
  have w3:IntKind.i64.wrap ((i+1:Nat):Int)=((i+1:Nat):Int):=fD (by omega)
  have last:∀ st f' out',(f'≤i+1∧out'.length≤f'∧(∀ j,f'≤j→j<i+1→s.getD j 0≠47)∧(i+1≤s.length→out'++dM 47 (s.drop f')=dM 47 s)∧(s.length<i+1→out'=dM 47 s))→
    gE GP st ⟨33,[(0,.val (.string ⟨s.toArray⟩)),(3,aFg 0 out'),(4,.val (.int .i64 ((f':Nat):Int))),(5,.val (.int .i64 (i:Int)))],aFf out'⟩→K st:=by
   intro st f' out' hf hw
   refine hK st (eX hw ?_)
   clear hw hK2 K2 hK K
   refine aA [] ?_
   simp only[seval,kZs,ne_eq,cav,aL,aP,bH,gO,w3,aI]
   exact⟨(i+1,f',out'),⟨by simp only;omega,hf⟩,by simp only;omega,.of_keep [0,3,4,5] rfl⟩
  have push:∀ st,(i<s.length→s.getD i 0=47)→lk st.slots 22=.val (.bool true)→aAD [0,3,4,5] st.slots=[(0,.val (.string ⟨s.toArray⟩)),(3,aFg 0 out),(4,.val (.int .i64 (f:Int))),(5,.val (.int .i64 (i:Int)))]→st.nt=33→st.objs=aFf out→K2 st:=by
   rintro⟨nt,sl,os⟩ hc h22 hkp hnt hos
   simp only at h22 hnt hos hkp
   subst hnt hos
   refine hK2 _ ?_
   refine bG h22 ?_
   refine aE [0,3,4,5] ?_
   rw[hkp]
   clear hkp h22 hK2 K2
   have hsp:dM 47 (s.drop f)=(s.drop f).take (i - f)::(if i<s.length then dM 47 (s.drop (i+1)) else []):=by
    by_cases hil:i<s.length
    ·rw[if_pos hil,xU (n:=i - f) (by simp;omega),List.drop_drop]
     ·rw[show f+(i - f+1)=i+1 by omega]
     ·intro j hj
      have:=h4 (f+j) (by omega) (by omega)
      rwa [List.getD_eq_getElem?_getD,List.getElem?_drop,← List.getD_eq_getElem?_getD]
     ·rw[List.getD_eq_getElem?_getD,List.getElem?_drop,← List.getD_eq_getElem?_getD,show f+(i - f)=i by omega]
      exact hc hil
    ·rw[if_neg hil,tV,List.take_of_length_le (by simp;omega)]
     intro j hj
     have:=h4 (f+j) (by omega) (by simp at hj;omega)
     rwa [List.getD_eq_getElem?_getD,List.getElem?_drop,← List.getD_eq_getElem?_getD]
   obtain⟨pc,hpc⟩:∃ pc,(s.drop f).take (i - f)=pc:=⟨_,rfl⟩
   rw[hpc] at hsp
   have fin:∀ st,gE GP st ⟨33,[(0,.val (.string ⟨s.toArray⟩)),(3,.sl (out.length+1) (dU out++[str pc]) (.tok 0)),(4,.val (.int .i64 ((i+1:Nat):Int))),(5,.val (.int .i64 (i:Int)))],[.tok 1 (out.length+1)]⟩→K st:=by
    intro st hw
    refine last st (i+1) (out++[pc]) ⟨Nat.le_refl _,by simp;omega,fun j hj hj2=>by omega,fun hl=>?_,fun hl=>?_⟩ ?_
    ·rw[← h5',hsp,if_pos (by omega)];simp
    ·rw[← h5',hsp,if_neg (by omega)]
    ·have e1:aFg 0 (out++[pc])=.sl (out.length+1) (dU out++[str pc]) (.tok 0):=by
      unfold aFg;rw[if_neg (by simp)];simp[dU]
     have e2:aFf (out++[pc])=[.tok 1 (out.length+1)]:=by unfold aFf;rw[if_neg (by simp)];simp
     rw[e1,e2]
     exact hw
   have hz:List.drop 1 (kZ [Value.string ⟨#[]⟩] 1)=[]:=rfl
   by_cases h0:out=[]
   ·have e1:aFg 0 out=.sl 0 [] .full:=if_pos h0
    have e2:aFf out=[]:=if_pos h0
    rw[e1,e2]
    refine aC fun K2 hK2=>aA [] ?_
    simp only[seval,kZs,ne_eq,eY,iR,Option.map_some,Option.map_none,Tryz.underlying9,eJ,dH,dJ,Int.toNat_natCast,jQ,hpc,dV,Tryz.underlying43,bD,bS,Nat.mul_one,dO,eM,spl,bB,dL,bI,fP,lX,gC,eQ,aI,List.all_cons,dC,Value.oneCell',List.all_nil,hz]
    refine⟨⟨by omega,by omega,by omega⟩,Nat.le_refl _,hK2 _ ?_⟩
    clear hK2 K2
    subst h0
    refine aE [0,3,5] ?_
    simp only[seval,kZq]
    refine aA [] ?_
    simp only[seval,kZs,ne_eq,cav,aL,aP,bH,gO,w3]
    refine fin _ ?_
    exact .of_keep [0,3,4,5] rfl
   have e1:aFg 0 out=.sl out.length (dU out) (.tok 0):=if_neg h0
   have e2:aFf out=[.tok 1 out.length]:=if_neg h0
   have hsl:=dY out
   rw[e1,e2]
   refine aC fun K2 hK2=>aA [] ?_
   simp only[seval,kZs,ne_eq,eY,iR,Option.map_some,Option.map_none,Tryz.underlying9,eJ,dH,dJ,Int.toNat_natCast,jQ,hpc,dV,Tryz.underlying43,bD,bS,Nat.mul_one,dO,eM,spl,bB,dL,bI,fP,lX,gC,eQ,hsl,aI,List.all_cons,dC,Value.oneCell',List.all_nil,hz]
   refine⟨⟨by omega,by omega,by omega⟩,Nat.le_refl _,⟨by omega,by omega⟩,hK2 _ ?_⟩
   clear hK2 K2
   refine aE [0,3,5] ?_
   simp only[seval,kZq]
   refine aA [] ?_
   simp only[seval,kZs,ne_eq,cav,aL,aP,bH,gO,w3]
   refine fin _ ?_
   exact .of_keep [0,3,4,5] rfl
  by_cases c1:i=s.length
  ·have d1:((i:Int) == (s.length:Int))=true:=by rw[c1];simp
   refine aA [] ?_
   simp only[seval,kZs,ne_eq,bI,bV,eN,Tryz.underlying9,dJ,aL,aP,bH,d1,dD,bT,Option.bind_some,aW,eW,gok,bU,cav,aI]
   exact push _ (fun h=>by omega) rfl rfl rfl rfl
  have d1:((i:Int) == (s.length:Int))=false:=by rw[beq_eq_false_iff_ne];omega
  have hil:i<s.length:=by omega
  by_cases c2:s.getD i 0=47
  ·refine aA [] ?_
   simp only[seval,kZs,ne_eq,bI,bV,eN,Tryz.underlying9,dJ,aL,aP,bH,d1,dD,bT,Option.bind_some,aW,Bool.not_false,dQ,gok,uU,B,Int.toNat_natCast,c2,Int.cast_ofNat_Int,cav,bU,aI,beq_self_eq_true]
   refine⟨⟨by omega,by omega⟩,?_⟩
   exact push _ (fun _=>c2) rfl rfl rfl rfl
  have c3:((s.getD i 0).toNat == 47)=false:=by
   rw[beq_eq_false_iff_ne]
   intro h
   apply c2
   exact UInt8.toNat_inj.1 h
  refine aA [] ?_
  simp only[seval,kZs,ne_eq,bI,bV,eN,Tryz.underlying9,dJ,aL,aP,bH,d1,dD,bT,Option.bind_some,aW,Bool.not_false,dQ,gok,uU,B,Int.toNat_natCast,cav,bU,aI,wY,c3]
  refine⟨⟨by omega,by omega⟩,hK2 _ ?_⟩
  clear push hK2 K2
  refine aR rfl (bC ?_)
  simp only[bL,aI]
  refine last _ f out ⟨by omega,h3,fun j hj hj2=>?_,fun _=>h5',fun h=>by omega⟩ ?_
  ·by_cases hji:j=i
   ·rw[hji];exact c2
   ·exact h4 j hj (by omega)
  ·exact .of_keep [0,3,4,5] rfl
 have d:decide ((i:Int)≤(s.length:Int))=false:=decide_eq_false (by omega)
 have ho:=h6 (by omega)
 subst ho
 refine aC fun K hK=>aA [] ?_
 simp only[seval,kZs,ne_eq,bI,bV,eN,Tryz.underlying9,dJ,aL,aI,aP,bH,d]
 and_intros<;>try first|exact⟨⟩|omega
 refine hK _ ?_
 clear hK K
 refine aR rfl ?_
 refine dR ?_
 simp only[bL,aI,if_true]
 refine hK1 _ ?_
 clear hK K hK1 K1
 have e1:aFg 0 (dM 47 s)=.sl (dM 47 s).length (dU (dM 47 s)) (.tok 0):=if_neg (uQ 47 s)
 have e2:aFf (dM 47 s)=[.tok 1 (dM 47 s).length]:=if_neg (uQ 47 s)
 rw[e1,e2]
 refine aE [3] ?_
 simp only[seval,kZq]
 refine aC fun K hK=>aA [] ?_
 simp only[seval,kZs,aI]
 and_intros<;>try first|exact⟨⟩|omega
 refine hK _ ?_
 clear hK K
 refine aE [2] ?_
 simp only[seval,kZq]
 refine aS ?_
 simp only[qq,bR,cQ,bN,bO,dA,aB,dP,bW]
def lC (s:List UInt8):Bool:=(s == [47]) || (decide (s≠[]∧s.length≤256∧s.getD 0 0=47)&&(dM 47 (s.drop 1)).all mP)
theorem yX [Gv] {s:List UInt8} (h0:s≠[47]) (h:s=[]∨256<s.length∨s.getD 0 0≠47):lC s=false:=by
 unfold lC
 rw[beq_eq_false_iff_ne.2 h0,decide_eq_false ?_,Bool.false_and,Bool.or_false]
 rintro⟨a,b,c⟩
 rcases h with h|h|h
 ·exact a h
 ·omega
 ·exact h c
theorem aHk [Gv] (s:List UInt8):(dM 47 s).length≤s.length+1:=by
 rw[kB]
 have:=List.count_le_length (a:=(47:UInt8)) (l:=s)
 omega
theorem pS [Gv] (c:UInt8):∀ (s x:List UInt8),x∈dM c s→x.length≤s.length
 | [],x,h=>by simp[dM] at h;subst h;simp
 | y::ys,x,h=>by
  unfold dM at h
  split at h
  ·simp only[List.mem_cons] at h
   rcases h with rfl|h
   ·simp
   ·have:=pS c ys x h;simp;omega
  ·simp only[List.mem_cons] at h
   have hne:=uQ c ys
   cases hs:dM c ys with
   | nil=>exact absurd hs hne
   | cons z zs=>
    rw[hs] at h
    simp only[List.headD_cons,List.tail_cons] at h
    rcases h with rfl|h
    ·have:=pS c ys z (by rw[hs];simp);simp;omega
    ·have:=pS c ys x (by rw[hs];simp[h]);simp;omega
theorem aDE [Gv] (s:List UInt8) (hs:s.length≤200000):ACalls Tryz.prog GP 78 [str s] [] (fun r os=>os=[]∧r=.val (.bool (lC s))):=by
 have hsz:((⟨s.toArray⟩:ByteArray).size:Int)=(s.length:Int):=by simp[ByteArray.size]
 unfold str
 refine aQ Tryz.func78 rfl rfl Tryz.ntmps78 (rts:=#[4]) rfl Tryz.results78 (by simp) ?_
 simp only[seval,aZ]
 refine aC fun K hK=>aA [] ?_
 simp only[seval,kZs,cav,aI]
 and_intros<;>try first|exact⟨⟩|omega
 refine hK _ ?_
 clear hK K
 refine aE [0] ?_
 simp only[seval,kZq]
 refine aC fun K1 hK1=>?_
 by_cases c0:s=[47]
 ·have e0:(s == [47])=true:=beq_iff_eq.2 c0
  have hr:lC s=true:=by unfold lC;rw[e0,Bool.true_or]
  refine aC fun K hK=>aA [] ?_
  simp only[seval,kZs,cav,aL,aP,gL,ByteArray.toList_mk,e0,aI]
  and_intros<;>try first|exact⟨⟩|omega
  refine hK _ ?_
  clear hK K
  refine bG rfl ?_
  refine aC fun K hK=>aA [] ?_
  simp only[seval,kZs,cav,aI]
  and_intros<;>try first|exact⟨⟩|omega
  refine hK _ ?_
  clear hK K
  refine aE [2] ?_
  simp only[seval,kZq]
  refine aS ?_
  simp only[aI]
  simp only[qq,bR,cQ,bN,bO,dA,aB,aH]
  rw[hr]
 have e0:(s == [47])=false:=beq_eq_false_iff_ne.2 c0
 refine aC fun K hK=>aA [] ?_
 simp only[seval,kZs,cav,aL,aP,gL,ByteArray.toList_mk,e0,aI]
 and_intros<;>try first|exact⟨⟩|omega
 refine hK _ ?_
 clear hK K
 refine aR rfl (bC ?_)
 simp only[aI]
 refine hK1 _ ?_
 clear hK1 K1
 refine aE [0] ?_
 simp only[seval,kZq]
 refine aC fun K1 hK1=>?_
 refine aC fun K hK=>?_
 have nope:∀ st,lC s=false→lk st.slots 19=.val (.bool true)→st.nt=32→st.objs=[]→K st:=by
  rintro⟨nt,sl,os⟩ hw h19 hnt hos
  simp only at h19 hnt hos
  subst hnt hos
  refine hK _ ?_
  refine bG h19 ?_
  refine aE [] ?_
  simp only[aD]
  refine aC fun K hK=>aA [] ?_
  simp only[seval,kZs,cav,aI]
  and_intros<;>try first|exact⟨⟩|omega
  refine hK _ ?_
  clear hK K
  refine aE [2] ?_
  simp only[seval,kZq]
  refine aS ?_
  simp only[aI,bL]
  simp only[qq,bR,cQ,bN,bO,dA,aB,aH]
  rw[hw]
 by_cases c1:256<s.length
 ·have d1:decide ((s.length:Int) > 256)=true:=decide_eq_true (by omega)
  refine aA [] ?_
  simp only[seval,kZs,bI,bV,eN,Tryz.underlying9,dJ,cav,aL,aP,bH,d1,dD,bT,Option.bind_some,aW,eW,gok,bU,aI]
  exact nope _ (yX c0 (.inr (.inl c1))) rfl rfl rfl
 have d1:decide ((s.length:Int) > 256)=false:=decide_eq_false (by omega)
 by_cases c2:s=[]
 ·have hl0:s.length=0:=by rw[c2];rfl
  have d2:((s.length:Int) == 0)=true:=by rw[hl0];rfl
  refine aA [] ?_
  simp only[seval,kZs,bI,bV,eN,Tryz.underlying9,dJ,cav,aL,aP,bH,d1,dD,bT,Option.bind_some,aW,Bool.not_false,dQ,gok,bU,d2,eW,aI]
  exact nope _ (yX c0 (.inl c2)) rfl rfl rfl
 have hpos:0<s.length:=List.length_pos_iff.2 c2
 have d2:((s.length:Int) == 0)=false:=by rw[beq_eq_false_iff_ne];omega
 by_cases c3:s.getD 0 0=47
 ·have d3:((s.getD 0 0).toNat != 47)=false:=by rw[c3];rfl
  refine aA [] ?_
  simp only[seval,kZs,bI,bV,eN,Tryz.underlying9,dJ,cav,aL,aP,bH,d1,dD,bT,Option.bind_some,aW,Bool.not_false,dQ,gok,bU,d2,uU,Int.le_refl,B,Int.toNat_zero,aI,aLR,d3]
  refine⟨?_,hK _ ?_⟩
  ·omega
  clear nope hK K
  refine aR rfl (bC (hK1 _ ?_))
  clear hK1 K1
  have hr:lC s=(dM 47 (s.drop 1)).all mP:=by
   unfold lC
   rw[e0,Bool.false_or,decide_eq_true ⟨c2,by omega,c3⟩,Bool.true_and]
  rw[hr]
  clear hr
  have cP:=aJv (s.drop 1) (by simp;omega)
  have hl1:=aHk (s.drop 1)
  have hl2:(s.drop 1).length=s.length - 1:=by simp
  have hlx:=fun x=>pS 47 (s.drop 1) x
  have htk:(s.drop 1).take (s.length - 1)=s.drop 1:=List.take_of_length_le (by omega)
  simp only[str] at cP
  generalize dM 47 (s.drop 1)=l at *
  have hsl:=dY l
  refine aE [0] ?_
  simp only[seval,kZq]
  refine aC fun K1 hK1=>?_
  refine aC fun K hK=>aA [] ?_
  simp only[seval,kZs,eY,iR,Option.map_some,cav,Option.map_none,Tryz.underlying9,eJ,dH,dJ,Int.le_refl,Int.toNat_natCast,jQ,htk,aU,bF,aT,bA,bW,List.headD_cons,aH]
  refine⟨by omega,?_⟩
  refine aV (by simp) cP (by simp[aH,dP]) ?_
  simp only[seval,kZs,aK,bI,bV,eN,Tryz.underlying43,cav,aI]
  refine hK _ ?_
  clear hK K
  refine aE [22,23,24] ?_
  simp only[seval,kZq]
  refine bK ?_
  refine bZ (fun i:Nat=>⟨32,[(22,.sl l.length (dU l) .no),(23,.val (.int .i64 (l.length:Int))),(24,.val (.int .i64 (i:Int)))],[]⟩) (fun i=>i≤l.length∧∀ j,j<i→mP (l.getD j [])=true) (fun i=>l.length - i) 0 (by simp) (.of_keep [22,23,24] rfl) ?_
  rintro i ⟨hi,hgood⟩
  by_cases hlt:i<l.length
  ·have d:decide (i<l.length)=true:=decide_eq_true hlt
   have hgd:=mR hlt
   have hmem:l.getD i []∈l:=by
    rw[List.getD_eq_getElem?_getD,List.getElem?_eq_getElem hlt]
    exact List.getElem_mem hlt
   have cN:=aMe (l.getD i []) (by have:=hlx _ hmem;omega)
   simp only[str] at cN hgd
   refine aC fun K hK=>aA [] ?_
   simp only[seval,kZs,aL,aP,bH,jM,d,aI]
   and_intros<;>try first|exact⟨⟩|omega
   refine hK _ ?_
   clear hK K
   refine bJ ?_
   refine bG rfl (bC ?_)
   simp only[aI]
   refine aC fun K hK=>bK ?_
   refine aC fun K hK=>aA [] ?_
   simp only[seval,kZs,dN,Tryz.underlying43,bD,hsl,Nat.mul_one,Int.toNat_natCast,aY,apart,aO,Tryz.underlying9,aI,List.length_drop,fL,hgd]
   and_intros<;>try first|exact⟨⟩|omega
   refine hK _ ?_
   clear hK K
   refine aE [4,22,23,24] ?_
   simp only[seval,kZq]
   refine aC fun K2 hK2=>aA [] ?_
   simp only[seval,kZs,aU,bF,aT,bA,aH]
   refine aV (by simp[aJ,aM,aH]) (cN) (by simp[aH,aM,aJ,flat]) ?_
   simp only[seval,kZs,aK,aun,aI]
   refine hK2 _ ?_
   clear hK2 K2
   by_cases hs:mP (l.getD i [])=true
   ·rw[hs]
    refine aR rfl (bC ?_)
    simp only[bL,aI]
    refine hK _ ?_
    clear hK K
    refine aE [22,23,24] ?_
    simp only[seval,kZq]
    have w3:IntKind.i64.wrap ((i+1:Nat):Int)=((i+1:Nat):Int):=fD (by omega)
    refine aA [] ?_
    simp only[seval,kZs,cav,aL,aP,bH,gO,w3,aI]
    refine⟨i+1,⟨by omega,fun j hj=>?_⟩,by omega,.of_keep [22,23,24] rfl⟩
    by_cases hji:j=i
    ·rw[hji];exact hs
    ·exact hgood j (by omega)
   ·have hs':mP (l.getD i [])=false:=by simpa using hs
    rw[hs']
    refine bG rfl ?_
    refine aE [] ?_
    simp only[aD]
    refine aC fun K hK=>aA [] ?_
    simp only[seval,kZs,cav,aI]
    and_intros<;>try first|exact⟨⟩|omega
    refine hK _ ?_
    clear hK K
    refine aS ?_
    simp only[bL,aI]
    simp only[qq,bR,cQ,bN,bO,dA,aB,aH]
    have:l.all mP=false:=by
     rw[List.all_eq_false]
     exact⟨_,hmem,by simpa using hs'⟩
    rw[this]
  have he:i=l.length:=by omega
  subst he
  have d:decide (l.length<l.length)=false:=decide_eq_false (by omega)
  refine aC fun K hK=>aA [] ?_
  simp only[seval,kZs,aL,aP,bH,jM,d,aI]
  and_intros<;>try first|exact⟨⟩|omega
  refine hK _ ?_
  clear hK K
  refine bJ ?_
  refine aR rfl ?_
  refine dR ?_
  simp only[bL,aI,if_true]
  refine hK1 _ ?_
  clear hK1 K1
  refine aE [] ?_
  simp only[aD]
  refine aC fun K hK=>aA [] ?_
  simp only[seval,kZs,cav,aI]
  and_intros<;>try first|exact⟨⟩|omega
  refine hK _ ?_
  clear hK K
  refine aE [2] ?_
  simp only[seval,kZq]
  refine aS ?_
  simp only[qq,bR,cQ,bN,bO,dA,aB,aH]
  have:l.all mP=true:=by
   rw[List.all_eq_true]
   intro x hx
   obtain⟨j,hj,rfl⟩:=List.mem_iff_getElem.1 hx
   have:=hgood j hj
   rwa [List.getD_eq_getElem?_getD,List.getElem?_eq_getElem hj] at this
  rw[this]
 have d3:((s.getD 0 0).toNat != 47)=true:=by
  rw[bne_iff_ne]
  intro h
  exact c3 (UInt8.toNat_inj.1 h)
 refine aA [] ?_
 simp only[seval,kZs,bI,bV,eN,Tryz.underlying9,dJ,cav,aL,aP,bH,d1,dD,bT,Option.bind_some,aW,Bool.not_false,dQ,gok,bU,d2,uU,Int.le_refl,B,Int.toNat_zero,aI,aLR,d3]
 refine⟨?_,nope _ (yX c0 (.inr (.inr c3))) rfl rfl rfl⟩
 omega
def pQ (top p:List UInt8):Bool:=lC top&&lC p&&(top == [47] || (p == top || (decide (top.length<p.length)&&(p.take top.length == top&&(p.getD top.length 0).toNat == 47))))
theorem aJz [Gv] (top p:List UInt8) (h1:top.length≤200000) (h2:p.length≤200000):ACalls Tryz.prog GP 32 [str top,str p] [] (fun r os=>os=[]∧r=.val (.bool (pQ top p))):=by
 have c1:=aDE top h1
 have c2:=aDE p h2
 have hz1:((⟨top.toArray⟩:ByteArray).size:Int)=(top.length:Int):=by simp[ByteArray.size]
 have hz2:((⟨p.toArray⟩:ByteArray).size:Int)=(p.length:Int):=by simp[ByteArray.size]
 obtain⟨R,hR⟩:∃ R,pQ top p=R:=⟨_,rfl⟩
 rw[hR]
 unfold pQ at hR
 unfold str at *
 refine aQ Tryz.func32 rfl rfl Tryz.ntmps32 (rts:=#[4]) rfl Tryz.results32 (by simp) ?_
 simp only[seval,aZ]
 refine aC fun K hK=>aA [] ?_
 simp only[seval,kZs,cav,aI]
 and_intros<;>try first|exact⟨⟩|omega
 refine hK _ ?_
 clear hK K
 refine aE [0,1] ?_
 simp only[seval,kZq]
 refine aC fun K1 hK1=>?_
 refine aC fun K hK=>?_
 cases r1:lC top with
 | false=>
  rw[r1] at c1
  refine aA [] ?_
  simp only[seval,kZs,aU,bF,aT,bA,aH]
  refine aV (by simp[aJ,aM,aH]) (c1) (by simp[aH,aM,aJ,flat]) ?_
  simp only[seval,kZs,aK,aun,Bool.not_false,dD,bT,Option.bind_some,aW,eW,gok,bU,cav,aI]
  refine hK _ ?_
  clear hK K
  refine bG rfl ?_
  refine aE [] ?_
  simp only[aD]
  refine aC fun K hK=>aA [] ?_
  simp only[seval,kZs,cav,aI]
  and_intros<;>try first|exact⟨⟩|omega
  refine hK _ ?_
  clear hK K
  refine aE [4] ?_
  simp only[seval,kZq]
  refine aS ?_
  simp only[aI]
  simp only[qq,bR,cQ,bN,bO,dA,aB,aH]
  rw[← hR,r1];rfl
 | true=>
 rw[r1] at c1 hR
 cases r2:lC p with
 | false=>
  rw[r2] at c2
  refine aA [] ?_
  simp only[seval,kZs,aU,bF,aT,bA,aH]
  refine aV (by simp[aJ,aM,aH]) (c1) (by simp[aH,aM,aJ,flat]) ?_
  simp only[seval,kZs,aK,aun,Bool.not_true,dD,bT,Option.bind_some,aW,Bool.not_false,dQ,gok,aU,bF,aT,bA,aH]
  refine aV (by simp[aJ,aM,aH]) (c2) (by simp[aH,aM,aJ,flat]) ?_
  simp only[seval,kZs,aK,dD,bT,Option.bind_some,aW,Bool.not_false,dQ,gok,aun,bU,cav,aI]
  refine hK _ ?_
  clear hK K
  refine bG rfl ?_
  refine aE [] ?_
  simp only[aD]
  refine aC fun K hK=>aA [] ?_
  simp only[seval,kZs,cav,aI]
  and_intros<;>try first|exact⟨⟩|omega
  refine hK _ ?_
  clear hK K
  refine aE [4] ?_
  simp only[seval,kZq]
  refine aS ?_
  simp only[aI]
  simp only[qq,bR,cQ,bN,bO,dA,aB,aH]
  rw[← hR,r2,Bool.and_false];rfl
 | true=>
 rw[r2] at c2 hR
 refine aA [] ?_
 simp only[seval,kZs,aU,bF,aT,bA,aH]
 refine aV (by simp[aJ,aM,aH]) (c1) (by simp[aH,aM,aJ,flat]) ?_
 simp only[seval,kZs,aK,aun,Bool.not_true,dD,bT,Option.bind_some,aW,Bool.not_false,dQ,gok,aU,bF,aT,bA,aH]
 refine aV (by simp[aJ,aM,aH]) (c2) (by simp[aH,aM,aJ,flat]) ?_
 simp only[seval,kZs,aK,dD,bT,Option.bind_some,aW,Bool.not_false,dQ,gok,aun,Bool.not_true,bU,cav,aI]
 refine hK _ ?_
 clear hK K
 refine aR rfl (bC (hK1 _ ?_))
 clear hK1 K1
 refine aE [0,1] ?_
 simp only[seval,kZq]
 simp only[Bool.true_and] at hR
 by_cases e1:top=[47]
 ·have d1:(top == [47])=true:=beq_iff_eq.2 e1
  rw[d1,Bool.true_or] at hR
  refine aC fun K hK=>aA [] ?_
  simp only[seval,kZs,cav,aL,aP,gL,ByteArray.toList_mk,d1,dD,bT,Option.bind_some,aW,eW,gok,bU,aI]
  refine hK _ ?_
  clear hK K
  refine aE [4] ?_
  simp only[seval,kZq]
  refine aS ?_
  simp only[qq,bR,cQ,bN,bO,dA,aB,aH]
  rw[← hR]
 have d1:(top == [47])=false:=beq_eq_false_iff_ne.2 e1
 by_cases e2:p=top
 ·have d2:(p == top)=true:=beq_iff_eq.2 e2
  rw[d1,d2,Bool.false_or,Bool.true_or] at hR
  refine aC fun K hK=>aA [] ?_
  simp only[seval,kZs,cav,aL,aP,gL,ByteArray.toList_mk,d1,dD,bT,Option.bind_some,aW,Bool.not_false,dQ,gok,d2,bU,eW,aI]
  refine hK _ ?_
  clear hK K
  refine aE [4] ?_
  simp only[seval,kZq]
  refine aS ?_
  simp only[qq,bR,cQ,bN,bO,dA,aB,aH]
  rw[← hR]
 have d2:(p == top)=false:=beq_eq_false_iff_ne.2 e2
 rw[d1,d2,Bool.false_or,Bool.false_or] at hR
 by_cases e3:top.length<p.length
 ·have d3:decide ((p.length:Int) > (top.length:Int))=true:=decide_eq_true (by omega)
  rw[decide_eq_true e3,Bool.true_and] at hR
  by_cases e4:p.take top.length=top
  ·have d4:(p.take top.length == top)=true:=beq_iff_eq.2 e4
   rw[d4,Bool.true_and] at hR
   have d4':(p.take (top.length - 0) == top)=true:=d4
   refine aC fun K hK=>aA [] ?_
   simp only[seval,kZs,cav,aL,aP,gL,ByteArray.toList_mk,d1,dD,bT,Option.bind_some,aW,Bool.not_false,dQ,gok,d2,bU,bI,bV,eN,Tryz.underlying9,dJ,bH,d3,eY,iR,Option.map_none,Option.map_some,eJ,dH,jQ,Int.le_refl,Int.toNat_natCast,Int.toNat_zero,d4',uU,B,aI,wY]
   refine⟨⟨by omega,by omega⟩,⟨by omega,by omega⟩,hK _ ?_⟩
   clear hK K
   refine aE [4] ?_
   simp only[seval,kZq]
   refine aS ?_
   simp only[qq,bR,cQ,bN,bO,dA,aB,aH]
   rw[← hR]
  have d4:(p.take top.length == top)=false:=beq_eq_false_iff_ne.2 e4
  rw[d4,Bool.false_and] at hR
  have d4':(p.take (top.length - 0) == top)=false:=d4
  refine aC fun K hK=>aA [] ?_
  simp only[seval,kZs,cav,aL,aP,gL,ByteArray.toList_mk,d1,dD,bT,Option.bind_some,aW,Bool.not_false,dQ,gok,d2,bU,bI,bV,eN,Tryz.underlying9,dJ,bH,d3,eY,iR,Option.map_none,Option.map_some,eJ,dH,jQ,Int.le_refl,Int.toNat_natCast,Int.toNat_zero,d4',Bool.not_true,eW,aI]
  refine⟨⟨by omega,by omega⟩,hK _ ?_⟩
  clear hK K
  refine aE [4] ?_
  simp only[seval,kZq]
  refine aS ?_
  simp only[qq,bR,cQ,bN,bO,dA,aB,aH]
  rw[← hR]
 have d3:decide ((p.length:Int) > (top.length:Int))=false:=decide_eq_false (by omega)
 rw[decide_eq_false e3,Bool.false_and] at hR
 refine aC fun K hK=>aA [] ?_
 simp only[seval,kZs,cav,aL,aP,gL,ByteArray.toList_mk,d1,dD,bT,Option.bind_some,aW,Bool.not_false,dQ,gok,d2,bU,bI,bV,eN,Tryz.underlying9,dJ,bH,d3,Bool.not_true,eW,aI]
 refine hK _ ?_
 clear hK K
 refine aE [4] ?_
 simp only[seval,kZq]
 refine aS ?_
 simp only[qq,bR,cQ,bN,bO,dA,aB,aH]
 rw[← hR]
def kC (b:List UInt8) (i:Nat):Nat:=(b.getD (i/8) 0).toNat/2^(7 - i%8)%2
def pO (v6:Bool):Nat:=if v6 then 128 else 32
theorem aFm [Gv] (v6:Bool) (b:List UInt8) (hb:b.length=16):ACalls Tryz.prog GP 80 [.agg (AD v6 b)] [] (fun r os=>os=[]∧r=.val (.int .i64 ((pO v6:Nat):Int))):=by
 unfold AD
 have hlen:(Bs b).length=16:=by rw[aX];exact hb
 refine aQ Tryz.func80 rfl rfl Tryz.ntmps80 (rts:=#[3]) rfl Tryz.results80 (by simp) ?_
 simp only[seval,aZ]
 refine aC fun K hK=>aA [] ?_
 simp only[seval,kZs,eF,bB,List.all_cons,dC,Value.oneCell',eR,fN,cav,aI]
 and_intros<;>try first|exact⟨⟩|omega
 refine hK _ ?_
 clear hK K
 refine aE [1] ?_
 simp only[seval,kZq]
 refine aC fun K hK=>?_
 refine aC fun K hK=>aA [] ?_
 simp only[seval,kZs,aN,Tryz.underlying26,bD,ne_eq,aY,apart,aO,Tryz.underlying4,aI,aX]
 and_intros<;>try first|exact⟨⟩|omega
 refine hK _ ?_
 clear hK K
 cases v6 with
 | true=>
  refine bG rfl ?_
  refine aC fun K hK=>aA [] ?_
  simp only[seval,kZs,cav,aI]
  and_intros<;>try first|exact⟨⟩|omega
  refine hK _ ?_
  clear hK K
  refine aE [2] ?_
  simp only[seval,kZq]
  refine aS ?_
  simp only[aI]
  simp only[qq,bR,cQ,bN,bO,dA,aB,aH]
  rfl
 | false=>
  refine aR rfl ?_
  refine bC ?_
  simp only[aI]
  refine hK _ ?_
  clear hK K
  refine aC fun K hK=>aA [] ?_
  simp only[seval,kZs,cav,aI]
  and_intros<;>try first|exact⟨⟩|omega
  refine hK _ ?_
  clear hK K
  refine aE [2] ?_
  simp only[seval,kZq]
  refine aS ?_
  simp only[qq,bR,cQ,bN,bO,dA,aB,aH]
  rfl
theorem aEQ [Gv] (v6:Bool) (b:List UInt8) (hb:b.length=16) (i:Nat) (hi:i<128):ACalls Tryz.prog GP 153 [.agg (AD v6 b),.val (.int .i64 (i:Int))] [] (fun r os=>os=[]∧r=.val (.int .i64 ((kC b i:Nat):Int))):=by
 unfold AD
 have hlen:(Bs b).length=16:=by rw[aX];exact hb
 have q1:(i:Int).tdiv 8=((i/8:Nat):Int):=by rw[Int.tdiv_eq_ediv_of_nonneg (by omega)];omega
 have q2:(i:Int).tmod 8=((i%8:Nat):Int):=by rw[Int.tmod_eq_emod_of_nonneg (by omega)];omega
 have hgd:(AV.val (.bool v6)::Bs b).getD (1+i/8) .top=.val (.int .u8 ((b.getD (i/8) 0).toNat:Int)):=by
  rw[Nat.add_comm,List.getD_cons_succ,kP (by omega)];rfl
 have hlt:=(b.getD (i/8) 0).toNat_lt
 have w1:IntKind.i64.wrap ((i/8:Nat):Int)=((i/8:Nat):Int):=fD (by omega)
 have w2:IntKind.i64.wrap (7 - ((i%8:Nat):Int))=((7 - i%8:Nat):Int):=by rw[lY (by omega) (by omega)];omega
 have w3:IntKind.u64.wrap ((7 - i%8:Nat):Int)=((7 - i%8:Nat):Int):=uV _ (by rw[show IntKind.u64.bits=64 from rfl,nH];omega)
 have w4:IntKind.i64.wrap ((b.getD (i/8) 0).toNat:Int)=((b.getD (i/8) 0).toNat:Int):=fD (by omega)
 unfold kC
 generalize (b.getD (i/8) 0).toNat=x at *
 refine aQ Tryz.func153 rfl rfl Tryz.ntmps153 (rts:=#[3]) rfl Tryz.results153 (by simp) ?_
 simp only[seval,aZ]
 refine aC fun K hK=>aA [] ?_
 simp only[seval,kZs,eF,bB,List.all_cons,dC,Value.oneCell',eR,fN,cav,aI]
 and_intros<;>try first|exact⟨⟩|omega
 refine hK _ ?_
 clear hK K
 refine aE [1,2] ?_
 simp only[seval,kZq]
 refine aC fun K hK=>aA [] ?_
 simp only[seval,kZs,cav,aL,aP,bH,ne_eq,q1,w1,aN,Tryz.underlying26,bD,dN,Tryz.underlying24,Int.toNat_natCast,aY,apart,aO,Tryz.underlying5,eL,Tryz.underlying3,eG,bA,bW,fF,Option.isSome_some,q2,w2,Tryz.underlying160,aH,w3,aI,Int.cast_ofNat_Int,Nat.mul_one,hlen,hgd,w4,IntKind.bits,Nat.min_def,rV,aHJ]
 rw[if_pos (by omega:7 - i%8≤64)]
 refine⟨⟨by omega,by omega⟩,by omega,by omega,hK _ ?_⟩
 clear hK K
 refine aE [4] ?_
 simp only[seval,kZq]
 refine aS ?_
 simp only[qq,bR,cQ,bN,bO,dA,aB,aH]
theorem aCL [Gv] {b:List UInt8} (hb:b.length=16):lP false b=true↔∀ j,4≤j→j<16→b.getD j 0=0:=by
 unfold lP
 rw[Bool.false_or,decide_eq_true_iff]
 constructor
 ·intro h j h1 h2
  have:=congrArg (fun l=>l.getD (j - 4) 0) h
  simp only[List.getD_eq_getElem?_getD,List.getElem?_drop,Z,List.getElem?_replicate] at this
  rw[show 4+(j - 4)=j by omega,if_pos (by omega)] at this
  rw[List.getD_eq_getElem?_getD,this];rfl
 ·intro h
  apply List.ext_getElem
  ·simp[hb,Z]
  ·intro j h1 h2
   simp at h1
   have:=h (4+j) (by omega) (by omega)
   rw[List.getD_eq_getElem?_getD,List.getElem?_eq_getElem (by omega)] at this
   simp only[List.getElem_drop,Z,List.getElem_replicate]
   exact this
theorem aFk [Gv] (v6:Bool) (b:List UInt8) (hb:b.length=16):ACalls Tryz.prog GP 152 [.agg (AD v6 b)] [] (fun r os=>os=[]∧r=.val (.bool (lP v6 b))):=by
 unfold AD
 have hlen:(Bs b).length=16:=by rw[aX];exact hb
 cases v6 with
 | true=>
  refine aQ Tryz.func152 rfl rfl Tryz.ntmps152 (rts:=#[4]) rfl Tryz.results152 (by simp) ?_
  simp only[seval,aZ]
  refine aC fun K hK=>aA [] ?_
  simp only[seval,kZs,eF,bB,List.all_cons,dC,Value.oneCell',eR,fN,cav,aI]
  and_intros<;>try first|exact⟨⟩|omega
  refine hK _ ?_
  clear hK K
  refine aE [1] ?_
  simp only[seval,kZq]
  refine aC fun K hK=>?_
  refine aC fun K hK=>aA [] ?_
  simp only[seval,kZs,aN,Tryz.underlying26,bD,ne_eq,aY,apart,aO,Tryz.underlying4,aI,aX]
  and_intros<;>try first|exact⟨⟩|omega
  refine hK _ ?_
  clear hK K
  refine bG rfl ?_
  refine aE [] ?_
  simp only[aD]
  refine aC fun K hK=>aA [] ?_
  simp only[seval,kZs,cav,aI]
  and_intros<;>try first|exact⟨⟩|omega
  refine hK _ ?_
  clear hK K
  refine aE [2] ?_
  simp only[seval,kZq]
  refine aS ?_
  simp only[aI]
  simp only[qq,bR,cQ,bN,bO,dA,aB,aH]
  rfl
 | false=>
  refine aQ Tryz.func152 rfl rfl Tryz.ntmps152 (rts:=#[4]) rfl Tryz.results152 (by simp) ?_
  simp only[seval,aZ]
  refine aC fun K hK=>aA [] ?_
  simp only[seval,kZs,eF,bB,List.all_cons,dC,Value.oneCell',eR,fN,cav,aI]
  and_intros<;>try first|exact⟨⟩|omega
  refine hK _ ?_
  clear hK K
  refine aE [1] ?_
  simp only[seval,kZq]
  refine aC fun K hK=>?_
  refine aC fun K hK=>aA [] ?_
  simp only[seval,kZs,aN,Tryz.underlying26,bD,ne_eq,aY,apart,aO,Tryz.underlying4,aI,aX]
  and_intros<;>try first|exact⟨⟩|omega
  refine hK _ ?_
  clear hK K
  refine aR rfl (bC ?_)
  simp only[aI]
  refine hK _ ?_
  clear hK K
  refine aE [1] ?_
  simp only[seval,kZq]
  refine aC fun K1 hK1=>?_
  refine aC fun K hK=>aA [] ?_
  simp only[seval,kZs,cav,aI]
  and_intros<;>try first|exact⟨⟩|omega
  refine hK _ ?_
  clear hK K
  refine aE [1,3] ?_
  simp only[seval,kZq]
  refine bK ?_
  refine bZ (fun i:Nat=>⟨15,[(1,.ptr 0 0),(3,.val (.int .i64 (i:Int)))],[.cells (.val (.bool false)::Bs b)]⟩) (fun i=>4≤i∧i≤16∧∀ j,4≤j→j<i→b.getD j 0=0) (fun i=>16 - i) 4 ⟨by decide,by decide,fun j h1 h2=>by omega⟩ (.of_keep [1,3] (by exact rfl)) ?_
  rintro i ⟨h4,hi,hgood⟩
  refine aC fun K hK=>?_
  by_cases hlt:i<16
  ·have d:decide (i<16)=true:=decide_eq_true hlt
   have hgd:(AV.val (.bool false)::Bs b).getD (1+i) .top=.val (.int .u8 ((b.getD i 0).toNat:Int)):=by
    rw[Nat.add_comm,List.getD_cons_succ,kP (by omega)];rfl
   refine aC fun K hK=>aA [] ?_
   simp only[seval,kZs,cav,aL,aP,bH,aCB,d,aI]
   and_intros<;>try first|exact⟨⟩|omega
   refine hK _ ?_
   clear hK K
   refine bG rfl (bC ?_)
   simp only[aI]
   refine hK _ ?_
   clear hK K
   refine aE [1,3] ?_
   simp only[seval,kZq]
   refine aC fun K hK=>bK ?_
   by_cases hz:b.getD i 0=0
   ·have d3:((b.getD i 0).toNat != 0)=false:=by rw[hz];rfl
    refine aC fun K2 hK2=>aA [] ?_
    simp only[seval,kZs,aN,Tryz.underlying26,bD,ne_eq,dN,Tryz.underlying24,Int.toNat_natCast,aY,apart,aO,Tryz.underlying5,cav,aL,aI,Int.cast_ofNat_Int,Nat.mul_one,hlen,hgd,aP,bH,aLR,d3]
    refine⟨⟨by omega,by omega⟩,by omega,hK2 _ ?_⟩
    clear hK2 K2
    refine aR rfl (bC ?_)
    simp only[bL,aI]
    refine hK _ ?_
    clear hK K
    refine aE [1,3] ?_
    simp only[seval,kZq]
    have w3:IntKind.i64.wrap ((i+1:Nat):Int)=((i+1:Nat):Int):=fD (by omega)
    refine aA [] ?_
    simp only[seval,kZs,cav,aL,aP,bH,gO,w3,aI]
    refine⟨i+1,⟨by omega,by omega,fun j hj hj2=>?_⟩,by omega,.of_keep [1,3] rfl⟩
    by_cases hji:j=i
    ·rw[hji];exact hz
    ·exact hgood j hj (by omega)
   have d3:((b.getD i 0).toNat != 0)=true:=by
    rw[bne_iff_ne]
    intro h
    exact hz (UInt8.toNat_inj.1 h)
   refine aC fun K2 hK2=>aA [] ?_
   simp only[seval,kZs,aN,Tryz.underlying26,bD,ne_eq,dN,Tryz.underlying24,Int.toNat_natCast,aY,apart,aO,Tryz.underlying5,cav,aL,aI,Int.cast_ofNat_Int,Nat.mul_one,hlen,hgd,aP,bH,aLR,d3]
   refine⟨⟨by omega,by omega⟩,by omega,hK2 _ ?_⟩
   clear hK2 K2
   refine bG rfl ?_
   refine aE [] ?_
   simp only[aD]
   refine aC fun K hK=>aA [] ?_
   simp only[seval,kZs,cav,aI]
   and_intros<;>try first|exact⟨⟩|omega
   refine hK _ ?_
   clear hK K
   refine aS ?_
   simp only[bL,aI]
   simp only[qq,bR,cQ,bN,bO,dA,aB,aH]
   have hf:lP false b=false:=by
    cases h:lP false b with
    | false=>rfl
    | true=>exact absurd ((aCL hb).1 h i h4 hlt) hz
   rw[hf]
  have d:decide (i<16)=false:=decide_eq_false hlt
  have he:i=16:=by omega
  subst he
  refine aC fun K hK=>aA [] ?_
  simp only[seval,kZs,Int.cast_ofNat_Int,cav,aL,aP,bH,aI]
  and_intros<;>try first|exact⟨⟩|omega
  refine hK _ ?_
  clear hK K
  refine aR rfl ?_
  refine dR ?_
  simp only[bL,aI,if_true]
  refine hK1 _ ?_
  clear hK K hK1 K1
  refine aE [] ?_
  simp only[aD]
  refine aC fun K hK=>aA [] ?_
  simp only[seval,kZs,cav,aI]
  and_intros<;>try first|exact⟨⟩|omega
  refine hK _ ?_
  clear hK K
  refine aE [2] ?_
  simp only[seval,kZq]
  refine aS ?_
  simp only[qq,bR,cQ,bN,bO,dA,aB,aH]
  rw[(aCL hb).2 hgood]
def aBT (v6:Bool) (b:List UInt8) (bits:Int):Bool:=lP v6 b&&(decide (0≤bits∧bits≤(pO v6:Nat))&&(List.range (pO v6)).all fun i=>decide ((i:Int)<bits) || !(kC b i == 1))
theorem aBc [Gv] (v6:Bool) (b:List UInt8) (bits:Int) (hb:b.length=16):ACalls Tryz.prog GP 79 [.agg (NT v6 b bits)] [] (fun r os=>os=[]∧r=.val (.bool (aBT v6 b bits))):=by
 have hNl:=fZ v6 b bits hb
 have hNo:=jO v6 b bits
 have hN0:(NT v6 b bits).take 17=AD v6 b:=by
  have:(Bs b).length=16:=by rw[aX];exact hb
  simp[NT,AD,List.take_append,this]
 have hN17:(NT v6 b bits).getD 17 .top=.val (.int .i64 bits):=by
  have:(Bs b).length=16:=by rw[aX];exact hb
  simp[NT,List.getD_eq_getElem?_getD,List.getElem?_append_right,this]
 have hAn:aM (AD v6 b)=true:=by simp[AD,aM,aH,Go.V.aJ]
 have cA:=aFk v6 b hb
 have cM:=aFm v6 b hb
 have cB:=fun i (h:i<128)=>aEQ v6 b hb i h
 have hm:pO v6≤128:=by unfold pO;split<;>decide
 obtain⟨R,hR⟩:∃ R,aBT v6 b bits=R:=⟨_,rfl⟩
 rw[hR]
 unfold aBT at hR
 generalize pO v6=m at *
 generalize lP v6 b=af at *
 generalize AD v6 b=A0 at *
 generalize NT v6 b bits=N0 at *
 refine aQ Tryz.func79 rfl rfl Tryz.ntmps79 (rts:=#[4]) rfl Tryz.results79 (by simp) ?_
 simp only[seval,aZ]
 refine aC fun K hK=>aA [] ?_
 simp only[seval,kZs,eF,bB,hNo,fN,cav,aI]
 and_intros<;>try first|exact⟨⟩|omega
 refine hK _ ?_
 clear hK K
 refine aE [1] ?_
 simp only[seval,kZq]
 refine aC fun K1 hK1=>?_
 refine aC fun K hK=>?_
 have nope:∀ st,R=false→lk st.slots 20=.val (.bool true)→st.nt=35→st.objs=[.cells N0]→K st:=by
  rintro⟨nt,sl,os⟩ hw h20 hnt hos
  simp only at h20 hnt hos
  subst hnt hos
  refine hK _ ?_
  refine bG h20 ?_
  refine aE [] ?_
  simp only[aD]
  refine aC fun K hK=>aA [] ?_
  simp only[seval,kZs,cav,aI]
  and_intros<;>try first|exact⟨⟩|omega
  refine hK _ ?_
  clear hK K
  refine aE [2] ?_
  simp only[seval,kZq]
  refine aS ?_
  simp only[aI,bL]
  simp only[qq,bR,cQ,bN,bO,dA,aB,aH]
  rw[hw]
 cases af with
 | false=>
  refine dW [6,18] (by kernel_rfl) (by kernel_rfl) ?_
  simp only[seval,kZs,aN,Tryz.underlying79,bD,ne_eq,aY,List.contains_cons,apart,aO,Tryz.underlying26,aU,bF,beq_self_eq_true,aT,bA,bW,List.headD_cons,hNl,hN0,aH]
  refine aV hAn cA rfl ?_
  simp only[seval,kZs,aK,aun,Bool.not_false,dD,bT,Option.bind_some,aW,eW,gok,bU,cav,aI]
  exact nope _ (by rw[← hR];rfl) rfl rfl rfl
 | true=>
 rw[Bool.true_and] at hR
 by_cases c1:bits<0
 ·have d1:decide (bits<0)=true:=decide_eq_true c1
  refine dW [6,18] (by kernel_rfl) (by kernel_rfl) ?_
  simp only[seval,kZs,aN,Tryz.underlying79,bD,ne_eq,aY,List.contains_cons,apart,aO,Tryz.underlying26,aU,bF,beq_self_eq_true,aT,bA,bW,List.headD_cons,hNl,hN0,aH]
  refine aV hAn cA rfl ?_
  simp only[seval,kZs,aK,aun,Bool.not_true,dD,bT,Option.bind_some,aW,Bool.not_false,dQ,gok,aN,Tryz.underlying79,bD,ne_eq,aY,List.contains_cons,apart,aO,Tryz.underlying3,cav,aL,bU,hNl,hN17,aP,bH,d1,eW,aI]
  exact nope _ (by rw[← hR,decide_eq_false (by omega)];rfl) rfl rfl rfl
 have d1:decide (bits<0)=false:=decide_eq_false c1
 by_cases c2:(m:Int)<bits
 ·have d2:decide (bits > (m:Int))=true:=decide_eq_true c2
  refine dW [6,18] (by kernel_rfl) (by kernel_rfl) ?_
  simp only[seval,kZs,aN,Tryz.underlying79,bD,ne_eq,aY,List.contains_cons,apart,aO,Tryz.underlying26,aU,bF,beq_self_eq_true,aT,bA,bW,List.headD_cons,hNl,hN0,aH]
  refine aV hAn cA rfl ?_
  simp only[seval,kZs,aK,aun,Bool.not_true,dD,bT,Option.bind_some,aW,Bool.not_false,dQ,gok,aN,Tryz.underlying79,bD,ne_eq,aY,List.contains_cons,apart,aO,Tryz.underlying3,cav,aL,bU,hNl,hN17,aP,bH,d1,Tryz.underlying26,aU,bF,beq_self_eq_true,Bool.false_or,aT,bA,bW,List.headD_cons,hN0,aH]
  refine aV hAn cM rfl ?_
  simp only[seval,kZs,aK,dD,bT,Option.bind_some,aW,Bool.not_false,dQ,gok,aL,aP,bH,d2,bU,cav,aI]
  exact nope _ (by rw[← hR,decide_eq_false (by omega)];rfl) rfl rfl rfl
 have d2:decide (bits > (m:Int))=false:=decide_eq_false c2
 refine dW [6,18] (by kernel_rfl) (by kernel_rfl) ?_
 simp only[seval,kZs,aN,Tryz.underlying79,bD,ne_eq,aY,List.contains_cons,apart,aO,Tryz.underlying26,aU,bF,beq_self_eq_true,aT,bA,bW,List.headD_cons,hNl,hN0,aH]
 refine aV hAn cA rfl ?_
 simp only[seval,kZs,aK,aun,Bool.not_true,dD,bT,Option.bind_some,aW,Bool.not_false,dQ,gok,aN,Tryz.underlying79,bD,ne_eq,aY,List.contains_cons,apart,aO,Tryz.underlying3,cav,aL,bU,hNl,hN17,aP,bH,d1,Tryz.underlying26,aU,bF,beq_self_eq_true,Bool.false_or,aT,bA,bW,List.headD_cons,hN0,aH]
 refine aV hAn cM rfl ?_
 simp only[seval,kZs,aK,dD,bT,Option.bind_some,aW,Bool.not_false,dQ,gok,aL,aP,bH,d2,bU,cav,aI]
 refine hK _ ?_
 clear nope hK K
 refine aR rfl (bC (hK1 _ ?_))
 clear hK1 K1
 rw[decide_eq_true ⟨by omega,by omega⟩,Bool.true_and] at hR
 obtain⟨n,rfl⟩:∃ n:Nat,bits=n:=⟨bits.toNat,by omega⟩
 refine aE [1] ?_
 simp only[seval,kZq]
 refine aC fun K1 hK1=>?_
 refine aC fun K hK=>aA [] ?_
 simp only[seval,kZs,aN,Tryz.underlying79,bD,ne_eq,aY,apart,aO,Tryz.underlying3,aI,hNl,hN17]
 and_intros<;>try first|exact⟨⟩|omega
 refine hK _ ?_
 clear hK K
 refine aE [1,3] ?_
 simp only[seval,kZq]
 refine bK ?_
 refine bZ (fun i:Nat=>⟨35,[(1,.ptr 0 0),(3,.val (.int .i64 (i:Int)))],[.cells N0]⟩) (fun i=>n≤i∧i≤m∧∀ j,n≤j→j<i→kC b j≠1) (fun i=>m - i) n ⟨Nat.le_refl _,by omega,fun j h1 h2=>by omega⟩ (.of_keep [1,3] (by exact rfl)) ?_
 rintro i ⟨h4,hi,hgood⟩
 refine aC fun K hK=>?_
 by_cases hlt:i<m
 ·have d:decide ((i:Int)<(m:Int))=true:=decide_eq_true (by omega)
  have cb:=cB i (by omega)
  refine aC fun K2 hK2=>aA [] ?_
  simp only[seval,kZs,ne_eq,aN,Tryz.underlying79,bD,aY,apart,aO,Tryz.underlying26,aU,bF,aT,bA,bW,List.headD_cons,hNl,hN0,aH]
  refine aV hAn cM rfl ?_
  simp only[seval,kZs,aK,aL,aP,bH,d,aI]
  refine hK2 _ ?_
  clear hK2 K2
  refine bG rfl (bC ?_)
  simp only[aI]
  refine hK _ ?_
  clear hK K
  refine aE [1,3] ?_
  simp only[seval,kZq]
  refine aC fun K hK=>bK ?_
  by_cases hz:kC b i=1
  ·have d3:(((kC b i:Nat):Int) == 1)=true:=by rw[hz];rfl
   refine aC fun K2 hK2=>aA [] ?_
   simp only[seval,kZs,ne_eq,aN,Tryz.underlying79,bD,aY,apart,aO,Tryz.underlying26,aU,bF,aT,bA,bW,List.headD_cons,aH,hNl,hN0]
   refine aV (by simp[hAn,aM,aH]) cb rfl ?_
   simp only[seval,kZs,aK,cav,aL,aP,bH,d3,aI]
   refine hK2 _ ?_
   clear hK2 K2
   refine bG rfl ?_
   refine aE [] ?_
   simp only[aD]
   refine aC fun K hK=>aA [] ?_
   simp only[seval,kZs,ne_eq,cav,aI]
   and_intros<;>try first|exact⟨⟩|omega
   refine hK _ ?_
   clear hK K
   refine aS ?_
   simp only[bL,aI]
   simp only[qq,bR,cQ,bN,bO,dA,aB,aH]
   have hf:R=false:=by
    rw[← hR,List.all_eq_false]
    refine⟨i,List.mem_range.2 hlt,?_⟩
    rw[decide_eq_false (by omega),hz]
    decide
   rw[hf]
  have d3:(((kC b i:Nat):Int) == 1)=false:=by rw[beq_eq_false_iff_ne];omega
  refine aC fun K2 hK2=>aA [] ?_
  simp only[seval,kZs,ne_eq,aN,Tryz.underlying79,bD,aY,apart,aO,Tryz.underlying26,aU,bF,aT,bA,bW,List.headD_cons,aH,hNl,hN0]
  refine aV (by simp[hAn,aM,aH]) cb rfl ?_
  simp only[seval,kZs,aK,cav,aL,aP,bH,d3,aI]
  refine hK2 _ ?_
  clear hK2 K2
  refine aR rfl (bC ?_)
  simp only[bL,aI]
  refine hK _ ?_
  clear hK K
  refine aE [1,3] ?_
  simp only[seval,kZq]
  have w3:IntKind.i64.wrap ((i+1:Nat):Int)=((i+1:Nat):Int):=fD (by omega)
  refine aA [] ?_
  simp only[seval,kZs,ne_eq,cav,aL,aP,bH,gO,w3,aI]
  refine⟨i+1,⟨by omega,by omega,fun j hj hj2=>?_⟩,by omega,.of_keep [1,3] rfl⟩
  by_cases hji:j=i
  ·rw[hji];exact hz
  ·exact hgood j hj (by omega)
 have d:decide ((i:Int)<(m:Int))=false:=decide_eq_false (by omega)
 have he:i=m:=by omega
 subst he
 refine aC fun K2 hK2=>aA [] ?_
 simp only[seval,kZs,ne_eq,aN,Tryz.underlying79,bD,aY,apart,aO,Tryz.underlying26,aU,bF,aT,bA,bW,List.headD_cons,hNl,hN0,aH]
 refine aV hAn cM rfl ?_
 simp only[seval,kZs,aK,aL,aP,bH,d,aI]
 refine hK2 _ ?_
 clear hK2 K2
 refine aR rfl ?_
 refine dR ?_
 simp only[bL,aI,if_true]
 refine hK1 _ ?_
 clear hK K hK1 K1
 refine aE [] ?_
 simp only[aD]
 refine aC fun K hK=>aA [] ?_
 simp only[seval,kZs,cav,aI]
 and_intros<;>try first|exact⟨⟩|omega
 refine hK _ ?_
 clear hK K
 refine aE [2] ?_
 simp only[seval,kZq]
 refine aS ?_
 simp only[qq,bR,cQ,bN,bO,dA,aB,aH]
 have hf:R=true:=by
  rw[← hR,List.all_eq_true]
  intro j hj
  have hj:=List.mem_range.1 hj
  by_cases hjn:j<n
  ·rw[decide_eq_true (by omega),Bool.true_or]
  ·rw[beq_eq_false_iff_ne.2 (hgood j (by omega) hj),Bool.not_false,Bool.or_true]
 rw[hf]
def aHD (v6:Bool) (b:List UInt8) (bits:Int) (w6:Bool) (a:List UInt8):Bool:=aBT v6 b bits&&(lP w6 a&&(w6 == v6&&(List.range bits.toNat).all fun i=>kC a i == kC b i))
theorem uK [Gv] {v6:Bool} {b:List UInt8} {bits:Int} (h:aBT v6 b bits=true):0≤bits∧bits≤(pO v6:Nat):=by
 unfold aBT at h
 simp only[Bool.and_eq_true,decide_eq_true_iff] at h
 exact h.2.1
theorem aBP [Gv] (v6:Bool):pO v6≤128:=by unfold pO;split<;>decide
theorem aOQ [Gv] (v6:Bool) (b:List UInt8) (bits:Int) (hb:b.length=16) (w6:Bool) (a:List UInt8) (ha:a.length=16):ACalls Tryz.prog GP 81 [.agg (NT v6 b bits),.agg (AD w6 a)] [] (fun r os=>os=[]∧r=.val (.bool (aHD v6 b bits w6 a))):=by
 have hNl:=fZ v6 b bits hb
 have hNo:=jO v6 b bits
 have hNn:=iZ v6 b bits
 have hNt:(NT v6 b bits).take 18=NT v6 b bits:=List.take_of_length_le (by omega)
 have hN0:(NT v6 b bits).take 17=AD v6 b:=by
  have:(Bs b).length=16:=by rw[aX];exact hb
  simp[NT,AD,List.take_append,this]
 have hN17:(NT v6 b bits).getD 17 .top=.val (.int .i64 bits):=by
  have:(Bs b).length=16:=by rw[aX];exact hb
  simp[NT,List.getD_eq_getElem?_getD,List.getElem?_append_right,this]
 have hN1:(NT v6 b bits).getD 0 .top=.val (.bool v6):=rfl
 have hA1:(AD w6 a).getD 0 .top=.val (.bool w6):=rfl
 have hAl:(AD w6 a).length=17:=by simp[AD,aX,ha]
 have hAo:(AD w6 a).all dC=true:=by simp[AD,eR,dC,Value.oneCell']
 have hAt:(AD w6 a).take 17=AD w6 a:=List.take_of_length_le (by omega)
 have hAn:aM (AD w6 a)=true:=by simp[AD,aM,aH,Go.V.aJ]
 have hBn:aM (AD v6 b)=true:=by simp[AD,aM,aH,Go.V.aJ]
 have cC:=aBc v6 b bits hb
 have cA:=aFk w6 a ha
 have cB:=fun i (h:i<128)=>aEQ v6 b hb i h
 have cD:=fun i (h:i<128)=>aEQ w6 a ha i h
 have hbits:=uK (v6:=v6) (b:=b) (bits:=bits)
 have hm:=aBP v6
 obtain⟨R,hR⟩:∃ R,aHD v6 b bits w6 a=R:=⟨_,rfl⟩
 rw[hR]
 unfold aHD at hR
 generalize aBT v6 b bits=nf at *
 generalize lP w6 a=af at *
 generalize AD v6 b=B0 at *
 generalize AD w6 a=A0 at *
 generalize NT v6 b bits=N0 at *
 refine aQ Tryz.func81 rfl rfl Tryz.ntmps81 (rts:=#[4]) rfl Tryz.results81 (by simp) ?_
 simp only[seval,aZ]
 refine aC fun K hK=>aA [] ?_
 simp only[seval,kZs,eF,bB,hNo,fN,hAo,cav,aI]
 and_intros<;>try first|exact⟨⟩|omega
 refine hK _ ?_
 clear hK K
 refine aE [2,3] ?_
 simp only[seval,kZq]
 refine aC fun K1 hK1=>?_
 refine aC fun K hK=>?_
 have nope:∀ st,R=false→lk st.slots 21=.val (.bool true)→st.nt=36→st.objs=[.cells N0,.cells A0]→K st:=by
  rintro⟨nt,sl,os⟩ hw h20 hnt hos
  simp only at h20 hnt hos
  subst hnt hos
  refine hK _ ?_
  refine bG h20 ?_
  refine aE [] ?_
  simp only[aD]
  refine aC fun K hK=>aA [] ?_
  simp only[seval,kZs,cav,aI]
  and_intros<;>try first|exact⟨⟩|omega
  refine hK _ ?_
  clear hK K
  refine aE [4] ?_
  simp only[seval,kZq]
  refine aS ?_
  simp only[aI,bL]
  simp only[qq,bR,cQ,bN,bO,dA,aB,aH]
  rw[hw]
 refine aA [] ?_
 simp only[seval,kZs,aY,apart,aO,Tryz.underlying79,bD,hNl,hNt,aU,bF,aT,bA,bW,List.headD_cons,aH]
 refine aV hNn cC rfl ?_
 cases nf with
 | false=>
  simp only[seval,kZs,aK,aun,Bool.not_false,dD,bT,Option.bind_some,aW,eW,gok,bU,cav,aI]
  exact nope _ (by rw[← hR];rfl) rfl rfl rfl
 | true=>
 rw[Bool.true_and] at hR
 simp only[seval,kZs,aK,aun,Bool.not_true,dD,bT,Option.bind_some,aW,Bool.not_false,dQ,gok,aY,apart,aO,Tryz.underlying26,bD,hAl,hAt,aU,bF,aT,bA,bW,List.headD_cons,aH]
 refine aV hAn cA rfl ?_
 cases af with
 | false=>
  simp only[seval,kZs,aK,dD,bT,Option.bind_some,aW,Bool.not_false,dQ,gok,aun,bU,cav,eW,aI]
  exact nope _ (by rw[← hR];rfl) rfl rfl rfl
 | true=>
 rw[Bool.true_and] at hR
 by_cases hv:w6=v6
 ·have d:(w6 != v6)=false:=by rw[hv];simp
  have d2:(w6 == v6)=true:=by rw[hv];simp
  rw[d2,Bool.true_and] at hR
  simp only[seval,kZs,aK,dD,bT,Option.bind_some,aW,Bool.not_false,dQ,gok,aun,Bool.not_true,bU,cav,aN,Tryz.underlying26,bD,ne_eq,aY,apart,aO,Tryz.underlying4,Tryz.underlying79,aL,aI,hNl,hN1,hAl,hA1,aP,aAc,d2]
  refine hK _ ?_
  clear nope hK K
  refine aR rfl (bC (hK1 _ ?_))
  clear hK1 K1
  obtain⟨b0,b1⟩:=hbits rfl
  obtain⟨n,rfl⟩:∃ n:Nat,bits=n:=⟨bits.toNat,by omega⟩
  have hn:n≤128:=by omega
  rw[Int.toNat_natCast] at hR
  refine aE [2,3] ?_
  simp only[seval,kZq]
  refine aC fun K1 hK1=>?_
  refine aC fun K hK=>aA [] ?_
  simp only[seval,kZs,cav,aI]
  and_intros<;>try first|exact⟨⟩|omega
  refine hK _ ?_
  clear hK K
  refine aE [2,3,5] ?_
  simp only[seval,kZq]
  refine bK ?_
  refine bZ (fun i:Nat=>⟨36,[(2,.ptr 0 0),(3,.ptr 1 0),(5,.val (.int .i64 (i:Int)))],[.cells N0,.cells A0]⟩) (fun i=>i≤n∧∀ j,j<i→kC a j=kC b j) (fun i=>n - i) 0 ⟨by omega,fun j h1=>by omega⟩ (.of_keep [2,3,5] (by exact rfl)) ?_
  rintro i ⟨hi,hgood⟩
  refine aC fun K hK=>?_
  by_cases hlt:i<n
  ·have d:decide (i<n)=true:=decide_eq_true hlt
   refine aC fun K hK=>aA [] ?_
   simp only[seval,kZs,aN,Tryz.underlying79,bD,ne_eq,aY,apart,aO,Tryz.underlying3,aL,aI,hNl,hN17,aP,bH,jM,d]
   and_intros<;>try first|exact⟨⟩|omega
   refine hK _ ?_
   clear hK K
   refine bG rfl (bC ?_)
   simp only[aI]
   refine hK _ ?_
   clear hK K
   have cb:=cB i (by omega)
   have ca:=cD i (by omega)
   refine aE [2,3,5] ?_
   simp only[seval,kZq]
   refine aC fun K hK=>bK ?_
   refine aC fun K2 hK2=>?_
   refine dW [30,34] (by kernel_rfl) (by kernel_rfl) ?_
   simp only[seval,kZs,aY,List.contains_cons,apart,aO,Tryz.underlying26,bD,hAl,hAt,aU,bF,beq_self_eq_true,aT,bA,bW,List.headD_cons,aH]
   refine aV (by simp[hAn,aM,aH]) ca rfl ?_
   simp only[seval,kZs,aK,aN,Tryz.underlying79,bD,ne_eq,aY,List.contains_cons,apart,aO,Tryz.underlying26,aU,bF,beq_self_eq_true,Bool.false_or,aT,bA,bW,List.headD_cons,aH,hNl,hN0]
   refine aV (by simp[hBn,aM,aH]) cb rfl ?_
   simp only[seval,kZs,aK,aL,aP,bH,aLS,aI]
   refine hK2 _ ?_
   clear hK2 K2
   by_cases hz:kC a i=kC b i
   ·have d3:((kC a i) != (kC b i))=false:=by rw[hz];simp
    rw[d3]
    refine aR rfl (bC ?_)
    simp only[bL,aI]
    refine hK _ ?_
    clear hK K
    refine aE [2,3,5] ?_
    simp only[seval,kZq]
    have w3:IntKind.i64.wrap ((i+1:Nat):Int)=((i+1:Nat):Int):=fD (by omega)
    refine aA [] ?_
    simp only[seval,kZs,cav,aL,aP,bH,gO,w3,aI]
    refine⟨i+1,⟨by omega,fun j hj=>?_⟩,by omega,.of_keep [2,3,5] rfl⟩
    by_cases hji:j=i
    ·rw[hji];exact hz
    ·exact hgood j (by omega)
   have d3:((kC a i) != (kC b i))=true:=bne_iff_ne.2 hz
   rw[d3]
   refine bG rfl ?_
   refine aE [] ?_
   simp only[aD]
   refine aC fun K hK=>aA [] ?_
   simp only[seval,kZs,cav,aI]
   and_intros<;>try first|exact⟨⟩|omega
   refine hK _ ?_
   clear hK K
   refine aS ?_
   simp only[bL,aI]
   simp only[qq,bR,cQ,bN,bO,dA,aB,aH]
   have hf:R=false:=by
    rw[← hR,List.all_eq_false]
    exact⟨i,List.mem_range.2 hlt,by simpa using hz⟩
   rw[hf]
  have d:decide (i<n)=false:=decide_eq_false hlt
  have he:i=n:=by omega
  subst he
  refine aC fun K hK=>aA [] ?_
  simp only[seval,kZs,aN,Tryz.underlying79,bD,ne_eq,aY,apart,aO,Tryz.underlying3,aL,aI,hNl,hN17,aP,bH,jM,d]
  and_intros<;>try first|exact⟨⟩|omega
  refine hK _ ?_
  clear hK K
  refine aR rfl ?_
  refine dR ?_
  simp only[bL,aI,if_true]
  refine hK1 _ ?_
  clear hK K hK1 K1
  refine aE [] ?_
  simp only[aD]
  refine aC fun K hK=>aA [] ?_
  simp only[seval,kZs,cav,aI]
  and_intros<;>try first|exact⟨⟩|omega
  refine hK _ ?_
  clear hK K
  refine aE [4] ?_
  simp only[seval,kZq]
  refine aS ?_
  simp only[qq,bR,cQ,bN,bO,dA,aB,aH]
  have hf:R=true:=by
   rw[← hR,List.all_eq_true]
   intro j hj
   rw[hgood j (List.mem_range.1 hj)]
   simp
  rw[hf]
 have d:(w6 != v6)=true:=bne_iff_ne.2 hv
 have d2:(w6 == v6)=false:=beq_eq_false_iff_ne.2 hv
 rw[d2,Bool.false_and] at hR
 simp only[seval,kZs,aK,dD,bT,Option.bind_some,aW,Bool.not_false,dQ,gok,aun,Bool.not_true,bU,cav,aN,Tryz.underlying26,bD,ne_eq,aY,apart,aO,Tryz.underlying4,Tryz.underlying79,aL,aI,hNl,hN1,hAl,hA1,aP,aAc,d2]
 exact nope _ hR.symm rfl rfl rfl
def aKA (b:List UInt8) (i:Nat):List UInt8:=b.set (i/8) (UInt8.ofNat ((b.getD (i/8) 0).toNat+2^(7 - i%8)))
def nP (b:List UInt8) (n:Nat):Nat→List UInt8
 | 0=>b
 | j+1=>aKA (nP b n j) (n+j)
theorem rO [Gv] (b:List UInt8) (n:Nat):∀ j,(nP b n j).length=b.length
 | 0=>rfl
 | j+1=>by rw[nP,aKA,List.length_set,rO b n j]
def sJ (v6:Bool) (b:List UInt8) (bits:Int) (w6:Bool) (c:List UInt8) (cits:Int):Bool:=
 aBT v6 b bits&&(aHD w6 c cits v6 b&&aHD w6 c cits v6 (nP b bits.toNat (pO v6 - bits.toNat)))
theorem aKK [Gv] (v6:Bool) (b:List UInt8) (bits:Int) (hb:b.length=16) (w6:Bool) (c:List UInt8) (cits:Int) (hc:c.length=16) :
  ACalls Tryz.prog GP 33 [.agg (NT v6 b bits),.agg (NT w6 c cits)] [] (fun r os=>os=[]∧r=.val (.bool (sJ v6 b bits w6 c cits))):=by
 have hNl:=fZ v6 b bits hb
 have hNo:=jO v6 b bits
 have hNn:=iZ v6 b bits
 have hNt:(NT v6 b bits).take 18=NT v6 b bits:=List.take_of_length_le (by omega)
 have hCl:=fZ w6 c cits hc
 have hCo:=jO w6 c cits
 have hCn:=iZ w6 c cits
 have hCt:(NT w6 c cits).take 18=NT w6 c cits:=List.take_of_length_le (by omega)
 have hN0:(NT v6 b bits).take 17=AD v6 b:=by
  have:(Bs b).length=16:=by rw[aX];exact hb
  simp[NT,AD,List.take_append,this]
 have hN17:(NT v6 b bits).getD 17 .top=.val (.int .i64 bits):=by
  have:(Bs b).length=16:=by rw[aX];exact hb
  simp[NT,List.getD_eq_getElem?_getD,List.getElem?_append_right,this]
 have hAl:∀ L:List UInt8,L.length=16→(AD v6 L).length=17:=fun L h=>by simp[AD,aX,h]
 have hAo:∀ L,(AD v6 L).all dC=true:=fun L=>by simp[AD,eR,dC,Value.oneCell']
 have hAn:∀ L,aM (AD v6 L)=true:=fun L=>by simp[AD,aM,aH,Go.V.aJ]
 have hAt:∀ L:List UInt8,L.length=16→(AD v6 L).take 17=AD v6 L:=fun L h=>List.take_of_length_le (by have:=hAl L h;omega)
 have cC:=aBc v6 b bits hb
 have cM:=aFm v6 b hb
 have cH:=fun (a:List UInt8) (h:a.length=16)=>aOQ w6 c cits hc v6 a h
 have hbits:=uK (v6:=v6) (b:=b) (bits:=bits)
 have hm:=aBP v6
 obtain⟨R,hR⟩:∃ R,sJ v6 b bits w6 c cits=R:=⟨_,rfl⟩
 rw[hR]
 unfold sJ at hR
 generalize aBT v6 b bits=nf at *
 generalize pO v6=m at *
 generalize NT v6 b bits=N0 at *
 generalize NT w6 c cits=C0 at *
 have hab:=hAl b hb
 have hat:=hAt b hb
 have hao:=hAo b
 refine aQ Tryz.func33 rfl rfl Tryz.ntmps33 (rts:=#[4]) rfl Tryz.results33 (by simp) ?_
 simp only[seval,aZ]
 refine aC fun K hK=>aA [] ?_
 simp only[seval,kZs,eF,bB,hNo,fN,hCo,cav,aI]
 and_intros<;>try first|exact⟨⟩|omega
 refine hK _ ?_
 clear hK K
 refine aE [2,3] ?_
 simp only[seval,kZq]
 refine aC fun K1 hK1=>?_
 refine aC fun K2 hK2=>aA [] ?_
 simp only[seval,kZs,aY,apart,aO,Tryz.underlying79,bD,hNl,hNt,aU,bF,aT,bA,bW,List.headD_cons,aH]
 refine aV hNn cC rfl ?_
 simp only[seval,kZs,aK,aun,aI]
 refine hK2 _ ?_
 clear hK2 K2
 cases nf with
 | false=>
  refine bG rfl ?_
  refine aE [] ?_
  simp only[aD]
  refine aC fun K hK=>aA [] ?_
  simp only[seval,kZs,cav,aI]
  and_intros<;>try first|exact⟨⟩|omega
  refine hK _ ?_
  clear hK K
  refine aE [4] ?_
  simp only[seval,kZq]
  refine aS ?_
  simp only[aI]
  simp only[qq,bR,cQ,bN,bO,dA,aB,aH]
  rw[← hR]
  rfl
 | true=>
 rw[Bool.true_and] at hR
 refine aR rfl (bC ?_)
 simp only[aI]
 refine hK1 _ ?_
 clear hK1 K1
 obtain⟨b0,b1⟩:=hbits rfl
 obtain⟨n,rfl⟩:∃ n:Nat,bits=n:=⟨bits.toNat,by omega⟩
 rw[Int.toNat_natCast] at hR
 refine aE [2,3] ?_
 simp only[seval,kZq]
 refine aC fun K hK=>aA [] ?_
 simp only[seval,kZs,aN,Tryz.underlying79,bD,ne_eq,aY,apart,aO,Tryz.underlying26,dF,bS,cav,bQ,bX,bB,spl,aI,hNl,hN0,hao,hab,List.drop_nil]
 and_intros<;>try first|exact⟨⟩|omega
 refine hK _ ?_
 clear hK K
 refine aE [2,3,5] ?_
 simp only[seval,kZq]
 refine aC fun K1 hK1=>?_
 refine aC fun K hK=>aA [] ?_
 simp only[seval,kZs,aN,Tryz.underlying79,bD,ne_eq,aY,apart,aO,Tryz.underlying3,aI,hNl,hN17]
 and_intros<;>try first|exact⟨⟩|omega
 refine hK _ ?_
 clear hK K
 refine aE [2,3,5,6] ?_
 simp only[seval,kZq]
 refine bK ?_
 refine bZ (fun j:Nat=>⟨43,[(2,.ptr 0 0),(3,.ptr 1 0),(5,.ptr 2 0),(6,.val (.int .i64 ((n+j:Nat):Int)))],[.cells N0,.cells C0,.cells (AD v6 (nP b n j))]⟩) (fun j=>n+j≤m) (fun j=>m - j) 0 (by omega) (.of_keep [2,3,5,6] rfl) ?_
 intro j hj
 refine aC fun K hK=>?_
 have hAn0:=hAn b
 have hLl:(nP b n j).length=16:=by rw[rO];exact hb
 by_cases hlt:n+j<m
 ·have d:decide (((n+j:Nat):Int)<(m:Int))=true:=decide_eq_true (by omega)
  refine aC fun K2 hK2=>aA [] ?_
  simp only[seval,kZs,aN,Tryz.underlying79,bD,ne_eq,aY,apart,aO,Tryz.underlying26,aU,bF,aT,bA,bW,List.headD_cons,hNl,hN0,aH]
  refine aV hAn0 cM rfl ?_
  simp only[seval,kZs,aK,aL,aP,bH,d,aI]
  refine hK2 _ ?_
  clear hK2 K2
  refine bG rfl (bC ?_)
  simp only[aI]
  refine hK _ ?_
  clear hK K
  have hset:nP b n (j+1)=aKA (nP b n j) (n+j):=rfl
  unfold aKA at hset
  have hi128:n+j<128:=by omega
  obtain⟨i,hi⟩:∃ i,n+j=i:=⟨_,rfl⟩
  rw[hi] at hset ⊢
  have hal:=hAl _ hLl
  generalize nP b n j=L at *
  have q1:(i:Int).tdiv 8=((i/8:Nat):Int):=by rw[Int.tdiv_eq_ediv_of_nonneg (by omega)];omega
  have q2:(i:Int).tmod 8=((i%8:Nat):Int):=by rw[Int.tmod_eq_emod_of_nonneg (by omega)];omega
  have w1:IntKind.i64.wrap ((i/8:Nat):Int)=((i/8:Nat):Int):=fD (by omega)
  have w2:IntKind.i64.wrap (7 - ((i%8:Nat):Int))=((7 - i%8:Nat):Int):=by rw[lY (by omega) (by omega)];omega
  have w3:IntKind.u64.wrap ((7 - i%8:Nat):Int)=((7 - i%8:Nat):Int):=uV _ (by rw[show IntKind.u64.bits=64 from rfl,nH];omega)
  have hAg:(AD v6 L).getD (1+i/8) .top=.val (.int .u8 ((L.getD (i/8) 0).toNat:Int)):=by
   rw[Nat.add_comm]
   simp only[AD,List.getD_cons_succ]
   exact kP (by omega)
  have hif:(if 7 - i%8≤8 then 7 - i%8 else 8)=7 - i%8:=if_pos (by omega)
  have hpw:1*2^(7 - i%8)%256=2^(7 - i%8):=by
   have:2^(7 - i%8)≤2^7:=Nat.pow_le_pow_right (by decide) (by omega)
   rw[Nat.one_mul]
   exact Nat.mod_eq_of_lt (by omega)
  have hBu:∀ q:Nat,AV.val (.int .u8 ((q%256:Nat):Int))=B (UInt8.ofNat q):=fun q=>by
   unfold B
   rw[UInt8.toNat_ofNat']
  have hspl:List.take (1+i/8) (AD v6 L)++[.val (.int .u8 ((((L.getD (i/8) 0).toNat+2^(7 - i%8))%256:Nat):Int))]++List.drop (1+i/8+1) (AD v6 L)=AD v6 (nP b n (j+1)):=by
   rw[hBu,hset]
   exact aMj _ _ _ _ (by omega)
  clear hBu
  refine aE [2,3,5,6] ?_
  simp only[seval,kZq]
  refine aC fun K hK=>bK ?_
  refine aA [] ?_
  simp only[seval,kZs,cav,aL,aP,bH,ne_eq,q1,w1,aN,Tryz.underlying26,bD,dN,Tryz.underlying24,Int.toNat_natCast,aY,apart,aO,Tryz.underlying5,q2,w2,eL,Tryz.underlying160,eG,bA,aH,fF,Tryz.underlying3,Option.isSome_some,w3,IntKind.bits,Nat.min_def,hif,aPf,aJf,hpw,bQ,bX,bB,spl,Int.cast_ofNat_Int,Nat.mul_one,hal,hAg,oW,List.all_cons,dC,Value.oneCell',List.all_nil,hspl]
  refine⟨⟨by omega,by omega⟩,by omega,by omega,⟨by omega,by omega⟩,by omega,?_⟩
  simp only[bL,aI]
  refine hK _ ?_
  clear hK K
  rw[← hi]
  refine aE [2,3,5,6] ?_
  simp only[seval,kZq]
  have w5:IntKind.i64.wrap ((n+j+1:Nat):Int)=((n+j+1:Nat):Int):=fD (by omega)
  refine aA [] ?_
  simp only[seval,kZs,cav,aL,aP,bH,gO,w5,aI]
  refine⟨j+1,by omega,by omega,?_⟩
  exact .of_keep [2,3,5,6] rfl
 have d:decide (((n+j:Nat):Int)<(m:Int))=false:=decide_eq_false (by omega)
 have he:j=m - n:=by omega
 subst he
 refine aC fun K2 hK2=>aA [] ?_
 simp only[seval,kZs,aN,Tryz.underlying79,bD,ne_eq,aY,apart,aO,Tryz.underlying26,aU,bF,aT,bA,bW,List.headD_cons,hNl,hN0,aH]
 refine aV hAn0 cM rfl ?_
 simp only[seval,kZs,aK,aL,aP,bH,d,aI]
 refine hK2 _ ?_
 clear hK2 K2
 refine aR rfl ?_
 refine dR ?_
 simp only[bL,aI,if_true]
 refine hK1 _ ?_
 clear hK K hK1 K1
 have c1:=cH b hb
 have c2:=cH _ hLl
 have hal:=hAl _ hLl
 have hal2:=hAt _ hLl
 have han:=hAn (nP b n (m - n))
 generalize nP b n (m - n)=L at *
 generalize AD v6 L=A2 at *
 generalize AD v6 b=A1 at *
 refine aE [2,3,5] ?_
 simp only[seval,kZq]
 cases h1:aHD w6 c cits v6 b with
 | false=>
  rw[h1] at c1 hR
  refine aC fun K hK=>aA [] ?_
  simp only[seval,kZs,aY,apart,aO,Tryz.underlying79,bD,hCl,hCt,aN,ne_eq,Tryz.underlying26,aU,bF,aT,bA,bW,List.headD_cons,List.tail_cons,hNl,hN0,aH]
  refine aV (by simp[hCn,hAn0,aM,aH]) c1 rfl ?_
  simp only[seval,kZs,aK,dD,bT,Option.bind_some,aW,Bool.not_true,eW,gok,bU,cav,aI]
  refine hK _ ?_
  clear hK K
  refine aE [4] ?_
  simp only[seval,kZq]
  refine aS ?_
  simp only[qq,bR,cQ,bN,bO,dA,aB,aH]
  rw[← hR]
  rfl
 | true=>
  rw[h1] at c1 hR
  refine aC fun K hK=>aA [] ?_
  simp only[seval,kZs,aY,apart,aO,Tryz.underlying79,bD,hCl,hCt,aN,ne_eq,Tryz.underlying26,aU,bF,aT,bA,bW,List.headD_cons,List.tail_cons,hNl,hN0,aH]
  refine aV (by simp[hCn,hAn0,aM,aH]) c1 rfl ?_
  simp only[seval,kZs,aK,dD,bT,Option.bind_some,aW,dQ,gok,aY,apart,aO,Tryz.underlying79,bD,hCl,hCt,Tryz.underlying26,hal,hal2,aU,bF,aT,bA,bW,List.headD_cons,List.tail_cons,aH]
  refine aV (by simp[hCn,han,aM,aH]) c2 rfl ?_
  simp only[seval,kZs,aK,bU,cav,aI]
  refine hK _ ?_
  clear hK K
  refine aE [4] ?_
  simp only[seval,kZq]
  refine aS ?_
  simp only[qq,bR,cQ,bN,bO,dA,aB,aH]
  rw[← hR]
  rfl
def kF:List (List UInt8)→Nat
 | []=>0
 | x::xs=>x.length+1+kF xs
theorem zZ [Gv] (a b:List (List UInt8)):kF (a++b)=kF a+kF b:=by
 induction a with
 | nil=>simp[kF]
 | cons x xs ih=>simp only[List.cons_append,kF,ih];omega
theorem aKH [Gv] {l:List (List UInt8)} {i:Nat} (h:i<l.length):kF (l.take (i+1))=kF (l.take i)+((l.getD i []).length+1):=by
 rw[List.take_add_one,List.getElem?_eq_getElem h,zZ]
 simp[kF,List.getD_eq_getElem?_getD,List.getElem?_eq_getElem h]
theorem aKG [Gv] (l:List (List UInt8)) (i:Nat):kF (l.take i)≤kF l:=by
 have:=zZ (l.take i) (l.drop i)
 rw[List.take_append_drop] at this
 omega
theorem aBm [Gv] (l:List (List UInt8)):l.length≤kF l:=by
 induction l with
 | nil=>simp[kF]
 | cons x xs ih=>simp only[kF,List.length_cons];omega
theorem aKF [Gv] (l:List (List UInt8)):(Lib.join l [44]).length≤kF l:=by
 cases l with
 | nil=>simp[Lib.join_nil]
 | cons x xs=>
  rw[Lib.join_cons,List.length_append]
  have:(Lib.joinTail [44] xs).length=kF xs:=by
   induction xs with
   | nil=>rfl
   | cons y ys ih=>
    simp only[Lib.joinTail,List.map_cons,List.flatten_cons,List.length_append,List.length_cons,List.length_nil,kF] at ih ⊢
    omega
  simp only[kF]
  omega
def aCo (p:PV):Bool:=decide (3000<p.path.length+kF p.names)
theorem aIP [Gv] (p:PV) (q:Perm) (hp:p.addr.length=16) (h1:p.path.length<4611686018427387904) (h2:∀ s∈p.names,s.length<2305843009213693952) (h3:p.names.length<4611686018427387904) :
  ACalls Tryz.prog GP 19 [.agg (PA p q)] [] (fun r os=>os=[]∧r=.val (.int .i64 (if aCo p then 1 else 0))):=by
 have hPl:=iE p q hp
 have hPo:=lE p q
 have hPp:(PA p q).getD 3 .top=str p.path:=rfl
 have hPn:(PA p q).getD 2 .top=.sl p.names.length (dU p.names) q:=rfl
 have hsl:=dY p.names
 have hsz:((⟨p.path.toArray⟩:ByteArray).size:Int)=(p.path.length:Int):=by simp[ByteArray.size]
 obtain⟨R,hR⟩:∃ R,aCo p=R:=⟨_,rfl⟩
 rw[hR]
 unfold aCo at hR
 generalize PA p q=P0 at *
 generalize p.names=l at *
 generalize p.path=pa at *
 simp only[str] at *
 refine aQ Tryz.func19 rfl rfl Tryz.ntmps19 (rts:=#[3]) rfl Tryz.results19 (by simp) ?_
 simp only[seval,aZ]
 refine aC fun K hK=>aA [] ?_
 simp only[seval,kZs,eF,bB,hPo,fN,cav,aI]
 and_intros<;>try first|exact⟨⟩|omega
 refine hK _ ?_
 clear hK K
 refine aE [1,2] ?_
 simp only[seval,kZq]
 refine aC fun K hK=>aA [] ?_
 simp only[seval,kZs,aN,Tryz.underlying81,bD,ne_eq,aY,apart,aO,Tryz.underlying9,bI,bV,eN,aI,hPl,hPp,dJ]
 and_intros<;>try first|exact⟨⟩|omega
 refine hK _ ?_
 clear hK K
 refine aE [1,2,3] ?_
 simp only[seval,kZq]
 refine aC fun K1 hK1=>?_
 refine aC fun K hK=>aA [] ?_
 simp only[seval,kZs,aN,Tryz.underlying81,bD,ne_eq,aY,apart,aO,Tryz.underlying43,bI,bV,eN,cav,aI,hPl,hPn]
 and_intros<;>try first|exact⟨⟩|omega
 refine hK _ ?_
 clear hK K
 refine aE [2,3,10,11,12] ?_
 simp only[seval,kZq]
 refine bK ?_
 refine bZ (fun i:Nat=>⟨26,[(2,.val (.int .i64 0)),(3,.val (.int .i64 ((pa.length+kF (l.take i):Nat):Int))),(10,.sl l.length (dU l) q),(11,.val (.int .i64 (l.length:Int))),(12,.val (.int .i64 (i:Int)))],[.cells P0]⟩)
  (fun i=>i≤l.length∧(0<i→pa.length+kF (l.take i)≤3000)) (fun i=>l.length - i) 0 ⟨by omega,fun h=>by omega⟩ (.of_keep [2,3,10,11,12] (by exact rfl)) ?_
 rintro i ⟨hi,hle⟩
 by_cases hlt:i<l.length
 ·have d:decide (i<l.length)=true:=decide_eq_true hlt
  have hgd:=mR hlt
  have hmem:l.getD i []∈l:=by
   rw[List.getD_eq_getElem?_getD,List.getElem?_eq_getElem hlt]
   exact List.getElem_mem hlt
  have hsm:=h2 _ hmem
  have hts:=aKH hlt
  have htm:=aKG l (i+1)
  have hn0:pa.length+kF (l.take i)<4611686018427387904:=by
   by_cases h0:0<i
   ·have:=hle h0;omega
   ·have:i=0:=by omega
    subst this
    simpa[kF] using h1
  simp only[str] at hgd
  have hsz2:((⟨(l.getD i []).toArray⟩:ByteArray).size:Int)=((l.getD i []).length:Int):=by simp[ByteArray.size]
  generalize l.getD i []=s at *
  generalize kF (l.take i)=t0 at *
  refine aC fun K hK=>aA [] ?_
  simp only[seval,kZs,aL,aP,bH,jM,d,aI]
  and_intros<;>try first|exact⟨⟩|omega
  refine hK _ ?_
  clear hK K
  refine bJ ?_
  refine bG rfl (bC ?_)
  simp only[aI]
  refine aC fun K hK=>bK ?_
  refine aC fun K hK=>aA [] ?_
  simp only[seval,kZs,dN,Tryz.underlying43,bD,hsl,Nat.mul_one,Int.toNat_natCast,aY,apart,aO,Tryz.underlying9,aI,List.length_drop,fL,hgd]
  and_intros<;>try first|exact⟨⟩|omega
  refine hK _ ?_
  clear hK K
  have w1:IntKind.i64.wrap ((s.length+1:Nat):Int)=((s.length+1:Nat):Int):=fD (by omega)
  have w2:IntKind.i64.wrap ((pa.length+t0+(s.length+1):Nat):Int)=((pa.length+t0+(s.length+1):Nat):Int):=fD (by omega)
  refine aE [2,3,5,10,11,12] ?_
  simp only[seval,kZq]
  refine aC fun K hK=>aA [] ?_
  simp only[seval,kZs,bI,bV,eN,Tryz.underlying9,dJ,cav,aL,aI,aP,bH,gO,w1,oW,w2]
  and_intros<;>try first|exact⟨⟩|omega
  refine hK _ ?_
  clear hK K
  refine aE [2,3,10,11,12] ?_
  simp only[seval,kZq]
  by_cases hbig:3000<pa.length+t0+(s.length+1)
  ·have d3:decide (((pa.length+t0+(s.length+1):Nat):Int) > 3000)=true:=decide_eq_true (by omega)
   refine aC fun K hK=>aA [] ?_
   simp only[seval,kZs,cav,aL,aP,bH,d3,aI]
   and_intros<;>try first|exact⟨⟩|omega
   refine hK _ ?_
   clear hK K
   refine bG rfl ?_
   refine aE [] ?_
   simp only[aD]
   refine aC fun K hK=>aA [] ?_
   simp only[seval,kZs,cav,aI]
   and_intros<;>try first|exact⟨⟩|omega
   refine hK _ ?_
   clear hK K
   refine aS ?_
   simp only[bL,aI]
   simp only[qq,bR,cQ,bN,bO,dA,aB,aH]
   rw[← hR,decide_eq_true (by omega)]
   rfl
  have d3:decide (((pa.length+t0+(s.length+1):Nat):Int) > 3000)=false:=decide_eq_false (by omega)
  refine aC fun K hK=>aA [] ?_
  simp only[seval,kZs,cav,aL,aP,bH,d3,aI]
  and_intros<;>try first|exact⟨⟩|omega
  refine hK _ ?_
  clear hK K
  refine aR rfl (bC ?_)
  simp only[bL,aI]
  refine hK _ ?_
  clear hK K
  refine aE [2,3,10,11,12] ?_
  simp only[seval,kZq]
  have w3:IntKind.i64.wrap ((i+1:Nat):Int)=((i+1:Nat):Int):=fD (by omega)
  refine aA [] ?_
  simp only[seval,kZs,cav,aL,aP,bH,gO,w3,aI]
  refine⟨i+1,⟨by omega,fun _=>by rw[hts];omega⟩,by omega,?_⟩
  rw[show pa.length+kF (l.take (i+1))=pa.length+t0+s.length+1 by rw[hts];omega]
  exact .of_keep [2,3,10,11,12] rfl
 have d:decide (i<l.length)=false:=decide_eq_false hlt
 have he:i=l.length:=by omega
 subst he
 refine aC fun K hK=>aA [] ?_
 simp only[seval,kZs,aL,aP,bH,jM,d,aI]
 and_intros<;>try first|exact⟨⟩|omega
 refine hK _ ?_
 clear hK K
 refine bJ ?_
 refine aR rfl ?_
 refine dR ?_
 simp only[bL,aI,if_true]
 refine hK1 _ ?_
 clear hK1 K1
 rw[List.take_length]
 refine aE [3] ?_
 simp only[seval,kZq]
 refine aC fun K hK=>?_
 by_cases hbig:3000<pa.length+kF l
 ·have d3:decide (((pa.length+kF l:Nat):Int) > 3000)=true:=decide_eq_true (by omega)
  refine aC fun K hK=>aA [] ?_
  simp only[seval,kZs,cav,aL,aP,bH,d3,aI]
  and_intros<;>try first|exact⟨⟩|omega
  refine hK _ ?_
  clear hK K
  refine bG rfl ?_
  refine aE [] ?_
  simp only[aD]
  refine aC fun K hK=>aA [] ?_
  simp only[seval,kZs,cav,aI]
  and_intros<;>try first|exact⟨⟩|omega
  refine hK _ ?_
  clear hK K
  refine aE [2] ?_
  simp only[seval,kZq]
  refine aS ?_
  simp only[aI]
  simp only[qq,bR,cQ,bN,bO,dA,aB,aH]
  rw[← hR,decide_eq_true (by omega)]
  rfl
 have d3:decide (((pa.length+kF l:Nat):Int) > 3000)=false:=decide_eq_false (by omega)
 refine aC fun K hK=>aA [] ?_
 simp only[seval,kZs,cav,aL,aP,bH,d3,aI]
 and_intros<;>try first|exact⟨⟩|omega
 refine hK _ ?_
 clear hK K
 refine aR rfl (bC ?_)
 simp only[aI]
 refine hK _ ?_
 clear hK K
 refine aE [] ?_
 simp only[aD]
 refine aC fun K hK=>aA [] ?_
 simp only[seval,kZs,cav,aI]
 and_intros<;>try first|exact⟨⟩|omega
 refine hK _ ?_
 clear hK K
 refine aE [2] ?_
 simp only[seval,kZq]
 refine aS ?_
 simp only[qq,bR,cQ,bN,bO,dA,aB,aH]
 rw[← hR,decide_eq_false (by omega)]
 rfl
theorem aBf [Gv] (c:UInt8):∀ a r:List UInt8,dM c (a++c::r)=dM c a++dM c r
 | [],r=>by simp[dM]
 | x::xs,r=>by
  have ih:=aBf c xs r
  have hne:=uQ c xs
  rw[List.cons_append,dM,dM,ih]
  split
  ·simp
  ·cases hs:dM c xs with
   | nil=>exact absurd hs hne
   | cons y ys=>simp
theorem aHo [Gv] (top p:List UInt8):aBo top p=true↔iI top=true∧iI p=true∧iM top <+: iM p:=by
 unfold aBo
 simp only[Bool.and_eq_true,decide_eq_true_iff]
 constructor
 ·rintro⟨⟨h1,h2⟩,h3,h4⟩
  exact⟨h1,h2,by rw[h4];exact List.take_prefix _ _⟩
 ·rintro⟨h1,h2,h3⟩
  refine⟨⟨h1,h2⟩,h3.length_le,List.prefix_iff_eq_take.1 h3⟩
theorem aCD [Gv] {top p:List UInt8} (h:pQ top p=true) (h1:iI top=true) (h2:iI p=true):iM top <+: iM p:=by
 unfold pQ at h
 simp only[Bool.and_eq_true,Bool.or_eq_true,beq_iff_eq,decide_eq_true_iff] at h
 obtain⟨_,h⟩:=h
 by_cases ht:top=[47]
 ·have:iM top=[]:=by unfold iM;rw[if_neg (by rintro⟨_,h⟩;exact h ht)]
  rw[this]
  exact List.nil_prefix
 rcases h with h|h|⟨hl,he,hc⟩
 ·exact absurd h ht
 ·rw[h];exact List.prefix_rfl
 ·have hp:p=top++47::p.drop (top.length+1):=by
   conv=>lhs;rw[← List.take_append_drop top.length p,he]
   congr 1
   rw[List.drop_eq_getElem_cons hl]
   congr 1
   have:(p.getD top.length 0)=47:=UInt8.toNat_inj.1 hc
   rwa [List.getD_eq_getElem?_getD,List.getElem?_eq_getElem hl] at this
  have hne:0<top.length:=aFl h1
  have hpn:p≠[47]:=by
   intro e
   rw[e] at hl
   have e1:([47]:List UInt8).length=1:=rfl
   omega
  unfold iM
  rw[if_pos ⟨h1,ht⟩,if_pos ⟨h2,hpn⟩]
  generalize p.drop (top.length+1)=r at *
  rw[hp,List.drop_append_of_le_length (by omega),aBf]
  exact List.prefix_append _ _
theorem aBz [Gv] {top low path:List UInt8} (h:pQ top low=true) (h1:iI top=true) (h2:iI low=true) (ha:qK low path=true):qK top path=true:=by
 unfold qK at *
 split at ha
 ·rename_i t ht
  rw[aHo] at ha ⊢
  exact⟨h1,ha.2.1,(aCD h h1 h2).trans ha.2.2⟩
 ·cases ha
theorem aBC [Gv] {p:PV} (h:nL p=true):(iW p).2.1≠[]:=by
 intro e
 unfold nL zY tX at h
 rw[if_pos (.inl e)] at h
 cases h
theorem zL [Gv] {p:PV} (h:nL p=true) (hk:p.kind=4):iI p.path=true:=by
 have:=aBC h
 unfold iW at this
 rw[hk] at this
 cases hr:iI p.path with
 | true=>rfl
 | false=>rw[hr] at this;exact absurd rfl this
theorem aJJ [Gv] {p:PV} (h:nL p=true) (hk:p.kind=5):yT p.v6 p.addr p.bits=true:=by
 have:=aBC h
 unfold iW at this
 rw[hk] at this
 cases hr:yT p.v6 p.addr p.bits with
 | true=>rfl
 | false=>unfold aEK at this;rw[hr] at this;exact absurd rfl this
theorem aDr [Gv] {x y z:Nat} (h:lS x y=true) (h2:lS y z=true):lS x z=true:=by
 unfold lS vU at *
 simp only[Bool.and_eq_true,Bool.not_eq_true',decide_eq_true_iff] at *
 exact⟨⟨h.1.1,h2.1.2⟩,by omega⟩
theorem aJF [Gv] {x s k:Nat} (hx:x<256) (hs:s<8) (hk:k<8) (h:x/2^s%2=0):(x+2^s)%256/2^k%2=if k=s then 1 else x/2^k%2:=by
 have hs':s=0∨s=1∨s=2∨s=3∨s=4∨s=5∨s=6∨s=7:=by omega
 have hk':k=0∨k=1∨k=2∨k=3∨k=4∨k=5∨k=6∨k=7:=by omega
 rcases hs' with rfl|rfl|rfl|rfl|rfl|rfl|rfl|rfl<;>rcases hk' with rfl|rfl|rfl|rfl|rfl|rfl|rfl|rfl<;>simp only[seval,if_true,if_false] at h ⊢ <;> omega
theorem aLI [Gv] {x y:Nat} (hx:x<256) (hy:y<256) (h:∀ k,k<8→x/2^k%2=y/2^k%2):x=y:=by
 apply Nat.eq_of_testBit_eq
 intro k
 by_cases hk:k<8
 ·rw[Nat.testBit_eq_decide_div_mod_eq,Nat.testBit_eq_decide_div_mod_eq,h k hk]
 ·have:2^8≤2^k:=Nat.pow_le_pow_right (by decide) (by omega)
  rw[Nat.testBit_lt_two_pow (by omega),Nat.testBit_lt_two_pow (by omega)]
theorem aJG [Gv] {x n k:Nat} (hn:n<9) (hk:k<8):(x &&& (65280/2^n%256))/2^(7 - k)%2=if k<n then x/2^(7 - k)%2 else 0:=by
 have hm:∀ (n:Fin 9) (k:Fin 8),(65280/2^n.val%256).testBit (7 - k.val)=decide (k.val<n.val):=by decide
 have:=hm ⟨n,hn⟩ ⟨k,hk⟩
 simp only at this
 have h2:(x &&& (65280/2^n%256)).testBit (7 - k)=(x.testBit (7 - k)&&decide (k<n)):=by rw[Nat.testBit_and,this]
 rw[Nat.testBit_eq_decide_div_mod_eq,Nat.testBit_eq_decide_div_mod_eq] at h2
 by_cases hkn:k<n
 ·rw[if_pos hkn]
  rw[decide_eq_true hkn,Bool.and_true,decide_eq_decide] at h2
  omega
 ·rw[if_neg hkn]
  rw[decide_eq_false hkn,Bool.and_false,decide_eq_false_iff_not] at h2
  omega
theorem aMg [Gv] {b:List UInt8} (hb:b.length=16) {i:Nat} (hi:i<128) (h0:kC b i=0) (j:Nat) (hj:j<128):kC (aKA b i) j=if j=i then 1 else kC b j:=by
 unfold kC aKA at *
 have hl:i/8<b.length:=by omega
 by_cases hij:j/8=i/8
 ·rw[hij,List.getD_eq_getElem?_getD,List.getElem?_set_self hl]
  simp only[Option.getD_some]
  rw[UInt8.toNat_ofNat']
  generalize b.getD (i/8) 0=x at *
  have:=aJF (k:=7 - j%8) x.toNat_lt (by omega) (by omega) h0
  have e:2^8=256:=rfl
  rw[e,this]
  by_cases hji:j=i
  ·rw[if_pos (by omega),if_pos hji]
  ·rw[if_neg (by omega),if_neg hji]
 ·have hji:j≠i:=fun e=>hij (by rw[e])
  rw[if_neg hji,List.getD_eq_getElem?_getD,List.getElem?_set_ne (by omega),← List.getD_eq_getElem?_getD]
theorem aCe [Gv] {b:List UInt8} (hb:b.length=16) {n:Nat}:∀ (k:Nat),n+k≤128→(∀ i,n≤i→i<n+k→kC b i=0)→∀ j,j<128→kC (nP b n k) j=if n≤j∧j<n+k then 1 else kC b j
 | 0,_,_,j,_=>by rw[if_neg (by omega)];rfl
 | k+1,hk,h0,j,hj=>by
  have ih:=aCe hb k (by omega) (fun i h1 h2=>h0 i h1 (by omega))
  have hz:kC (nP b n k) (n+k)=0:=by rw[ih _ (by omega),if_neg (by omega)];exact h0 _ (by omega) (by omega)
  rw[nP,aMg (by rw[rO];exact hb) (by omega) hz j hj,ih j hj]
  by_cases h1:j=n+k
  ·rw[if_pos h1,if_pos (by omega)]
  ·rw[if_neg h1]
   by_cases h2:n≤j∧j<n+k
   ·rw[if_pos h2,if_pos (by omega)]
   ·rw[if_neg h2,if_neg (by omega)]
theorem aLG [Gv] {a b:List UInt8} (ha:a.length=16) (hb:b.length=16) (h:∀ j,j<128→kC a j=kC b j):a=b:=by
 apply List.ext_getElem (by omega)
 intro i h1 h2
 have:=aLI a[i].toNat_lt b[i].toNat_lt (fun k hk=>by
  have:=h (8*i+(7 - k)) (by omega)
  unfold kC at this
  rw[show (8*i+(7 - k))/8=i by omega,show 7 - (8*i+(7 - k))%8=k by omega] at this
  rw[List.getD_eq_getElem?_getD,List.getD_eq_getElem?_getD,List.getElem?_eq_getElem h1,List.getElem?_eq_getElem h2] at this
  exact this)
 exact UInt8.toNat_inj.1 this
theorem aFa [Gv] (bits:Int):∀ (i:Nat) (l:List UInt8) (k:Nat),k<l.length→(kW bits i l).getD k 0=l.getD k 0 &&& mkb bits (i+k)
 | i,[],k,h=>by simp at h
 | i,x::xs,0,_=>by simp[kW]
 | i,x::xs,k+1,h=>by
  have:=aFa bits (i+1) xs k (by simpa using h)
  simp only[kW,List.getD_cons_succ]
  rw[this,show i+1+k=i+(k+1) by omega]
theorem aBQ [Gv] {b:List UInt8} (hb:b.length=16) (n:Nat) (j:Nat) (hj:j<128):kC (kW n 0 b) j=if j<n then kC b j else 0:=by
 unfold kC
 rw[aFa _ 0 b (j/8) (by omega),Nat.zero_add,UInt8.toNat_and]
 have hn:aAF n (j/8)≤8:=by unfold aAF;omega
 have hmk:(mkb n (j/8)).toNat=65280/2^aAF n (j/8)%256:=by unfold mkb;simp
 rw[hmk]
 rw[aJG (by omega) (by omega)]
 have hc:j%8<aAF n (j/8)↔j<n:=by unfold aAF;omega
 by_cases h:j<n
 ·rw[if_pos h,if_pos (hc.2 h)]
 ·rw[if_neg h,if_neg (fun x=>h (hc.1 x))]
theorem aNW [Gv] (b:List UInt8) (i:Nat):kC b i<2:=Nat.mod_lt _ (by decide)
theorem aCs [Gv] {v6:Bool} {b:List UInt8} {bits:Int} (h:aBT v6 b bits=true) (i:Nat) (h1:bits≤(i:Int)) (h2:i<pO v6):kC b i=0:=by
 unfold aBT at h
 simp only[Bool.and_eq_true] at h
 have:=List.all_eq_true.1 h.2.2 i (List.mem_range.2 h2)
 rw[decide_eq_false (by omega),Bool.false_or,Bool.not_eq_true',beq_eq_false_iff_ne] at this
 have:=aNW b i
 omega
theorem aJj [Gv] {v6:Bool} {b:List UInt8} {n:Nat} (h:yT v6 b n=true):kW n 0 b=b:=by
 unfold yT nG at h
 by_cases hc:lP v6 b=true∧0≤(n:Int)∧(n:Int)≤(if v6 then 128 else 32)
 ·rw[if_pos hc] at h
  exact beq_iff_eq.1 h
 ·rw[if_neg hc] at h;cases h
theorem aHp [Gv] {v6:Bool} {b:List UInt8} {bits:Int} {o6:Bool} {c:List UInt8} {cits:Int} {w6:Bool} {a:List UInt8} (hb:b.length=16) (hc:c.length=16) (ha:a.length=16)
  (h:sJ v6 b bits o6 c cits=true) (hn:yT o6 c cits=true) (hh:aHC v6 b bits w6 a=true):aHC o6 c cits w6 a=true:=by
 unfold sJ at h
 simp only[Bool.and_eq_true] at h
 obtain⟨hd,h1,h2⟩:=h
 unfold aHD at h1 h2
 simp only[Bool.and_eq_true,beq_iff_eq] at h1 h2
 obtain⟨ho,_,hv,h1⟩:=h1
 obtain⟨_,_,_,h2⟩:=h2
 subst hv
 obtain⟨d0,d1⟩:=uK hd
 obtain⟨o0,o1⟩:=uK ho
 obtain⟨n,rfl⟩:∃ n:Nat,bits=n:=⟨bits.toNat,by omega⟩
 obtain⟨m,rfl⟩:∃ m:Nat,cits=m:=⟨cits.toNat,by omega⟩
 rw[Int.toNat_natCast] at h1 h2
 have hM:=aBP v6
 have e1:∀ i,i<m→kC b i=kC c i:=fun i hi=>beq_iff_eq.1 (List.all_eq_true.1 h1 i (List.mem_range.2 hi))
 have e2:∀ i,i<m→kC (nP b n (pO v6 - n)) i=kC c i:=fun i hi=>beq_iff_eq.1 (List.all_eq_true.1 h2 i (List.mem_range.2 hi))
 have hmn:m≤n:=by
  rcases Nat.lt_or_ge n m with hlt|hge
  ·exfalso
   have z:=aCs hd n (by omega) (by omega)
   have f:=aCe hb (n:=n) (pO v6 - n) (by omega) (fun i q1 q2=>aCs hd i (by omega) (by omega)) n (by omega)
   rw[if_pos (by omega),e2 n hlt,← e1 n hlt,z] at f
   cases f
  ·exact hge
 unfold aHC nG at hh ⊢
 by_cases hq:lP w6 a=true∧0≤(n:Int)∧(n:Int)≤(if w6 then 128 else 32)
 ·rw[if_pos hq] at hh
  simp only[Bool.and_eq_true,beq_iff_eq] at hh
  obtain⟨_,hw,hl⟩:=hh
  subst hw
  rw[if_pos ⟨hq.1,by omega,by have:=hq.2.2;omega⟩]
  simp only[Bool.and_eq_true,beq_iff_eq]
  refine⟨hn,?_⟩
  refine⟨trivial,?_⟩
  refine aLG ((kM (m:Int) 0 a).trans ha) hc fun j hj=>?_
  have k1:=aBQ ha m j hj
  have k2:=aBQ hc m j hj
  rw[aJj hn] at k2
  have k3:=aBQ ha n j hj
  rw[hl] at k3
  rw[k1,k2]
  by_cases hjm:j<m
  ·rw[if_pos hjm,if_pos hjm,← e1 j hjm,k3,if_pos (by omega)]
  ·rw[if_neg hjm,if_neg hjm]
 ·rw[if_neg hq] at hh
  cases hh
def nS (d o:PV):Bool:=
 if d.kind=1 then decide (d.time≤o.time) else if d.kind=2 then decide (o.time≤d.time) else if d.kind=3 then d.names.all fun s=>o.names.contains s
 else if d.kind=4 then pQ o.path d.path else if d.kind=5 then sJ d.v6 d.addr d.bits o.v6 o.addr o.bits else if d.kind=6 then lS d.cost o.cost else false
theorem aHK [Gv] {d o:PV} {rq:RV} {clock:Nat} (hd:d.addr.length=16) (ho:o.addr.length=16) (ha:rq.addr.length=16) (c1:nL d=true) (c2:nL o=true) (hk:d.kind=o.kind) (hn:nS d o=true)
  (h:aAt d rq clock=true):aAt o rq clock=true:=by
 obtain⟨k1,k2⟩:=vR c1
 unfold nS at hn
 unfold aAt at h ⊢
 rw[← hk]
 by_cases q1:d.kind=1
 ·rw[if_pos q1] at hn h ⊢
  simp only[decide_eq_true_iff] at *
  omega
 rw[if_neg q1] at hn h ⊢
 by_cases q2:d.kind=2
 ·rw[if_pos q2] at hn h ⊢
  simp only[decide_eq_true_iff] at *
  omega
 rw[if_neg q2] at hn h ⊢
 by_cases q3:d.kind=3
 ·rw[if_pos q3] at hn h ⊢
  have hm:rq.op∈d.names:=List.contains_iff_mem.1 h
  exact List.all_eq_true.1 hn _ hm
 rw[if_neg q3] at hn h ⊢
 by_cases q4:d.kind=4
 ·rw[if_pos q4] at hn h ⊢
  exact aBz hn (zL c2 (by rw[← hk];exact q4)) (zL c1 q4) h
 rw[if_neg q4] at hn h ⊢
 by_cases q5:d.kind=5
 ·rw[if_pos q5] at hn h ⊢
  exact aHp hd ho ha hn (aJJ c2 (by rw[← hk];exact q5)) h
 rw[if_neg q5] at hn h ⊢
 rw[if_pos (by omega)] at hn
 exact aDr h hn
def opa:List UInt8:=[111,112,32,97]
def opP:PV:=⟨3,0,[[97]],[],false,Z 16,0,0⟩
theorem aJq [Gv]:qB opa=some [[111,112],[97]]:=by decide
theorem aJp [Gv]:lJ [97]=some [[97]]:=by decide
theorem aCx [Gv]:ACalls Tryz.prog GP 24 [str opa] [] (fun r os=>os=[]∧r=.tup [.agg (PA opP .full),.val (.bool true)]):=by
 have h:=aHT opa [97] (by decide) (by decide) aJq
 unfold aAS at h
 rw[aJp] at h
 exact h
theorem aJo [Gv] (RQ:List AV) (hRl:RQ.length=20) (hRo:RQ.all dC=true) (hRn:aM RQ=true) (op:List UInt8) (hop:RQ.getD 0 .top=str op) (clock:Nat) :
  ACalls Tryz.prog GP 75 [str opa,.agg RQ,.val (.int .u64 (clock:Int))] [] (fun r os=>os=[]∧r=.val (.bool (op == [97]))):=by
 have hsm:sF opP:=⟨rfl,by decide,by decide,by decide⟩
 have hW:=aBq 0 [[97]] .full rfl [] (NT false (Z 16) 0++[.val (.float .f64 0)]) (NT false (Z 16) 0) 0 ⟨rfl,rfl,jO _ _ _,iZ _ _ _⟩ (by decide) (by decide)
 have hT:=aFG opP ⟨3,0,[],[],false,Z 16,0,0⟩ .full .full rfl rfl hsm ⟨rfl,by decide,by decide,by decide⟩ [111,112] (lV [[97]]) (by decide) (by decide) hW
 have hC:=aCW opP .full rfl rfl _ hT
 have e:(!(tX [111,112] (lV [[97]]) (aFu ⟨3,0,[],[],false,Z 16,0,0⟩ (vB opP.kind)) == []))=true:=by decide
 rw[e] at hC
 have hA:=aCQ opP .full rfl rfl rfl (by decide) RQ hRl hRo hRn op hop clock
 have hH:=aFT opP .full rfl rfl RQ hRl hRo hRn clock true _ hC (fun _=>hA)
 have h:=aLf opa opP rfl true _ RQ hRl hRo hRn clock aCx (fun _=>hH)
 have e2:(true&&(true&&opP.names.contains op))=(op == [97]):=by
  rw[Bool.true_and,Bool.true_and]
  show [[97]].contains op=_
  rw[Bool.eq_iff_iff]
  simp
 rw[e2] at h
 exact h
def OT (text:List UInt8) (out:Int):List AV:=[str text,.sl 0 [] .full,str [],.val (.int .i64 out),.sl 0 [] .full,str [],str []]++((NT false (Z 16) 0).take 17++[.val (.float .f64 0),.val (.bool false),.val (.bool false),.val (.bool false)])
def OP (kind:Int) (key un ticks:Nat) (draws:List AV) (text:List UInt8) (out:Int):List AV:=
 [.val (.int .i64 kind),.val (.int .u64 (key:Int)),.val (.int .u64 (un:Int)),.val (.int .u64 0),.val (.int .u64 (ticks:Int))]++(draws++OT text out)
theorem aMh [Gv] (l:List OutV) (hl:l.length≤1000000) (i:Nat) (hi:i<l.length):ACalls Tryz.prog GP 13 [.cptr [.sl l.length (OS l) .no],.val (.int .i64 (i:Int))] [] (fun r os=>os=[]∧r=.tup [.agg (OA l[i]),.val (.bool true)]):=by
 have hOl:=uB l
 have hOo:=aAK l
 have hnO:=gA l
 have hget:=aKh hi
 generalize l[i]=o at *
 have hao:=aAJ o
 have hno:=yV o
 have hal:(OA o).length=3:=rfl
 have hat:(OA o).take 3=OA o:=rfl
 have had:(OA o).drop 3=[]:=rfl
 generalize OA o=oa at *
 have d1:decide ((i:Int)<0)=false:=by simp
 have d2:decide ((i:Int)≥(l.length:Int))=false:=by simp;omega
 refine dB Tryz.func13 rfl rfl Tryz.ntmps13 (rts:=#[48,4]) rfl Tryz.results13 (by simp) ?_
 simp only[seval,aZ]
 refine aC fun K hK=>aA [] ?_
 simp only[seval,kZs,dF,bS,cav,aI]
 and_intros<;>try first|exact⟨⟩|omega
 refine hK _ ?_
 clear hK K
 refine aE [0,1,4] ?_
 simp only[seval,kZq]
 refine aC fun K1 hK1=>?_
 refine aC fun K hK=>aA [] ?_
 simp only[seval,kZs,cav,aL,aP,bH,d1,dD,bT,Option.bind_some,aW,Bool.not_false,dQ,gok,fY,aN,Tryz.underlying113,bD,ne_eq,aY,apart,aO,Tryz.underlying111,bI,bV,eN,bU,aI,d2]
 refine hK _ ?_
 clear hK K
 refine aR rfl (bC (hK1 _ ?_))
 clear hK1 K1
 refine aE [0,1,4] ?_
 simp only[seval,kZq]
 refine aC fun K hK=>aA [] ?_
 simp only[seval,kZs,fY,aN,Tryz.underlying113,bD,ne_eq,aY,apart,aO,Tryz.underlying111,dN,Int.toNat_natCast,Tryz.underlying48,bQ,bX,bB,spl,cav,aI,hOl,List.length_drop,hget,hao,hal,List.drop_nil]
 refine⟨⟨by omega,by omega⟩,by omega,hK _ ?_⟩
 clear hK K
 refine aE [4,5] ?_
 simp only[seval,kZq]
 refine aS ?_
 refine fE (by simp) (by simp) ?_
 simp only[seval,qq,gS,gB,fJ,fR,aY,aB,apart,aO,Tryz.underlying48,bD,hal,hat]
 simp[ref,eV,bM _ _ hno]
theorem aKC [Gv] (clock most last:Nat) (m:AObj) (hm:eH m=true) (l:List OutV) (hl:l.length≤1000000) :
  ACalls Tryz.prog GP 12 [.ptr 0 0] (SV clock most last m l) (fun r os=>os=SV clock most last m l∧r=.cptr [.sl l.length (OS l) .no]):=by
 have cC:=aHf l hl
 have hnl:=gA l
 simp only[SV,KO,SO] at *
 refine dB Tryz.func12 rfl rfl Tryz.ntmps12 (rts:=#[50]) rfl Tryz.results12 (by simp) ?_
 simp only[seval,aZ]
 refine aC fun K hK=>aA [] ?_
 simp only[seval,kZs,cav,aI]
 and_intros<;>try first|exact⟨⟩|omega
 refine hK _ ?_
 clear hK K
 refine aE [0] ?_
 simp only[seval,kZq]
 refine aC fun K hK=>aA [1000007] ?_
 simp only[seval,kZs,fY,aN,Tryz.underlying106,bD,ne_eq,aY,List.contains_cons,apart,aO,Tryz.underlying50,aU,beq_self_eq_true,bF,aT,bA,bW,List.headD_cons,List.getD_cons_succ]
 refine gF [3,4] false [50] ⟨by decide,by simp,by simp[fU,eV,ref,jH,bM _ _ hnl]⟩ rfl (by simp[aH]) (by simp only[GHd,List.map_cons,List.map_nil,List.getD_cons_zero,List.getD_cons_succ,gJ,gH,ren,rB,cY _ _ hnl];exact cC) ⟨by simp,by simp[fU,eV,ref,jH,bM _ _ hnl],by simp[eV,ref],fun h=>by cases h⟩ ?_
 simp only[seval,kZs,ren,σn,List.getD_cons_succ,jD,gG,gJ,gH,cY _ _ hnl,rB,List.headD_cons,List.tail_cons,dE,aI]
 refine hK _ ?_
 clear hK K
 refine aE [2] ?_
 simp only[seval,kZq]
 refine aLD 5 [.sl l.length (OS l) (.tok 6)] [.sl l.length (OS l) .no] rfl rfl (fun E vs h=>?_) ?_
 ·simp only[bY] at h ⊢
  obtain⟨v,vs',rfl,h1,h2⟩:=h
  exact⟨v,vs',rfl,qF (p:=.tok 6) h1,h2⟩
 simp only[List.set_cons_succ,List.set_cons_zero]
 refine iH 2 5 [.sl l.length (OS l) .no] rfl rfl (Nat.zero_lt_succ _) (by simp[aM,aH,gA]) ?_
 simp only[List.set_cons_succ,List.set_cons_zero]
 refine aE [2] ?_
 simp only[seval,kZq]
 refine aS ?_
 refine fE (by simp) (jX clock most last m hm l) ?_
 simp only[seval,qq,gS,gB,fJ,fR,aB]
 simp[ref,eV,jH,bM _ _ hnl]
theorem yO [Gv] (f:eK) (h:f.2.length<18446744073709551616):(fby f).length≤11+f.2.length:=by
 have:=jI h
 simp only[fby,List.length_cons,List.length_append]
 omega
theorem aJR [Gv] (s:List UInt8) (h:s.length≤100000):(kU (eO s)).length≤11+s.length:=by
 have:=yO (3,s) (by simp;omega)
 simpa[kU,eO,V.join,kU] using this
theorem aFI [Gv] (ts:List (List UInt8)) (k:Nat) (h:∀ s∈ts,s.length≤k) (hk:k≤100000):((ts.map eO).flatMap kU).length≤ts.length*(11+k):=by
 induction ts with
 | nil=>simp
 | cons s ts ih=>
  rw[List.map_cons,List.flatMap_cons,List.length_append,List.length_cons]
  have h1:=aJR s (by have:=h s (by simp);omega)
  have h2:=h s (by simp)
  have h3:=ih (fun s hs=>h s (by simp[hs]))
  have:(ts.length+1)*(11+k)=ts.length*(11+k)+(11+k):=by rw[Nat.succ_mul]
  omega
theorem aIH [Gv] (t:TokV) (ts:List (List UInt8)) (hp:wC t ts) (k:Nat) (h:∀ s∈ts,s.length≤k) (hk:k≤1000) (hn:ts.length≤64) (hkey:t.key<18446744073709551616) (hid:t.id.length≤100000) (htag:t.tag.length=32) :
  (gM t).length≤200+t.id.length+ts.length*(11+k):=by
 have h1:=aFI ts k h (by omega)
 have hm:ts.length*(11+k)≤64*1011:=Nat.mul_le_mul hn (by omega)
 have hv:=jI hkey
 have e:(oS t).length≤120+t.id.length+ts.length*(11+k):=by
  have f1:=yO (1,vb t.key) (by simp;omega)
  have f2:=yO (2,t.id) (by simp;omega)
  have f3:=yO (7,[if t.bound then 1 else 0]) (by simp)
  have f4:=yO (8,t.tag) (by simp;omega)
  simp only[List.length_cons,List.length_nil] at f1 f2 f3 f4
  unfold oS
  rw[hp]
  simp only[V.join,List.flatMap_cons,List.flatMap_nil,List.append_nil,List.length_append]
  omega
 have f:=yO (16,oS t) (by simp;omega)
 simp only at f
 unfold gM
 simp only[V.join,List.flatMap_cons,List.flatMap_nil,List.append_nil]
 omega
theorem aPB [Gv] (kind key un ticks:Nat) (draw:List UInt8) (hd:draw.length=32) (text:List UInt8) (out:Nat):OpF (OP (kind:Int) key un ticks (Bs draw++Bs (Z 64)) text (out:Int)) kind key un ticks out draw text false:=by
 have hZ:(Z 64).length=64:=eZ 64
 have hl:(Bs draw++Bs (Z 64)).length=96:=by rw[List.length_append,aX,aX];omega
 have hdr:(Bs draw++Bs (Z 64)).take 32=Bs draw:=by rw[← hd,← aX draw];simp
 have hone:(Bs draw++Bs (Z 64)).all dC=true:=by rw[List.all_append,eR,eR];rfl
 have hnor:aM (Bs draw++Bs (Z 64))=true:=by rw[dK,Go.V.aJ,Go.V.aJ];rfl
 generalize Bs draw++Bs (Z 64)=D at *
 have hg:∀ (T:List AV) (i:Nat),(D++T).getD (96+i) .top=T.getD i .top:=fun T i=>by
  rw[List.getD_eq_getElem?_getD,List.getElem?_append_right (by omega),List.getD_eq_getElem?_getD,hl]
  congr 2
  omega
 refine⟨?_,?_,?_,rfl,rfl,rfl,rfl,?_,hd,?_,?_,?_⟩
 ·simp[OP,OT,hl,NT,aX,hZ,eZ]
 ·simp only[OP,List.all_append,hone];rfl
 ·simp only[OP,dK,hnor];rfl
 ·show ((D++_).take 32)=_
  rw[List.take_append_of_le_length (by omega),hdr]
 ·show (D++_).getD (96+0) .top=_
  rw[hg];rfl
 ·show (D++_).getD (96+3) .top=_
  rw[hg];rfl
 ·show (D++_).getD (96+27) .top=_
  rw[hg];rfl
theorem aAo [Gv] {P:Program} {G:Gl} {f:Option FuncId} {a:AV} {L O:List AV} {objs:List AObj} {k:AV→List AObj→Prop} (h:L=O) (hk:wQ P G f [a,.agg O] objs k):wQ P G f [a,.agg L] objs k:=h ▸ hk
theorem aDl [Gv] {clock most last:Nat} {m:AObj} {l:List OutV} {clock' most' last':Nat} {m':AObj} {l':List OutV} {rest objs:List AObj} {k:AV→List AObj→Prop} {A:List AV} (O:List AV) (hOn:aM O=true) (hAn:aM A=true) (hm:eH m=true) (hm':eH m'=true)
  (cD:ACalls Tryz.prog GP 11 [.ptr 0 0,.agg O] (SV clock most last m l) (fun r os=>os=SV clock' most' last' m' l'∧r=.agg A)) (hobjs:objs=SV clock most last m l++rest)
  (hk:k (.agg A) (SV clock' most' last' m' l'++rest)):wQ Tryz.prog GP (some 11) [.ptr 0 0,.agg O] objs k:=by
 subst hobjs
 have hrf0:=jX clock most last m hm l
 have hrf:=jX clock' most' last' m' hm' l'
 have hvw:gT Tryz.prog (SV clock most last m l++rest) (List.range (SV clock most last m l).length) [35,46] [.ptr 0 0,.agg O]=some (True∧True∧True,false,[.ptr 0 0,.agg O]):=by
  simp only[gT,nR,bM _ _ hOn,cY _ _ hOn]
  rfl
 exact iU (objs:=SV clock most last m l) [35,46] hrf0 hvw ⟨trivial,trivial,trivial⟩ cD rfl hrf (by simp only[ref];exact bM _ _ hAn) hk
def pE:List UInt8:=1::Z 31
def me:List UInt8:=[109,101]
theorem aFe [Gv] (C:List Nat→List UInt8→List Nat) (key:List UInt8) (id:List UInt8) (h:id.length≤1024):okT (gN C key 1 id)=true:=by
 simp[okT,gN,h]
theorem aCn [Gv] {C:List Nat→List UInt8→List Nat} (hC:COk C) (key:List UInt8) (id:List UInt8) (h:id.length≤1024):(gM (gN C key 1 id)).length≤65536:=by
 have:=aIH (gN C key 1 id) [] rfl 0 (by simp) (by omega) (by simp) (by simp[gN]) (by simp[gN];omega) (fO hC _ _ _)
 simp[gN] at this
 simp[gN]
 omega
def T1 (C:List Nat→List UInt8→List Nat):TokV:=gN C pE 1 me
def T2 (C:List Nat→List UInt8→List Nat):TokV:=gK C (T1 C) (eO opa)
theorem aPW [Gv] {C:List Nat→List UInt8→List Nat} (hC:COk C):isB ⟨gM (T1 C),true,false⟩ (T1 C) []:=
 ⟨rfl,rfl,tU hC pE 1 (by omega) me (by decide),rfl,aFe _ _ _ (by decide),rfl,aCn hC _ _ (by decide)⟩
theorem aMm [Gv] {C:List Nat→List UInt8→List Nat} (hC:COk C):(T2 C).tag.length=32:=by
 unfold T2 gK
 dsimp only
 unfold qW
 exact fO hC _ _ _
theorem aNn [Gv] (C:List Nat→List UInt8→List Nat):aAM C pE (T2 C):=by
 unfold aAM T2 gK T1 gN
 dsimp only
 unfold pU
 rw[List.nil_append,List.foldl_cons,List.foldl_nil]
theorem aFy [Gv] {C:List Nat→List UInt8→List Nat} (hC:COk C):small (T2 C):=by
 refine⟨by show me.length≤200000;decide,by show ([]++[eO opa]:List CavV).length≤1000000;decide,?_,aMm hC,by show (1:Nat)<18446744073709551616;omega,?_⟩
 ·intro c hc
  have:c=eO opa:=by simpa[T2,gK,T1,gN] using hc
  subst this
  decide
 ·intro c hc
  have:c=eO opa:=by simpa[T2,gK,T1,gN] using hc
  subst this
  decide
theorem aMO [Gv] (C:List Nat→List UInt8→List Nat):okT (T2 C)=true:=by
 show (decide (me.length≤1024)&&decide (([]++[eO opa]:List CavV).length≤64)&&([]++[eO opa]:List CavV).all aGr)=true
 decide
theorem aLv [Gv] {C:List Nat→List UInt8→List Nat} (hC:COk C):(gM (T2 C)).length≤65536:=by
 have:=aIH (T2 C) [opa] rfl 10 (by decide) (by omega) (by decide) (by show (1:Nat)<18446744073709551616;omega) (by show me.length≤100000;decide) (aMm hC)
 have h2:(T2 C).id.length=2:=rfl
 simp only[List.length_cons,List.length_nil] at this
 omega
def RQo (op:List UInt8):List AV:=[str op,str []]++((NT false (Z 16) 0).take 17++[.val (.float .f64 0)])
theorem aCm [Gv] {C:List Nat→List UInt8→List Nat} (hC:COk C) (l:List OutV) (op:List UInt8) :
  ACalls Tryz.prog GP 14 [.ptr 0 0,.sl (gM (T2 C)).length (Bs (gM (T2 C))) .no,.agg (RQo op)] (SV 0 3 1 (KM pE 9) l) (fun r os=>os=SV 0 3 1 (KM pE 9) l∧r=.val (.int .i64 (if op == [97] then 0 else 7))):=by
 have h:=aLr hC 0 3 pE rfl 9 l (T2 C) [opa] (aFy hC) rfl rfl (aMO C) (aLv hC) rfl (aNn C) (RQo op) rfl rfl rfl (fun _=>op == [97]) (fun s hs=>by
  have:s=opa:=by simpa using hs
  subst this
  exact aJo (RQo op) rfl rfl rfl op rfl 0)
 rw[if_pos (by omega)] at h
 have e:([opa].all fun _=>op == [97])=(op == [97]):=by simp
 rw[e] at h
 exact h
theorem aKp [Gv] {C:List Nat→List UInt8→List Nat} (hC:COk C):ACalls Tryz.prog GP 8 [] [] (fun r os=>os=[]∧r=.val (.bool true)):=by
 have cN:=aBe 3 (by omega)
 have F1:=aPB 2 0 9 0 pE rfl [] 0
 have cD1:=aGv 0 3 0 (.map []) rfl [] 0 1 (KM pE 9) (gY _ _) [] _ F1 (by omega) (aEP 0 3 (by omega) [] _ F1)
 have F2:=aPB 7 1 0 0 (Z 32) rfl me 0
 have cD2:=aCb 0 3 1 (KM pE 9) (gY _ _) [] 0 1 (KM pE 9) (gY _ _) _ _ F2 (.inl rfl) (aFn hC 0 3 pE rfl 9 (by omega) [] (by simp) _ F2 (by decide) (aFe _ _ _ (by decide)) (aCn hC _ _ (by decide)))
 have F3:=aPB 8 0 0 0 (Z 32) rfl opa 0
 have cD3:=aCb 0 3 1 (KM pE 9) (gY _ _) _ 0 1 (KM pE 9) (gY _ _) _ _ F3 (.inr rfl) (aHa hC 0 3 1 (KM pE 9) (gY _ _) [⟨gM (T1 C),true,false⟩] (by simp) _ F3 (by simp) (T1 C) [] (aPW hC) (by decide) (aFy hC) (aMO C) (aLv hC) _ rfl (lE opP .full) (sX opP .full rfl) aCx)
 have cS:=aKC 0 3 1 (KM pE 9) (gY _ _) [⟨gM (T1 C),true,false⟩,⟨gM (T2 C),true,false⟩] (by simp)
 have cG:=aMh [⟨gM (T1 C),true,false⟩,⟨gM (T2 C),true,false⟩] (by simp) 1 (by simp)
 have cJ1:=aCm hC [⟨gM (T1 C),true,false⟩,⟨gM (T2 C),true,false⟩] [97]
 have cJ2:=aCm hC [⟨gM (T1 C),true,false⟩,⟨gM (T2 C),true,false⟩] [98]
 have hrf:=jX 0 3 1 (KM pE 9) (gY _ _) [⟨gM (T1 C),true,false⟩,⟨gM (T2 C),true,false⟩]
 rw[show gK C (T1 C) (eO opa)=T2 C from rfl] at cD3
 rw[show gN C pE 1 me=T1 C from rfl] at cD2
 have hnB2:=Go.V.aJ (gM (T2 C))
 have hOA:OA (⟨gM (T2 C),true,false⟩:OutV)=[.val (.string ⟨(gM (T2 C)).toArray⟩),.val (.bool true),.val (.bool false)]:=rfl
 simp only[List.getElem_cons_succ,List.getElem_cons_zero,hOA] at cG
 generalize gM (T2 C)=e2 at *
 generalize gM (T1 C)=e1 at *
 refine aQ Tryz.func8 rfl rfl Tryz.ntmps8 (rts:=#[4]) rfl Tryz.results8 (by simp) ?_
 simp only[seval,aZ]
 refine aC fun K hK=>aA [] ?_
 simp only[seval,kZs,cav,aI]
 and_intros<;>try first|exact⟨⟩|omega
 refine hK _ ?_
 clear hK K
 refine aC fun K hK=>aA [1000005] ?_
 simp only[seval,qq,aU,List.contains_cons,beq_self_eq_true,aB,cav,bF,aT,bA,aH]
 refine gF [] false [3] ⟨by decide,by simp,by simp⟩ rfl (by simp[aH]) (by simpa[GHd] using cN) ⟨by simp,by simp[SV,KO,SO,fU,eV,ref,jH,OS],by simp[SV,eV,ref],fun h=>by cases h⟩ ?_
 have hB:jD [] [] (SV 0 3 0 (.map []) [])=SV 0 3 0 (.map []) []:=rfl
 rw[hB]
 simp only[seval,kZs,ren,σn,dE,aI]
 refine hK _ ?_
 clear hK K hB
 refine aE [0,1] ?_
 simp only[seval,kZq]
 refine aC fun K1 hK1=>?_
 refine aC fun K hK=>aA [] ?_
 simp only[seval,kZs,cav,aL,aP,aI]
 and_intros<;>try first|exact⟨⟩|omega
 refine hK _ ?_
 clear hK K
 refine aR rfl (bC (hK1 _ ?_))
 clear hK1 K1
 refine aE [1] ?_
 simp only[seval,kZq]
 refine aC fun K hK=>aA [1000012] ?_
 simp only[seval,kZs,fA,bS,Tryz.underlying23,bD,Nat.mul_one,jK,dO,cav,eM,spl,bB,eA,aX,eZ,List.all_cons,dC,Value.oneCell',List.all_nil,Tryz.underlying42,Nat.zero_mul,Tryz.underlying46,kO,aU,List.contains_cons,beq_self_eq_true,bF,aT,bA,bW,List.tail_cons,List.headD_cons,List.length_drop,eR,Bool.true_and]
 refine⟨⟨rfl,rfl⟩,aAo (O:=OP 2 0 9 0 (Bs pE++Bs (Z 64)) [] 0) (by kernel_rfl) (aDl _ F1.nor rfl rfl (gY _ _) cD1 (List.append_nil _).symm ?_)⟩
 simp only[List.append_nil,dE,aG,aI]
 refine hK _ ?_
 clear hK K
 refine aE [1] ?_
 simp only[seval,kZq]
 refine aC fun K hK=>aA [1000015] ?_
 simp only[seval,kZs,fA,bS,Tryz.underlying46,kO,cav,dO,eM,spl,bB,List.all_cons,dC,Value.oneCell',List.all_nil,aU,List.contains_cons,beq_self_eq_true,bF,aT,bA,bW,List.tail_cons,List.headD_cons]
 refine aAo (O:=OP 7 1 0 0 (Bs (Z 32)++Bs (Z 64)) me 0) (by kernel_rfl) (aDl _ F2.nor rfl (gY _ _) (gY _ _) cD2 (List.append_nil _).symm ?_)
 simp only[List.length_nil,Int.cast_ofNat_Int,List.nil_append,List.append_nil,dE,aG,aI]
 refine hK _ ?_
 clear hK K
 refine aE [1] ?_
 simp only[seval,kZq]
 refine aC fun K hK=>aA [1000018] ?_
 simp only[seval,kZs,fA,bS,Tryz.underlying46,kO,cav,dO,eM,spl,bB,List.all_cons,dC,Value.oneCell',List.all_nil,aU,List.contains_cons,beq_self_eq_true,bF,aT,bA,bW,List.tail_cons,List.headD_cons]
 refine aAo (O:=OP 8 0 0 0 (Bs (Z 32)++Bs (Z 64)) opa 0) (by kernel_rfl) (aDl _ F3.nor rfl (gY _ _) (gY _ _) cD3 (List.append_nil _).symm ?_)
 simp only[seval,kZs,SV,Int.cast_ofNat_Int,AN,dE,dF,bS,cav,bQ,bX,bD,bB,List.all_cons,dC,Value.oneCell',List.all_nil,spl,aI,List.drop_nil]
 refine hK _ ?_
 clear hK K
 refine aE [1,2] ?_
 simp only[seval,kZq]
 refine iH 2 5 [.val (.int .i64 0),.val (.int .i64 0),.val (.int .u64 0),.val (.int .i64 1)] rfl rfl (Nat.zero_lt_succ _) rfl ?_
 simp only[List.set_cons_succ,List.set_cons_zero]
 refine aE [1,2] ?_
 simp only[seval,kZq]
 refine aC fun K hK=>?_
 refine dW [2000021,23,24] (by kernel_rfl) (by kernel_rfl) ?_
 simp only[seval,kZs,aU,List.contains_cons,bF,beq_self_eq_true,aT,bA]
 refine iU (objs:=SV 0 3 1 (KM pE 9) [⟨e1,true,false⟩,⟨e2,true,false⟩]) (rest:=[.dead]) [35] hrf rfl (by simp) cS rfl hrf (by simp[ref,eV,jH,bM _ _ (gA _)]) ?_
 simp only[seval,kZs,SV,Int.cast_ofNat_Int,uC,aN,Tryz.underlying40,bD,ne_eq,aY,List.contains_cons,beq_self_eq_true,Bool.false_or,apart,aO,Tryz.underlying3,aU,bF,aT,bA,aH,aM,Bool.true_and,bW,List.tail_cons,List.headD_cons]
 refine aV (by simp[aM,aH,gA]) cG (by simp[aM,aH]) ?_
 simp only[seval,kZs,aK,gW,dF,bS,cav,bQ,bX,bD,bB,spl,aI,List.all_cons,dC,Value.oneCell',List.all_nil,List.drop_nil]
 refine hK _ ?_
 clear hK K
 refine aE [1,2,3,4] ?_
 simp only[seval,kZq]
 refine aC fun K hK=>aA [1000039,1000048] ?_
 simp only[seval,kZs,dD,bT,Option.bind_some,aW,dQ,gok,aN,Tryz.underlying40,bD,ne_eq,aY,List.contains_cons,apart,aO,Tryz.underlying3,cav,aL,bU,Nat.zero_lt_succ,aP,bH,beq_self_eq_true,Tryz.underlying48,Tryz.underlying9,eL,Tryz.underlying54,mG,Tryz.underlying5,fA,bS,Tryz.underlying29,kO,dO,eM,spl,bB,List.all_cons,dC,Value.oneCell',List.all_nil,aU,bF,aT,bA,bW,List.tail_cons,List.headD_cons,dJ]
 have hvw:∀ op rest,gT Tryz.prog (SV 0 3 1 (KM pE 9) [⟨e1,true,false⟩,⟨e2,true,false⟩]++rest) (List.range 5) [35,54,29] [.ptr 0 0,.sl e2.length (Bs e2) .no,.agg (RQo op)]=some (True∧aM (Bs e2)=true∧True∧True,false,[.ptr 0 0,.sl e2.length (Bs e2) .no,.agg (RQo op)]):=fun op rest=>by
  simp only[gT,nR,bM _ _ (show aM (RQo op)=true from rfl),cY _ _ (show aM (RQo op)=true from rfl)]
  rfl
 refine iU (objs:=SV 0 3 1 (KM pE 9) [⟨e1,true,false⟩,⟨e2,true,false⟩]) [35,54,29] hrf (hvw [97] _) ⟨trivial,hnB2,trivial,trivial⟩ cJ1 rfl hrf rfl ?_
 simp only[seval,kZs,beq_self_eq_true,SV,Int.cast_ofNat_Int,dE,dD,bT,Option.bind_some,aW,dQ,gok,cav,aL,aP,bH,bU,aN,Tryz.underlying48,bD,ne_eq,aY,List.contains_cons,apart,aO,Tryz.underlying9,eL,Tryz.underlying54,mG,Tryz.underlying5,fA,bS,Tryz.underlying29,kO,dO,eM,spl,bB,List.all_cons,dC,Value.oneCell',List.all_nil,aU,Bool.false_or,bF,aT,bA,bW,List.tail_cons,List.headD_cons,Nat.zero_lt_succ,dJ]
 refine iU (objs:=SV 0 3 1 (KM pE 9) [⟨e1,true,false⟩,⟨e2,true,false⟩]) [35,54,29] hrf (hvw [98] _) ⟨trivial,hnB2,trivial,trivial⟩ cJ2 rfl hrf rfl ?_
 simp only[seval,kZs,SV,Int.cast_ofNat_Int,dE,dD,bT,Option.bind_some,aW,dQ,gok,cav,aL,aP,bH,bU,Nat.zero_lt_succ,aI]
 refine hK _ ?_
 clear hK K
 refine aE [0] ?_
 simp only[seval,kZq]
 refine aS ?_
 simp only[qq,bR,cQ,bN,bO,dA,aB,aH]
 rfl
theorem _root_.Go.V.APan.defer [Gv] {P:Program} {G:Gl} {f:FuncId} {args:List AV} {outs:List AObj} {Q:AV→List AObj→Prop} (h:APan P G f args outs Q) (ds:List Deferred):APan P ⟨G.tab,ds⟩ f args outs Q:=
 ⟨h.1,fun E vs h1 h2 h3=>h.2 E vs h1 h2 h3⟩
end Go.Proofs.YtefdnmeopbkflaaGreatDoor
