/-
  Texts of one proof, merged: Nk, Nl, Lzd, Hc, Lze, Lzf, Ha, Hd.
-/
import Derived.Test.YtefdnmeopbkflaaGreatDoorBNa5
import Derived.ProofKit
import Derived.WideShapes
import Derived.Test.YtefdnmeopbkflaaGreatDoorRows
import Derived.Deep.Strs
import Derived.Lib.LaidTab
import Derived.LaidLaws
import Derived.ShapedOpen
import Derived.Deep.DeepWitnessRowRef
import Derived.Deep.DeepHandedRow
import Derived.Lib.LaidIn
set_option linter.unusedSimpArgs false
set_option linter.unusedVariables false
namespace Go.Proofs.YtefdnmeopbkflaaGreatDoor
open Go Go.V
set_option linter.unusedSimpArgs false
set_option linter.unusedVariables false
set_option maxRecDepth 20000
structure RqF (RQ:List AV) (op path:List UInt8):Prop where
 len:RQ.length=20
 ones:RQ.all dC=true
 nor:aM RQ=true
 fop:RQ.getD 0 .top=str op
 fpath:RQ.getD 1 .top=str path
def aJn (op path:List UInt8):Bool:=decide (1000<op.length) || decide (1000<path.length)
theorem aPl [Gv] {RQ:List AV} {op path:List UInt8} (h:RqF RQ op path) (ho:op.length<9223372036854775808) (hpl:path.length<9223372036854775808) :
  ACalls Tryz.prog GP 9 [.agg RQ] [] (fun r os=>os=[]∧r=.val (.int .i64 (if aJn op path then 1 else 0))):=by
 have hl:=h.len
 have h1:=h.ones
 have f0:RQ[0]?.getD .top=str op:=by simpa using h.fop
 have f1:RQ[1]?.getD .top=str path:=by simpa using h.fpath
 have g0:=h.fop
 have g1:=h.fpath
 simp only[str] at f0 f1 g0 g1
 refine aQ Tryz.func9 rfl rfl Tryz.ntmps9 (rts:=#[3]) rfl Tryz.results9 (by simp) ?_
 simp only[seval,aZ]
 refine aC fun K hK=>aA [1] ?_
 simp only[seval,kZs,List.contains_cons,beq_self_eq_true,eF,bB,h1,fN,cav,aI]
 refine hK _ ?_
 clear hK K
 refine aE [1,2] ?_
 simp only[seval,kZq]
 refine aC fun K1 hK1=>?_
 by_cases c1:1000<op.length
 ·have e1:decide ((op.length:Int) > 1000)=true:=decide_eq_true (by omega)
  refine aC fun K hK=>aA [] ?_
  simp only[seval,kZs,aN,Tryz.underlying29,bD,ne_eq,hl,aY,apart,aO,Tryz.underlying9,bI,bV,eN,cav,aL,Nat.zero_lt_succ,g0,dJ,aP,bH,e1,dD,bT,Option.bind_some,aW,eW,gok,bU,aI]
  and_intros<;>try first|exact⟨⟩|omega
  refine hK _ ?_
  clear hK K
  refine bG rfl ?_
  refine aE [0] ?_
  simp only[seval,kZq]
  refine aC fun K hK=>aA [] ?_
  simp only[seval,kZs,cav,aI]
  and_intros<;>try first|exact⟨⟩|omega
  refine hK _ ?_
  clear hK K
  refine aE [2] ?_
  simp only[seval,kZq]
  refine aS ?_
  simp only[qq,aI,bR,cQ,bN,bO,dA,aB,aH]
  simp[aJn,c1]
 ·have e1:decide ((op.length:Int) > 1000)=false:=decide_eq_false (by omega)
  by_cases c2:1000<path.length
  ·have e2:decide ((path.length:Int) > 1000)=true:=decide_eq_true (by omega)
   refine aC fun K hK=>aA [] ?_
   simp only[seval,kZs,aN,Tryz.underlying29,bD,ne_eq,hl,aY,apart,aO,Tryz.underlying9,bI,bV,eN,cav,aL,Nat.zero_lt_succ,g0,dJ,aP,bH,e1,dD,bT,Option.bind_some,aW,Bool.not_false,dQ,gok,bU,aI,List.length_drop,fL,g1,e2]
   and_intros<;>try first|exact⟨⟩|omega
   refine hK _ ?_
   clear hK K
   refine bG rfl ?_
   refine aE [0] ?_
   simp only[seval,kZq]
   refine aC fun K hK=>aA [] ?_
   simp only[seval,kZs,cav,aI]
   and_intros<;>try first|exact⟨⟩|omega
   refine hK _ ?_
   clear hK K
   refine aE [2] ?_
   simp only[seval,kZq]
   refine aS ?_
   simp only[qq,aI,bR,cQ,bN,bO,dA,aB,aH]
   simp[aJn,c2]
  ·have e2:decide ((path.length:Int) > 1000)=false:=decide_eq_false (by omega)
   refine aC fun K hK=>aA [] ?_
   simp only[seval,kZs,aN,Tryz.underlying29,bD,ne_eq,hl,aY,apart,aO,Tryz.underlying9,bI,bV,eN,cav,aL,Nat.zero_lt_succ,g0,dJ,aP,bH,e1,dD,bT,Option.bind_some,aW,Bool.not_false,dQ,gok,bU,aI,List.length_drop,fL,g1,e2]
   and_intros<;>try first|exact⟨⟩|omega
   refine hK _ ?_
   clear hK K
   refine aR rfl (bC (hK1 _ ?_))
   clear hK1 K1
   refine aE [0] ?_
   simp only[seval,kZq]
   refine aC fun K hK=>aA [] ?_
   simp only[seval,kZs,cav,aI]
   and_intros<;>try first|exact⟨⟩|omega
   refine hK _ ?_
   clear hK K
   refine aE [2] ?_
   simp only[seval,kZq]
   refine aS ?_
   simp only[qq,bR,cQ,bN,bO,dA,aB,aH]
   simp[aJn,c1,c2]
structure AkF (AK RQ:List AV) (u c:Nat):Prop where
 len:AK.length=22
 ones:AK.all dC=true
 nor:aM AK=true
 rq:AK.take 20=RQ
 f20:AK.getD 20 .top=.val (.int .u64 (u:Int))
 f21:AK.getD 21 .top=.val (.int .u64 (c:Int))
theorem tO [Gv] (n:Nat) (l:List AV) (h:aM l=true):aM (l.take n)=true:=by
 rw[← List.take_append_drop n l,dK,Bool.and_eq_true] at h
 exact h.1
theorem aHY [Gv] {AK RQ:List AV} {u c:Nat} (hA:AkF AK RQ u c):ACalls Tryz.prog GP 15 [.agg AK] [] (fun r os=>os=[]∧r=.agg (RQ.take 19++[.val (.float .f64 u)])):=by
 have hAl:=hA.len
 have hAo:=hA.ones
 have hArq:=hA.rq
 have hA20:=hA.f20
 have cF:=oT u
 have f20:AK[20]?.getD .top=.val (.int .u64 (u:Int)):=by simpa using hA20
 refine aQ Tryz.func15 rfl rfl Tryz.ntmps15 (rts:=#[29]) rfl Tryz.results15 (by simp) ?_
 simp only[seval,aZ]
 refine aC fun K hK=>aA [] ?_
 simp only[seval,kZs,eF,bB,hAo,fN,dF,bS,cav,aI]
 and_intros<;>try first|exact⟨⟩|omega
 refine hK _ ?_
 clear hK K
 refine aC fun K hK=>aA [] ?_
 simp only[seval,kZs,aN,Tryz.underlying32,bD,ne_eq,aY,apart,aO,Tryz.underlying30,aU,bF,aT,bA,bW,List.headD_cons,hAl,hA20,aH]
 refine iT trivial cF ?_
 simp only[seval,kZs,aK,aN,Tryz.underlying32,bD,ne_eq,Tryz.underlying29,bQ,bX,bB,List.all_cons,dC,Value.oneCell',List.all_nil,spl,aI,hAl]
 have hnf:aM (RQ.take 19++[.val (.float .f64 u)])=true:=by
  rw[dK,← hArq]
  simp only[tO _ _ (tO _ _ hA.nor),aM,aH]
  rfl
 have hRl:(RQ.take 19).length=19:=by rw[← hArq];simp[hAl]
 have hBt:(List.take 19 AK++[AV.val (.float .f64 u)]++List.drop 20 AK).take 20=RQ.take 19++[.val (.float .f64 u)]:=by
  have h19:(List.take 19 AK++[AV.val (.float .f64 u)]).length=20:=by simp[hAl]
  rw[List.take_append_of_le_length (by omega),List.take_of_length_le (by omega),← hArq,List.take_take]
  rfl
 have hBl:(List.take 19 AK++[AV.val (.float .f64 u)]++List.drop 20 AK).length=22:=by simp[hAl]
 have hBo:(List.take 19 AK++[AV.val (.float .f64 u)]++List.drop 20 AK).all dC=true:=by
  have h1:(List.take 19 AK).all dC=true:=List.all_eq_true.2 fun x hx=>List.all_eq_true.1 hAo x (List.mem_of_mem_take hx)
  have h2:(List.drop 20 AK).all dC=true:=List.all_eq_true.2 fun x hx=>List.all_eq_true.1 hAo x (List.mem_of_mem_drop hx)
  rw[List.all_append,List.all_append,h1,h2]
  rfl
 have hRo:(RQ.take 19++[AV.val (.float .f64 u)]).all dC=true:=by
  rw[← hBt]
  exact List.all_eq_true.2 fun x hx=>List.all_eq_true.1 hBo x (List.mem_of_mem_take hx)
 have hRl':(RQ.take 19++[AV.val (.float .f64 u)]).length=20:=by simp[hRl]
 generalize List.take 19 AK++[AV.val (.float .f64 u)]++List.drop 20 AK=BF at *
 generalize RQ.take 19++[.val (.float .f64 u)]=RF at *
 refine hK _ ?_
 clear hK K
 refine aE [1,2] ?_
 simp only[seval,kZq]
 refine aC fun K hK=>aA [] ?_
 simp only[seval,kZs,aN,Tryz.underlying32,bD,ne_eq,aY,apart,aO,Tryz.underlying29,bQ,bX,bB,spl,aI,hBl,hBt,hRo,hRl',List.drop_nil]
 and_intros<;>try first|exact⟨⟩|omega
 refine hK _ ?_
 clear hK K
 refine aE [2] ?_
 simp only[seval,kZq]
 refine aS ?_
 simp only[qq,bR,cQ,bN,bO,aY,aB,apart,aO,Tryz.underlying29,bD,hRl',dA,aH]
 have e:RF.take 20=RF:=List.take_of_length_le (by omega)
 rw[e]
 exact⟨hnf,rfl⟩
theorem RqF.cost [Gv] {RQ:List AV} {op path:List UInt8} (h:RqF RQ op path) (u:Nat):(RQ.take 19++[AV.val (.float .f64 u)]).length=20∧(RQ.take 19++[AV.val (.float .f64 u)]).all dC=true∧aM (RQ.take 19++[AV.val (.float .f64 u)])=true:=by
 refine⟨by simp[h.len],?_,?_⟩
 ·have h1:(RQ.take 19).all dC=true:=List.all_eq_true.2 fun x hx=>List.all_eq_true.1 h.ones x (List.mem_of_mem_take hx)
  rw[List.all_append,h1]
  rfl
 ·rw[dK,tO _ _ h.nor]
  rfl

structure InP (p:PV):Prop where
 addr:p.addr.length=16
 path:p.path.length<4611686018427387904
 each:∀ s∈p.names,s.length<2305843009213693952
 names:p.names.length<4611686018427387904
 time:p.time<18446744073709551616
 bits:-9223372036854775808≤p.bits∧p.bits≤9223372036854775807
 cost:p.cost<18446744073709551616
theorem InP.ok [Gv] {p:PV} (h:InP p) (hl:aCo p=false):OkP p:=by
 have h1:=of_decide_eq_false hl
 have h2:=aBm p.names
 have h3:=aKF p.names
 exact⟨⟨h.addr,by omega,by omega,by omega⟩,h.time,h.bits,h.cost⟩
theorem aBv [Gv] (f:List UInt8→Bool) {l:List (List UInt8)} {i:Nat} (h:i<l.length):(l.take (i+1)).all f=((l.take i).all f&&f (l.getD i [])):=by
 rw[List.take_add_one,List.getElem?_eq_getElem h,Option.toList_some,List.all_append,List.all_cons,List.all_nil,Bool.and_true,List.getD_eq_getElem?_getD,List.getElem?_eq_getElem h]
 rfl
theorem vS [Gv] (s:List UInt8) {l:List (List UInt8)} {i:Nat} (h:i<l.length):(l.take (i+1)).contains s=((l.take i).contains s || (s == l.getD i [])):=by
 rw[List.take_add_one,List.getElem?_eq_getElem h,Option.toList_some,List.getD_eq_getElem?_getD,List.getElem?_eq_getElem h,Bool.eq_iff_iff]
 simp only[List.contains_iff_mem,List.mem_append,List.mem_singleton,Bool.or_eq_true,beq_iff_eq,Option.getD_some]
set_option maxHeartbeats 2000000 in
theorem aJg [Gv] {C:List Nat→List UInt8→List Nat} (hC:COk C) (d o:PV) (qd qo:Perm) (hqd:fG qd=true) (hqo:fG qo=true) (hd:InP d) (ho:InP o) (rq:RV) (ha:rq.addr.length=16) (hop:rq.op.length<9223372036854775808) (hpa:rq.path.length<9223372036854775808) (u c:Nat) (hu:u<18446744073709551616) :
  ACalls Tryz.prog GP 7 [.agg (PA d qd),.agg (PA o qo),.agg (RA rq++[.val (.int .u64 (u:Int)),.val (.int .u64 (c:Int))])] [] (fun r os=>os=[]∧r=.val (.bool true)):=by
 have cAl:=aKp hC
 have cL1:=aIP d qd hd.addr hd.path hd.each hd.names
 have cL2:=aIP o qo ho.addr ho.path ho.each ho.names
 have hRF:RqF (RA rq) rq.op rq.path:=⟨kA rq ha,pW rq,aAZ rq,rfl,rfl⟩
 have cO:=aPl hRF hop hpa
 have p1:=iE d qd hd.addr
 have p2:=lE d qd
 have p3:=sX d qd hqd
 have p4:=nY d qd
 have p5:(PA d qd).take 23=PA d qd:=List.take_of_length_le (by omega)
 have o1:=iE o qo ho.addr
 have o2:=lE o qo
 have o3:=sX o qo hqo
 have o4:=nY o qo
 have o5:(PA o qo).take 23=PA o qo:=List.take_of_length_le (by omega)
 have r1:=kA rq ha
 have r2:=pW rq
 have r3:=aAZ rq
 obtain⟨AK,hAK⟩:∃ AK,RA rq++[AV.val (.int .u64 (u:Int)),AV.val (.int .u64 (c:Int))]=AK:=⟨_,rfl⟩
 have hAF:AkF AK (RA rq) u c:=by
  subst hAK
  refine⟨by simp[r1],by simp[r2,dC,Value.oneCell'],by rw[dK,r3];rfl,by rw[List.take_append_of_le_length (by omega),List.take_of_length_le (by omega)],?_,?_⟩
  ·simp[List.getD_eq_getElem?_getD,List.getElem?_append_right,r1]
  ·simp[List.getD_eq_getElem?_getD,List.getElem?_append_right,r1]
 rw[hAK]
 have a1:=hAF.len
 have a2:=hAF.ones
 have a3:=hAF.nor
 have a4:=hAF.rq
 have a6:=hAF.f21
 have cR:=aHY hAF
 have cC1:=fun h=>aBB d qd hqd (hd.ok h)
 have cC2:=fun h=>aBB o qo hqo (ho.ok h)
 have a5:AK.take 22=AK:=List.take_of_length_le (by omega)
 refine aQ Tryz.func7 rfl rfl Tryz.ntmps7 (rts:=#[4]) rfl Tryz.results7 (by simp) ?_
 simp only[seval,aZ]
 refine aC fun K hK=>aA [] ?_
 simp only[seval,kZs,eF,bB,p2,fN,o2,a2,cav,aI]
 and_intros<;>try first|exact⟨⟩|omega
 refine hK _ ?_
 clear hK K
 refine aE [3,4,5,6] ?_
 simp only[seval,kZq]
 refine aC fun K1 hK1=>?_
 refine aC fun K2 hK2=>aA [] ?_
 simp only[seval,qq,aU,aB,bF,aT]
 refine aV (by simp[aJ,aM,aH]) (cAl) (by simp[aH,aM,aJ,flat]) ?_
 simp only[seval,kZs,aK,aun,Bool.not_true,aI]
 refine hK2 _ ?_
 clear hK2 K2
 refine aR rfl (bC ?_)
 simp only[aI]
 refine hK1 _ ?_
 clear hK1 K1
 refine aE [3,4,5,6] ?_
 simp only[seval,kZq]
 refine aC fun K1 hK1=>?_
 refine aC fun K hK=>?_
 have nope:∀ st,lk st.slots 46=.val (.bool true)→st.nt=131→st.objs=[.cells (PA d qd),.cells (PA o qo),.cells AK]→K st:=by
  rintro⟨nt,sl,os⟩ h46 hnt hos
  simp only at h46 hnt hos
  subst hnt hos
  refine hK _ ?_
  refine bG h46 ?_
  refine aE [] ?_
  simp only[aD]
  refine aC fun K hK=>aA [] ?_
  simp only[seval,kZs,cav,aI]
  and_intros<;>try first|exact⟨⟩|omega
  refine hK _ ?_
  clear hK K
  refine aE [6] ?_
  simp only[seval,kZq]
  refine aS ?_
  simp only[aI,bL]
  simp only[qq,bR,cQ,bN,bO,dA,aB,aH]
 refine aA [] ?_
 simp only[seval,kZs,aY,apart,aO,Tryz.underlying81,bD,p1,p5,aU,bF,aT,bA,bW,List.headD_cons,aH]
 refine aV p3 cL1 rfl ?_
 cases l1:aCo d with
 | true=>
  simp only[seval,kZs,aK,cav,aL,aP,bH,beq_self_eq_true,dD,bT,Option.bind_some,aW,eW,gok,bU,aI]
  exact nope _ rfl rfl rfl
 | false=>
 simp only[seval,kZs,aK,cav,aL,aP,bH,dD,bT,Option.bind_some,aW,Bool.not_false,dQ,gok,aY,apart,aO,Tryz.underlying81,bD,o1,o5,aU,bF,aT,bA,bW,List.headD_cons,aH]
 refine aV o3 cL2 rfl ?_
 cases l2:aCo o with
 | true=>
  simp only[seval,kZs,aK,dD,bT,Option.bind_some,aW,Bool.not_false,dQ,gok,cav,aL,aP,bH,beq_self_eq_true,bU,eW,aI]
  exact nope _ rfl rfl rfl
 | false=>
 simp only[seval,kZs,aK,dD,bT,Option.bind_some,aW,Bool.not_false,dQ,gok,cav,aL,aP,bH,bU,aN,Tryz.underlying32,bD,ne_eq,aY,apart,aO,Tryz.underlying29,aU,bF,aT,bA,bW,List.headD_cons,a1,a4,aH]
 refine aV r3 cO rfl ?_
 cases l3:aJn rq.op rq.path with
 | true=>
  simp only[seval,kZs,aK,dD,bT,Option.bind_some,aW,Bool.not_false,dQ,gok,cav,aL,aP,bH,beq_self_eq_true,bU,eW,aI]
  exact nope _ rfl rfl rfl
 | false=>
 have cc1:=cC1 l1
 have cc2:=cC2 l2
 simp only[seval,kZs,aK,dD,bT,Option.bind_some,aW,Bool.not_false,dQ,gok,cav,aL,aP,bH,bU,aY,apart,aO,Tryz.underlying81,bD,p1,p5,aU,bF,aT,bA,bW,List.headD_cons,aH]
 refine aV p3 cc1 rfl ?_
 cases v1:nL d with
 | false=>
  simp only[seval,kZs,aK,dD,bT,Option.bind_some,aW,Bool.not_false,dQ,gok,aun,bU,cav,eW,aI]
  exact nope _ rfl rfl rfl
 | true=>
 simp only[seval,kZs,aK,dD,bT,Option.bind_some,aW,Bool.not_false,dQ,gok,aun,Bool.not_true,bU,cav,aY,apart,aO,Tryz.underlying81,bD,o1,o5,aU,bF,aT,bA,bW,List.headD_cons,aH]
 refine aV o3 cc2 rfl ?_
 cases v2:nL o with
 | false=>
  simp only[seval,kZs,aK,dD,bT,Option.bind_some,aW,Bool.not_false,dQ,gok,aun,bU,cav,eW,aI]
  exact nope _ rfl rfl rfl
 | true=>
 by_cases hk:d.kind=o.kind
 ·have dk:(d.kind != o.kind)=false:=by rw[hk];simp
  simp only[seval,kZs,aK,dD,bT,Option.bind_some,aW,Bool.not_false,dQ,gok,aun,Bool.not_true,bU,cav,aN,Tryz.underlying81,bD,ne_eq,aY,apart,aO,Tryz.underlying3,aL,aI,o1,o4,p1,p4,aP,bH,dk]
  refine hK _ ?_
  clear nope hK K
  refine aR rfl (bC (hK1 _ ?_))
  clear hK1 K1
  obtain⟨rq',hrq'⟩:∃ rq':RV,rq' = { rq with cost:=u }:=⟨_,rfl⟩
  have hRQ:(RA rq).take 19++[AV.val (.float .f64 u)]=RA rq':=by
   rw[hrq']
   have:(Bs rq.addr).length=16:=by rw[aX];exact ha
   simp[RA,AD,List.take_append,this]
  have ha':rq'.addr.length=16:=by rw[hrq'];exact ha
  have hp':rq'.path.length≤200000:=by
   rw[hrq']
   unfold aJn at l3
   simp only[Bool.or_eq_false_iff,decide_eq_false_iff_not] at l3
   show rq.path.length≤200000
   omega
  have q1:=kA rq' ha'
  have q2:=pW rq'
  have q3:=aAZ rq'
  have q5:(RA rq').take 20=RA rq':=List.take_of_length_le (by omega)
  rw[hRQ] at cR
  have cH1:=aCj d qd hqd (hd.ok l1) rq' ha' hp' c
  have cH2:=aCj o qo hqo (ho.ok l2) rq' ha' hp' c
  rw[v1,Bool.true_and] at cH1
  rw[v2,Bool.true_and] at cH2
  have law:=fun h1 h2=>aHK (rq:=rq') (clock:=c) hd.addr ho.addr ha' v1 v2 hk h1 h2
  refine aE [3,4,5] ?_
  simp only[seval,kZq]
  refine aC fun K hK=>aA [] ?_
  simp only[seval,kZs,cav,aI]
  and_intros<;>try first|exact⟨⟩|omega
  refine hK _ ?_
  clear hK K
  refine aE [3,4,5,7] ?_
  simp only[seval,kZq]
  refine aC fun K hK=>?_
  have next:∀ s,gE GP s ⟨131,[(3,.ptr 0 0),(4,.ptr 1 0),(5,.ptr 2 0),(7,.val (.bool (nS d o)))],[.cells (PA d qd),.cells (PA o qo),.cells AK]⟩→K s:=by
   intro s hw
   refine hK s (eX hw ?_)
   clear hw hK K
   refine aC fun K hK=>aA [] ?_
   simp only[seval,kZs,aY,apart,aO,Tryz.underlying32,bD,a1,a5,aU,bF,aT,bA,bW,List.headD_cons,aH]
   refine aV a3 cR (by simp[aH,q3]) ?_
   simp only[seval,kZs,aK,dF,bS,cav,bQ,bX,bD,bB,q2,q1,spl,aI,List.drop_nil]
   refine hK _ ?_
   clear hK K
   refine aE [3,4,5,7,13] ?_
   simp only[seval,kZq]
   refine aC fun K hK=>?_
   cases hn:nS d o with
   | false=>
    refine aA [] ?_
    simp only[seval,kZs,aun,Bool.not_false,dD,bT,Option.bind_some,aW,eW,gok,bU,cav,aI]
    refine hK _ ?_
    clear hK K
    refine aE [6] ?_
    simp only[seval,kZq]
    refine aS ?_
    simp only[qq,bR,cQ,bN,bO,dA,aB,aH]
   | true=>
   cases h1:aAt d rq' c with
   | false=>
    rw[h1] at cH1
    refine aA [] ?_
    simp only[seval,kZs,aun,Bool.not_true,dD,bT,Option.bind_some,aW,Bool.not_false,dQ,gok,aY,apart,aO,Tryz.underlying81,bD,p1,p5,Tryz.underlying29,q1,q5,aN,Tryz.underlying32,ne_eq,Tryz.underlying30,aU,bF,aT,bA,bW,List.headD_cons,List.tail_cons,a1,a6,aH]
    refine aV (by simp[p3,q3,aM,aH]) cH1 rfl ?_
    simp only[seval,kZs,aK,dD,bT,Option.bind_some,aW,Bool.not_false,dQ,gok,aun,bU,cav,eW,aI]
    refine hK _ ?_
    clear hK K
    refine aE [6] ?_
    simp only[seval,kZq]
    refine aS ?_
    simp only[qq,bR,cQ,bN,bO,dA,aB,aH]
   | true=>
    rw[h1] at cH1
    rw[law hn h1] at cH2
    refine aA [] ?_
    simp only[seval,kZs,aun,Bool.not_true,dD,bT,Option.bind_some,aW,Bool.not_false,dQ,gok,aY,apart,aO,Tryz.underlying81,bD,p1,p5,Tryz.underlying29,q1,q5,aN,Tryz.underlying32,ne_eq,Tryz.underlying30,aU,bF,aT,bA,bW,List.headD_cons,List.tail_cons,a1,a6,aH]
    refine aV (by simp[p3,q3,aM,aH]) cH1 rfl ?_
    simp only[seval,kZs,aK,dD,bT,Option.bind_some,aW,Bool.not_false,dQ,gok,aun,Bool.not_true,bU,cav,aY,apart,aO,Tryz.underlying81,bD,o1,o5,Tryz.underlying29,q1,q5,aN,Tryz.underlying32,ne_eq,Tryz.underlying30,aU,bF,aT,bA,bW,List.headD_cons,List.tail_cons,a1,a6,aH]
    refine aV (by simp[o3,q3,aM,aH]) cH2 rfl ?_
    simp only[seval,kZs,aK,bU,cav,aI]
    refine hK _ ?_
    clear hK K
    refine aE [6] ?_
    simp only[seval,kZq]
    refine aS ?_
    simp only[qq,bR,cQ,bN,bO,dA,aB,aH]
  by_cases k1:d.kind=1
  ·have ko:o.kind=1:=by omega
   rw[k1] at p4
   have hnb:nS d o=decide (d.time≤o.time):=by unfold nS;rw[if_pos k1]
   have t1:(PA d qd).getD 1 .top=.val (.int .u64 (d.time:Int)):=rfl
   have t2:(PA o qo).getD 1 .top=.val (.int .u64 (o.time:Int)):=rfl
   have hdd:decide ((d.time:Int)≤(o.time:Int))=decide (d.time≤o.time):=by simp
   refine bJ ?_
   refine aA [] ?_
   simp only[seval,kZs,aN,Tryz.underlying81,bD,ne_eq,aY,apart,aO,Tryz.underlying3,aI,p1,p4]
   refine bK ?_
   refine bJ ?_
   refine aA [] ?_
   simp only[seval,kZs,cav,aL,aP,bH,beq_self_eq_true,aI]
   refine bG rfl ?_
   refine aE [3,4,5] ?_
   simp only[seval,kZq]
   refine aA [] ?_
   simp only[seval,kZs,aN,Tryz.underlying81,bD,ne_eq,aY,apart,aO,Tryz.underlying30,aL,o1,t2,p1,t1,aP,bH,hdd]
   simp only[bL,aI]
   refine next _ ?_
   rw[hnb]
   exact .of_keep [3,4,5,7] rfl
  by_cases k2:d.kind=2
  ·have ko:o.kind=2:=by omega
   rw[k2] at p4
   have hnb:nS d o=decide (o.time≤d.time):=by unfold nS;rw[if_neg (by omega)];rw[if_pos k2]
   have t1:(PA d qd).getD 1 .top=.val (.int .u64 (d.time:Int)):=rfl
   have t2:(PA o qo).getD 1 .top=.val (.int .u64 (o.time:Int)):=rfl
   have hdd:decide ((d.time:Int)≥(o.time:Int))=decide (o.time≤d.time):=by simp
   refine bJ ?_
   refine aA [] ?_
   simp only[seval,kZs,aN,Tryz.underlying81,bD,ne_eq,aY,apart,aO,Tryz.underlying3,aI,p1,p4]
   refine bK ?_
   refine bJ ?_
   refine aA [] ?_
   simp only[seval,kZs,cav,aL,aP,bH,aI]
   refine aR rfl ?_
   refine bJ ?_
   refine aA [] ?_
   simp only[seval,kZs,cav,aL,aP,bH,beq_self_eq_true,aI]
   refine bG rfl ?_
   refine aE [3,4,5] ?_
   simp only[seval,kZq]
   refine aA [] ?_
   simp only[seval,kZs,aN,Tryz.underlying81,bD,ne_eq,aY,apart,aO,Tryz.underlying30,aL,o1,t2,p1,t1,aP,bH,hdd]
   simp only[bL,aI]
   refine next _ ?_
   rw[hnb]
   exact .of_keep [3,4,5,7] rfl
  by_cases k4:d.kind=4
  ·have ko:o.kind=4:=by omega
   rw[k4] at p4
   have hnb:nS d o=pQ o.path d.path:=by unfold nS;rw[if_neg (by omega)];rw[if_neg (by omega)];rw[if_neg (by omega)];rw[if_pos k4]
   have t1:(PA d qd).getD 3 .top=.val (.string ⟨d.path.toArray⟩):=rfl
   have t2:(PA o qo).getD 3 .top=.val (.string ⟨o.path.toArray⟩):=rfl
   have cU:=aJz o.path d.path (ho.ok l2).small.2.2.2 (hd.ok l1).small.2.2.2
   simp only[str] at cU
   refine bJ ?_
   refine aA [] ?_
   simp only[seval,kZs,aN,Tryz.underlying81,bD,ne_eq,aY,apart,aO,Tryz.underlying3,aI,p1,p4]
   refine bK ?_
   refine bJ ?_
   refine aA [] ?_
   simp only[seval,kZs,cav,aL,aP,bH,aI]
   refine aR rfl ?_
   refine bJ ?_
   refine aA [] ?_
   simp only[seval,kZs,cav,aL,aP,bH,aI]
   refine aR rfl ?_
   refine bJ ?_
   refine aA [] ?_
   simp only[seval,kZs,cav,aL,aP,bH,aI]
   refine aR rfl ?_
   refine bJ ?_
   refine aA [] ?_
   simp only[seval,kZs,cav,aL,aP,bH,beq_self_eq_true,aI]
   refine bG rfl ?_
   refine aE [3,4,5] ?_
   simp only[seval,kZq]
   refine aA [] ?_
   simp only[seval,kZs,aN,Tryz.underlying81,bD,ne_eq,aY,apart,aO,Tryz.underlying9,aU,bF,aT,bA,bW,List.headD_cons,List.tail_cons,p1,t1,aH,o1,t2]
   refine aV (by simp[aJ,aM,aH]) (cU) (by simp[aH,aM,aJ,flat]) ?_
   simp only[seval,kZs,aK]
   simp only[bL,aI]
   refine next _ ?_
   rw[hnb]
   exact .of_keep [3,4,5,7] rfl
  by_cases k5:d.kind=5
  ·have ko:o.kind=5:=by omega
   rw[k5] at p4
   have hnb:nS d o=sJ d.v6 d.addr d.bits o.v6 o.addr o.bits:=by unfold nS;rw[if_neg (by omega)];rw[if_neg (by omega)];rw[if_neg (by omega)];rw[if_neg (by omega)];rw[if_pos k5]
   have t1:=aGP d qd hd.addr
   have t2:=aGP o qo ho.addr
   have n1:=iZ d.v6 d.addr d.bits
   have n2:=iZ o.v6 o.addr o.bits
   have cU:=aKK d.v6 d.addr d.bits hd.addr o.v6 o.addr o.bits ho.addr
   refine bJ ?_
   refine aA [] ?_
   simp only[seval,kZs,aN,Tryz.underlying81,bD,ne_eq,aY,apart,aO,Tryz.underlying3,aI,p1,p4]
   refine bK ?_
   refine bJ ?_
   refine aA [] ?_
   simp only[seval,kZs,cav,aL,aP,bH,aI]
   refine aR rfl ?_
   refine bJ ?_
   refine aA [] ?_
   simp only[seval,kZs,cav,aL,aP,bH,aI]
   refine aR rfl ?_
   refine bJ ?_
   refine aA [] ?_
   simp only[seval,kZs,cav,aL,aP,bH,aI]
   refine aR rfl ?_
   refine bJ ?_
   refine aA [] ?_
   simp only[seval,kZs,cav,aL,aP,bH,aI]
   refine aR rfl ?_
   refine bJ ?_
   refine aA [] ?_
   simp only[seval,kZs,cav,aL,aP,bH,beq_self_eq_true,aI]
   refine bG rfl ?_
   refine aE [3,4,5] ?_
   simp only[seval,kZq]
   refine aA [] ?_
   simp only[seval,kZs,aN,Tryz.underlying81,bD,ne_eq,aY,apart,aO,Tryz.underlying79,aU,bF,aT,bA,bW,List.headD_cons,List.tail_cons,o1,t2,aH,p1,t1]
   refine aV (by simp[n1,n2,aM,aH]) cU rfl ?_
   simp only[seval,kZs,aK]
   simp only[bL,aI]
   refine next _ ?_
   rw[hnb]
   exact .of_keep [3,4,5,7] rfl
  by_cases k6:d.kind=6
  ·have ko:o.kind=6:=by omega
   rw[k6] at p4
   have hnb:nS d o=lS d.cost o.cost:=by unfold nS;rw[if_neg (by omega)];rw[if_neg (by omega)];rw[if_neg (by omega)];rw[if_neg (by omega)];rw[if_neg (by omega)];rw[if_pos k6]
   have t1:=aDU d qd hd.addr
   have t2:=aDU o qo ho.addr
   have hle:(Ieee.double.order d.cost o.cost == some .lt || Ieee.double.order d.cost o.cost == some .eq)=lS d.cost o.cost:=aMQ d.cost o.cost
   refine bJ ?_
   refine aA [] ?_
   simp only[seval,kZs,aN,Tryz.underlying81,bD,ne_eq,aY,apart,aO,Tryz.underlying3,aI,p1,p4]
   refine bK ?_
   refine bJ ?_
   refine aA [] ?_
   simp only[seval,kZs,cav,aL,aP,bH,aI]
   refine aR rfl ?_
   refine bJ ?_
   refine aA [] ?_
   simp only[seval,kZs,cav,aL,aP,bH,aI]
   refine aR rfl ?_
   refine bJ ?_
   refine aA [] ?_
   simp only[seval,kZs,cav,aL,aP,bH,aI]
   refine aR rfl ?_
   refine bJ ?_
   refine aA [] ?_
   simp only[seval,kZs,cav,aL,aP,bH,aI]
   refine aR rfl ?_
   refine bJ ?_
   refine aA [] ?_
   simp only[seval,kZs,cav,aL,aP,bH,aI]
   refine aR rfl ?_
   refine bJ ?_
   refine aA [] ?_
   simp only[seval,kZs,cav,aL,aP,bH,beq_self_eq_true,aI]
   refine bG rfl ?_
   refine aE [3,4,5] ?_
   simp only[seval,kZq]
   refine aA [] ?_
   simp only[seval,kZs,aN,Tryz.underlying81,bD,ne_eq,aY,apart,aO,Tryz.underlying27,aL,o1,t2,p1,t1,aP,rH,jU,hle]
   simp only[bL,aI]
   refine next _ ?_
   rw[hnb]
   exact .of_keep [3,4,5,7] rfl
  have kk:=vR v1
  have k3:d.kind=3:=by omega
  have hnb:nS d o=d.names.all fun s=>o.names.contains s:=by unfold nS;rw[if_neg k1,if_neg k2,if_pos k3]
  rw[k3] at p4
  have t1:(PA d qd).getD 2 .top=.sl d.names.length (dU d.names) qd:=rfl
  have t2:(PA o qo).getD 2 .top=.sl o.names.length (dU o.names) qo:=rfl
  have hs1:=dY d.names
  have hs2:=dY o.names
  rw[hnb] at next
  have m1:=hd.names
  have m2:=ho.names
  clear law hnb cH1 cH2 cR cc1 cc2 cC1 cC2 cL1 cL2 cO cAl
  generalize d.names=L1 at *
  generalize o.names=L2 at *
  refine bJ ?_
  refine aA [] ?_
  simp only[seval,kZs,aN,Tryz.underlying81,bD,ne_eq,aY,apart,aO,Tryz.underlying3,aI,p1,p4]
  refine bK ?_
  refine bJ ?_
  refine aA [] ?_
  simp only[seval,kZs,cav,aL,aP,bH,aI]
  refine aR rfl ?_
  refine bJ ?_
  refine aA [] ?_
  simp only[seval,kZs,cav,aL,aP,bH,aI]
  refine aR rfl ?_
  refine bJ ?_
  refine aA [] ?_
  simp only[seval,kZs,cav,aL,aP,bH,beq_self_eq_true,aI]
  refine bG rfl ?_
  refine aE [3,4,5] ?_
  simp only[seval,kZq]
  refine aC fun K hK=>aA [] ?_
  simp only[seval,kZs,cav,aI]
  and_intros<;>try first|exact⟨⟩|omega
  refine hK _ ?_
  clear hK K
  refine aE [3,4,5,7] ?_
  simp only[seval,kZq]
  refine aC fun K hK=>aA [] ?_
  simp only[seval,kZs,aN,Tryz.underlying81,bD,ne_eq,aY,apart,aO,Tryz.underlying43,bI,bV,eN,cav,aI,p1,t1]
  and_intros<;>try first|exact⟨⟩|omega
  refine hK _ ?_
  clear hK K
  refine aE [3,4,5,7,66,67,68] ?_
  simp only[seval,kZq]
  refine bK ?_
  refine bZ (fun i:Nat=>⟨131,[(3,.ptr 0 0),(4,.ptr 1 0),(5,.ptr 2 0),(7,.val (.bool ((L1.take i).all fun s=>L2.contains s))),(66,.sl L1.length (dU L1) qd),(67,.val (.int .i64 (L1.length:Int))),(68,.val (.int .i64 (i:Int)))],[.cells (PA d qd),.cells (PA o qo),.cells AK]⟩)
   (fun i=>i≤L1.length) (fun i=>L1.length - i) 0 (by omega) (.of_keep [3,4,5,7,66,67,68] rfl) ?_
  intro i hi
  by_cases hlt:i<L1.length
  ·have dd:decide (i<L1.length)=true:=decide_eq_true hlt
   have hgd:=mR hlt
   have hal:(L1.take (i+1)).all (fun s=>L2.contains s)=((L1.take i).all (fun s=>L2.contains s)&&L2.contains (L1.getD i [])):=aBv _ hlt
   simp only[str] at hgd
   generalize L1.getD i []=s at *
   generalize (L1.take i).all (fun s=>L2.contains s)=v at *
   refine aC fun K hK=>aA [] ?_
   simp only[seval,kZs,aL,aP,bH,jM,dd,aI]
   and_intros<;>try first|exact⟨⟩|omega
   refine hK _ ?_
   clear hK K
   refine bJ ?_
   refine bG rfl (bC ?_)
   simp only[aI]
   refine aC fun K3 hK3=>bK ?_
   refine aC fun K hK=>aA [] ?_
   simp only[seval,kZs,dN,Tryz.underlying43,bD,hs1,Nat.mul_one,Int.toNat_natCast,aY,apart,aO,Tryz.underlying9,aI,List.length_drop,fL,hgd]
   and_intros<;>try first|exact⟨⟩|omega
   refine hK _ ?_
   clear hK K
   refine aE [3,4,5,7,9,66,67,68] ?_
   simp only[seval,kZq]
   refine aC fun K hK=>aA [] ?_
   simp only[seval,kZs,cav,aI]
   and_intros<;>try first|exact⟨⟩|omega
   refine hK _ ?_
   clear hK K
   refine aE [3,4,5,7,9,10,66,67,68] ?_
   simp only[seval,kZq]
   refine aC fun K4 hK4=>?_
   refine aC fun K hK=>aA [] ?_
   simp only[seval,kZs,aN,Tryz.underlying81,bD,ne_eq,aY,apart,aO,Tryz.underlying43,bI,bV,eN,cav,aI,o1,t2]
   and_intros<;>try first|exact⟨⟩|omega
   refine hK _ ?_
   clear hK K
   refine aE [3,4,5,7,9,10,66,67,68,73,74,75] ?_
   simp only[seval,kZq]
   refine bK ?_
   refine bZ (fun j:Nat=>⟨131,[(3,.ptr 0 0),(4,.ptr 1 0),(5,.ptr 2 0),(7,.val (.bool v)),(9,.val (.string ⟨s.toArray⟩)),(10,.val (.bool ((L2.take j).contains s))),(66,.sl L1.length (dU L1) qd),(67,.val (.int .i64 (L1.length:Int))),(68,.val (.int .i64 (i:Int))),(73,.sl L2.length (dU L2) qo),(74,.val (.int .i64 (L2.length:Int))),(75,.val (.int .i64 (j:Int)))],[.cells (PA d qd),.cells (PA o qo),.cells AK]⟩)
    (fun j=>j≤L2.length) (fun j=>L2.length - j) 0 (by omega) (.of_keep [3,4,5,7,9,10,66,67,68,73,74,75] rfl) ?_
   intro j hj
   by_cases hjl:j<L2.length
   ·have d4:decide (j<L2.length)=true:=decide_eq_true hjl
    have hg2:=mR hjl
    have hco:(L2.take (j+1)).contains s=((L2.take j).contains s || (s == L2.getD j [])):=vS s hjl
    simp only[str] at hg2
    generalize L2.getD j []=x at *
    have w3:IntKind.i64.wrap ((j+1:Nat):Int)=((j+1:Nat):Int):=fD (by omega)
    refine aC fun K hK=>aA [] ?_
    simp only[seval,kZs,aL,aP,bH,jM,d4,aI]
    and_intros<;>try first|exact⟨⟩|omega
    refine hK _ ?_
    clear hK K
    refine bJ ?_
    refine bG rfl (bC ?_)
    simp only[aI]
    refine aC fun K5 hK5=>bK ?_
    refine aC fun K hK=>aA [] ?_
    simp only[seval,kZs,dN,Tryz.underlying43,bD,hs2,Nat.mul_one,Int.toNat_natCast,aY,apart,aO,Tryz.underlying9,aI,List.length_drop,fL,hg2]
    and_intros<;>try first|exact⟨⟩|omega
    refine hK _ ?_
    clear hK K
    generalize (L2.take j).contains s=w at *
    have fin:∀ st,gE GP st ⟨131,[(3,.ptr 0 0),(4,.ptr 1 0),(5,.ptr 2 0),(7,.val (.bool v)),(9,.val (.string ⟨s.toArray⟩)),(10,.val (.bool (w || (s == x)))),(66,.sl L1.length (dU L1) qd),(67,.val (.int .i64 (L1.length:Int))),(68,.val (.int .i64 (i:Int))),(73,.sl L2.length (dU L2) qo),(74,.val (.int .i64 (L2.length:Int))),(75,.val (.int .i64 (j:Int)))],[.cells (PA d qd),.cells (PA o qo),.cells AK]⟩→K5 st:=by
     intro st hw
     refine hK5 st (eX hw ?_)
     clear hw hK5 K5
     refine aA [] ?_
     simp only[seval,kZs,cav,aL,aP,bH,gO,w3,aI]
     refine⟨j+1,by omega,by omega,?_⟩
     rw[hco]
     exact .of_keep [3,4,5,7,9,10,66,67,68,73,74,75] rfl
    cases w with
    | true=>
     refine aA [] ?_
     simp only[seval,kZs,dD,bT,Option.bind_some,aW,eW,gok,bU,cav]
     simp only[bL,aI]
     refine fin _ ?_
     exact .of_keep [3,4,5,7,9,10,66,67,68,73,74,75] rfl
    | false=>
     refine aA [] ?_
     simp only[seval,kZs,dD,bT,Option.bind_some,aW,Bool.not_false,dQ,gok,aL,aP,gL,ByteArray.toList_mk,bU,cav]
     simp only[bL,aI]
     refine fin _ ?_
     rw[Bool.false_or]
     exact .of_keep [3,4,5,7,9,10,66,67,68,73,74,75] rfl
   have d4:decide (j<L2.length)=false:=decide_eq_false hjl
   have he:j=L2.length:=by omega
   subst he
   refine aC fun K hK=>aA [] ?_
   simp only[seval,kZs,aL,aP,bH,jM,d4,aI]
   and_intros<;>try first|exact⟨⟩|omega
   refine hK _ ?_
   clear hK K
   refine bJ ?_
   refine aR rfl ?_
   refine dR ?_
   simp only[bL,aI,if_true]
   refine hK4 _ ?_
   clear hK4 K4
   rw[List.take_length]
   refine aE [3,4,5,7,10,66,67,68] ?_
   simp only[seval,kZq]
   generalize L2.contains s=w at *
   have w3:IntKind.i64.wrap ((i+1:Nat):Int)=((i+1:Nat):Int):=fD (by omega)
   have fin:∀ st,gE GP st ⟨131,[(3,.ptr 0 0),(4,.ptr 1 0),(5,.ptr 2 0),(7,.val (.bool (v&&w))),(66,.sl L1.length (dU L1) qd),(67,.val (.int .i64 (L1.length:Int))),(68,.val (.int .i64 (i:Int)))],[.cells (PA d qd),.cells (PA o qo),.cells AK]⟩→K3 st:=by
    intro st hw
    refine hK3 st (eX hw ?_)
    clear hw hK3 K3
    refine aA [] ?_
    simp only[seval,kZs,cav,aL,aP,bH,gO,w3,aI]
    refine⟨i+1,by omega,by omega,?_⟩
    rw[hal]
    exact .of_keep [3,4,5,7,66,67,68] rfl
   cases v with
   | true=>
    refine aA [] ?_
    simp only[seval,kZs,dD,bT,Option.bind_some,aW,dQ,gok,bU,cav]
    simp only[bL,aI]
    refine fin _ ?_
    rw[Bool.true_and]
    exact .of_keep [3,4,5,7,66,67,68] rfl
   | false=>
    refine aA [] ?_
    simp only[seval,kZs,dD,bT,Option.bind_some,aW,Bool.not_true,eW,gok,bU,cav]
    simp only[bL,aI]
    refine fin _ ?_
    exact .of_keep [3,4,5,7,66,67,68] rfl
  have dd:decide (i<L1.length)=false:=decide_eq_false hlt
  have he:i=L1.length:=by omega
  subst he
  refine aC fun K hK=>aA [] ?_
  simp only[seval,kZs,aL,aP,bH,jM,dd,aI]
  and_intros<;>try first|exact⟨⟩|omega
  refine hK _ ?_
  clear hK K
  refine bJ ?_
  refine aR rfl ?_
  refine dR ?_
  simp only[bL,aI,if_true]
  refine next _ ?_
  rw[List.take_length]
  exact .of_keep [3,4,5,7] rfl
 have dk:(d.kind != o.kind)=true:=bne_iff_ne.2 hk
 simp only[seval,kZs,aK,dD,bT,Option.bind_some,aW,Bool.not_false,dQ,gok,aun,Bool.not_true,bU,cav,aN,Tryz.underlying81,bD,ne_eq,aY,apart,aO,Tryz.underlying3,aL,aI,o1,o4,p1,p4,aP,bH,dk]
 exact nope _ rfl rfl rfl
end Go.Proofs.YtefdnmeopbkflaaGreatDoor
namespace Go.Proofs.YtefdnmeopbkflaaGreatDoor
open Go Go.V
set_option linter.unusedSimpArgs false
set_option linter.unusedVariables false
set_option maxRecDepth 20000
set_option maxRecDepth 100000
theorem aJE [Gv] {H:Type} (l:List (List UInt8)):Rows.uptoBulkAll (l.map fun s=>(DataW.lit (.string s):DataW H))=kF l:=by
 induction l with
 | nil=>rfl
 | cons x xs ih=>simp only[List.map_cons,Rows.uptoBulkAll,Rows.uptoBulk,kF,ih]
theorem aHO [Gv] {H:Type} {enc:TypeId×Value→H} {P:Program} {w:World} {base:Nat} {held:Bool} {t e:TypeId} {fuel:Nat} {cs:List Value} {x:DataW H×List MemPlace} (ht:P.underlying t=some (.slice e)) (he:P.underlying e=some .string) (hc:P.cellsOf e=1)
  (h:DataW.trod enc P w base (fun _=>true) held fuel t cs=some x) :
  ∃ (v:Value) (l:List (List UInt8)) (N:Nat),cs=[v]∧kF l≤Rows.uptoBulk x.1∧∀ M,N≤M→bE (Env.start w M) (.sl l.length (dU l) .no) v:=by
 rcases Deep.open_strs ht he hc h with⟨rfl,rfl⟩|⟨a,len,cap,m,Sx,rfl,hb,hl,hm,hmm,rfl,each⟩
 ·refine⟨_,[],0,rfl,by simp[kF],fun M _=>?_⟩
  simp only[bE]
  exact⟨none,0,rfl,Nat.le_refl _,.inl rfl,trivial⟩
 ·have hmm':=hmm
  obtain⟨l,hld⟩:∃ l,(List.range len).map (fun i=>(Sx i).data.toList)=l:=⟨_,rfl⟩
  have hll:l.length=len:=by rw[← hld];simp
  have hbk:(List.range len).map (fun i=>(DataW.lit (.string (Sx i).data.toList):DataW H))=l.map fun s=>.lit (.string s):=by
   rw[← hld,List.map_map];rfl
  have hbulk:kF l≤Rows.uptoBulk (DataW.slice ((List.range len).map fun i=>.lit (.string (Sx i).data.toList)) ((List.range (m - len)).map fun j=>.lit (.string (Sx (len+j)).data.toList)):DataW H):=by
   simp only[Rows.uptoBulk]
   rw[hbk,aJE]
   omega
  have hml:len≤m:=by rw[hmm];split<;>omega
  by_cases h0:len=0
  ·refine⟨_,l,0,rfl,hbulk,fun M _=>?_⟩
   have:l=[]:=List.length_eq_zero_iff.1 (by omega)
   subst this
   subst h0
   simp only[bE]
   exact⟨_,cap,rfl,hl,.inl rfl,trivial⟩
  obtain⟨b,off,spot⟩:=a
  have hspot:spot=none:=by
   have h1:=(each 0 (by omega)).1
   simpa[Addr.add] using World.cell?_spot h1
  subst hspot
  refine⟨_,l,off+len,rfl,hbulk,fun M hM=>?_⟩
  simp only[bE]
  refine⟨_,cap,by rw[hll],by rw[hll];exact hl,.inr ⟨b,off,rfl,?_,?_,eD.of_cell fun j c hj=>?_⟩,trivial⟩
  ·have h1:=(each 0 (by omega)).1
   rw[iK] at h1
   exact aDs h1
  ·rw[dY,hll]
   exact hM
  ·have hjl:j<len:=by
    have:=(List.getElem?_eq_some_iff.1 hj).1
    rwa [dY,hll] at this
   have h1:=(each j (by omega)).1
   rw[iK] at h1
   refine⟨_,h1,?_⟩
   have:c=str (Sx j).data.toList:=by
    rw[← hld] at hj
    simp[dU,hjl] at hj
    exact hj.symm
   rw[this]
   simp only[str,bE]
section
variable {H:Type} {enc:TypeId×Value→H} {P:Program} {w:World} {base:Nat} {sp:Nat→Bool} {held:Bool}
theorem aAA [Gv] {t:TypeId} {fuel:Nat} {cs:List Value} {x:DataW H×List MemPlace} {k:FloatKind} (ht:P.underlying t=some (.float k)) (h:DataW.trod enc P w base sp held fuel t cs=some x):∃ b,cs=[.float k b]∧(Lit.float k b).wf=true:=by
 cases fuel with
 | zero=>simp[DataW.trod] at h
 | succ n=>
  unfold DataW.trod at h
  rw[ht] at h
  split at h<;>simp_all
theorem aBn [Gv] {t e:TypeId} {fuel n:Nat} {cs:List Value} {x:DataW H×List MemPlace} (ht:P.underlying t=some (.array n e)) (he:P.underlying e=some (.int .u8)) (hc:P.cellsOf e=1) (hn:P.cellsOf t=n) (h:DataW.trod enc P w base sp held fuel t cs=some x) :
  ∃ b:List UInt8,b.length=n∧cs=b.map fun c=>Value.int .u8 (c.toNat:Int):=by
 obtain⟨xs,m,rfl,_,hl,hxl,hx⟩:=DataW.trod_array ht h
 have hl':cs.length=n:=by rw[hl,hn]
 have each:∀ i,i<n→∃ c:UInt8,cs[i]? = some (.int .u8 (c.toNat:Int)):=by
  intro i hi
  have h1:=hx i hi
  rw[hc,Nat.mul_one] at h1
  obtain⟨x,hx'⟩:∃ x,xs[i]? = some x:=⟨xs[i]'(by omega),List.getElem?_eq_getElem (by omega)⟩
  rw[hx'] at h1
  obtain⟨z,hz,_,hw⟩:=DataW.trod_int he h1
  have h0:=congrArg (fun l=>l[0]?) hz
  simp only[Lit.wf,Bool.and_eq_true,decide_eq_true_eq] at hw
  have e1:IntKind.u8.min=0:=by decide
  have e2:IntKind.u8.max=255:=by decide
  refine⟨UInt8.ofNat z.toNat,?_⟩
  have hz2:((UInt8.ofNat z.toNat).toNat:Int)=z:=by
   rw[UInt8.toNat_ofNat']
   have:z.toNat<256:=by omega
   rw[Nat.mod_eq_of_lt (by simpa using this)]
   omega
  rw[hz2]
  simpa[List.getElem?_take,List.getElem?_drop] using h0
 refine⟨(List.range n).map fun i=>if h:i<n then Classical.choose (each i h) else 0,by simp,?_⟩
 apply List.ext_getElem?
 intro i
 by_cases hi:i<n
 ·rw[Classical.choose_spec (each i hi)]
  simp[hi]
 ·rw[List.getElem?_eq_none (by omega),List.getElem?_eq_none (by simp;omega)]
end
theorem aPb [Gv] (l:List Value) (h:l.length=23):l=(l.drop 0).take 1++((l.drop 1).take 1++((l.drop 2).take 1++((l.drop 3).take 1++((l.drop 4).take 18++(l.drop 22).take 1)))):=by
 have e:∀ (a b:Nat),(l.drop a).take b++l.drop (a+b)=l.drop a:=fun a b=>by
  rw[← List.drop_drop]
  exact List.take_append_drop b (l.drop a)
 have e22:(l.drop 22).take 1=l.drop 22:=List.take_of_length_le (by simp;omega)
 rw[e22,e 4 18,e 3 1,e 2 1,e 1 1,e 0 1,List.drop_zero]
theorem aPY [Gv] (l:List Value) (h:l.length=18):l=(l.drop 0).take 17++(l.drop 17).take 1:=by
 rw[show (l.drop 17).take 1=l.drop 17 from List.take_of_length_le (by simp;omega),List.drop_zero,List.take_append_drop]
theorem aLx [Gv] (l:List Value) (h:l.length=17):l=(l.drop 0).take 1++(l.drop 1).take 16:=by
 rw[show (l.drop 1).take 16=l.drop 1 from List.take_of_length_le (by simp;omega),List.drop_zero,List.take_append_drop]
theorem aCy [Gv] {H:Type} {enc:TypeId×Value→H} {w:World} {base base0:Nat} {held:Bool} {v:Value} {d:DataW H} {p:List MemPlace} (hok:Value.okWide Tryz.prog w .any base0 81 v) (h:DataW.Trod enc Tryz.prog w base (fun _=>true) held 81 v d p) :
  ∃ (pv:PV) (N:Nat),pv.addr.length=16∧pv.time<18446744073709551616∧(-9223372036854775808≤pv.bits∧pv.bits≤9223372036854775807)∧pv.cost<18446744073709551616∧pv.path.length+kF pv.names≤Rows.uptoBulk d∧∀ M,N≤M→bE (Env.start w M) (.agg (PA pv .no)) v:=by
 obtain⟨cs,rfl⟩:∃ cs,v=.agg cs:=by
  unfold Value.okWide at hok
  rw[Tryz.underlying81] at hok
  obtain⟨cs,rfl,_⟩:=hok
  exact⟨cs,rfl⟩
 obtain⟨fuel,hf⟩:=h
 obtain⟨xs,n,rfl,hd,hl,hlen,hx⟩:=DataW.trod_struct Tryz.underlying81 hf
 simp only[Value.cells] at hl hx
 obtain⟨L⟩:=cs
 simp only at hl hx
 have hn:Tryz.prog.cellsOf 81=23:=by kernel_rfl
 rw[hn] at hl
 have s3:Tryz.prog.cellsOf 3=1:=by kernel_rfl
 have s30:Tryz.prog.cellsOf 30=1:=by kernel_rfl
 have s43:Tryz.prog.cellsOf 43=1:=by kernel_rfl
 have s9:Tryz.prog.cellsOf 9=1:=by kernel_rfl
 have s79:Tryz.prog.cellsOf 79=18:=by kernel_rfl
 have s27:Tryz.prog.cellsOf 27=1:=by kernel_rfl
 match xs,hlen with
 | [x0,x1,x2,x3,x4,x5],_=>
 have f0:=hx 0 _ rfl
 change DataW.trod enc Tryz.prog w base (fun _=>true) held n 3 ((L.drop 0).take (Tryz.prog.cellsOf 3))=some x0 at f0
 rw[s3] at f0
 have f1:=hx 1 _ rfl
 change DataW.trod enc Tryz.prog w base (fun _=>true) held n 30 ((L.drop 1).take (Tryz.prog.cellsOf 30))=some x1 at f1
 rw[s30] at f1
 have f2:=hx 2 _ rfl
 change DataW.trod enc Tryz.prog w base (fun _=>true) held n 43 ((L.drop 2).take (Tryz.prog.cellsOf 43))=some x2 at f2
 rw[s43] at f2
 have f3:=hx 3 _ rfl
 change DataW.trod enc Tryz.prog w base (fun _=>true) held n 9 ((L.drop 3).take (Tryz.prog.cellsOf 9))=some x3 at f3
 rw[s9] at f3
 have f4:=hx 4 _ rfl
 change DataW.trod enc Tryz.prog w base (fun _=>true) held n 79 ((L.drop 4).take (Tryz.prog.cellsOf 79))=some x4 at f4
 rw[s79] at f4
 have f5:=hx 5 _ rfl
 change DataW.trod enc Tryz.prog w base (fun _=>true) held n 27 ((L.drop 22).take (Tryz.prog.cellsOf 27))=some x5 at f5
 rw[s27] at f5
 obtain⟨k,e0,_,w0⟩:=DataW.trod_int Tryz.underlying3 f0
 obtain⟨t,e1,_,w1⟩:=DataW.trod_int Tryz.underlying30 f1
 obtain⟨nv,names,N,e2,b2,r2⟩:=aHO Tryz.underlying43 Tryz.underlying9 s9 f2
 obtain⟨s,e3,b3,w3⟩:=DataW.trod_string Tryz.underlying9 f3
 obtain⟨c,e5,w5⟩:=aAA Tryz.underlying27 f5
 obtain⟨L4,hL4⟩:∃ L4,(L.drop 4).take 18=L4:=⟨_,rfl⟩
 rw[hL4] at f4
 obtain⟨ys,n2,hn2,_,hl2,hlen2,hy⟩:=DataW.trod_struct Tryz.underlying79 f4
 have s26:Tryz.prog.cellsOf 26=17:=by kernel_rfl
 rw[s79] at hl2
 match ys,hlen2 with
 | [y0,y1],_=>
 have g0:=hy 0 _ rfl
 change DataW.trod enc Tryz.prog w base (fun _=>true) held n2 26 ((L4.drop 0).take (Tryz.prog.cellsOf 26))=some y0 at g0
 rw[s26] at g0
 have g1:=hy 1 _ rfl
 change DataW.trod enc Tryz.prog w base (fun _=>true) held n2 3 ((L4.drop 17).take (Tryz.prog.cellsOf 3))=some y1 at g1
 rw[s3] at g1
 obtain⟨L5,hL5⟩:∃ L5,(L4.drop 0).take 17=L5:=⟨_,rfl⟩
 rw[hL5] at g0
 obtain⟨bits,e4,_,w4⟩:=DataW.trod_int Tryz.underlying3 g1
 obtain⟨zs,n3,hn3,_,hl3,hlen3,hz⟩:=DataW.trod_struct Tryz.underlying26 g0
 have s4:Tryz.prog.cellsOf 4=1:=by kernel_rfl
 have s24:Tryz.prog.cellsOf 24=16:=by kernel_rfl
 have s5:Tryz.prog.cellsOf 5=1:=by kernel_rfl
 rw[s26] at hl3
 match zs,hlen3 with
 | [z0,z1],_=>
 have q0:=hz 0 _ rfl
 change DataW.trod enc Tryz.prog w base (fun _=>true) held n3 4 ((L5.drop 0).take (Tryz.prog.cellsOf 4))=some z0 at q0
 rw[s4] at q0
 have q1:=hz 1 _ rfl
 change DataW.trod enc Tryz.prog w base (fun _=>true) held n3 24 ((L5.drop 1).take (Tryz.prog.cellsOf 24))=some z1 at q1
 rw[s24] at q1
 obtain⟨v6,e6,_⟩:=DataW.trod_bool Tryz.underlying4 q0
 obtain⟨b,hb,e7⟩:=aBn Tryz.underlying24 Tryz.underlying5 s5 s24 q1
 have hL:=aPb L hl
 rw[e0,e1,e2,e3,hL4,e5,aPY L4 hl2,hL5,e4,aLx L5 hl3,e6,e7] at hL
 simp only[Lit.wf,Bool.and_eq_true,decide_eq_true_eq] at w0 w1 w4 w5
 have m1:IntKind.u64.min=0:=by decide
 have m2:IntKind.u64.max=18446744073709551615:=by decide
 have m3:IntKind.i64.min=-9223372036854775808:=by decide
 have m4:IntKind.i64.max=9223372036854775807:=by decide
 refine⟨⟨k,t.toNat,names,s.data.toList,v6,b,bits,c⟩,N,hb,by show t.toNat<_;omega,⟨by show _≤bits;omega,by show bits≤_;omega⟩,?_,?_,fun M hM=>?_⟩
 ·show c<_
  rw[nH] at w5
  omega
 ·have hd1:=congrArg Prod.fst hd
  simp only[List.map_cons,List.map_nil] at hd1
  rw[hd1,b3]
  simp only[Rows.uptoBulk,Rows.uptoBulkAll]
  show s.data.toList.length+kF names≤_
  omega
 ·have ht:((t.toNat:Nat):Int)=t:=by omega
  rw[hL]
  simp only[bE]
  refine⟨_,rfl,?_⟩
  unfold PA PD NT
  simp only[ht,List.cons_append,List.nil_append,List.append_assoc,bY,bE,str]
  refine⟨_,_,rfl,rfl,_,_,rfl,rfl,_,_,rfl,?_,_,_,rfl,rfl,_,_,rfl,rfl,?_⟩
  ·have:=r2 M hM
   simpa only[bE] using this
  ·exact(oN _ b).append (by simp only[bY,bE];exact⟨_,_,rfl,rfl,_,_,rfl,rfl,rfl⟩)
theorem aPa [Gv] (l:List Value) (h:l.length=22):l=(l.drop 0).take 20++((l.drop 20).take 1++(l.drop 21).take 1):=by
 have e:∀ (a b:Nat),(l.drop a).take b++l.drop (a+b)=l.drop a:=fun a b=>by
  rw[← List.drop_drop]
  exact List.take_append_drop b (l.drop a)
 have e22:(l.drop 21).take 1=l.drop 21:=List.take_of_length_le (by simp;omega)
 rw[e22,e 20 1,e 0 20,List.drop_zero]
theorem aPZ [Gv] (l:List Value) (h:l.length=20):l=(l.drop 0).take 1++((l.drop 1).take 1++((l.drop 2).take 17++(l.drop 19).take 1)):=by
 have e:∀ (a b:Nat),(l.drop a).take b++l.drop (a+b)=l.drop a:=fun a b=>by
  rw[← List.drop_drop]
  exact List.take_append_drop b (l.drop a)
 have e22:(l.drop 19).take 1=l.drop 19:=List.take_of_length_le (by simp;omega)
 rw[e22,e 2 17,e 1 1,e 0 1,List.drop_zero]
theorem aJr [Gv] {H:Type} {enc:TypeId×Value→H} {w:World} {base base0:Nat} {held:Bool} {v:Value} {d:DataW H} {p:List MemPlace} (hok:Value.okWide Tryz.prog w .any base0 32 v) (h:DataW.Trod enc Tryz.prog w base (fun _=>true) held 32 v d p) :
  ∃ (rq:RV) (u c:Nat),rq.addr.length=16∧rq.op.length<9223372036854775808∧rq.path.length<9223372036854775808∧u<18446744073709551616∧c<18446744073709551616∧
   ∀ E:Env,bE E (.agg (RA rq++[.val (.int .u64 (u:Int)),.val (.int .u64 (c:Int))])) v:=by
 obtain⟨cs,rfl⟩:∃ cs,v=.agg cs:=by
  unfold Value.okWide at hok
  rw[Tryz.underlying32] at hok
  obtain⟨cs,rfl,_⟩:=hok
  exact⟨cs,rfl⟩
 obtain⟨fuel,hf⟩:=h
 obtain⟨xs,n,rfl,hd,hl,hlen,hx⟩:=DataW.trod_struct Tryz.underlying32 hf
 simp only[Value.cells] at hl hx
 obtain⟨L⟩:=cs
 simp only at hl hx
 have hn:Tryz.prog.cellsOf 32=22:=by kernel_rfl
 rw[hn] at hl
 have s30:Tryz.prog.cellsOf 30=1:=by kernel_rfl
 have s9:Tryz.prog.cellsOf 9=1:=by kernel_rfl
 have s29:Tryz.prog.cellsOf 29=20:=by kernel_rfl
 have s27:Tryz.prog.cellsOf 27=1:=by kernel_rfl
 have s26:Tryz.prog.cellsOf 26=17:=by kernel_rfl
 have s4:Tryz.prog.cellsOf 4=1:=by kernel_rfl
 have s24:Tryz.prog.cellsOf 24=16:=by kernel_rfl
 have s5:Tryz.prog.cellsOf 5=1:=by kernel_rfl
 match xs,hlen with
 | [x0,x1,x2],_=>
 have f0:=hx 0 _ rfl
 change DataW.trod enc Tryz.prog w base (fun _=>true) held n 29 ((L.drop 0).take (Tryz.prog.cellsOf 29))=some x0 at f0
 rw[s29] at f0
 have f1:=hx 1 _ rfl
 change DataW.trod enc Tryz.prog w base (fun _=>true) held n 30 ((L.drop 20).take (Tryz.prog.cellsOf 30))=some x1 at f1
 rw[s30] at f1
 have f2:=hx 2 _ rfl
 change DataW.trod enc Tryz.prog w base (fun _=>true) held n 30 ((L.drop 21).take (Tryz.prog.cellsOf 30))=some x2 at f2
 rw[s30] at f2
 obtain⟨u,e1,_,w1⟩:=DataW.trod_int Tryz.underlying30 f1
 obtain⟨c,e2,_,w2⟩:=DataW.trod_int Tryz.underlying30 f2
 obtain⟨L4,hL4⟩:∃ L4,(L.drop 0).take 20=L4:=⟨_,rfl⟩
 rw[hL4] at f0
 obtain⟨ys,n2,hn2,_,hl2,hlen2,hy⟩:=DataW.trod_struct Tryz.underlying29 f0
 rw[s29] at hl2
 match ys,hlen2 with
 | [y0,y1,y2,y3],_=>
 have g0:=hy 0 _ rfl
 change DataW.trod enc Tryz.prog w base (fun _=>true) held n2 9 ((L4.drop 0).take (Tryz.prog.cellsOf 9))=some y0 at g0
 rw[s9] at g0
 have g1:=hy 1 _ rfl
 change DataW.trod enc Tryz.prog w base (fun _=>true) held n2 9 ((L4.drop 1).take (Tryz.prog.cellsOf 9))=some y1 at g1
 rw[s9] at g1
 have g2:=hy 2 _ rfl
 change DataW.trod enc Tryz.prog w base (fun _=>true) held n2 26 ((L4.drop 2).take (Tryz.prog.cellsOf 26))=some y2 at g2
 rw[s26] at g2
 have g3:=hy 3 _ rfl
 change DataW.trod enc Tryz.prog w base (fun _=>true) held n2 27 ((L4.drop 19).take (Tryz.prog.cellsOf 27))=some y3 at g3
 rw[s27] at g3
 obtain⟨L5,hL5⟩:∃ L5,(L4.drop 2).take 17=L5:=⟨_,rfl⟩
 rw[hL5] at g2
 obtain⟨op,e3,_,w3⟩:=DataW.trod_string Tryz.underlying9 g0
 obtain⟨pa,e4,_,w4⟩:=DataW.trod_string Tryz.underlying9 g1
 obtain⟨co,e5,_⟩:=aAA Tryz.underlying27 g3
 obtain⟨zs,n3,hn3,_,hl3,hlen3,hz⟩:=DataW.trod_struct Tryz.underlying26 g2
 rw[s26] at hl3
 match zs,hlen3 with
 | [z0,z1],_=>
 have q0:=hz 0 _ rfl
 change DataW.trod enc Tryz.prog w base (fun _=>true) held n3 4 ((L5.drop 0).take (Tryz.prog.cellsOf 4))=some z0 at q0
 rw[s4] at q0
 have q1:=hz 1 _ rfl
 change DataW.trod enc Tryz.prog w base (fun _=>true) held n3 24 ((L5.drop 1).take (Tryz.prog.cellsOf 24))=some z1 at q1
 rw[s24] at q1
 obtain⟨v6,e6,_⟩:=DataW.trod_bool Tryz.underlying4 q0
 obtain⟨b,hb,e7⟩:=aBn Tryz.underlying24 Tryz.underlying5 s5 s24 q1
 have hL:=aPa L hl
 rw[hL4,e1,e2,aPZ L4 hl2,e3,e4,hL5,e5,aLx L5 hl3,e6,e7] at hL
 simp only[Lit.wf,Bool.and_eq_true,decide_eq_true_eq] at w1 w2
 have m1:IntKind.u64.min=0:=by decide
 have m2:IntKind.u64.max=18446744073709551615:=by decide
 have mm:maxLen=9223372036854775807:=rfl
 have o1:op.data.toList.length=op.size:=by rw[Array.length_toList];rfl
 have o2:pa.data.toList.length=pa.size:=by rw[Array.length_toList];rfl
 refine⟨⟨op.data.toList,pa.data.toList,v6,b,co⟩,u.toNat,c.toNat,hb,by show op.data.toList.length<_;omega,by show pa.data.toList.length<_;omega,by omega,by omega,fun E=>?_⟩
 have hu:((u.toNat:Nat):Int)=u:=by omega
 have hc:((c.toNat:Nat):Int)=c:=by omega
 rw[hL]
 simp only[bE]
 refine⟨_,rfl,?_⟩
 unfold RA AD
 simp only[hu,hc,List.cons_append,List.nil_append,List.append_assoc,bY,bE,str]
 refine⟨_,_,rfl,rfl,_,_,rfl,rfl,_,_,rfl,rfl,?_⟩
 exact(oN _ b).append (by simp only[bY,bE];exact⟨_,_,rfl,rfl,_,_,rfl,rfl,_,_,rfl,rfl,rfl⟩)
end Go.Proofs.YtefdnmeopbkflaaGreatDoor
namespace Go.Proofs.YtefdnmeopbkflaaGreatDoor
open Go
set_option linter.unusedSimpArgs false
set_option linter.unusedVariables false
set_option maxRecDepth 20000
set_option maxRecDepth 100000
abbrev eU:List (String×DataW Unit):=[("math/bits.deBruijn32tab",Rows.laid_math_bits_deBruijn32tab),("math/bits.deBruijn64tab",Rows.laid_math_bits_deBruijn64tab),("internal/strconv.uint64pow10",Rows.laid_internal_strconv_uint64pow10),("unicode/utf8.acceptRanges",Rows.laid_unicode_utf8_acceptRanges),("chitty/word.primes",Rows.laid_chitty_word_primes),("strconv.ErrRange",Rows.laid_strconv_ErrRange),("strconv.ErrSyntax",Rows.laid_strconv_ErrSyntax),("unicode/utf8.first",Rows.laid_unicode_utf8_first)]
theorem oI {P:Program} {x:String×DataW Unit} {l:List (String×DataW Unit)} {W:World} (h:laidMet P (x::l) W):laidMet P l W:=by
 obtain⟨n,d⟩:=x
 obtain⟨ps,⟨g,t,cs,fuel,p,q,_,_,_,_,hr,rfl⟩,hn,hall⟩:=h
 exact⟨q,hr,(List.nodup_append.1 hn).2.1,fun b off hm=>hall b off (List.mem_append_right _ hm)⟩
theorem aBN {P:Program} {W:World} {name nm:String} {d:DataW Unit} {rest:List (String×DataW Unit)} {g:Nat} {t:TypeId} {ms:Array (String×TypeId)}
  (hg:P.globalNamed name=some g) (hty:(P.globals[g]?).map (·.type)=some t) (ht:P.underlying t=some (.interface ms)) (h:laidMet P ((name,.iface nm d)::rest) W) :
  ∃ u v,W.cell? ⟨g,0,none⟩=some (.iface u v):=by
 obtain⟨ps,⟨g',t',cs,fuel,p,q,hg',ht',hvar,hd,_,_⟩,_⟩:=h
 obtain rfl:=Option.some.inj (hg.symm.trans hg')
 obtain rfl:=Option.some.inj (hty.symm.trans ht')
 obtain⟨f1,u,v,hcs,_⟩:=iface_of_trod ht hd
 refine⟨u,v,?_⟩
 rw[World.var?_cell hg hvar 0,← Array.getElem?_toList,hcs]
 rfl
theorem aOx {w:World} {N:Nat} {tab:List (Nat×List V.AV)} (h:∀ g cells,(g,cells)∈tab→0<cells.length∧cells.length≤N∧∀ i c,cells[i]? = some c→∃ v,c=.val v∧w.cell? ⟨g,i,none⟩=some v):V.GOk (V.Env.start w N) ⟨tab,[]⟩:=by
 intro g cells hm
 obtain⟨h1,h2,h3⟩:=h g cells hm
 obtain⟨v0,_,hv0⟩:=h3 0 _ (List.getElem?_eq_getElem h1)
 refine⟨V.aDs hv0,by simpa[V.Env.start] using h2,V.eD.of_cell fun i c hi=>?_,fun c hm=>?_⟩
 ·obtain⟨v,rfl,hv⟩:=h3 i c hi
  exact⟨v,by rw[Nat.zero_add];exact hv,rfl⟩
 ·obtain⟨i,hi,rfl⟩:=List.getElem_of_mem hm
  obtain⟨v,hv,_⟩:=h3 i _ (List.getElem?_eq_getElem hi)
  exact⟨v,hv⟩
theorem aAX {w:World} {g:Nat} {k:IntKind} {zs:List Int} (h:∀ i,i<zs.length→w.cell? ⟨g,i,none⟩=some (.int k (zs.getD i 0))) (i:Nat) (c:V.AV) (hi:(V.Is k zs)[i]? = some c):∃ v,c=.val v∧w.cell? ⟨g,i,none⟩=some v:=by
 have hi':i<zs.length:=by
  have:=(List.getElem?_eq_some_iff.1 hi).1
  simpa[V.dZ] using this
 have e:(V.Is k zs)[i]? = some (V.I k (zs.getD i 0)):=by
  simp[V.Is,List.getD_eq_getElem?_getD,List.getElem?_map,List.getElem?_eq_getElem hi']
 rw[e] at hi
 injection hi with hi
 subst hi
 exact⟨_,rfl,h i hi'⟩
theorem aEE {P:Program} {w:World} {g:Nat} {t:TypeId} {k:IntKind} {zero:Array Value} (h:w.ShapedOpen P) (hg:g<P.globals.size)
  (h0:((begin P (fun _ _=>0) default).world.heap[g]?).bind Obj.row? = some (zero,t)) (hz:zero.size=1)
  (hb:P.buildable t=true) (hc:P.cellTypes P.depth t=some [t]) (hu:P.underlying t=some (.int k)):∃ n,w.cell? ⟨g,0,none⟩=some (.int k n):=by
 obtain⟨cs,hh,hs,hr⟩:=h.1 g zero t hg h0
 obtain⟨ts,hts,_,hall⟩:=hr hb
 rw[hc] at hts
 cases hts
 have h1:0<cs.size:=by omega
 obtain⟨u,hu',hok⟩:=hall 0 cs[0] (by simp[h1])
 have:u=t:=by simpa using hu'.symm
 subst this
 have hcell:w.cell? ⟨g,0,none⟩=some cs[0]:=by simp[World.cell?,hh,h1]
 rw[hcell]
 unfold Cell.ok at hok
 rw[hu] at hok
 cases hv:cs[0]<;>rw[hv] at hok<;>first|(obtain⟨rfl,_⟩:=hok;exact⟨_,rfl⟩)|simp at hok
theorem gok {W:World} (hL:laidMetH Tryz.prog eU W) (hs:W.ShapedOpen Tryz.prog):∃ G:Gv,∀ n,512≤n→V.GOk (V.Env.start W n) (@GP G):=by
 have h0:laidMet Tryz.prog eU W:=by
  unfold laidMetH at hL
  rw[show (eU.filter fun x=>x.2.handleName?.isSome)=[] from by kernel_rfl] at hL
  exact hL
 have h1:=oI h0
 have h2:=oI h1
 have h4:=oI (oI h2)
 have h5:=oI h4
 have h6:=oI h5
 have n2:Tryz.prog.globalNamed "math/bits.deBruijn64tab" = some 2:=by kernel_rfl
 have n1:Tryz.prog.globalNamed "internal/strconv.uint64pow10" = some 1:=by kernel_rfl
 have n9:Tryz.prog.globalNamed "chitty/word.primes" = some 9:=by kernel_rfl
 have n4:Tryz.prog.globalNamed "strconv.ErrRange" = some 4:=by kernel_rfl
 have n3:Tryz.prog.globalNamed "strconv.ErrSyntax" = some 3:=by kernel_rfl
 have t2:Lib.TabIs Tryz.prog W "math/bits.deBruijn64tab" .u8 aHl:=Lib.tabIs_of_head n2 (t:=336) (e:=5) (n:=64) (by kernel_rfl) (by kernel_rfl) (by kernel_rfl) (by kernel_rfl) (by kernel_rfl) h1
 have t1:Lib.TabIs Tryz.prog W "internal/strconv.uint64pow10" .u64 aHm:=Lib.tabIs_of_head n1 (t:=330) (e:=30) (n:=20) (by kernel_rfl) (by kernel_rfl) (by kernel_rfl) (by kernel_rfl) (by kernel_rfl) h2
 have t9:Lib.TabIs Tryz.prog W "chitty/word.primes" .u32 V.aGE:=Lib.tabIs_of_head n9 (t:=371) (e:=279) (n:=64) (by kernel_rfl) (by kernel_rfl) (by kernel_rfl) (by kernel_rfl) (by kernel_rfl) h4
 obtain⟨rT,rP,c4⟩:=aBN n4 (t:=206) (ms:=#[("Error",301)]) (by kernel_rfl) (by kernel_rfl) h5
 obtain⟨sT,sP,c3⟩:=aBN n3 (t:=206) (ms:=#[("Error",301)]) (by kernel_rfl) (by kernel_rfl) h6
 obtain⟨m,c5⟩:=aEE (k:=.i64) (t:=3) (g:=5) (zero:=#[.int .i64 0]) hs (of_decide_eq_true (by kernel_rfl)) (by kernel_rfl) rfl (by kernel_rfl) (by kernel_rfl) (by kernel_rfl)
 refine⟨⟨m,sT,sP,rT,rP⟩,fun n hn=>aOx fun g cells hm=>?_⟩
 simp only[List.mem_cons,List.not_mem_nil,or_false,Prod.mk.injEq] at hm
 rcases hm with⟨rfl,rfl⟩|⟨rfl,rfl⟩|⟨rfl,rfl⟩|⟨rfl,rfl⟩|⟨rfl,rfl⟩|⟨rfl,rfl⟩
 ·have e:V.aGE.length=64:=rfl
  exact⟨by rw[V.dZ,e];omega,by rw[V.dZ,e];omega,aAX fun i hi=>t9.cell n9 i hi⟩
 ·refine⟨by simp,by simp;omega,fun i c hi=>?_⟩
  rcases i with _|i
  ·injection hi with hi;subst hi;exact⟨_,rfl,c5⟩
  ·simp at hi
 ·refine⟨by simp,by simp;omega,fun i c hi=>?_⟩
  rcases i with _|i
  ·injection hi with hi;subst hi;exact⟨_,rfl,c3⟩
  ·simp at hi
 ·refine⟨by simp,by simp;omega,fun i c hi=>?_⟩
  rcases i with _|i
  ·injection hi with hi;subst hi;exact⟨_,rfl,c4⟩
  ·simp at hi
 ·have e:aHm.length=20:=rfl
  exact⟨by rw[V.dZ,e];omega,by rw[V.dZ,e];omega,aAX fun i hi=>t1.cell n1 i hi⟩
 ·have e:aHl.length=64:=rfl
  exact⟨by rw[V.dZ,e];omega,by rw[V.dZ,e];omega,aAX fun i hi=>t2.cell n2 i hi⟩
end Go.Proofs.YtefdnmeopbkflaaGreatDoor
namespace Go.Proofs.YtefdnmeopbkflaaGreatDoor
open Go
set_option linter.unusedVariables false
set_option maxRecDepth 20000
set_option maxRecDepth 1000000
def aLa:DataW Unit→List Value
 | .lit (.int k n)=>[.int k n]
 | _=>[]
def aQS:DataW Unit→List Value
 | .agg l=>l.flatMap aLa
 | d=>aLa d
def aCf:DataW Unit→List Value
 | .agg l=>l.flatMap aQS
 | d=>aLa d
noncomputable def kS (os:Os):World:=
 let N:=(World.settled Tryz.prog os).heap.size
 let w0:=World.holding Tryz.prog os ⟨#[.cells #[.string ⟨#[118,97,108,117,101,32,111,117,116,32,111,102,32,114,97,110,103,101]⟩] 357,.cells #[.string ⟨#[105,110,118,97,108,105,100,32,115,121,110,116,97,120]⟩] 357],#[],[]⟩
 let put (h:Array Obj) (g:Nat) (cs:Array Value):Array Obj:=h.modify g fun
  | .cells _ t frozen=>.cells cs t frozen
  | o=>o
 let h0:=put (put w0.heap 4 #[.iface 355 (.pointer (some ⟨N,0,none⟩))]) 3 #[.iface 355 (.pointer (some ⟨N+1,0,none⟩))]
 let h1:=put h0 6 (aCf Rows.laid_math_bits_deBruijn32tab).toArray
 let h2:=put h1 2 (aCf Rows.laid_math_bits_deBruijn64tab).toArray
 let h3:=put h2 1 (aCf Rows.laid_internal_strconv_uint64pow10).toArray
 let h4:=put h3 8 (aCf Rows.laid_unicode_utf8_acceptRanges).toArray
 let h5:=put h4 9 (aCf Rows.laid_chitty_word_primes).toArray
 let h6:=put h5 7 (aCf Rows.laid_unicode_utf8_first).toArray
 { w0 with heap:=h6 }
noncomputable abbrev N0:Nat:=(World.settled Tryz.prog default).heap.size
theorem aLt (os:Os) (args:Array Value):laidMet Tryz.prog eU ((kS os).forCall (fun _ _=>0) ⟨#[],args,[]⟩).memory:=
 (LaidIn.of_run (l:=eU) [6,2,1,8,9,4,N0,3,N0+1,7] 8 (by kernel_rfl) (by kernel_rfl) (by kernel_rfl) (by kernel_rfl)).met
theorem aJY (os:Os) (args:Array Value):laidMetH Tryz.prog eU ((kS os).forCall (fun _ _=>0) ⟨#[],args,[]⟩).memory:=by
 unfold laidMetH
 rw[show (eU.filter fun x=>x.2.handleName?.isSome)=[] from by kernel_rfl]
 exact aLt os args
end Go.Proofs.YtefdnmeopbkflaaGreatDoor
