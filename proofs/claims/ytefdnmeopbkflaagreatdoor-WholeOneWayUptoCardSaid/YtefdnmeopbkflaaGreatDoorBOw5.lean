/-
  Texts of one proof, merged: Lq, Lr, Ls, Ng, Lt, Lu, Lv, Lw, Lx, Ly, Lz, Lza, Lzb, Lzc, Nh, Ni, Nj, Nk, Nl, Lzd, Hc, Lze, Ma, Mb, Mc, Md, Me, Mf, Mg, Mh, Mi, Mj, Mn, Mo, Mp, Mq, Mr, Ms, Mk, Ml, Mm, Mt.
-/
import Derived.Test.YtefdnmeopbkflaaGreatDoorBOw4
import Derived.ProofKit
import Derived.WideShapes
import Derived.Test.YtefdnmeopbkflaaGreatDoorRows
import Derived.Deep.Strs
import Derived.Lib.ItoaLen
import Derived.Lib.IndexLaws
set_option linter.unusedSimpArgs false
set_option linter.unusedVariables false
namespace Go.Proofs.YtefdnmeopbkflaaGreatDoor
open Go Go.V
set_option linter.unusedSimpArgs false
set_option linter.unusedVariables false
set_option maxRecDepth 100000
theorem aKM [Gv] (t:Nat) (ht:t<18446744073709551616) (l:List (List UInt8)) (q:Perm) (hq:fG q=true) (pa:List UInt8) (M N:List AV) (c:Nat) (hM:MF M N c) :
  ACalls Tryz.prog GP 53 [.ptr 0 0] [.cells (PD 1 t l.length (dU l) q pa M)] (fun r os=>os=[.cells (PD 1 0 l.length (dU l) q pa M)]∧r=.tup [str [98,101,102,111,114,101],str (Lib.decDigits t)]):=by
 have cU:=aEA t ht
 have hn:=dP l
 have hMl:M.length=19:=by rw[hM.eq];simp[hM.len]
 have hMo:M.all dC=true:=by rw[hM.eq,List.all_append,hM.ones];rfl
 have hMn:aM M=true:=by rw[hM.eq,dK,hM.nor];rfl
 have hMt:M.take 19=M:=List.take_of_length_le (by omega)
 have hMd:M.drop 19=[]:=List.drop_eq_nil_of_le (by omega)
 simp only[str,PD] at *
 generalize Lib.decDigits t=D at *
 refine dB Tryz.func53 rfl rfl Tryz.ntmps53 (rts:=#[9,9]) rfl Tryz.results53 (by simp) ?_
 simp only[seval,aZ]
 refine ks [0,2,3] ?_
 refine kx [0,2,3,4] (kI hMl (kI hMt hMo)) ?_
 refine aC fun K1 hK1=>?_
 apply bJ
 refine ku [] hMl ?_
 apply bK
 refine aC fun K2 hK2=>?_
 apply bJ
 refine ko [] ?_
 refine bG rfl (bC ?_)
 simp only[seval,kT]
 refine hK2 _ ?_
 clear hK2 K2
 apply bG rfl
 refine kp [0,4] ?_
 refine kw [] hMl fun K2 hK2=>?_
 refine kc (cU) (hK2 _ ?_)
 clear hK2 K2
 refine kp [0,2,3,4] ?_
 refine aC fun K2 hK2=>?_
 refine ky (kI hMl @Nat.zero_lt_succ) ?_
 refine aR rfl (bC ?_)
 simp only[seval,kT]
 refine hK2 _ ?_
 clear hK2 K2
 refine kp [0,2,3] ?_
 refine ku [] hMl ?_
 simp only[seval,kT,kF]
 refine hK1 _ ?_
 clear hK1 K1
 refine kp [2,3] ?_
 refine ks [2,3] ?_
 apply aS
 refine fE (by simp) ?_ ?_
 ·intro o ho
  simp only[List.take_succ_cons,List.take_zero,List.mem_cons,List.not_mem_nil,or_false,List.length_cons,List.length_nil] at ho
  subst ho
  cases q<;>simp[fU,eV,ref,jH,bM _ _ hMn,bM _ _ hn,fG] at hq ⊢
 simp only[seval,kT,kN]
 rfl
theorem aKQ [Gv] (t:Nat) (ht:t<18446744073709551616) (l:List (List UInt8)) (q:Perm) (hq:fG q=true) (pa:List UInt8) (M N:List AV) (c:Nat) (hM:MF M N c) :
  ACalls Tryz.prog GP 53 [.ptr 0 0] [.cells (PD 2 t l.length (dU l) q pa M)] (fun r os=>os=[.cells (PD 2 0 l.length (dU l) q pa M)]∧r=.tup [str [115,105,110,99,101],str (Lib.decDigits t)]):=by
 have cU:=aEA t ht
 have hn:=dP l
 have hMl:M.length=19:=by rw[hM.eq];simp[hM.len]
 have hMo:M.all dC=true:=by rw[hM.eq,List.all_append,hM.ones];rfl
 have hMn:aM M=true:=by rw[hM.eq,dK,hM.nor];rfl
 have hMt:M.take 19=M:=List.take_of_length_le (by omega)
 have hMd:M.drop 19=[]:=List.drop_eq_nil_of_le (by omega)
 simp only[str,PD] at *
 generalize Lib.decDigits t=D at *
 refine dB Tryz.func53 rfl rfl Tryz.ntmps53 (rts:=#[9,9]) rfl Tryz.results53 (by simp) ?_
 simp only[seval,aZ]
 refine ks [0,2,3] ?_
 refine kx [0,2,3,4] (kI hMl (kI hMt hMo)) ?_
 refine aC fun K1 hK1=>?_
 apply bJ
 refine ku [] hMl ?_
 apply bK
 refine aC fun K2 hK2=>?_
 apply bJ
 refine ko [] ?_
 apply aR rfl
 refine ko [] ?_
 refine hK2 _ ?_
 clear hK2 K2
 apply bG rfl
 refine kp [0,4] ?_
 refine kw [] hMl fun K2 hK2=>?_
 refine kc (cU) (hK2 _ ?_)
 clear hK2 K2
 refine kp [0,2,3,4] ?_
 refine aC fun K2 hK2=>?_
 refine ky (kI hMl @Nat.zero_lt_succ) ?_
 apply bG rfl
 refine ko [] ?_
 refine hK2 _ ?_
 clear hK2 K2
 refine kp [0,2,3] ?_
 refine ku [] hMl ?_
 simp only[seval,kT,kF]
 refine hK1 _ ?_
 clear hK1 K1
 refine kp [2,3] ?_
 refine ks [2,3] ?_
 apply aS
 refine fE (by simp) ?_ ?_
 ·intro o ho
  simp only[List.take_succ_cons,List.take_zero,List.mem_cons,List.not_mem_nil,or_false,List.length_cons,List.length_nil] at ho
  subst ho
  cases q<;>simp[fU,eV,ref,jH,bM _ _ hMn,bM _ _ hn,fG] at hq ⊢
 simp only[seval,kT,kN]
 rfl
theorem aKP [Gv] (t:Nat) (pa:List UInt8) (hpa:pa.length≤200000) (l:List (List UInt8)) (q:Perm) (hq:fG q=true) (M N:List AV) (c:Nat) (hM:MF M N c) :
  ACalls Tryz.prog GP 53 [.ptr 0 0] [.cells (PD 4 t l.length (dU l) q pa M)] (fun r os=>os=[.cells (PD 4 t l.length (dU l) q [] M)]∧r=.tup [str [112,97,116,104],str (if iI pa then pa else [])]):=by
 have cR:=xR pa hpa
 have hn:=dP l
 have hMl:M.length=19:=by rw[hM.eq];simp[hM.len]
 have hMo:M.all dC=true:=by rw[hM.eq,List.all_append,hM.ones];rfl
 have hMn:aM M=true:=by rw[hM.eq,dK,hM.nor];rfl
 have hMt:M.take 19=M:=List.take_of_length_le (by omega)
 have hMd:M.drop 19=[]:=List.drop_eq_nil_of_le (by omega)
 have hx:∃ X,(if iI pa then pa else [])=X:=⟨_,rfl⟩
 obtain⟨X,hX⟩:=hx
 rw[hX]
 simp only[str,PD] at *
 refine dB Tryz.func53 rfl rfl Tryz.ntmps53 (rts:=#[9,9]) rfl Tryz.results53 (by simp) ?_
 simp only[seval,aZ]
 refine ks [0,2,3] ?_
 refine kx [0,2,3,4] (kI hMl (kI hMt hMo)) ?_
 refine aC fun K1 hK1=>?_
 apply bJ
 refine ku [] hMl ?_
 apply bK
 refine aC fun K2 hK2=>?_
 apply bJ
 refine ko [] ?_
 apply aR rfl
 refine ko [] ?_
 refine hK2 _ ?_
 clear hK2 K2
 apply aR rfl
 apply bJ
 refine ko [] ?_
 apply aR rfl
 apply bJ
 refine ko [] ?_
 apply bG rfl
 refine kp [0,3,4] ?_
 refine aC fun K2 hK2=>?_
 refine kw [] hMl fun K3 hK3=>?_
 refine kc (cR) (hK3 _ ?_)
 clear hK3 K3
 have next:∀ s,gE GP s ⟨63,[(0,.ptr 0 0),(3,.val (.string ⟨X.toArray⟩))],[.cells (.val (.int .i64 4)::.val (.int .u64 (t:Int))::.sl l.length (dU l) q::.val (.string ⟨pa.toArray⟩)::M),.cells (.val (.int .i64 4)::.val (.int .u64 (t:Int))::.sl l.length (dU l) q::.val (.string ⟨pa.toArray⟩)::M)]⟩→K2 s:=by
  intro s hw
  refine hK2 s (eX hw ?_)
  clear hw hK2 K2
  refine ku [] hMl ?_
  simp only[seval,kT,kF]
  refine hK1 _ ?_
  clear hK1 K1
  refine kp [2,3] ?_
  refine ks [2,3] ?_
  apply aS
  refine fE (by simp) ?_ ?_
  ·intro o ho
   simp only[List.take_succ_cons,List.take_zero,List.mem_cons,List.not_mem_nil,or_false,List.length_cons,List.length_nil] at ho
   subst ho
   cases q<;>simp[fU,eV,ref,jH,bM _ _ hMn,bM _ _ hn,fG] at hq ⊢
  simp only[seval,kT,kN]
  rfl
 cases hr:iI pa with
 | false=>
  rw[hr] at hX
  refine aR rfl (bC ?_)
  simp only[seval,kT]
  refine next _ ?_
  rw[← hX]
  exact .of_keep [0,3] rfl
 | true=>
  rw[hr] at hX
  apply bG rfl
  refine ku [] hMl ?_
  refine next _ ?_
  rw[← hX]
  exact .of_keep [0,3] rfl
theorem aKR [Gv] (k:Int) (hk:k<1∨6<k) (t:Nat) (l:List (List UInt8)) (q:Perm) (hq:fG q=true) (pa:List UInt8) (M N:List AV) (c:Nat) (hM:MF M N c) :
  ACalls Tryz.prog GP 53 [.ptr 0 0] [.cells (PD k t l.length (dU l) q pa M)] (fun r os=>os=[.cells (PD k t l.length (dU l) q pa M)]∧r=.tup [str [],str []]):=by
 have k1:(k == 1)=false:=by rw[beq_eq_false_iff_ne];omega
 have k2:(k == 2)=false:=by rw[beq_eq_false_iff_ne];omega
 have k3:(k == 3)=false:=by rw[beq_eq_false_iff_ne];omega
 have k4:(k == 4)=false:=by rw[beq_eq_false_iff_ne];omega
 have k5:(k == 5)=false:=by rw[beq_eq_false_iff_ne];omega
 have k6:(k == 6)=false:=by rw[beq_eq_false_iff_ne];omega
 have hn:=dP l
 have hMl:M.length=19:=by rw[hM.eq];simp[hM.len]
 have hMo:M.all dC=true:=by rw[hM.eq,List.all_append,hM.ones];rfl
 have hMn:aM M=true:=by rw[hM.eq,dK,hM.nor];rfl
 have hMt:M.take 19=M:=List.take_of_length_le (by omega)
 have hMd:M.drop 19=[]:=List.drop_eq_nil_of_le (by omega)
 simp only[str,PD] at *
 refine dB Tryz.func53 rfl rfl Tryz.ntmps53 (rts:=#[9,9]) rfl Tryz.results53 (by simp) ?_
 simp only[seval,aZ]
 refine ks [0,2,3] ?_
 refine kx [0,2,3,4] (kI hMl (kI hMt hMo)) ?_
 refine aC fun K1 hK1=>?_
 apply bJ
 refine ku [] hMl ?_
 apply bK
 refine aC fun K2 hK2=>?_
 apply bJ
 refine ku [] k1 ?_
 apply aR rfl
 refine ku [] k2 ?_
 refine hK2 _ ?_
 clear hK2 K2
 apply aR rfl
 apply bJ
 refine ku [] k3 ?_
 apply aR rfl
 apply bJ
 refine ku [] k4 ?_
 apply aR rfl
 apply bJ
 refine ku [] k5 ?_
 apply aR rfl
 apply bJ
 refine ku [] k6 ?_
 refine aR rfl (bC ?_)
 simp only[seval,kT,kF]
 refine hK1 _ ?_
 clear hK1 K1
 refine kp [2,3] ?_
 refine ks [2,3] ?_
 apply aS
 refine fE (by simp) ?_ ?_
 ·intro o ho
  simp only[List.take_succ_cons,List.take_zero,List.mem_cons,List.not_mem_nil,or_false,List.length_cons,List.length_nil] at ho
  subst ho
  cases q<;>simp[fU,eV,ref,jH,bM _ _ hMn,bM _ _ hn,fG] at hq ⊢
 simp only[seval,kT,kN]
 rfl
theorem aKO [Gv] (t:Nat) (c:Nat) (l:List (List UInt8)) (q:Perm) (hq:fG q=true) (pa:List UInt8) (v6:Bool) (b:List UInt8) (bits:Int) (hb:b.length=16) (h64:-9223372036854775808≤bits∧bits≤9223372036854775807) :
  ACalls Tryz.prog GP 53 [.ptr 0 0] [.cells (PD 5 t l.length (dU l) q pa (NT v6 b bits++[.val (.float .f64 c)]))] (fun r os=>os=[.cells (PD 5 t l.length (dU l) q pa (NT false (Z 16) 0++[.val (.float .f64 c)]))]∧r=.tup [str [110,101,116],str (aEK v6 b bits)]):=by
 have cN:=aMM v6 b bits hb h64
 have hn:=dP l
 have hNl:=fZ v6 b bits hb
 have hNo:=jO v6 b bits
 have hNn:=iZ v6 b bits
 have hMl:(NT v6 b bits++[AV.val (.float .f64 c)]).length=19:=by simp[hNl]
 have hMo:(NT v6 b bits++[AV.val (.float .f64 c)]).all dC=true:=by rw[List.all_append,hNo];rfl
 have hMn:aM (NT v6 b bits++[AV.val (.float .f64 c)])=true:=by rw[dK,hNn];rfl
 have hMt:(NT v6 b bits++[AV.val (.float .f64 c)]).take 19=NT v6 b bits++[AV.val (.float .f64 c)]:=List.take_of_length_le (by omega)
 have hMd:(NT v6 b bits++[AV.val (.float .f64 c)]).drop 19=[]:=List.drop_eq_nil_of_le (by omega)
 have hM18:(NT v6 b bits++[AV.val (.float .f64 c)]).take 18=NT v6 b bits:=by rw[List.take_append_of_le_length (by omega),List.take_of_length_le (by omega)]
 have hMe:(NT v6 b bits++[AV.val (.float .f64 c)]).drop 18=[AV.val (.float .f64 c)]:=by rw[List.drop_append_of_le_length (by omega),List.drop_eq_nil_of_le (by omega)];rfl
 have hMg:(NT v6 b bits++[AV.val (.float .f64 c)]).getD 18 .top=AV.val (.float .f64 c):=by simp[List.getD_eq_getElem?_getD,List.getElem?_append_right,hNl]
 simp only[str,PD] at *
 generalize aEK v6 b bits=D at *
 generalize NT v6 b bits=N at *
 generalize hMM:N++[AV.val (.float .f64 c)]=M at *
 refine dB Tryz.func53 rfl rfl Tryz.ntmps53 (rts:=#[9,9]) rfl Tryz.results53 (by simp) ?_
 simp only[seval,aZ]
 refine ks [0,2,3] ?_
 refine kx [0,2,3,4] (kI hMl (kI hMt hMo)) ?_
 refine aC fun K1 hK1=>?_
 apply bJ
 refine ku [] hMl ?_
 apply bK
 refine aC fun K2 hK2=>?_
 apply bJ
 refine ko [] ?_
 apply aR rfl
 refine ko [] ?_
 refine hK2 _ ?_
 clear hK2 K2
 apply aR rfl
 apply bJ
 refine ko [] ?_
 apply aR rfl
 apply bJ
 refine ko [] ?_
 apply aR rfl
 apply bJ
 refine ko [] ?_
 apply bG rfl
 refine kp [0,4] ?_
 refine ku [] (kI hMl hM18) ?_
 refine aV hNn cN rfl ?_
 simp only[seval,kT,hMl,hMe]
 simp only[seval,kT,kF]
 refine hK1 _ ?_
 clear hK1 K1
 refine kp [2,3] ?_
 refine ks [2,3] ?_
 apply aS
 refine fE (by simp) ?_ ?_
 ·intro o ho
  simp only[List.take_succ_cons,List.take_zero,List.mem_cons,List.not_mem_nil,or_false,List.length_cons,List.length_nil] at ho
  subst ho
  cases q<;>simp[fU,eV,ref,jH,bM _ _ hn,fG] at hq ⊢
 simp only[seval,kT,kN]
 exact⟨rfl,rfl⟩
theorem aKN [Gv] (t:Nat) (c:Nat) (hc:c<18446744073709551616) (l:List (List UInt8)) (q:Perm) (hq:fG q=true) (pa:List UInt8) (v6:Bool) (b:List UInt8) (bits:Int) (hb:b.length=16) :
  ACalls Tryz.prog GP 53 [.ptr 0 0] [.cells (PD 6 t l.length (dU l) q pa (NT v6 b bits++[.val (.float .f64 c)]))] (fun r os=>os=[.cells (PD 6 t l.length (dU l) q pa (NT v6 b bits++[.val (.float .f64 0)]))]∧r=.tup [str [99,111,115,116],str (wX c)]):=by
 have cN:=aNe c hc
 have hn:=dP l
 have hNl:=fZ v6 b bits hb
 have hNo:=jO v6 b bits
 have hNn:=iZ v6 b bits
 have hMl:(NT v6 b bits++[AV.val (.float .f64 c)]).length=19:=by simp[hNl]
 have hMo:(NT v6 b bits++[AV.val (.float .f64 c)]).all dC=true:=by rw[List.all_append,hNo];rfl
 have hMn:aM (NT v6 b bits++[AV.val (.float .f64 c)])=true:=by rw[dK,hNn];rfl
 have hMt:(NT v6 b bits++[AV.val (.float .f64 c)]).take 19=NT v6 b bits++[AV.val (.float .f64 c)]:=List.take_of_length_le (by omega)
 have hMd:(NT v6 b bits++[AV.val (.float .f64 c)]).drop 19=[]:=List.drop_eq_nil_of_le (by omega)
 have hM18:(NT v6 b bits++[AV.val (.float .f64 c)]).take 18=NT v6 b bits:=by rw[List.take_append_of_le_length (by omega),List.take_of_length_le (by omega)]
 have hMe:(NT v6 b bits++[AV.val (.float .f64 c)]).drop 18=[AV.val (.float .f64 c)]:=by rw[List.drop_append_of_le_length (by omega),List.drop_eq_nil_of_le (by omega)];rfl
 have hMg:(NT v6 b bits++[AV.val (.float .f64 c)]).getD 18 .top=AV.val (.float .f64 c):=by simp[List.getD_eq_getElem?_getD,List.getElem?_append_right,hNl]
 simp only[str,PD] at *
 generalize wX c=D at *
 generalize NT v6 b bits=N at *
 generalize hMM:N++[AV.val (.float .f64 c)]=M at *
 refine dB Tryz.func53 rfl rfl Tryz.ntmps53 (rts:=#[9,9]) rfl Tryz.results53 (by simp) ?_
 simp only[seval,aZ]
 refine ks [0,2,3] ?_
 refine kx [0,2,3,4] (kI hMl (kI hMt hMo)) ?_
 refine aC fun K1 hK1=>?_
 apply bJ
 refine ku [] hMl ?_
 apply bK
 refine aC fun K2 hK2=>?_
 apply bJ
 refine ko [] ?_
 apply aR rfl
 refine ko [] ?_
 refine hK2 _ ?_
 clear hK2 K2
 apply aR rfl
 apply bJ
 refine ko [] ?_
 apply aR rfl
 apply bJ
 refine ko [] ?_
 apply aR rfl
 apply bJ
 refine ko [] ?_
 apply aR rfl
 apply bJ
 refine ko [] ?_
 apply bG rfl
 refine kp [0,4] ?_
 refine ku [] (kI hMl hMg) ?_
 refine kv (cN) (kI hMl (kI hM18 hMd)) ?_
 have hM0:aM (N++[AV.val (.float .f64 0)])=true:=by rw[dK,hNn];rfl
 simp only[seval,kT,kF]
 refine hK1 _ ?_
 clear hK1 K1
 refine kp [2,3] ?_
 refine ks [2,3] ?_
 apply aS
 refine fE (by simp) ?_ ?_
 ·intro o ho
  simp only[List.take_succ_cons,List.take_zero,List.mem_cons,List.not_mem_nil,or_false,List.length_cons,List.length_nil] at ho
  subst ho
  cases q<;>simp[fU,eV,ref,jH,bM _ _ hM0,bM _ _ hn,fG] at hq ⊢
 simp only[seval,kT,kN]
 rfl
end Go.Proofs.YtefdnmeopbkflaaGreatDoor
namespace Go.Proofs.YtefdnmeopbkflaaGreatDoor
open Go Go.V
set_option linter.unusedSimpArgs false
set_option linter.unusedVariables false
set_option maxRecDepth 20000
structure OkP (p:PV):Prop where
 small:sF p
 time:p.time<18446744073709551616
 bits:-9223372036854775808≤p.bits∧p.bits≤9223372036854775807
 cost:p.cost<18446744073709551616
def iW (p:PV):List UInt8×List UInt8×PV:=
 if p.kind=1 then ([98,101,102,111,114,101],Lib.decDigits p.time,{ p with time:=0 })
 else if p.kind=2 then ([115,105,110,99,101],Lib.decDigits p.time,{ p with time:=0 })
 else if p.kind=3 then ([111,112],lV p.names,{ p with names:=[] })
 else if p.kind=4 then ([112,97,116,104],if iI p.path then p.path else [],{ p with path:=[] })
 else if p.kind=5 then ([110,101,116],aEK p.v6 p.addr p.bits,{ p with v6:=false,addr:=Z 16,bits:=0 })
 else if p.kind=6 then ([99,111,115,116],wX p.cost,{ p with cost:=0 })
 else ([],[],p)
def zY (p:PV):List UInt8:=tX (iW p).1 (iW p).2.1 (aFu (iW p).2.2 (vB p.kind))
theorem aJN [Gv] (x:Nat) (hx:x<18446744073709551616):(wX x).length≤50:=by
 have s1:(nV x).length≤1:=by unfold nV;split<;>simp
 have s2:=aBE (kH x) (vT x)
 obtain⟨p1,p2⟩:=uX x
 have s3:=tJ (jR x) (by omega) (by omega)
 unfold wX
 split
 ·simp
 ·split
  ·simp;omega
  ·split
   ·simp;omega
   ·simp;omega
theorem aMJ [Gv] (v6:Bool) (b:List UInt8) (bits:Int):(aEK v6 b bits).length≤400:=by
 unfold aEK
 split
 ·rename_i h
  obtain⟨h1,h2,_⟩:=aJi h
  have s1:=aCM v6 b
  have s3:=tJ bits (by omega) (by omega)
  simp;omega
 ·simp
theorem aFY [Gv] (l:List (List UInt8)) (h:(Lib.join l [44]).length≤200000):(lV l).length≤200000:=by
 unfold lV
 split
 ·exact h
 ·simp
theorem sI [Gv] (p p':PV) (q q':Perm) (hq:fG q=true) (hq':fG q'=true) (hp:sF p) (hp':sF p') (w x:List UInt8) (e:iW p=(w,x,p')) (hw:w.length≤20) (hx:x.length≤300000)
  (hW:ACalls Tryz.prog GP 53 [.ptr 0 0] [.cells (PA p q)] (fun r os=>os=[.cells (PA p' q')]∧r=.tup [str w,str x])) :
  ACalls Tryz.prog GP 22 [.agg (PA p q)] [] (fun r os=>os=[]∧r=str (zY p)):=by
 unfold zY
 rw[e]
 exact aFG p p' q q' hq hq' hp hp' w x hw hx hW
theorem aOX [Gv] (p:PV) (q:Perm) (hq:fG q=true) (hp:OkP p):ACalls Tryz.prog GP 22 [.agg (PA p q)] [] (fun r os=>os=[]∧r=str (zY p)):=by
 obtain⟨hs,ht,hb,hc⟩:=hp
 have ha:=hs.1
 have l1:=aBE p.time ht
 have mf:∀ (v:Bool) (b:List UInt8) (i:Int) (c:Nat),b.length=16→MF (NT v b i++[.val (.float .f64 c)]) (NT v b i) c:=fun v b i c hb=>⟨rfl,fZ _ _ _ hb,jO _ _ _,iZ _ _ _⟩
 by_cases k1:p.kind=1
 ·have e:iW p=([98,101,102,111,114,101],Lib.decDigits p.time,{ p with time:=0 }):=by unfold iW;rw[if_pos k1]
  refine sI p { p with time:=0 } q q hq hq hs hs _ _ e (by decide) (by omega) ?_
  unfold PA
  rw[k1]
  exact aKM p.time ht p.names q hq p.path _ _ p.cost (mf _ _ _ _ ha)
 by_cases k2:p.kind=2
 ·have e:iW p=([115,105,110,99,101],Lib.decDigits p.time,{ p with time:=0 }):=by unfold iW;rw[if_neg k1];rw[if_pos k2]
  refine sI p { p with time:=0 } q q hq hq hs hs _ _ e (by decide) (by omega) ?_
  unfold PA
  rw[k2]
  exact aKQ p.time ht p.names q hq p.path _ _ p.cost (mf _ _ _ _ ha)
 by_cases k3:p.kind=3
 ·have e:iW p=([111,112],lV p.names,{ p with names:=[] }):=by unfold iW;rw[if_neg k1];rw[if_neg k2];rw[if_pos k3]
  have:=aFY p.names hs.2.2.1
  refine sI p { p with names:=[] } q .full hq rfl hs ⟨ha,by simp,by simp[Lib.join_nil],hs.2.2.2⟩ _ _ e (by decide) (by omega) ?_
  unfold PA
  rw[k3]
  exact aBq p.time p.names q hq p.path _ _ p.cost (mf _ _ _ _ ha) hs.2.1 hs.2.2.1
 by_cases k4:p.kind=4
 ·have e:iW p=([112,97,116,104],if iI p.path then p.path else [],{ p with path:=[] }):=by unfold iW;rw[if_neg k1];rw[if_neg k2];rw[if_neg k3];rw[if_pos k4]
  have hx:(if iI p.path then p.path else []).length≤200000:=by
   have:=hs.2.2.2
   split<;>simp<;>omega
  refine sI p { p with path:=[] } q q hq hq hs ⟨ha,hs.2.1,hs.2.2.1,by simp⟩ _ _ e (by decide) (by omega) ?_
  unfold PA
  rw[k4]
  exact aKP p.time p.path hs.2.2.2 p.names q hq _ _ p.cost (mf _ _ _ _ ha)
 by_cases k5:p.kind=5
 ·have e:iW p=([110,101,116],aEK p.v6 p.addr p.bits,{ p with v6:=false,addr:=Z 16,bits:=0 }):=by unfold iW;rw[if_neg k1];rw[if_neg k2];rw[if_neg k3];rw[if_neg k4];rw[if_pos k5]
  have:=aMJ p.v6 p.addr p.bits
  refine sI p { p with v6:=false,addr:=Z 16,bits:=0 } q q hq hq hs ⟨rfl,hs.2.1,hs.2.2.1,hs.2.2.2⟩ _ _ e (by decide) (by omega) ?_
  unfold PA
  rw[k5]
  exact aKO p.time p.cost p.names q hq p.path p.v6 p.addr p.bits ha hb
 by_cases k6:p.kind=6
 ·have e:iW p=([99,111,115,116],wX p.cost,{ p with cost:=0 }):=by unfold iW;rw[if_neg k1];rw[if_neg k2];rw[if_neg k3];rw[if_neg k4];rw[if_neg k5];rw[if_pos k6]
  have:=aJN p.cost hc
  refine sI p { p with cost:=0 } q q hq hq hs hs _ _ e (by decide) (by omega) ?_
  unfold PA
  rw[k6]
  exact aKN p.time p.cost hc p.names q hq p.path p.v6 p.addr p.bits ha
 have e:iW p=([],[],p):=by unfold iW;rw[if_neg k1,if_neg k2,if_neg k3,if_neg k4,if_neg k5,if_neg k6]
 refine sI p p q q hq hq hs hs _ _ e (by decide) (by decide) ?_
 exact aKR p.kind (by omega) p.time p.names q hq p.path _ _ p.cost (mf _ _ _ _ ha)
end Go.Proofs.YtefdnmeopbkflaaGreatDoor
namespace Go.Proofs.YtefdnmeopbkflaaGreatDoor
open Go Go.V
set_option linter.unusedSimpArgs false
set_option linter.unusedVariables false
set_option maxRecDepth 100000
theorem aPU [Gv]:aOy Tryz.prog 82:=by
 refine⟨⟨_,Tryz.func82,rfl,rfl⟩,fun cap w _=>?_⟩
 refine callsD_of_wpS Tryz.func82 rfl fun c₀ cs hm=>?_
 have hrec:recoverD (c₀::cs)=none:=by simp[recoverD,hm]
 have hn:Tryz.f82.ntmps=3:=Tryz.ntmps82
 rw[hn]
 have hc:({ c₀ with mode:=.returning }:Frame)=c₀:=by rw[← hm]
 refine wpS_seq (wpS_region ?_)
 simp[wpOpsS,Region.wanted,execOp,resolve,Deferred.ofValue,invoke,builtin,hrec,Act.put,Act.eval,List.range,List.range.loop,Oper.upon,Exit.thenS,(aOq 0 .nilIface).1]
 refine wpS_cond (t:=false) (by simp[Act.eval]) ?_
 refine wpS_of_wp (wp_skip ?_)
 refine⟨rfl,.returning,by rw[hc],.tuple #[],?_,⟨_,rfl⟩,rfl,rfl⟩
 simp[jY,sQ]
theorem aFT [Gv] (p:PV) (q:Perm) (hq:fG q=true) (hp:p.addr.length=16) (RQ:List AV) (hRl:RQ.length=20) (hRo:RQ.all dC=true) (hRn:aM RQ=true) (clock:Nat) (ch a:Bool)
  (hC:ACalls Tryz.prog GP 31 [.agg (PA p q)] [] (fun r os=>os=[]∧r=.val (.bool ch)))
  (hA:ch=true→ACalls Tryz.prog GP 83 [.agg (PA p q),.agg RQ,.val (.int .u64 (clock:Int))] [] (fun r os=>os=[]∧r=.val (.bool a))) :
  ACalls Tryz.prog GP 34 [.agg (PA p q),.agg RQ,.val (.int .u64 (clock:Int))] [] (fun r os=>os=[]∧r=.val (.bool (ch&&a))):=by
 have h1:=iE p q hp
 have h2:=lE p q
 have h3:=sX p q hq
 have h5:(PA p q).take 23=PA p q:=List.take_of_length_le (by omega)
 have hRt:RQ.take 20=RQ:=List.take_of_length_le (by omega)
 generalize PA p q=P at *
 refine jP Tryz.func34 rfl rfl Tryz.ntmps34 (rts:=#[4]) rfl Tryz.results34 (by simp) aPU rfl ?_
 simp only[seval,aZ]
 refine ku [] (kI h2 hRo) ?_
 refine⟨2,0,rfl,fun d=>?_⟩
 refine kp [2,3,4,6] ?_
 refine kw [] (kI h1 h5) fun K hK=>?_
 refine aV h3 (hC.defer [d]) rfl ?_
 cases hch:ch with
 | false=>
  simp only[seval,kT]
  refine hK _ ?_
  clear hK K
  refine kp [6] ?_
  apply aS
  refine wI (fE (by simp) (by simp) ?_)
  simp only[seval,kT,kN]
  exact⟨rfl,by rw[hch];rfl⟩
 | true=>
  simp only[seval,kT,h1,h5,hRl,hRt]
  refine aV (by simp[aH,aM,h3,hRn]) ((hA hch).defer [d]) rfl ?_
  simp only[seval,kT]
  refine hK _ ?_
  clear hK K
  refine kp [6] ?_
  apply aS
  refine wI (fE (by simp) (by simp) ?_)
  simp only[seval,kT,kN]
  exact⟨rfl,by rw[hch];rfl⟩
theorem aCQ [Gv] (p:PV) (q:Perm) (hq:fG q=true) (hp:p.addr.length=16) (hk:p.kind=3) (hl:p.names.length≤200000) (RQ:List AV) (hRl:RQ.length=20) (hRo:RQ.all dC=true) (hRn:aM RQ=true) (op:List UInt8) (hop:RQ.getD 0 .top=str op) (clock:Nat) :
  ACalls Tryz.prog GP 83 [.agg (PA p q),.agg RQ,.val (.int .u64 (clock:Int))] [] (fun r os=>os=[]∧r=.val (.bool (p.names.contains op))):=by
 have cC:=fun q=>zM p.names op q (by omega)
 have h1:=iE p q hp
 have h2:=lE p q
 have h4:=nY p q
 rw[hk] at h4
 have h6:(PA p q).getD 2 .top=.sl p.names.length (dU p.names) q:=rfl
 have hn:=dP p.names
 generalize PA p q=P at *
 generalize p.names=l at *
 simp only[str] at *
 refine ke Tryz.func83 Tryz.ntmps83 Tryz.results83 #[4] ?_
 refine kx [2,3,4,6] (kI h2 hRo) ?_
 refine aC fun K1 hK1=>?_
 apply bJ
 refine ku [] (kI h1 h4) ?_
 apply bK
 apply bJ
 refine ko [] ?_
 apply aR rfl
 apply bJ
 refine ko [] ?_
 apply aR rfl
 apply bJ
 refine ko [] ?_
 apply bG rfl
 refine kp [3,4] ?_
 refine kw [] (kI (kI hRl hop) (kI h1 h6)) fun K hK=>?_
 refine aV (by simp[aH,aM,hn]) (cC _) rfl ?_
 simp only[seval,kT]
 refine hK _ ?_
 clear hK K
 refine kp [6] ?_
 apply aS
 simp only[seval,kT,kF]
def aQD:PV:=⟨0,0,[],[],false,Z 16,0,0⟩
def aAS (t:List UInt8):AV:=match lJ t with
 | some l=>.tup [.agg (PA ⟨3,0,l,[],false,Z 16,0,0⟩ .full),.val (.bool true)]
 | none=>.tup [.agg (PA aQD .full),.val (.bool false)]
theorem aHT [Gv] (s t:List UInt8) (hs:s.length≤200000) (ht:t.length≤200000) (hw:qB s=some [[111,112],t]):ACalls Tryz.prog GP 24 [str s] [] (fun r os=>os=[]∧r=aAS t):=by
 have cW:=aMv s hs
 have hv:zD s=.tup [.sl 2 [.val (.string ⟨#[111,112]⟩),.val (.string ⟨t.toArray⟩)] .full,.val (.bool true)]:=by unfold zD;rw[hw];rfl
 rw[hv] at cW
 have cN:=aFb t ht
 simp only[str] at *
 refine ke Tryz.func24 Tryz.ntmps24 Tryz.results24 #[81,4] ?_
 refine ks [0,2,3] ?_
 refine kr [] fun K hK=>?_
 refine aV (by simp[aH,aM]) cW (by simp[aH,aM]) ?_
 simp only[seval,kT]
 refine hK _ ?_
 clear hK K
 refine aE [2,3,4] ?_
 simp only[aD,aB,Nat.reduceEqDiff,if_true,if_false]
 refine aC fun K1 hK1=>?_
 refine aC fun K hK=>aA [] ?_
 simp only[qq,aF,Nat.reduceLT,aB,Nat.reduceEqDiff,aun,Bool.not_true,dD,bT,Option.bind_some,aW,Bool.not_false,dQ,gok,bI,bV,eN,Tryz.underlying43,Int.cast_ofNat_Int,cav,aL,bU,aG,aI,aP,bH,Int.reduceBNe]
 (repeat' apply And.intro)<;>try (first|exact True.intro|omega)
 refine hK _ ?_
 clear hK K
 refine aR rfl (bC (hK1 _ ?_))
 clear hK1 K1
 refine aE [2,3,4] ?_
 simp only[aD,aB,Nat.reduceEqDiff,if_true,if_false]
 refine aC fun K hK=>?_
 refine dW [] (by kernel_rfl) (by kernel_rfl) ?_
 simp only[qq,aF,Nat.reduceLT,aB,Nat.reduceEqDiff,dN,cav,Tryz.underlying43,bD,Nat.reduceAdd,Nat.mul_one,Int.le_refl,Int.cast_ofNat_Int,Int.reduceLT,Nat.zero_lt_succ,Int.toNat_zero,aY,apart,aO,Tryz.underlying9,Int.reduceLE,Int.reduceToNat,aG,aI]
 refine hK _ ?_
 clear hK K
 refine kp [2,3,5,6] ?_
 refine aC fun K1 hK1=>?_
 apply bJ
 refine ko [] ?_
 apply bK
 refine aC fun K2 hK2=>?_
 apply bJ
 refine ko [] ?_
 apply aR rfl
 refine ko [] ?_
 refine hK2 _ ?_
 clear hK2 K2
 apply aR rfl
 apply bJ
 refine ko [] ?_
 apply bG rfl
 refine kp [2,3,6] ?_
 apply bJ
 refine ko [] ?_
 refine kp [2,6] ?_
 refine ko [] ?_
 have hnv:aH (nN t)=true:=by
  unfold nN
  split
  ·simp only[aH,aM,dP,Bool.and_true]
  ·rfl
 refine aV (by simp[aH,aM]) cN hnv ?_
 cases hF:lJ t with
 | none=>
  simp only[seval,kT,nN,hF]
  simp only[seval,kT,kF]
  refine hK1 _ ?_
  clear hK1 K1
  refine kp [2,3] ?_
  refine aC fun K1 hK1=>?_
  refine kq ?_
  apply bG rfl
  refine kp [2,3] ?_
  refine ks [2,3] ?_
  apply aS
  simp only[seval,kT,kF]
  unfold aAS
  rw[hF]
  rfl
 | some l=>
  have hn:=dP l
  simp only[seval,kT,nN,hF]
  simp only[seval,kT,kF]
  refine hK1 _ ?_
  clear hK1 K1
  refine kp [2,3] ?_
  refine aC fun K1 hK1=>?_
  refine kq ?_
  refine aR rfl (bC (hK1 _ ?_))
  clear hK1 K1
  refine kp [2,3] ?_
  refine ks [2,3] ?_
  apply aS
  simp only[seval,kT,kF]
  exact⟨hn,by unfold aAS;rw[hF];rfl⟩
theorem aLf [Gv] (s:List UInt8) (p:PV) (hp:p.addr.length=16) (ok h:Bool) (RQ:List AV) (hRl:RQ.length=20) (hRo:RQ.all dC=true) (hRn:aM RQ=true) (clock:Nat)
  (cP:ACalls Tryz.prog GP 24 [str s] [] (fun r os=>os=[]∧r=.tup [.agg (PA p .full),.val (.bool ok)]))
  (cH:ok=true→ACalls Tryz.prog GP 34 [.agg (PA p .full),.agg RQ,.val (.int .u64 (clock:Int))] [] (fun r os=>os=[]∧r=.val (.bool h))) :
  ACalls Tryz.prog GP 75 [str s,.agg RQ,.val (.int .u64 (clock:Int))] [] (fun r os=>os=[]∧r=.val (.bool (ok&&h))):=by
 have h1:=iE p .full hp
 have h2:=lE p .full
 have h3:=sX p .full rfl
 have h5:(PA p .full).take 23=PA p .full:=List.take_of_length_le (by omega)
 have h6:(PA p .full).drop 23=[]:=List.drop_eq_nil_of_le (by omega)
 have hRt:RQ.take 20=RQ:=List.take_of_length_le (by omega)
 generalize PA p .full=P at *
 simp only[str] at *
 refine ke Tryz.func75 Tryz.ntmps75 Tryz.results75 #[4] ?_
 refine kx [0,2,4,6] hRo ?_
 refine kr [] fun K hK=>?_
 refine aV (by simp[aH,aM]) cP (by simp[aH,aM,h3]) ?_
 simp only[seval,kT,h2,h1]
 refine hK _ ?_
 clear hK K
 refine kp [2,4,6,7,8] ?_
 refine aC fun K hK=>aA [] ?_
 cases hok:ok with
 | false=>
  simp only[seval,kT]
  refine hK _ ?_
  refine kp [6] ?_
  apply aS
  simp only[seval,kT,kF]
  rw[hok]
  rfl
 | true=>
  simp only[seval,kT,h1,h5,hRl,hRt]
  refine aV (by simp[aH,aM,h3,hRn]) (cH hok) rfl ?_
  simp only[seval,kT]
  refine hK _ ?_
  refine kp [6] ?_
  apply aS
  simp only[seval,kT,kF]
  rw[hok]
  rfl
end Go.Proofs.YtefdnmeopbkflaaGreatDoor
namespace Go.Proofs.YtefdnmeopbkflaaGreatDoor
open Go Go.V
set_option linter.unusedSimpArgs false
set_option linter.unusedVariables false
set_option maxRecDepth 20000






end Go.Proofs.YtefdnmeopbkflaaGreatDoor
namespace Go.Proofs.YtefdnmeopbkflaaGreatDoor
open Go Go.V
set_option linter.unusedSimpArgs false
set_option linter.unusedVariables false
set_option maxRecDepth 100000
def aTs:List (List UInt8)→Nat
 | []=>0
 | x::xs=>x.length+1+aTs xs
theorem zZ [Gv] (a b:List (List UInt8)):aTs (a++b)=aTs a+aTs b:=by
 induction a with
 | nil=>simp[aTs]
 | cons x xs ih=>simp only[List.cons_append,aTs,ih];omega
theorem aKH [Gv] {l:List (List UInt8)} {i:Nat} (h:i<l.length):aTs (l.take (i+1))=aTs (l.take i)+((l.getD i []).length+1):=by
 rw[List.take_add_one,List.getElem?_eq_getElem h,zZ]
 simp[aTs,List.getD_eq_getElem?_getD,List.getElem?_eq_getElem h]
theorem aKG [Gv] (l:List (List UInt8)) (i:Nat):aTs (l.take i)≤aTs l:=by
 have:=zZ (l.take i) (l.drop i)
 rw[List.take_append_drop] at this
 omega
theorem aBm [Gv] (l:List (List UInt8)):l.length≤aTs l:=by
 induction l with
 | nil=>simp[aTs]
 | cons x xs ih=>simp only[aTs,List.length_cons];omega
theorem aKF [Gv] (l:List (List UInt8)):(Lib.join l [44]).length≤aTs l:=by
 cases l with
 | nil=>simp[Lib.join_nil]
 | cons x xs=>
  rw[Lib.join_cons,List.length_append]
  have:(Lib.joinTail [44] xs).length=aTs xs:=by
   induction xs with
   | nil=>rfl
   | cons y ys ih=>
    simp only[Lib.joinTail,List.map_cons,List.flatten_cons,List.length_append,List.length_cons,List.length_nil,aTs] at ih ⊢
    omega
  simp only[aTs]
  omega
def aCo (p:PV):Bool:=decide (3000<p.path.length+aTs p.names)
theorem aIP [Gv] (p:PV) (q:Perm) (hp:p.addr.length=16) (h1:p.path.length<4611686018427387904) (h2:∀ s∈p.names,s.length<2305843009213693952) (h3:p.names.length<4611686018427387904) :
  ACalls Tryz.prog GP 19 [.agg (PA p q)] [] (fun r os=>os=[]∧r=.val (.int .i64 (if aCo p then 1 else 0))):=by
 have hPl:=iE p q hp
 have hPo:=lE p q
 have hPp:(PA p q).getD 3 .top=str p.path:=rfl
 have hPn:(PA p q).getD 2 .top=.sl p.names.length (dU p.names) q:=rfl
 have hsl:=dY p.names
 have hsz:((⟨p.path.toArray⟩:ByteArray).size:Int)=(p.path.length:Int):=by simp[ByteArray.size]
 obtain⟨R,hR⟩:∃ R,aCo p=R:=⟨_,rfl⟩
 rw[hR]
 unfold aCo at hR
 generalize PA p q=P0 at *
 generalize p.names=l at *
 generalize p.path=pa at *
 simp only[str] at *
 refine ke Tryz.func19 Tryz.ntmps19 Tryz.results19 #[3] ?_
 refine kx [1,2] hPo ?_
 refine kx [1,2,3] (kI hPl hPp) ?_
 refine aC fun K1 hK1=>?_
 refine aC fun K hK=>aA [] ?_
 simp only[qq,aF,aN,Tryz.underlying81,bD,aB,Nat.reduceEqDiff,ne_eq,reduceCtorEq,Nat.reduceLT,aY,apart,aO,Tryz.underlying43,bI,bV,eN,cav,aG,aI,hPl,hPn]
 (repeat' apply And.intro)<;>try (first|exact True.intro|omega)
 refine hK _ ?_
 clear hK K
 refine aE [2,3,10,11,12] ?_
 simp only[aD,aB,Nat.reduceEqDiff,if_true,if_false]
 refine bK ?_
 refine bZ (fun i:Nat=>⟨26,[(2,.val (.int .i64 0)),(3,.val (.int .i64 ((pa.length+aTs (l.take i):Nat):Int))),(10,.sl l.length (dU l) q),(11,.val (.int .i64 (l.length:Int))),(12,.val (.int .i64 (i:Int)))],[.cells P0]⟩)
  (fun i=>i≤l.length∧(0<i→pa.length+aTs (l.take i)≤3000)) (fun i=>l.length - i) 0 ⟨by omega,fun h=>by omega⟩ (.of_keep [2,3,10,11,12] (by exact rfl)) ?_
 rintro i ⟨hi,hle⟩
 by_cases hlt:i<l.length
 ·have d:decide (i<l.length)=true:=decide_eq_true hlt
  have hgd:=mR hlt
  have hmem:l.getD i []∈l:=by
   rw[List.getD_eq_getElem?_getD,List.getElem?_eq_getElem hlt]
   exact List.getElem_mem hlt
  have hsm:=h2 _ hmem
  have hts:=aKH hlt
  have htm:=aKG l (i+1)
  have hn0:pa.length+aTs (l.take i)<4611686018427387904:=by
   by_cases h0:0<i
   ·have:=hle h0;omega
   ·have:i=0:=by omega
    subst this
    simpa[aTs] using h1
  simp only[str] at hgd
  have hsz2:((⟨(l.getD i []).toArray⟩:ByteArray).size:Int)=((l.getD i []).length:Int):=by simp[ByteArray.size]
  generalize l.getD i []=s at *
  generalize aTs (l.take i)=t0 at *
  refine ky (kI @jM d) ?_
  apply bJ
  refine bG rfl (bC ?_)
  simp only[aI]
  refine aC fun K hK=>bK ?_
  refine aC fun K hK=>aA [] ?_
  simp only[qq,aF,dN,aB,Nat.reduceEqDiff,Tryz.underlying43,bD,hsl,Nat.mul_one,Nat.reduceLT,Int.toNat_natCast,aY,apart,aO,Tryz.underlying9,aG,aI,List.length_drop,fL,hgd]
  (repeat' apply And.intro)<;>try (first|exact True.intro|omega)
  refine hK _ ?_
  clear hK K
  have w1:IntKind.i64.wrap ((s.length+1:Nat):Int)=((s.length+1:Nat):Int):=fD (by omega)
  have w2:IntKind.i64.wrap ((pa.length+t0+(s.length+1):Nat):Int)=((pa.length+t0+(s.length+1):Nat):Int):=fD (by omega)
  refine aE [2,3,5,10,11,12] ?_
  simp only[aD,aB,Nat.reduceEqDiff,if_true,if_false]
  refine kx [2,3,10,11,12] (kI (kI @gO w1) (kI @oW w2)) ?_
  by_cases hbig:3000<pa.length+t0+(s.length+1)
  ·have d3:decide (((pa.length+t0+(s.length+1):Nat):Int) > 3000)=true:=decide_eq_true (by omega)
   refine ky d3 ?_
   apply bG rfl
   apply aE []
   simp only[aD]
   refine aC fun K hK=>aA [] ?_
   simp only[qq,aF,Nat.reduceLT,aB,cav,aG,aI]
   (repeat' apply And.intro)<;>try (first|exact True.intro|omega)
   refine hK _ ?_
   clear hK K
   refine aS ?_
   simp only[bL,aI]
   simp only[qq,bR,eU,bN,bO,dA,aB,aH]
   rw[← hR,decide_eq_true (by omega)]
   rfl
  have d3:decide (((pa.length+t0+(s.length+1):Nat):Int) > 3000)=false:=decide_eq_false (by omega)
  refine ky d3 ?_
  refine aR rfl (bC ?_)
  simp only[bL,aI]
  refine hK _ ?_
  clear hK K
  refine kp [2,3,10,11,12] ?_
  have w3:IntKind.i64.wrap ((i+1:Nat):Int)=((i+1:Nat):Int):=fD (by omega)
  refine ku [] (kI @gO w3) ?_
  refine⟨i+1,⟨by omega,fun _=>by rw[hts];omega⟩,by omega,?_⟩
  rw[show pa.length+aTs (l.take (i+1))=pa.length+t0+s.length+1 by rw[hts];omega]
  exact .of_keep [2,3,10,11,12] rfl
 have d:decide (i<l.length)=false:=decide_eq_false hlt
 have he:i=l.length:=by omega
 subst he
 refine ky (kI @jM d) ?_
 apply bJ
 apply aR rfl
 apply dR
 simp only[seval,kT,kF]
 refine hK1 _ ?_
 clear hK1 K1
 rw[List.take_length]
 refine kp [3] ?_
 refine aC fun K hK=>?_
 by_cases hbig:3000<pa.length+aTs l
 ·have d3:decide (((pa.length+aTs l:Nat):Int) > 3000)=true:=decide_eq_true (by omega)
  refine ky d3 ?_
  apply bG rfl
  apply aE []
  simp only[aD]
  refine ks [2] ?_
  refine aS ?_
  simp only[aI]
  simp only[qq,bR,eU,bN,bO,dA,aB,aH]
  rw[← hR,decide_eq_true (by omega)]
  rfl
 have d3:decide (((pa.length+aTs l:Nat):Int) > 3000)=false:=decide_eq_false (by omega)
 refine ky d3 ?_
 refine aR rfl (bC ?_)
 simp only[aI]
 refine hK _ ?_
 clear hK K
 apply aE []
 simp only[aD]
 refine ks [2] ?_
 refine aS ?_
 simp only[qq,bR,eU,bN,bO,dA,aB,aH]
 rw[← hR,decide_eq_false (by omega)]
 rfl
end Go.Proofs.YtefdnmeopbkflaaGreatDoor
namespace Go.Proofs.YtefdnmeopbkflaaGreatDoor
open Go Go.V
set_option linter.unusedSimpArgs false
set_option linter.unusedVariables false
set_option maxRecDepth 20000
end Go.Proofs.YtefdnmeopbkflaaGreatDoor
namespace Go.Proofs.YtefdnmeopbkflaaGreatDoor
open Go Go.V
set_option linter.unusedSimpArgs false
set_option linter.unusedVariables false
set_option maxRecDepth 100000
def opa:List UInt8:=[111,112,32,97]
def opP:PV:=⟨3,0,[[97]],[],false,Z 16,0,0⟩
theorem aJq [Gv]:qB opa=some [[111,112],[97]]:=by decide
theorem aJp [Gv]:lJ [97]=some [[97]]:=by decide
theorem aCx [Gv]:ACalls Tryz.prog GP 24 [str opa] [] (fun r os=>os=[]∧r=.tup [.agg (PA opP .full),.val (.bool true)]):=by
 have h:=aHT opa [97] (by decide) (by decide) aJq
 unfold aAS at h
 rw[aJp] at h
 exact h
theorem aJo [Gv] (RQ:List AV) (hRl:RQ.length=20) (hRo:RQ.all dC=true) (hRn:aM RQ=true) (op:List UInt8) (hop:RQ.getD 0 .top=str op) (clock:Nat) :
  ACalls Tryz.prog GP 75 [str opa,.agg RQ,.val (.int .u64 (clock:Int))] [] (fun r os=>os=[]∧r=.val (.bool (op == [97]))):=by
 have hsm:sF opP:=⟨rfl,by decide,by decide,by decide⟩
 have hW:=aBq 0 [[97]] .full rfl [] (NT false (Z 16) 0++[.val (.float .f64 0)]) (NT false (Z 16) 0) 0 ⟨rfl,rfl,jO _ _ _,iZ _ _ _⟩ (by decide) (by decide)
 have hT:=aFG opP ⟨3,0,[],[],false,Z 16,0,0⟩ .full .full rfl rfl hsm ⟨rfl,by decide,by decide,by decide⟩ [111,112] (lV [[97]]) (by decide) (by decide) hW
 have hC:=aCW opP .full rfl rfl _ hT
 have e:(!(tX [111,112] (lV [[97]]) (aFu ⟨3,0,[],[],false,Z 16,0,0⟩ (vB opP.kind)) == []))=true:=by decide
 rw[e] at hC
 have hA:=aCQ opP .full rfl rfl rfl (by decide) RQ hRl hRo hRn op hop clock
 have hH:=aFT opP .full rfl rfl RQ hRl hRo hRn clock true _ hC (fun _=>hA)
 have h:=aLf opa opP rfl true _ RQ hRl hRo hRn clock aCx (fun _=>hH)
 have e2:(true&&(true&&opP.names.contains op))=(op == [97]):=by
  rw[Bool.true_and,Bool.true_and]
  show [[97]].contains op=_
  rw[Bool.eq_iff_iff]
  simp
 rw[e2] at h
 exact h
def OT (text:List UInt8) (out:Int):List AV:=[str text,.sl 0 [] .full,str [],.val (.int .i64 out),.sl 0 [] .full,str [],str []]++((NT false (Z 16) 0).take 17++[.val (.float .f64 0),.val (.bool false),.val (.bool false),.val (.bool false)])
def OP (kind:Int) (key un ticks:Nat) (draws:List AV) (text:List UInt8) (out:Int):List AV:=
 [.val (.int .i64 kind),.val (.int .u64 (key:Int)),.val (.int .u64 (un:Int)),.val (.int .u64 0),.val (.int .u64 (ticks:Int))]++(draws++OT text out)
theorem aMh [Gv] (l:List OutV) (hl:l.length≤1000000) (i:Nat) (hi:i<l.length):ACalls Tryz.prog GP 13 [.cptr [.sl l.length (OS l) .no],.val (.int .i64 (i:Int))] [] (fun r os=>os=[]∧r=.tup [.agg (OA l[i]),.val (.bool true)]):=by
 have hOl:=uB l
 have hOo:=aAK l
 have hnO:=gA l
 have hget:=aKh hi
 generalize l[i]=o at *
 have hao:=aAJ o
 have hno:=yV o
 have hal:(OA o).length=3:=rfl
 have hat:(OA o).take 3=OA o:=rfl
 have had:(OA o).drop 3=[]:=rfl
 generalize OA o=oa at *
 have d1:decide ((i:Int)<0)=false:=by simp
 have d2:decide ((i:Int)≥(l.length:Int))=false:=by simp;omega
 refine dB Tryz.func13 rfl rfl Tryz.ntmps13 (rts:=#[48,4]) rfl Tryz.results13 (by simp) ?_
 simp only[seval,aZ]
 refine ks [0,1,4] ?_
 refine aC fun K1 hK1=>?_
 refine aC fun K hK=>aA [] ?_
 simp only[qq,aF,Nat.reduceLT,aB,reduceCtorEq,Nat.reduceEqDiff,cav,aL,aP,bH,d1,dD,bT,Option.bind_some,aW,Bool.not_false,dQ,gok,fY,aN,Tryz.underlying113,bD,ne_eq,aY,apart,aO,Tryz.underlying111,bI,bV,eN,bU,aG,aI,Nat.reduceLeDiff,d2]
 refine hK _ ?_
 clear hK K
 refine aR rfl (bC (hK1 _ ?_))
 clear hK1 K1
 refine aE [0,1,4] ?_
 simp only[aD,aB,Nat.reduceEqDiff,if_true,if_false]
 refine aC fun K hK=>aA [] ?_
 simp only[qq,aF,Nat.reduceLT,aB,reduceCtorEq,fY,Nat.reduceEqDiff,aN,Tryz.underlying113,bD,ne_eq,aY,apart,aO,Tryz.underlying111,dN,Int.toNat_natCast,Tryz.underlying48,bQ,bX,bB,Nat.reduceAdd,spl,cav,aG,aI,Nat.reduceLeDiff,hOl,List.length_drop,hget,hao,hal,List.drop_nil]
 refine⟨⟨by omega,by omega⟩,by omega,hK _ ?_⟩
 clear hK K
 refine kp [4,5] ?_
 apply aS
 refine fE (by simp) (by simp) ?_
 simp only[seval,kT,kN,hal,hat]
 simp[ref,eV,bM _ _ hno]
theorem aKC [Gv] (clock most last:Nat) (m:AObj) (hm:eH m=true) (l:List OutV) (hl:l.length≤1000000) :
  ACalls Tryz.prog GP 12 [.ptr 0 0] (SV clock most last m l) (fun r os=>os=SV clock most last m l∧r=.cptr [.sl l.length (OS l) .no]):=by
 have cC:=aHf l hl
 have hnl:=gA l
 simp only[SV,KO,SO] at *
 refine dB Tryz.func12 rfl rfl Tryz.ntmps12 (rts:=#[50]) rfl Tryz.results12 (by simp) ?_
 simp only[seval,aZ]
 refine ks [0] ?_
 refine kr [1000007] fun K hK=>?_
 refine gF [3,4] false [50] ⟨by decide,by simp,by simp[fU,eV,ref,jH,bM _ _ hnl]⟩ rfl (by simp[aH]) (by simp only[GHd,List.map_cons,List.map_nil,List.getD_cons_zero,List.getD_cons_succ,gJ,gH,ren,rB,cY _ _ hnl];exact cC) ⟨by simp,by simp[fU,eV,ref,jH,bM _ _ hnl],by simp[eV,ref],fun h=>by cases h⟩ ?_
 simp only[seval,kT,ren,σn,jD,gG,gJ,gH,cY _ _ hnl,rB]
 refine hK _ ?_
 clear hK K
 refine kp [2] ?_
 refine aLD 5 [.sl l.length (OS l) (.tok 6)] [.sl l.length (OS l) .no] rfl rfl (fun E vs h=>?_) ?_
 ·simp only[bY] at h ⊢
  obtain⟨v,vs',rfl,h1,h2⟩:=h
  exact⟨v,vs',rfl,qF (p:=.tok 6) h1,h2⟩
 simp only[List.set_cons_succ,List.set_cons_zero]
 refine iH 2 5 [.sl l.length (OS l) .no] rfl rfl (Nat.zero_lt_succ _) (by simp[aM,aH,gA]) ?_
 simp only[List.set_cons_succ,List.set_cons_zero]
 refine kp [2] ?_
 apply aS
 refine fE (by simp) (jX clock most last m hm l) ?_
 simp only[seval,kT,kN]
 simp[ref,eV,jH,bM _ _ hnl]
theorem yO [Gv] (f:eK) (h:f.2.length<18446744073709551616):(fby f).length≤11+f.2.length:=by
 have:=jI h
 simp only[fby,List.length_cons,List.length_append]
 omega
theorem aJR [Gv] (s:List UInt8) (h:s.length≤100000):(kU (eO s)).length≤11+s.length:=by
 have:=yO (3,s) (by simp;omega)
 simpa[kU,eO,V.join,kU] using this
theorem aFI [Gv] (ts:List (List UInt8)) (k:Nat) (h:∀ s∈ts,s.length≤k) (hk:k≤100000):((ts.map eO).flatMap kU).length≤ts.length*(11+k):=by
 induction ts with
 | nil=>simp
 | cons s ts ih=>
  rw[List.map_cons,List.flatMap_cons,List.length_append,List.length_cons]
  have h1:=aJR s (by have:=h s (by simp);omega)
  have h2:=h s (by simp)
  have h3:=ih (fun s hs=>h s (by simp[hs]))
  have:(ts.length+1)*(11+k)=ts.length*(11+k)+(11+k):=by rw[Nat.succ_mul]
  omega
theorem aIH [Gv] (t:TokV) (ts:List (List UInt8)) (hp:wC t ts) (k:Nat) (h:∀ s∈ts,s.length≤k) (hk:k≤1000) (hn:ts.length≤64) (hkey:t.key<18446744073709551616) (hid:t.id.length≤100000) (htag:t.tag.length=32) :
  (gM t).length≤200+t.id.length+ts.length*(11+k):=by
 have h1:=aFI ts k h (by omega)
 have hm:ts.length*(11+k)≤64*1011:=Nat.mul_le_mul hn (by omega)
 have hv:=jI hkey
 have e:(oS t).length≤120+t.id.length+ts.length*(11+k):=by
  have f1:=yO (1,vb t.key) (by simp;omega)
  have f2:=yO (2,t.id) (by simp;omega)
  have f3:=yO (7,[if t.bound then 1 else 0]) (by simp)
  have f4:=yO (8,t.tag) (by simp;omega)
  simp only[List.length_cons,List.length_nil] at f1 f2 f3 f4
  unfold oS
  rw[hp]
  simp only[V.join,List.flatMap_cons,List.flatMap_nil,List.append_nil,List.length_append]
  omega
 have f:=yO (16,oS t) (by simp;omega)
 simp only at f
 unfold gM
 simp only[V.join,List.flatMap_cons,List.flatMap_nil,List.append_nil]
 omega
theorem aPB [Gv] (kind key un ticks:Nat) (draw:List UInt8) (hd:draw.length=32) (text:List UInt8) (out:Nat):OpF (OP (kind:Int) key un ticks (Bs draw++Bs (Z 64)) text (out:Int)) kind key un ticks out draw text false:=by
 have hZ:(Z 64).length=64:=eZ 64
 have hl:(Bs draw++Bs (Z 64)).length=96:=by rw[List.length_append,aX,aX];omega
 have hdr:(Bs draw++Bs (Z 64)).take 32=Bs draw:=by rw[← hd,← aX draw];simp
 have hone:(Bs draw++Bs (Z 64)).all dC=true:=by rw[List.all_append,eR,eR];rfl
 have hnor:aM (Bs draw++Bs (Z 64))=true:=by rw[dK,Go.V.aJ,Go.V.aJ];rfl
 generalize Bs draw++Bs (Z 64)=D at *
 have hg:∀ (T:List AV) (i:Nat),(D++T).getD (96+i) .top=T.getD i .top:=fun T i=>by
  rw[List.getD_eq_getElem?_getD,List.getElem?_append_right (by omega),List.getD_eq_getElem?_getD,hl]
  congr 2
  omega
 refine⟨?_,?_,?_,rfl,rfl,rfl,rfl,?_,hd,?_,?_,?_⟩
 ·simp[OP,OT,hl,NT,aX,hZ,eZ]
 ·simp only[OP,List.all_append,hone];rfl
 ·simp only[OP,dK,hnor];rfl
 ·show ((D++_).take 32)=_
  rw[List.take_append_of_le_length (by omega),hdr]
 ·show (D++_).getD (96+0) .top=_
  rw[hg];rfl
 ·show (D++_).getD (96+3) .top=_
  rw[hg];rfl
 ·show (D++_).getD (96+27) .top=_
  rw[hg];rfl
theorem aAo [Gv] {P:Program} {G:Gl} {f:Option FuncId} {a:AV} {L O:List AV} {objs:List AObj} {k:AV→List AObj→Prop} (h:L=O) (hk:wQ P G f [a,.agg O] objs k):wQ P G f [a,.agg L] objs k:=h ▸ hk
theorem aDl [Gv] {clock most last:Nat} {m:AObj} {l:List OutV} {clock' most' last':Nat} {m':AObj} {l':List OutV} {rest objs:List AObj} {k:AV→List AObj→Prop} {A:List AV} (O:List AV) (hOn:aM O=true) (hAn:aM A=true) (hm:eH m=true) (hm':eH m'=true)
  (cD:ACalls Tryz.prog GP 11 [.ptr 0 0,.agg O] (SV clock most last m l) (fun r os=>os=SV clock' most' last' m' l'∧r=.agg A)) (hobjs:objs=SV clock most last m l++rest)
  (hk:k (.agg A) (SV clock' most' last' m' l'++rest)):wQ Tryz.prog GP (some 11) [.ptr 0 0,.agg O] objs k:=by
 subst hobjs
 have hrf0:=jX clock most last m hm l
 have hrf:=jX clock' most' last' m' hm' l'
 have hvw:gT Tryz.prog (SV clock most last m l++rest) (List.range (SV clock most last m l).length) [35,46] [.ptr 0 0,.agg O]=some (True∧True∧True,false,[.ptr 0 0,.agg O]):=by
  simp only[gT,nR,bM _ _ hOn,cY _ _ hOn]
  rfl
 exact iU (objs:=SV clock most last m l) [35,46] hrf0 hvw ⟨trivial,trivial,trivial⟩ cD rfl hrf (by simp only[ref];exact bM _ _ hAn) hk
def pE:List UInt8:=1::Z 31
def me:List UInt8:=[109,101]
theorem aFe [Gv] (C:List Nat→List UInt8→List Nat) (key:List UInt8) (id:List UInt8) (h:id.length≤1024):okT (gN C key 1 id)=true:=by
 simp[okT,gN,h]
theorem aCn [Gv] {C:List Nat→List UInt8→List Nat} (hC:COk C) (key:List UInt8) (id:List UInt8) (h:id.length≤1024):(gM (gN C key 1 id)).length≤65536:=by
 have:=aIH (gN C key 1 id) [] rfl 0 (by simp) (by omega) (by simp) (by simp[gN]) (by simp[gN];omega) (fO hC _ _ _)
 simp[gN] at this
 simp[gN]
 omega
def T1 (C:List Nat→List UInt8→List Nat):TokV:=gN C pE 1 me
def T2 (C:List Nat→List UInt8→List Nat):TokV:=gK C (T1 C) (eO opa)
theorem aPW [Gv] {C:List Nat→List UInt8→List Nat} (hC:COk C):isB ⟨gM (T1 C),true,false⟩ (T1 C) []:=
 ⟨rfl,rfl,tU hC pE 1 (by omega) me (by decide),rfl,aFe _ _ _ (by decide),rfl,aCn hC _ _ (by decide)⟩
theorem aMm [Gv] {C:List Nat→List UInt8→List Nat} (hC:COk C):(T2 C).tag.length=32:=by
 unfold T2 gK
 dsimp only
 unfold qW
 exact fO hC _ _ _
theorem aNn [Gv] (C:List Nat→List UInt8→List Nat):aAM C pE (T2 C):=by
 unfold aAM T2 gK T1 gN
 dsimp only
 unfold pU
 rw[List.nil_append,List.foldl_cons,List.foldl_nil]
theorem aFy [Gv] {C:List Nat→List UInt8→List Nat} (hC:COk C):small (T2 C):=by
 refine⟨by show me.length≤200000;decide,by show ([]++[eO opa]:List CavV).length≤1000000;decide,?_,aMm hC,by show (1:Nat)<18446744073709551616;omega,?_⟩
 ·intro c hc
  have:c=eO opa:=by simpa[T2,gK,T1,gN] using hc
  subst this
  decide
 ·intro c hc
  have:c=eO opa:=by simpa[T2,gK,T1,gN] using hc
  subst this
  decide
theorem aMO [Gv] (C:List Nat→List UInt8→List Nat):okT (T2 C)=true:=by
 show (decide (me.length≤1024)&&decide (([]++[eO opa]:List CavV).length≤64)&&([]++[eO opa]:List CavV).all aGr)=true
 decide
theorem aLv [Gv] {C:List Nat→List UInt8→List Nat} (hC:COk C):(gM (T2 C)).length≤65536:=by
 have:=aIH (T2 C) [opa] rfl 10 (by decide) (by omega) (by decide) (by show (1:Nat)<18446744073709551616;omega) (by show me.length≤100000;decide) (aMm hC)
 have h2:(T2 C).id.length=2:=rfl
 simp only[List.length_cons,List.length_nil] at this
 omega
def RQo (op:List UInt8):List AV:=[str op,str []]++((NT false (Z 16) 0).take 17++[.val (.float .f64 0)])
theorem aCm [Gv] {C:List Nat→List UInt8→List Nat} (hC:COk C) (l:List OutV) (op:List UInt8) :
  ACalls Tryz.prog GP 14 [.ptr 0 0,.sl (gM (T2 C)).length (Bs (gM (T2 C))) .no,.agg (RQo op)] (SV 0 3 1 (KM pE 9) l) (fun r os=>os=SV 0 3 1 (KM pE 9) l∧r=.val (.int .i64 (if op == [97] then 0 else 7))):=by
 have h:=aLr hC 0 3 pE rfl 9 l (T2 C) [opa] (aFy hC) rfl rfl (aMO C) (aLv hC) rfl (aNn C) (RQo op) rfl rfl rfl (fun _=>op == [97]) (fun s hs=>by
  have:s=opa:=by simpa using hs
  subst this
  exact aJo (RQo op) rfl rfl rfl op rfl 0)
 rw[if_pos (by omega)] at h
 have e:([opa].all fun _=>op == [97])=(op == [97]):=by simp
 rw[e] at h
 exact h
theorem aKp [Gv] {C:List Nat→List UInt8→List Nat} (hC:COk C):ACalls Tryz.prog GP 8 [] [] (fun r os=>os=[]∧r=.val (.bool true)):=by
 have cN:=aBe 3 (by omega)
 have F1:=aPB 2 0 9 0 pE rfl [] 0
 have cD1:=aGv 0 3 0 (.map []) rfl [] 0 1 (KM pE 9) (gY _ _) [] _ F1 (by omega) (aEP 0 3 (by omega) [] _ F1)
 have F2:=aPB 7 1 0 0 (Z 32) rfl me 0
 have cD2:=aCb 0 3 1 (KM pE 9) (gY _ _) [] 0 1 (KM pE 9) (gY _ _) _ _ F2 (.inl rfl) (aFn hC 0 3 pE rfl 9 (by omega) [] (by simp) _ F2 (by decide) (aFe _ _ _ (by decide)) (aCn hC _ _ (by decide)))
 have F3:=aPB 8 0 0 0 (Z 32) rfl opa 0
 have cD3:=aCb 0 3 1 (KM pE 9) (gY _ _) _ 0 1 (KM pE 9) (gY _ _) _ _ F3 (.inr rfl) (aHa hC 0 3 1 (KM pE 9) (gY _ _) [⟨gM (T1 C),true,false⟩] (by simp) _ F3 (by simp) (T1 C) [] (aPW hC) (by decide) (aFy hC) (aMO C) (aLv hC) _ rfl (lE opP .full) (sX opP .full rfl) aCx)
 have cS:=aKC 0 3 1 (KM pE 9) (gY _ _) [⟨gM (T1 C),true,false⟩,⟨gM (T2 C),true,false⟩] (by simp)
 have cG:=aMh [⟨gM (T1 C),true,false⟩,⟨gM (T2 C),true,false⟩] (by simp) 1 (by simp)
 have cJ1:=aCm hC [⟨gM (T1 C),true,false⟩,⟨gM (T2 C),true,false⟩] [97]
 have cJ2:=aCm hC [⟨gM (T1 C),true,false⟩,⟨gM (T2 C),true,false⟩] [98]
 have hrf:=jX 0 3 1 (KM pE 9) (gY _ _) [⟨gM (T1 C),true,false⟩,⟨gM (T2 C),true,false⟩]
 rw[show gK C (T1 C) (eO opa)=T2 C from rfl] at cD3
 rw[show gN C pE 1 me=T1 C from rfl] at cD2
 have hnB2:=Go.V.aJ (gM (T2 C))
 have hOA:OA (⟨gM (T2 C),true,false⟩:OutV)=[.val (.string ⟨(gM (T2 C)).toArray⟩),.val (.bool true),.val (.bool false)]:=rfl
 simp only[List.getElem_cons_succ,List.getElem_cons_zero,hOA] at cG
 generalize gM (T2 C)=e2 at *
 generalize gM (T1 C)=e1 at *
 refine ke Tryz.func8 Tryz.ntmps8 Tryz.results8 #[4] ?_
 refine kq ?_
 refine kr [1000005] fun K hK=>?_
 refine gF [] false [3] ⟨by decide,by simp,by simp⟩ rfl (by simp[aH]) (by simpa[GHd] using cN) ⟨by simp,by simp[SV,KO,SO,fU,eV,ref,jH,OS],by simp[SV,eV,ref],fun h=>by cases h⟩ ?_
 have hB:jD [] [] (SV 0 3 0 (.map []) [])=SV 0 3 0 (.map []) []:=rfl
 rw[hB]
 simp only[seval,kT,ren,σn]
 refine hK _ ?_
 clear hK K hB
 refine kp [0,1] ?_
 refine aC fun K1 hK1=>?_
 refine aC fun K hK=>aA [] ?_
 simp only[qq,aF,Nat.reduceLT,aB,reduceCtorEq,Nat.reduceEqDiff,cav,aL,aP,aG,aI]
 (repeat' apply And.intro)<;>try (first|exact True.intro|omega)
 refine hK _ ?_
 clear hK K
 refine aR rfl (bC (hK1 _ ?_))
 clear hK1 K1
 refine kp [1] ?_
 refine kr [1000012] fun K hK=>?_
 refine⟨⟨rfl,rfl⟩,aAo (O:=OP 2 0 9 0 (Bs pE++Bs (Z 64)) [] 0) (by kernel_rfl) (aDl _ F1.nor rfl rfl (gY _ _) cD1 (List.append_nil _).symm ?_)⟩
 simp only[seval,kT]
 refine hK _ ?_
 clear hK K
 refine kp [1] ?_
 refine kr [1000015] fun K hK=>?_
 refine aAo (O:=OP 7 1 0 0 (Bs (Z 32)++Bs (Z 64)) me 0) (by kernel_rfl) (aDl _ F2.nor rfl (gY _ _) (gY _ _) cD2 (List.append_nil _).symm ?_)
 simp only[seval,kT]
 refine hK _ ?_
 clear hK K
 refine kp [1] ?_
 refine kr [1000018] fun K hK=>?_
 refine aAo (O:=OP 8 0 0 0 (Bs (Z 32)++Bs (Z 64)) opa 0) (by kernel_rfl) (aDl _ F3.nor rfl (gY _ _) (gY _ _) cD3 (List.append_nil _).symm ?_)
 simp only[seval,kT,SV,AN]
 refine hK _ ?_
 clear hK K
 refine kp [1,2] ?_
 refine iH 2 5 [.val (.int .i64 0),.val (.int .i64 0),.val (.int .u64 0),.val (.int .i64 1)] rfl rfl (Nat.zero_lt_succ _) rfl ?_
 simp only[List.set_cons_succ,List.set_cons_zero]
 refine kp [1,2] ?_
 refine aC fun K hK=>?_
 refine kd [2000021,23,24] ?_
 refine iU (objs:=SV 0 3 1 (KM pE 9) [⟨e1,true,false⟩,⟨e2,true,false⟩]) (rest:=[.dead]) [35] hrf rfl (by simp) cS rfl hrf (by simp[ref,eV,jH,bM _ _ (gA _)]) ?_
 simp only[seval,kT,SV]
 refine aV (by simp[aM,aH,gA]) cG (by simp[aM,aH]) ?_
 simp only[seval,kT]
 refine hK _ ?_
 clear hK K
 refine kp [1,2,3,4] ?_
 refine kw [1000039,1000048] @Nat.zero_lt_succ fun K hK=>?_
 have hvw:∀ op rest,gT Tryz.prog (SV 0 3 1 (KM pE 9) [⟨e1,true,false⟩,⟨e2,true,false⟩]++rest) (List.range 5) [35,54,29] [.ptr 0 0,.sl e2.length (Bs e2) .no,.agg (RQo op)]=some (True∧aM (Bs e2)=true∧True∧True,false,[.ptr 0 0,.sl e2.length (Bs e2) .no,.agg (RQo op)]):=fun op rest=>by
  simp only[gT,nR,bM _ _ (show aM (RQo op)=true from rfl),cY _ _ (show aM (RQo op)=true from rfl)]
  rfl
 refine iU (objs:=SV 0 3 1 (KM pE 9) [⟨e1,true,false⟩,⟨e2,true,false⟩]) [35,54,29] hrf (hvw [97] _) ⟨trivial,hnB2,trivial,trivial⟩ cJ1 rfl hrf rfl ?_
 simp only[seval,kT,SV,Nat.zero_lt_succ]
 refine iU (objs:=SV 0 3 1 (KM pE 9) [⟨e1,true,false⟩,⟨e2,true,false⟩]) [35,54,29] hrf (hvw [98] _) ⟨trivial,hnB2,trivial,trivial⟩ cJ2 rfl hrf rfl ?_
 simp only[seval,kT,SV,Nat.zero_lt_succ]
 refine hK _ ?_
 clear hK K
 refine kp [0] ?_
 apply aS
 simp only[seval,kT,kF]
 rfl
end Go.Proofs.YtefdnmeopbkflaaGreatDoor
namespace Go.Proofs.YtefdnmeopbkflaaGreatDoor
open Go Go.V
set_option linter.unusedSimpArgs false
set_option linter.unusedVariables false
set_option maxRecDepth 20000
theorem _root_.Go.V.APan.defer [Gv] {P:Program} {G:Gl} {f:FuncId} {args:List AV} {outs:List AObj} {Q:AV→List AObj→Prop} (h:APan P G f args outs Q) (ds:List Deferred):APan P ⟨G.tab,ds⟩ f args outs Q:=
 ⟨h.1,fun E vs h1 h2 h3=>h.2 E vs h1 h2 h3⟩

structure RqF (RQ:List AV) (op path:List UInt8):Prop where
 len:RQ.length=20
 ones:RQ.all dC=true
 nor:aM RQ=true
 fop:RQ.getD 0 .top=str op
 fpath:RQ.getD 1 .top=str path
theorem tO [Gv] (n:Nat) (l:List AV) (h:aM l=true):aM (l.take n)=true:=by
 rw[← List.take_append_drop n l,dK,Bool.and_eq_true] at h
 exact h.1
theorem RqF.cost [Gv] {RQ:List AV} {op path:List UInt8} (h:RqF RQ op path) (u:Nat):(RQ.take 19++[AV.val (.float .f64 u)]).length=20∧(RQ.take 19++[AV.val (.float .f64 u)]).all dC=true∧aM (RQ.take 19++[AV.val (.float .f64 u)])=true:=by
 refine⟨by simp[h.len],?_,?_⟩
 ·have h1:(RQ.take 19).all dC=true:=List.all_eq_true.2 fun x hx=>List.all_eq_true.1 h.ones x (List.mem_of_mem_take hx)
  rw[List.all_append,h1]
  rfl
 ·rw[dK,tO _ _ h.nor]
  rfl

structure InP (p:PV):Prop where
 addr:p.addr.length=16
 path:p.path.length<4611686018427387904
 each:∀ s∈p.names,s.length<2305843009213693952
 names:p.names.length<4611686018427387904
 time:p.time<18446744073709551616
 bits:-9223372036854775808≤p.bits∧p.bits≤9223372036854775807
 cost:p.cost<18446744073709551616
theorem InP.ok [Gv] {p:PV} (h:InP p) (hl:aCo p=false):OkP p:=by
 have h1:=of_decide_eq_false hl
 have h2:=aBm p.names
 have h3:=aKF p.names
 exact⟨⟨h.addr,by omega,by omega,by omega⟩,h.time,h.bits,h.cost⟩
end Go.Proofs.YtefdnmeopbkflaaGreatDoor
namespace Go.Proofs.YtefdnmeopbkflaaGreatDoor
open Go Go.V
set_option linter.unusedSimpArgs false
set_option linter.unusedVariables false
set_option maxRecDepth 20000
set_option maxRecDepth 100000
theorem aJE [Gv] {H:Type} (l:List (List UInt8)):Rows.uptoBulkAll (l.map fun s=>(DataW.lit (.string s):DataW H))=aTs l:=by
 induction l with
 | nil=>rfl
 | cons x xs ih=>simp only[List.map_cons,Rows.uptoBulkAll,Rows.uptoBulk,aTs,ih]
theorem aHO [Gv] {H:Type} {enc:TypeId×Value→H} {P:Program} {w:World} {base:Nat} {held:Bool} {t e:TypeId} {fuel:Nat} {cs:List Value} {x:DataW H×List MemPlace} (ht:P.underlying t=some (.slice e)) (he:P.underlying e=some .string) (hc:P.cellsOf e=1)
  (h:DataW.trod enc P w base (fun _=>true) held fuel t cs=some x) :
  ∃ (v:Value) (l:List (List UInt8)) (N:Nat),cs=[v]∧aTs l≤Rows.uptoBulk x.1∧∀ M,N≤M→bE (Env.start w M) (.sl l.length (dU l) .no) v:=by
 rcases Deep.open_strs ht he hc h with⟨rfl,rfl⟩|⟨a,len,cap,m,Sx,rfl,hb,hl,hm,hmm,rfl,each⟩
 ·refine⟨_,[],0,rfl,by simp[aTs],fun M _=>?_⟩
  simp only[bE]
  exact⟨none,0,rfl,Nat.le_refl _,.inl rfl,trivial⟩
 ·have hmm':=hmm
  obtain⟨l,hld⟩:∃ l,(List.range len).map (fun i=>(Sx i).data.toList)=l:=⟨_,rfl⟩
  have hll:l.length=len:=by rw[← hld];simp
  have hbk:(List.range len).map (fun i=>(DataW.lit (.string (Sx i).data.toList):DataW H))=l.map fun s=>.lit (.string s):=by
   rw[← hld,List.map_map];rfl
  have hbulk:aTs l≤Rows.uptoBulk (DataW.slice ((List.range len).map fun i=>.lit (.string (Sx i).data.toList)) ((List.range (m - len)).map fun j=>.lit (.string (Sx (len+j)).data.toList)):DataW H):=by
   simp only[Rows.uptoBulk]
   rw[hbk,aJE]
   omega
  have hml:len≤m:=by rw[hmm];split<;>omega
  by_cases h0:len=0
  ·refine⟨_,l,0,rfl,hbulk,fun M _=>?_⟩
   have:l=[]:=List.length_eq_zero_iff.1 (by omega)
   subst this
   subst h0
   simp only[bE]
   exact⟨_,cap,rfl,hl,.inl rfl,trivial⟩
  obtain⟨b,off,spot⟩:=a
  have hspot:spot=none:=by
   have h1:=(each 0 (by omega)).1
   simpa[Addr.add] using World.cell?_spot h1
  subst hspot
  refine⟨_,l,off+len,rfl,hbulk,fun M hM=>?_⟩
  simp only[bE]
  refine⟨_,cap,by rw[hll],by rw[hll];exact hl,.inr ⟨b,off,rfl,?_,?_,eD.of_cell fun j c hj=>?_⟩,trivial⟩
  ·have h1:=(each 0 (by omega)).1
   rw[iK] at h1
   exact aDs h1
  ·rw[dY,hll]
   exact hM
  ·have hjl:j<len:=by
    have:=(List.getElem?_eq_some_iff.1 hj).1
    rwa [dY,hll] at this
   have h1:=(each j (by omega)).1
   rw[iK] at h1
   refine⟨_,h1,?_⟩
   have:c=str (Sx j).data.toList:=by
    rw[← hld] at hj
    simp[dU,hjl] at hj
    exact hj.symm
   rw[this]
   simp only[str,bE]
section
variable {H:Type} {enc:TypeId×Value→H} {P:Program} {w:World} {base:Nat} {sp:Nat→Bool} {held:Bool}
theorem aAA [Gv] {t:TypeId} {fuel:Nat} {cs:List Value} {x:DataW H×List MemPlace} {k:FloatKind} (ht:P.underlying t=some (.float k)) (h:DataW.trod enc P w base sp held fuel t cs=some x):∃ b,cs=[.float k b]∧(Lit.float k b).wf=true:=by
 cases fuel with
 | zero=>simp[DataW.trod] at h
 | succ n=>
  unfold DataW.trod at h
  rw[ht] at h
  split at h<;>simp_all
theorem aBn [Gv] {t e:TypeId} {fuel n:Nat} {cs:List Value} {x:DataW H×List MemPlace} (ht:P.underlying t=some (.array n e)) (he:P.underlying e=some (.int .u8)) (hc:P.cellsOf e=1) (hn:P.cellsOf t=n) (h:DataW.trod enc P w base sp held fuel t cs=some x) :
  ∃ b:List UInt8,b.length=n∧cs=b.map fun c=>Value.int .u8 (c.toNat:Int):=by
 obtain⟨xs,m,rfl,_,hl,hxl,hx⟩:=DataW.trod_array ht h
 have hl':cs.length=n:=by rw[hl,hn]
 have each:∀ i,i<n→∃ c:UInt8,cs[i]? = some (.int .u8 (c.toNat:Int)):=by
  intro i hi
  have h1:=hx i hi
  rw[hc,Nat.mul_one] at h1
  obtain⟨x,hx'⟩:∃ x,xs[i]? = some x:=⟨xs[i]'(by omega),List.getElem?_eq_getElem (by omega)⟩
  rw[hx'] at h1
  obtain⟨z,hz,_,hw⟩:=DataW.trod_int he h1
  have h0:=congrArg (fun l=>l[0]?) hz
  simp only[Lit.wf,Bool.and_eq_true,decide_eq_true_eq] at hw
  have e1:IntKind.u8.min=0:=by decide
  have e2:IntKind.u8.max=255:=by decide
  refine⟨UInt8.ofNat z.toNat,?_⟩
  have hz2:((UInt8.ofNat z.toNat).toNat:Int)=z:=by
   rw[UInt8.toNat_ofNat']
   have:z.toNat<256:=by omega
   rw[Nat.mod_eq_of_lt (by simpa using this)]
   omega
  rw[hz2]
  simpa[List.getElem?_take,List.getElem?_drop] using h0
 refine⟨(List.range n).map fun i=>if h:i<n then Classical.choose (each i h) else 0,by simp,?_⟩
 apply List.ext_getElem?
 intro i
 by_cases hi:i<n
 ·rw[Classical.choose_spec (each i hi)]
  simp[hi]
 ·rw[List.getElem?_eq_none (by omega),List.getElem?_eq_none (by simp;omega)]
end
theorem aPb [Gv] (l:List Value) (h:l.length=23):l=(l.drop 0).take 1++((l.drop 1).take 1++((l.drop 2).take 1++((l.drop 3).take 1++((l.drop 4).take 18++(l.drop 22).take 1)))):=by
 have e:∀ (a b:Nat),(l.drop a).take b++l.drop (a+b)=l.drop a:=fun a b=>by
  rw[← List.drop_drop]
  exact List.take_append_drop b (l.drop a)
 have e22:(l.drop 22).take 1=l.drop 22:=List.take_of_length_le (by simp;omega)
 rw[e22,e 4 18,e 3 1,e 2 1,e 1 1,e 0 1,List.drop_zero]
theorem aPY [Gv] (l:List Value) (h:l.length=18):l=(l.drop 0).take 17++(l.drop 17).take 1:=by
 rw[show (l.drop 17).take 1=l.drop 17 from List.take_of_length_le (by simp;omega),List.drop_zero,List.take_append_drop]
theorem aLx [Gv] (l:List Value) (h:l.length=17):l=(l.drop 0).take 1++(l.drop 1).take 16:=by
 rw[show (l.drop 1).take 16=l.drop 1 from List.take_of_length_le (by simp;omega),List.drop_zero,List.take_append_drop]
theorem aCy [Gv] {H:Type} {enc:TypeId×Value→H} {w:World} {base base0:Nat} {held:Bool} {v:Value} {d:DataW H} {p:List MemPlace} (hok:Value.okWide Tryz.prog w .any base0 81 v) (h:DataW.Trod enc Tryz.prog w base (fun _=>true) held 81 v d p) :
  ∃ (pv:PV) (N:Nat),pv.addr.length=16∧pv.time<18446744073709551616∧(-9223372036854775808≤pv.bits∧pv.bits≤9223372036854775807)∧pv.cost<18446744073709551616∧pv.path.length+aTs pv.names≤Rows.uptoBulk d∧∀ M,N≤M→bE (Env.start w M) (.agg (PA pv .no)) v:=by
 obtain⟨cs,rfl⟩:∃ cs,v=.agg cs:=by
  unfold Value.okWide at hok
  rw[Tryz.underlying81] at hok
  obtain⟨cs,rfl,_⟩:=hok
  exact⟨cs,rfl⟩
 obtain⟨fuel,hf⟩:=h
 obtain⟨xs,n,rfl,hd,hl,hlen,hx⟩:=DataW.trod_struct Tryz.underlying81 hf
 simp only[Value.cells] at hl hx
 obtain⟨L⟩:=cs
 simp only at hl hx
 have hn:Tryz.prog.cellsOf 81=23:=by kernel_rfl
 rw[hn] at hl
 have s3:Tryz.prog.cellsOf 3=1:=by kernel_rfl
 have s30:Tryz.prog.cellsOf 30=1:=by kernel_rfl
 have s43:Tryz.prog.cellsOf 43=1:=by kernel_rfl
 have s9:Tryz.prog.cellsOf 9=1:=by kernel_rfl
 have s79:Tryz.prog.cellsOf 79=18:=by kernel_rfl
 have s27:Tryz.prog.cellsOf 27=1:=by kernel_rfl
 match xs,hlen with
 | [x0,x1,x2,x3,x4,x5],_=>
 have f0:=hx 0 _ rfl
 change DataW.trod enc Tryz.prog w base (fun _=>true) held n 3 ((L.drop 0).take (Tryz.prog.cellsOf 3))=some x0 at f0
 rw[s3] at f0
 have f1:=hx 1 _ rfl
 change DataW.trod enc Tryz.prog w base (fun _=>true) held n 30 ((L.drop 1).take (Tryz.prog.cellsOf 30))=some x1 at f1
 rw[s30] at f1
 have f2:=hx 2 _ rfl
 change DataW.trod enc Tryz.prog w base (fun _=>true) held n 43 ((L.drop 2).take (Tryz.prog.cellsOf 43))=some x2 at f2
 rw[s43] at f2
 have f3:=hx 3 _ rfl
 change DataW.trod enc Tryz.prog w base (fun _=>true) held n 9 ((L.drop 3).take (Tryz.prog.cellsOf 9))=some x3 at f3
 rw[s9] at f3
 have f4:=hx 4 _ rfl
 change DataW.trod enc Tryz.prog w base (fun _=>true) held n 79 ((L.drop 4).take (Tryz.prog.cellsOf 79))=some x4 at f4
 rw[s79] at f4
 have f5:=hx 5 _ rfl
 change DataW.trod enc Tryz.prog w base (fun _=>true) held n 27 ((L.drop 22).take (Tryz.prog.cellsOf 27))=some x5 at f5
 rw[s27] at f5
 obtain⟨k,e0,_,w0⟩:=DataW.trod_int Tryz.underlying3 f0
 obtain⟨t,e1,_,w1⟩:=DataW.trod_int Tryz.underlying30 f1
 obtain⟨nv,names,N,e2,b2,r2⟩:=aHO Tryz.underlying43 Tryz.underlying9 s9 f2
 obtain⟨s,e3,b3,w3⟩:=DataW.trod_string Tryz.underlying9 f3
 obtain⟨c,e5,w5⟩:=aAA Tryz.underlying27 f5
 obtain⟨L4,hL4⟩:∃ L4,(L.drop 4).take 18=L4:=⟨_,rfl⟩
 rw[hL4] at f4
 obtain⟨ys,n2,hn2,_,hl2,hlen2,hy⟩:=DataW.trod_struct Tryz.underlying79 f4
 have s26:Tryz.prog.cellsOf 26=17:=by kernel_rfl
 rw[s79] at hl2
 match ys,hlen2 with
 | [y0,y1],_=>
 have g0:=hy 0 _ rfl
 change DataW.trod enc Tryz.prog w base (fun _=>true) held n2 26 ((L4.drop 0).take (Tryz.prog.cellsOf 26))=some y0 at g0
 rw[s26] at g0
 have g1:=hy 1 _ rfl
 change DataW.trod enc Tryz.prog w base (fun _=>true) held n2 3 ((L4.drop 17).take (Tryz.prog.cellsOf 3))=some y1 at g1
 rw[s3] at g1
 obtain⟨L5,hL5⟩:∃ L5,(L4.drop 0).take 17=L5:=⟨_,rfl⟩
 rw[hL5] at g0
 obtain⟨bits,e4,_,w4⟩:=DataW.trod_int Tryz.underlying3 g1
 obtain⟨zs,n3,hn3,_,hl3,hlen3,hz⟩:=DataW.trod_struct Tryz.underlying26 g0
 have s4:Tryz.prog.cellsOf 4=1:=by kernel_rfl
 have s24:Tryz.prog.cellsOf 24=16:=by kernel_rfl
 have s5:Tryz.prog.cellsOf 5=1:=by kernel_rfl
 rw[s26] at hl3
 match zs,hlen3 with
 | [z0,z1],_=>
 have q0:=hz 0 _ rfl
 change DataW.trod enc Tryz.prog w base (fun _=>true) held n3 4 ((L5.drop 0).take (Tryz.prog.cellsOf 4))=some z0 at q0
 rw[s4] at q0
 have q1:=hz 1 _ rfl
 change DataW.trod enc Tryz.prog w base (fun _=>true) held n3 24 ((L5.drop 1).take (Tryz.prog.cellsOf 24))=some z1 at q1
 rw[s24] at q1
 obtain⟨v6,e6,_⟩:=DataW.trod_bool Tryz.underlying4 q0
 obtain⟨b,hb,e7⟩:=aBn Tryz.underlying24 Tryz.underlying5 s5 s24 q1
 have hL:=aPb L hl
 rw[e0,e1,e2,e3,hL4,e5,aPY L4 hl2,hL5,e4,aLx L5 hl3,e6,e7] at hL
 simp only[Lit.wf,Bool.and_eq_true,decide_eq_true_eq] at w0 w1 w4 w5
 have m1:IntKind.u64.min=0:=by decide
 have m2:IntKind.u64.max=18446744073709551615:=by decide
 have m3:IntKind.i64.min=-9223372036854775808:=by decide
 have m4:IntKind.i64.max=9223372036854775807:=by decide
 refine⟨⟨k,t.toNat,names,s.data.toList,v6,b,bits,c⟩,N,hb,by show t.toNat<_;omega,⟨by show _≤bits;omega,by show bits≤_;omega⟩,?_,?_,fun M hM=>?_⟩
 ·show c<_
  rw[nH] at w5
  omega
 ·have hd1:=congrArg Prod.fst hd
  simp only[List.map_cons,List.map_nil] at hd1
  rw[hd1,b3]
  simp only[Rows.uptoBulk,Rows.uptoBulkAll]
  show s.data.toList.length+aTs names≤_
  omega
 ·have ht:((t.toNat:Nat):Int)=t:=by omega
  rw[hL]
  simp only[bE]
  refine⟨_,rfl,?_⟩
  unfold PA PD NT
  simp only[ht,List.cons_append,List.nil_append,List.append_assoc,bY,bE,str]
  refine⟨_,_,rfl,rfl,_,_,rfl,rfl,_,_,rfl,?_,_,_,rfl,rfl,_,_,rfl,rfl,?_⟩
  ·have:=r2 M hM
   simpa only[bE] using this
  ·exact(oN _ b).append (by simp only[bY,bE];exact⟨_,_,rfl,rfl,_,_,rfl,rfl,rfl⟩)
end Go.Proofs.YtefdnmeopbkflaaGreatDoor
namespace Go.Proofs.YtefdnmeopbkflaaGreatDoor
open Go Go.V
set_option linter.unusedSimpArgs false
set_option linter.unusedVariables false
set_option maxRecDepth 100000
open Go.RowKit (Below)
def dig (c:UInt8):Option Nat:=if 48≤c.toNat∧c.toNat≤57 then some (c.toNat - 48) else if 97≤c.toNat ||| 32∧c.toNat ||| 32≤122 then some ((c.toNat ||| 32) - 87) else none
def puL (b mx:Nat):List UInt8→Nat→Nat×Nat
 | [],n=>(n,0)
 | c::s,n=>match dig c with
  | none=>(0,2)
  | some d=>if b≤d then (0,2) else if mx<n*b+d then (mx,1) else puL b mx s (n*b+d)
def puF (b k:Nat) (s:List UInt8):Nat×Nat:=if s=[] then (0,2) else puL b (2^k - 1) s 0
def aQy:Nat→Value
 | 0=>.nilIface
 | k=>.iface 310 (.int .i64 (k:Int))
theorem aPn [Gv] (n:Nat) (h:n<256):n ||| 32<256:=Nat.or_lt_two_pow (n:=8) h (by omega)
theorem aBQ [Gv] (c:UInt8):ACalls Tryz.prog GP 236 [.val (.int .u8 (c.toNat:Int))] [] (fun r os=>os=[]∧r=.val (.int .u8 ((c.toNat ||| 32:Nat):Int))):=by
 have hlt:=c.toNat_lt
 refine ke Tryz.func236 Tryz.ntmps236 Tryz.results236 #[5] ?_
 refine ks [0] ?_
 refine kx [2] @aMF ?_
 refine aS ?_
 simp only[seval,kT,kF]
 rw[Nat.mod_eq_of_lt (aPn _ hlt)]
theorem aTD [Gv] (b k:Nat):puF b k []=(0,2):=rfl
theorem aTV [Gv] {b k:Nat} {s:List UInt8} (h:s≠[]):puF b k s=puL b (2^k - 1) s 0:=by simp[puF,h]
theorem aTW [Gv] {b mx:Nat} (s:List UInt8):∀ n,n≤mx→(puL b mx s n).1≤mx:=by
 induction s with
 | nil=>intro n h;exact h
 | cons c s ih=>
  intro n h
  simp only[puL]
  cases dig c with
  | none=>exact Nat.zero_le _
  | some d=>
   simp only
   split
   ·exact Nat.zero_le _
   ·split
    ·exact Nat.le_refl _
    ·exact ih _ (by omega)
set_option maxHeartbeats 4000000 in
theorem aSn [Gv] (b k:Nat) (hb:b=10∨b=16) (hk:k=16∨k=53) (s:List UInt8) (hs:s.length≤140737488355328) :
  ACalls Tryz.prog GP 183 [str s,.val (.int .i64 (b:Int)),.val (.int .i64 (k:Int))] [] (fun r os=>os=[]∧r=.tup [.val (.int .u64 ((puF b k s).1:Int)),.val (aQy (puF b k s).2)]):=by
 have hsz:((⟨s.toArray⟩:ByteArray).size:Int)=(s.length:Int):=by simp[ByteArray.size]
 unfold str
 refine ke Tryz.func183 Tryz.ntmps183 Tryz.results183 #[30,206] ?_
 refine ks [0,1,2] ?_
 refine aC fun K1 hK1=>?_
 by_cases h0:s=[]
 ·subst h0
  refine kq ?_
  apply bG rfl
  refine ks [6,7] ?_
  refine aS ?_
  simp only[aI,bL]
  simp only[qq,bR,eU,bN,bO,dA,aB,Nat.reduceEqDiff,aH]
  simp[aTD,aQy]
 have d0:(s == [])=false:=beq_eq_false_iff_ne.2 h0
 refine ky d0 ?_
 refine aR rfl (bC (hK1 _ ?_))
 clear hK1 K1
 have e0:((b:Int) == 0)=false:=by rw[beq_eq_false_iff_ne];omega
 have e1:decide ((2:Int)≤(b:Int))=true:=decide_eq_true (by omega)
 have e2:decide ((b:Int)≤36)=true:=decide_eq_true (by omega)
 have k0:((k:Int) == 0)=false:=by rw[beq_eq_false_iff_ne];omega
 have k1:decide ((k:Int)<0)=false:=decide_eq_false (by omega)
 have k2:decide ((k:Int) > 64)=false:=decide_eq_false (by omega)
 refine kp [0,1,2] ?_
 refine kx [0,1,2,8] e0 ?_
 refine ks [0,1,2,8] ?_
 refine aC fun K1 hK1=>bK ?_
 refine ky (kI e1 e2) ?_
 refine bG rfl (bC ?_)
 simp only[aI,bL]
 refine hK1 _ ?_
 clear hK1 K1
 refine kp [0,1,2,8] ?_
 refine aC fun K1 hK1=>?_
 refine ky k0 ?_
 apply aR rfl
 refine ky (kI k1 k2) ?_
 refine aR rfl (bC ?_)
 simp only[aI]
 refine hK1 _ ?_
 clear hK1 K1
 refine kp [0,1,2,8] ?_
 refine ks [0,1,2,8] ?_
 refine aC fun K1 hK1=>?_
 obtain⟨cut,hcut⟩:∃ cut:Nat,cut=if b=10 then 1844674407370955162 else 1152921504606846976:=⟨_,rfl⟩
 have hbig:1152921504606846976≤cut:=by rw[hcut];split<;>omega
 have next:∀ st:St,gE GP st ⟨172,[(0,.val (.string ⟨s.toArray⟩)),(1,.val (.int .i64 (b:Int))),(2,.val (.int .i64 (k:Int))),(8,.val (.bool false)),(10,.val (.int .u64 (cut:Int)))],[]⟩→K1 st:=by
  intro st hw
  refine hK1 st (eX hw ?_)
  clear hw hK1 K1
  have hmx:IntKind.u64.wrap (((1*2^if k%18446744073709551616≤64 then k%18446744073709551616 else 64)%18446744073709551616:Nat) - 1:Int)=((2^k - 1:Nat):Int):=by rcases hk with rfl|rfl<;>rfl
  have hml:2^k - 1≤9007199254740991:=by rcases hk with rfl|rfl<;>decide
  rw[aTV h0]
  refine aC fun K hK=>aA [] ?_
  simp only[qq,aF,Nat.reduceLT,aB,reduceCtorEq,Nat.reduceEqDiff,eL,Tryz.underlying160,eG,bA,aH,fF,Tryz.underlying3,Option.isSome_some,tN,cav,aL,aP,bH,Int.toNat_natCast,IntKind.bits,Nat.min_def,aPf,aG,aI]
  (repeat' apply And.intro)<;>try (first|exact True.intro|omega)
  refine hK _ ?_
  clear hK K
  rw[hmx]
  clear hmx
  generalize 2^k - 1=mx at hml ⊢
  refine kp [1,8,10,11,0] ?_
  refine ks [1,8,10,11,12,0] ?_
  refine aC fun K hK=>aA [] ?_
  simp only[qq,aF,Nat.reduceLT,aB,cav,aG,aI]
  (repeat' apply And.intro)<;>try (first|exact True.intro|omega)
  refine hK _ ?_
  clear hK K
  refine aE [1,8,10,11,12,13,0] ?_
  simp only[aD,aB,Nat.reduceEqDiff,if_true,if_false]
  refine aC fun K1 hK1=>?_
  refine aC fun K hK=>aA [] ?_
  simp only[qq,aF,Nat.reduceLT,aB,reduceCtorEq,eL,Tryz.underlying54,mG,Nat.reduceEqDiff,Tryz.underlying9,Tryz.underlying5,dJ,bI,bV,eN,cav,aG,aI]
  (repeat' apply And.intro)<;>try (first|exact True.intro|omega)
  refine hK _ ?_
  clear hK K
  refine aE [1,8,10,11,12,13,99,100,101] ?_
  simp only[aD,aB,Nat.reduceEqDiff,if_true,if_false]
  refine bK ?_
  refine bZ (fun x:Nat×Nat=>⟨172,[(1,.val (.int .i64 (b:Int))),(8,.val (.bool false)),(10,.val (.int .u64 (cut:Int))),(11,.val (.int .u64 (mx:Int))),(12,.val (.bool false)),(13,.val (.int .u64 (x.2:Int))),(99,.sl s.length (Bs s) .no),(100,.val (.int .i64 (s.length:Int))),(101,.val (.int .i64 (x.1:Int)))],[]⟩) (fun x=>x.1≤s.length∧x.2≤mx∧puL b mx s 0=puL b mx (s.drop x.1) x.2) (fun x=>s.length - x.1) (0,0) (by simp) (.of_keep [1,8,10,11,12,13,99,100,101] rfl) ?_
  rintro⟨i,n⟩ ⟨hi,hn,hp⟩
  simp only at hi hn hp ⊢
  rw[hp]
  by_cases hlt:i<s.length
  ·have d:decide ((i:Int)<(s.length:Int))=true:=decide_eq_true (by omega)
   refine ky d ?_
   refine bJ ?_
   refine bG rfl (bC ?_)
   simp only[aI]
   refine aE [1,8,10,11,12,13,99,100,101] ?_
   simp only[aD,aB,Nat.reduceEqDiff,if_true,if_false]
   have hdrop:s.drop i=s.getD i 0::s.drop (i+1):=by
    rw[List.drop_eq_getElem_cons hlt]
    simp[List.getD_eq_getElem?_getD,List.getElem?_eq_getElem hlt]
   rw[hdrop]
   refine aC fun K hK=>bK ?_
   refine aC fun K hK=>aA [] ?_
   simp only[qq,aF,dN,aB,Nat.reduceEqDiff,Tryz.underlying54,bD,aX,Nat.mul_one,Nat.reduceLT,Int.toNat_natCast,eA,aY,apart,aO,Tryz.underlying5,aG,aI,List.length_drop]
   (repeat' apply And.intro)<;>try (first|exact True.intro|omega)
   refine hK _ ?_
   clear hK K
   obtain⟨c,hc⟩:∃ c,s.getD i 0=c:=⟨_,rfl⟩
   have hld:(Bs (s.drop i)).getD 0 .top=.val (.int .u8 (c.toNat:Int)):=by rw[hdrop,hc];rfl
   rw[hld]
   rw[hc] at hdrop
   have hc8:=c.toNat_lt
   refine kp [1,8,10,11,12,13,15,99,100,101] ?_
   refine ks [1,8,10,11,12,13,15,16,99,100,101] ?_
   refine aC fun K2 hK2=>bK ?_
   have aJO:∀ (d:Nat) (st:St),d<256→dig c=some d→gE GP st ⟨172,[(1,.val (.int .i64 (b:Int))),(8,.val (.bool false)),(10,.val (.int .u64 (cut:Int))),(11,.val (.int .u64 (mx:Int))),(12,.val (.bool false)),(13,.val (.int .u64 (n:Int))),(16,.val (.int .u8 (d:Int))),(99,.sl s.length (Bs s) .no),(100,.val (.int .i64 (s.length:Int))),(101,.val (.int .i64 (i:Int)))],[]⟩→K2 st:=by
    intro d st hd hdig hw
    refine hK2 st (eX hw ?_)
    clear hw hK2 K2
    have hpu:puL b mx (c::s.drop (i+1)) n=if b≤d then (0,2) else if mx<n*b+d then (mx,1) else puL b mx (s.drop (i+1)) (n*b+d):=by simp only[puL,hdig]
    have hb8:b%256=b:=by omega
    have hnb:n*b≤9007199254740991*16:=Nat.mul_le_mul (Nat.le_trans hn hml) (by omega)
    refine aC fun K3 hK3=>?_
    by_cases hbd:b≤d
    ·have g1:decide ((d:Int)≥(b:Int))=true:=decide_eq_true (by omega)
     refine ky (kI @aJf (kI hb8 g1)) ?_
     apply bG rfl
     refine ks [6,7] ?_
     refine aS ?_
     simp only[aI,bL]
     simp only[qq,bR,eU,bN,bO,dA,aB,Nat.reduceEqDiff,aH]
     rw[hc,hpu,if_pos hbd]
     simp[aQy]
    have g1:decide ((d:Int)≥(b:Int))=false:=decide_eq_false (by omega)
    refine ky (kI @aJf (kI hb8 g1)) ?_
    refine aR rfl (bC (hK3 _ ?_))
    clear hK3 K3
    refine kp [1,8,10,11,12,13,16,99,100,101] ?_
    refine aC fun K3 hK3=>?_
    have g2:decide ((n:Int)≥(cut:Int))=false:=decide_eq_false (by omega)
    refine ky g2 ?_
    refine aR rfl (bC (hK3 _ ?_))
    clear hK3 K3
    refine kp [1,8,10,11,12,13,16,99,100,101] ?_
    have hb64:b%18446744073709551616=b:=by omega
    have hnb64:n*b%18446744073709551616=n*b:=by omega
    refine kx [1,8,10,11,12,13,16,99,100,101] (kI (kI @tN hb64) (kI @aTS hnb64)) ?_
    have hd64:d%18446744073709551616=d:=by omega
    have uV:(n*b+d)%18446744073709551616=n*b+d:=by omega
    refine kx [1,8,10,11,12,13,17,99,100,101] (kI (kI @tN hd64) (kI @oW @uV)) ?_
    refine aC fun K3 hK3=>?_
    have g3:decide (((n*b+d:Nat):Int)<((n*b:Nat):Int))=false:=decide_eq_false (by omega)
    by_cases hmd:mx<n*b+d
    ·have g4:decide (((n*b+d:Nat):Int) > (mx:Int))=true:=decide_eq_true (by omega)
     refine ky (kI g3 g4) ?_
     apply bG rfl
     refine ks [6,7] ?_
     refine aS ?_
     simp only[aI,bL]
     simp only[qq,bR,eU,bN,bO,dA,aB,Nat.reduceEqDiff,aH]
     rw[hc,hpu,if_neg hbd,if_pos hmd]
     simp[aQy]
    have g4:decide (((n*b+d:Nat):Int) > (mx:Int))=false:=decide_eq_false (by omega)
    refine ky (kI g3 g4) ?_
    refine aR rfl (bC (hK3 _ ?_))
    clear hK3 K3
    refine kp [1,8,10,11,12,17,99,100,101] ?_
    refine ko [] ?_
    simp only[seval,kT,kF]
    refine hK _ ?_
    clear hK K
    refine aE [1,8,10,11,12,13,99,100,101] ?_
    simp only[aD,aB,Nat.reduceEqDiff,if_true,if_false]
    have w6:IntKind.i64.wrap ((i+1:Nat):Int)=((i+1:Nat):Int):=fD (by omega)
    refine ku [] (kI @gO w6) ?_
    exact⟨(i+1,n*b+d),⟨by simp only;omega,by simp only;omega,by simp only;rw[hc,hpu,if_neg hbd,if_neg hmd]⟩,by simp only;omega,.of_keep [1,8,10,11,12,13,99,100,101] rfl⟩
   have c95:((c.toNat:Int) == 95)=decide (c.toNat=95):=by
    by_cases h:c.toNat=95
    ·rw[decide_eq_true h,beq_iff_eq];omega
    ·rw[decide_eq_false h,beq_eq_false_iff_ne];omega
   refine aC fun K3 hK3=>?_
   have n3:∀ st:St,gE GP st ⟨172,[(1,.val (.int .i64 (b:Int))),(8,.val (.bool false)),(10,.val (.int .u64 (cut:Int))),(11,.val (.int .u64 (mx:Int))),(12,.val (.bool false)),(13,.val (.int .u64 (n:Int))),(15,.val (.int .u8 (c.toNat:Int))),(99,.sl s.length (Bs s) .no),(100,.val (.int .i64 (s.length:Int))),(101,.val (.int .i64 (i:Int))),(106,.val (.bool false))],[]⟩→K3 st:=by
    intro st hw
    refine hK3 st (eX hw ?_)
    clear hw hK3 K3
    apply aR rfl
    refine kp [1,8,10,11,12,13,15,99,100,101] ?_
    by_cases hd:48≤c.toNat∧c.toNat≤57
    ·have x1:decide ((48:Int)≤(c.toNat:Int))=true:=decide_eq_true (by omega)
     have x2:decide ((c.toNat:Int)≤57)=true:=decide_eq_true (by omega)
     have x3:IntKind.u8.wrap ((c.toNat:Int) - 48)=((c.toNat - 48:Nat):Int):=by
      rw[show (c.toNat:Int) - 48=((c.toNat - 48:Nat):Int) by omega]
      rw[aJf,Nat.mod_eq_of_lt (by omega)]
     refine ky (kI x1 x2) ?_
     apply bG rfl
     refine ku [] x3 ?_
     simp only[seval,kT,kF]
     exact aJO (c.toNat - 48) _ (by omega) (by rw[dig,if_pos hd]) (.of_keep [1,8,10,11,12,13,16,99,100,101] rfl)
    have hl8:=aPn _ hc8
    refine aC fun K4 hK4=>?_
    have n4:∀ st:St,gE GP st ⟨172,[(1,.val (.int .i64 (b:Int))),(8,.val (.bool false)),(10,.val (.int .u64 (cut:Int))),(11,.val (.int .u64 (mx:Int))),(12,.val (.bool false)),(13,.val (.int .u64 (n:Int))),(15,.val (.int .u8 (c.toNat:Int))),(99,.sl s.length (Bs s) .no),(100,.val (.int .i64 (s.length:Int))),(101,.val (.int .i64 (i:Int))),(112,.val (.bool false))],[]⟩→K4 st:=by
     intro st hw
     refine hK4 st (eX hw ?_)
     clear hw hK4 K4
     apply aR rfl
     refine kp [1,8,10,11,12,13,15,99,100,101] ?_
     by_cases ha:97≤c.toNat ||| 32∧c.toNat ||| 32≤122
     ·have y1:decide ((97:Int)≤((c.toNat ||| 32:Nat):Int))=true:=decide_eq_true (by omega)
      have y2:decide (((c.toNat ||| 32:Nat):Int)≤122)=true:=decide_eq_true (by omega)
      have hdig:dig c=some ((c.toNat ||| 32) - 87):=by rw[dig,if_neg hd,if_pos ha]
      have y3:IntKind.u8.wrap (((c.toNat ||| 32:Nat):Int) - 97)=(((c.toNat ||| 32) - 97:Nat):Int):=by
       rw[show ((c.toNat ||| 32:Nat):Int) - 97=(((c.toNat ||| 32) - 97:Nat):Int) by omega,aJf,Nat.mod_eq_of_lt (by omega)]
      have y4:((c.toNat ||| 32) - 97+10)%256=(c.toNat ||| 32) - 87:=by omega
      refine kr [] fun K hK=>?_
      refine kv ((aBQ c)) y1 ?_
      refine kv ((aBQ c)) y2 (hK _ ?_)
      clear hK K
      apply bG rfl
      refine ko [] ?_
      refine kv ((aBQ c)) (kI (kI y3 @gO) (kI @aJf y4)) ?_
      simp only[seval,kT,kF]
      exact aJO ((c.toNat ||| 32) - 87) _ (by omega) hdig (.of_keep [1,8,10,11,12,13,16,99,100,101] rfl)
     have hdig:dig c=none:=by rw[dig,if_neg hd,if_neg ha]
     have hpu:puL b mx (c::s.drop (i+1)) n=(0,2):=by simp only[puL,hdig]
     refine aC fun K hK=>?_
     have n5:∀ st:St,gE GP st ⟨172,[(121,.val (.bool false))],[]⟩→K st:=by
      intro st hw
      refine hK st (eX hw ?_)
      clear hw hK K
      apply aR rfl
      apply aE []
      simp only[aD]
      refine ks [6,7] ?_
      refine aS ?_
      simp only[aI,bL]
      simp only[qq,bR,eU,bN,bO,dA,aB,Nat.reduceEqDiff,aH]
      rw[hc,hpu]
      simp[aQy]
     by_cases hlo:97≤c.toNat ||| 32
     ·have y1:decide ((97:Int)≤((c.toNat ||| 32:Nat):Int))=true:=decide_eq_true (by omega)
      have y2:decide (((c.toNat ||| 32:Nat):Int)≤122)=false:=decide_eq_false (by omega)
      refine ko [] ?_
      refine kv ((aBQ c)) y1 ?_
      refine kv ((aBQ c)) y2 ?_
      exact n5 _ (.of_keep [121] (by exact rfl))
     ·have y1:decide ((97:Int)≤((c.toNat ||| 32:Nat):Int))=false:=decide_eq_false (by omega)
      refine ko [] ?_
      refine kv ((aBQ c)) y1 ?_
      exact n5 _ (.of_keep [121] (by exact rfl))
    by_cases hlo:48≤c.toNat
    ·have x1:decide ((48:Int)≤(c.toNat:Int))=true:=decide_eq_true (by omega)
     have x2:decide ((c.toNat:Int)≤57)=false:=decide_eq_false (by omega)
     refine ku [] (kI x1 x2) ?_
     exact n4 _ (.of_keep [1,8,10,11,12,13,15,99,100,101,112] (by exact rfl))
    ·have x1:decide ((48:Int)≤(c.toNat:Int))=false:=decide_eq_false (by omega)
     refine ku [] x1 ?_
     exact n4 _ (.of_keep [1,8,10,11,12,13,15,99,100,101,112] (by exact rfl))
   apply aA []
   by_cases h:c.toNat=95
   ·rw[decide_eq_true h] at c95
    simp only[seval,kT,c95]
    refine n3 _ ?_
    exact .of_keep [1,8,10,11,12,13,15,99,100,101,106] rfl
   ·rw[decide_eq_false h] at c95
    simp only[seval,kT,c95]
    refine n3 _ ?_
    exact .of_keep [1,8,10,11,12,13,15,99,100,101,106] rfl
  ·have d:decide ((i:Int)<(s.length:Int))=false:=decide_eq_false (by omega)
   have he:s.drop i=[]:=List.drop_eq_nil_of_le (by omega)
   rw[he]
   refine ky d ?_
   refine bJ ?_
   apply aR rfl
   apply dR
   simp only[seval,kT,kF]
   refine hK1 _ ?_
   clear hK1 K1
   refine kp [1,8,10,11,12,13] ?_
   refine aC fun K1 hK1=>?_
   refine kq ?_
   refine aR rfl (bC (hK1 _ ?_))
   clear hK1 K1
   refine kp [13] ?_
   refine ks [6,7] ?_
   refine aS ?_
   simp only[qq,bR,eU,bN,bO,dA,aB,Nat.reduceEqDiff,aH]
   rw[hp,he]
   simp[puL,aQy]
 refine ks [0,1,2,8,85] ?_
 refine bK ?_
 rcases hb with rfl|rfl
 ·skip
  refine kq ?_
  apply bG rfl
  refine ko [] ?_
  simp only[aI,bL]
  rw[if_pos rfl] at hcut
  subst hcut
  exact next _ (.of_keep [0,1,2,8,10] (by exact rfl))
 ·skip
  refine kq ?_
  apply aR rfl
  refine kq ?_
  apply bG rfl
  refine ko [] ?_
  simp only[aI,bL]
  rw[if_neg (by decide)] at hcut
  subst hcut
  exact next _ (.of_keep [0,1,2,8,10] (by exact rfl))
theorem aKs [Gv] {E:Env} (hG:GOk E GP):E.w.cell? ⟨3,0,none⟩=some (.iface Gv.synT Gv.synP):=by
 obtain⟨_,_,h,_⟩:=hG 3 [.val (.iface Gv.synT Gv.synP)] (by simp[GP])
 simp only[eD] at h
 obtain⟨⟨v,h1,h2⟩,_⟩:=h
 simp only[bE] at h2
 rw[h1,h2]
theorem aKK [Gv] {E:Env} (hG:GOk E GP):E.w.cell? ⟨4,0,none⟩=some (.iface Gv.rngT Gv.rngP):=by
 obtain⟨_,_,h,_⟩:=hG 4 [.val (.iface Gv.rngT Gv.rngP)] (by simp[GP])
 simp only[eD] at h
 obtain⟨⟨v,h1,h2⟩,_⟩:=h
 simp only[bE] at h2
 rw[h1,h2]
theorem ACalls.top2 [Gv] {P:Program} {G:Gl} {f:FuncId} {args:List AV} {a:AV} (h:ACalls P G f args [] (fun r os=>os=[]∧∃ e,r=.tup [a,e])):ACalls P G f args [] (fun r os=>os=[]∧r=.tup [a,.top]):=by
 refine⟨h.1,fun E vs h1 h2 h3=>(h.2 E vs h1 h2 h3).mono ?_⟩
 rintro e w' ⟨E',v,r,o,hw,he,⟨rfl,x,rfl⟩,hr,ho,hx⟩
 refine⟨E',v,_,[],hw,he,⟨rfl,rfl⟩,?_,ho,hx⟩
 simp only[bE,bY] at hr ⊢
 obtain⟨vs,rfl,v1,vs1,rfl,h1,v2,vs2,rfl,_,h3⟩:=hr
 exact⟨_,rfl,_,_,rfl,h1,_,_,rfl,trivial,h3⟩
theorem aRG [Gv] {P:Program} {G:Gl} {f:FuncId} {args:List AV} {Q:AV→Prop} (hfn:aHz P f)
  (h:∀ (E:Env) (vs:List Value),bY E args vs→GOk E G→Calls P f vs.toArray E.w fun e w'=>∃ v a,e=.returned v∧Below E.w.heap.size E.w w'∧Q a∧∀ E',bE E' a v):ACalls P G f args [] (fun x os=>os=[]∧Q x):=by
 refine⟨hfn,fun E vs hl ho hG=>(h E vs hl hG).mono ?_⟩
 rintro e w' ⟨v,a,rfl,hb,hq,hr⟩
 have hk:E.k=0:=ho.1
 exact⟨E.below w' (fun _=>0),v,a,[],rfl,rfl,⟨rfl,hq⟩,hr _,aBV hk,aCd _ hk hb⟩
theorem aSq [Gv] (fn s:List UInt8) (b k e:Nat) (he:e=1∨e=2) (hs:s.length≤140737488355328) :
  ACalls Tryz.prog GP 184 [str fn,str s,.val (.int .i64 (b:Int)),.val (.int .i64 (k:Int)),.val (aQy e)] [] (fun r os=>os=[]∧r=.top):=by
 refine aGY ⟨_,Tryz.func184,rfl,rfl⟩ fun E vs hl hG=>?_
 simp only[bY,bE,str] at hl
 obtain⟨_,_,rfl,rfl,_,_,rfl,rfl,_,_,rfl,rfl,_,_,rfl,rfl,_,_,rfl,rfl,rfl⟩:=hl
 have hsz:(⟨s.toArray⟩:ByteArray).size≤281474976710656:=by simp[ByteArray.size];omega
 rcases he with rfl|rfl
 ·refine(Tryz.strconv_toError_range ⟨fn.toArray⟩ ⟨s.toArray⟩ b k _ E.w hsz (aKK hG) (.inr ⟨_,_,rfl⟩)).mono ?_
  rintro e w' ⟨N,rfl,_,_,hb⟩
  exact⟨_,fun _=>0,rfl,hb,by simp only[bE]⟩
 ·refine(Tryz.strconv_toError_syntax ⟨fn.toArray⟩ ⟨s.toArray⟩ b k _ E.w hsz (aKs hG) (.inr ⟨_,_,rfl⟩)).mono ?_
  rintro e w' ⟨N,rfl,_,_,hb⟩
  exact⟨_,fun _=>0,rfl,hb,by simp only[bE]⟩
theorem aSl [Gv] {b mx:Nat} (s:List UInt8):∀ n,(puL b mx s n).2=0∨(puL b mx s n).2=1∨(puL b mx s n).2=2:=by
 induction s with
 | nil=>intro n;exact .inl rfl
 | cons c s ih=>
  intro n
  simp only[puL]
  cases dig c with
  | none=>exact .inr (.inr rfl)
  | some d=>
   simp only
   split
   ·exact .inr (.inr rfl)
   ·split
    ·exact .inr (.inl rfl)
    ·exact ih _
theorem aSk [Gv] (b k:Nat) (s:List UInt8):(puF b k s).2=0∨(puF b k s).2=1∨(puF b k s).2=2:=by
 unfold puF
 split
 ·exact .inr (.inr rfl)
 ·exact aSl s 0
theorem aNQ [Gv] (b k:Nat) (hb:b=10∨b=16) (hk:k=16∨k=53) (s:List UInt8) (hs:s.length≤140737488355328) :
  ACalls Tryz.prog GP 118 [str s,.val (.int .i64 (b:Int)),.val (.int .i64 (k:Int))] [] (fun r os=>os=[]∧r=.tup [.val (.int .u64 ((puF b k s).1:Int)),.top]):=by
 refine ACalls.top2 ?_
 have cP:=aSn b k hb hk s hs
 have hco:=aSk b k s
 revert cP hco
 generalize puF b k s=x
 obtain⟨v,e⟩:=x
 intro cP hco
 simp only at cP hco ⊢
 have cE:=fun he:e=1∨e=2=>aSq [80,97,114,115,101,85,105,110,116] s b k e he hs
 unfold str at *
 refine ke Tryz.func118 Tryz.ntmps118 Tryz.results118 #[30,206] ?_
 refine ks [0,1,2] ?_
 refine kr [] fun K hK=>?_
 refine kc (cP) (hK _ ?_)
 clear hK K
 refine kp [0,1,2,8,9] ?_
 refine aC fun K1 hK1=>?_
 by_cases h0:e=0
 ·subst h0
  simp only[aQy]
  refine kr [] fun K hK=>?_
  refine⟨⟨_,rfl⟩,hK _ ?_⟩
  clear hK K
  refine aR rfl (bC (hK1 _ ?_))
  clear hK1 K1
  refine kp [8] ?_
  refine ks [6,7] ?_
  refine aS ?_
  simp only[qq,bR,eU,bN,bO,dA,aB,Nat.reduceEqDiff,aH]
  exact⟨_,rfl⟩
 ·obtain⟨t,q,ht⟩:∃ t q,aQy e=.iface t q:=by
   rcases hco with h|h|h
   ·exact absurd h h0
   ·subst h;exact⟨_,_,rfl⟩
   ·subst h;exact⟨_,_,rfl⟩
  have cE:=cE (by rcases hco with h|h|h<;>omega)
  rw[ht] at cE ⊢
  refine kr [] fun K hK=>?_
  refine⟨⟨_,rfl⟩,hK _ ?_⟩
  clear hK K
  apply bG rfl
  refine kr [] fun K hK=>?_
  refine kc (cE) (hK _ ?_)
  clear hK K
  refine kp [6,7] ?_
  refine aS ?_
  simp only[aI,bL]
  simp only[qq,bR,eU,bN,bO,dA,aB,Nat.reduceEqDiff,aH]
  exact⟨_,rfl⟩
def nP (s:List UInt8):Int:=match Lib.atoiAll s with
 | .ok v=>v
 | .range=>Lib.atoiSat s
 | _=>0
theorem aRq [Gv] (s:List UInt8) (hs:s.length≤140737488355328):ACalls Tryz.prog GP 123 [str s] [] (fun r os=>os=[]∧r=.tup [.val (.int .i64 (nP s)),.top]):=by
 refine aGY ⟨_,Tryz.func123,rfl,rfl⟩ fun E vs hl hG=>?_
 simp only[bY,bE,str] at hl
 obtain⟨_,_,rfl,rfl,rfl⟩:=hl
 have hsz:(⟨s.toArray⟩:ByteArray).size≤281474976710656:=by simp[ByteArray.size];omega
 have hd:(⟨s.toArray⟩:ByteArray).data.toList=s:=by simp
 unfold nP
 cases hc:Lib.atoiAll s with
 | ok v=>
  refine(Tryz.strconv_Atoi_ok ⟨s.toArray⟩ (by omega) v (by rw[hd];exact hc) E.w).mono ?_
  rintro e w' ⟨rfl,hb⟩
  refine⟨_,fun _=>0,rfl,?_,by simp only[bE,bY];exact⟨_,rfl,_,_,rfl,rfl,_,_,rfl,trivial,rfl⟩⟩
  rcases hb with rfl|⟨t,rfl⟩
  ·exact Below.refl _ _
  ·exact Lib.bytesWorld_below _ _ _
 | range=>
  refine(Tryz.strconv_Atoi_range ⟨s.toArray⟩ hsz (by rw[hd];exact hc) _ E.w (aKK hG) (.inr ⟨_,_,rfl⟩)).mono ?_
  rintro e w' ⟨N,rfl,_,_,hb⟩
  exact⟨_,fun _=>0,rfl,hb,by simp only[bE,bY];exact⟨_,rfl,_,_,rfl,by simp,_,_,rfl,trivial,rfl⟩⟩
 | _=>
  refine(Tryz.strconv_Atoi_syntax ⟨s.toArray⟩ hsz (by rw[hd];exact hc) _ E.w (aKs hG) (.inr ⟨_,_,rfl⟩)).mono ?_
  rintro e w' ⟨N,rfl,_,_,hb⟩
  exact⟨_,fun _=>0,rfl,hb,by simp only[bE,bY];exact⟨_,rfl,_,_,rfl,rfl,_,_,rfl,trivial,rfl⟩⟩
theorem aTU [Gv] (s:List UInt8) (hs:s.length≤140737488355328) (u:Nat) (h:Lib.parseUintB 64 s=.ok u) :
  ACalls Tryz.prog GP 118 [str s,.val (.int .i64 10),.val (.int .i64 64)] [] (fun r os=>os=[]∧r=.tup [.val (.int .u64 (u:Int)),.val .nilIface]):=by
 refine aGY ⟨_,Tryz.func118,rfl,rfl⟩ fun E vs hl hG=>?_
 simp only[bY,bE,str] at hl
 obtain⟨_,_,rfl,rfl,_,_,rfl,rfl,_,_,rfl,rfl,rfl⟩:=hl
 have hsz:(⟨s.toArray⟩:ByteArray).size≤281474976710656:=by simp[ByteArray.size];omega
 refine(Tryz.strconv_ParseUint_10_at64_ok ⟨s.toArray⟩ (by omega) u (by simpa using h) E.w).mono ?_
 rintro e w' ⟨rfl,hb⟩
 refine⟨_,fun _=>0,rfl,?_,by simp only[bE,bY];exact⟨_,rfl,_,_,rfl,rfl,_,_,rfl,rfl,rfl⟩⟩
 rcases hb with rfl|rfl
 ·exact Below.refl _ _
 ·exact Lib.bytesWorld_below _ _ _
theorem aTC [Gv] (s:List UInt8) (hs:s.length≤140737488355328) (h:∀ u,Lib.parseUintB 64 s≠.ok u) :
  ACalls Tryz.prog GP 118 [str s,.val (.int .i64 10),.val (.int .i64 64)] [] (fun r os=>os=[]∧∃ n t p,r=.tup [.val (.int .u64 n),.val (.iface t p)]):=by
 refine aRG ⟨_,Tryz.func118,rfl,rfl⟩ fun E vs hl hG=>?_
 simp only[bY,bE,str] at hl
 obtain⟨_,_,rfl,rfl,_,_,rfl,rfl,_,_,rfl,rfl,rfl⟩:=hl
 have hsz:(⟨s.toArray⟩:ByteArray).size≤281474976710656:=by simp[ByteArray.size];omega
 cases hc:Lib.parseUintB 64 s with
 | ok v=>exact absurd hc (h v)
 | range=>
  refine(Tryz.strconv_ParseUint_10_at64_range ⟨s.toArray⟩ hsz (by simpa using hc) _ E.w (aKK hG) (.inr ⟨_,_,rfl⟩)).mono ?_
  rintro e w' ⟨N,rfl,_,_,hb⟩
  exact⟨_,_,rfl,hb,⟨_,_,_,rfl⟩,fun E'=>by simp only[bE,bY];exact⟨_,rfl,_,_,rfl,rfl,_,_,rfl,rfl,rfl⟩⟩
 | _=>
  refine(Tryz.strconv_ParseUint_10_at64_syntax ⟨s.toArray⟩ hsz (by simpa using hc.trans (show _=Lib.parseUintB 64 [] from rfl)) _ E.w (aKs hG) (.inr ⟨_,_,rfl⟩)).mono ?_
  rintro e w' ⟨N,rfl,_,_,hb⟩
  exact⟨_,_,rfl,hb,⟨_,_,_,rfl⟩,fun E'=>by simp only[bE,bY];exact⟨_,rfl,_,_,rfl,rfl,_,_,rfl,rfl,rfl⟩⟩
def aRB (s:List UInt8):Option Nat:=match Lib.parseUintB 64 s with
 | .ok u=>if Lib.decDigits u=s then some u else none
 | _=>none
def aFm (s:List UInt8):AV:=match aRB s with
 | some u=>.tup [.val (.int .u64 (u:Int)),.val (.bool true)]
 | none=>.tup [.val (.int .u64 0),.val (.bool false)]
theorem aSJ [Gv] (s:List UInt8) (hs:s.length≤200000):ACalls Tryz.prog GP 58 [str s] [] (fun r os=>os=[]∧r=aFm s):=by
 by_cases hg:∃ u,Lib.parseUintB 64 s=.ok u
 ·obtain⟨u,hu⟩:=hg
  have cP:=aTU s (by omega) u hu
  have hu64:u<18446744073709551616:=by have:=Lib.parseUintB_le hu;omega
  have cF:=aEA u hu64
  have hR:aFm s=if Lib.decDigits u=s then .tup [.val (.int .u64 (u:Int)),.val (.bool true)] else .tup [.val (.int .u64 0),.val (.bool false)]:=by
   unfold aFm aRB
   rw[hu]
   simp only
   by_cases h:Lib.decDigits u=s
   ·rw[if_pos h,if_pos h]
   ·rw[if_neg h,if_neg h]
  rw[hR]
  clear hR
  unfold str at *
  refine ke Tryz.func58 Tryz.ntmps58 Tryz.results58 #[30,4] ?_
  refine ks [0] ?_
  refine kr [] fun K hK=>?_
  refine kc (cP) (hK _ ?_)
  clear hK K
  refine kp [0,4,5] ?_
  refine aC fun K1 hK1=>?_
  by_cases hd:Lib.decDigits u=s
  ·have e:(Lib.decDigits u == s)=true:=beq_iff_eq.2 hd
   refine kr [] fun K hK=>?_
   refine⟨⟨_,rfl⟩,?_⟩
   refine kv (cF) e (hK _ ?_)
   clear hK K
   refine aR rfl (bC (hK1 _ ?_))
   clear hK1 K1
   refine kp [4] ?_
   refine ks [2,3] ?_
   refine aS ?_
   simp only[qq,bR,eU,bN,bO,dA,aB,Nat.reduceEqDiff,aH]
   rw[if_pos hd]
  ·have e:(Lib.decDigits u == s)=false:=beq_eq_false_iff_ne.2 hd
   refine kr [] fun K hK=>?_
   refine⟨⟨_,rfl⟩,?_⟩
   refine kv (cF) e (hK _ ?_)
   clear hK K
   apply bG rfl
   refine ks [2,3] ?_
   refine aS ?_
   simp only[aI,bL]
   simp only[qq,bR,eU,bN,bO,dA,aB,Nat.reduceEqDiff,aH]
   rw[if_neg hd]
 ·have cP:=aTC s (by omega) (fun u hu=>hg ⟨u,hu⟩)
  have hR:aFm s=.tup [.val (.int .u64 0),.val (.bool false)]:=by
   unfold aFm aRB
   cases hc:Lib.parseUintB 64 s with
   | ok v=>exact absurd ⟨v,hc⟩ hg
   | range=>rfl
   | _=>rfl
  rw[hR]
  clear hR
  unfold str at *
  refine ke Tryz.func58 Tryz.ntmps58 Tryz.results58 #[30,4] ?_
  refine ks [0] ?_
  refine kr [] fun K hK=>?_
  refine aNT (by simp[aH,aM]) cP ⟨_,rfl,0,0,.nilIface,rfl⟩ ?_
  rintro r os ⟨rfl,n,t,p,rfl⟩
  refine⟨rfl,by simp[aH,aM,flat],?_⟩
  simp only[seval,kT]
  refine hK _ ?_
  clear hK K
  refine kp [0,4,5] ?_
  refine aC fun K1 hK1=>?_
  refine kr [] fun K hK=>?_
  refine⟨⟨_,rfl⟩,?_⟩
  refine hK _ ?_
  clear hK K
  apply bG rfl
  refine ks [2,3] ?_
  refine aS ?_
  simp only[aI,bL]
  simp only[qq,bR,eU,bN,bO,dA,aB,Nat.reduceEqDiff,aH]
end Go.Proofs.YtefdnmeopbkflaaGreatDoor
namespace Go.Proofs.YtefdnmeopbkflaaGreatDoor
open Go Go.V
set_option linter.unusedSimpArgs false
set_option linter.unusedVariables false
set_option maxRecDepth 100000
def aTp (l:List Nat):List AV:=l.map fun n:Nat=>.val (.int .u16 (n:Int))
theorem iM [Gv] (l:List Nat):(aTp l).length=l.length:=by simp[aTp]
theorem mP [Gv] (l:List Nat):aM (aTp l)=true:=by
 induction l with
 | nil=>rfl
 | cons c l ih=>simp only[aTp,List.map_cons,aM] at ih ⊢;rw[ih];rfl
theorem aRl [Gv] (l:List Nat):jE (aTp l)=true:=by
 induction l with
 | nil=>rfl
 | cons c l ih=>simp only[aTp,List.map_cons,jE] at ih ⊢;rw[ih];rfl
theorem aKv [Gv] (l:List Nat) (n:Nat):aTp (l++[n])=aTp l++[.val (.int .u16 (n:Int))]:=by simp[aTp]
def LG (m:Nat) (os:List AObj) (X:AV) (C:List AV):Prop:=
 (C=[]∧X=.sl 0 [] .full)∨∃ r cs junk,m≤r∧X=.osl r 0 C.length (some cs.length)∧os[r]? = some (.cells cs)∧cs=C++junk∧0<cs.length∧aM cs=true∧jE cs=true
theorem aSW [Gv] {m:Nat} {os':List AObj} {n:Nat} (h6:m≤n) (C:List AV) (w:AV) {c':Nat} (hCn:aM C=true) (hCf:jE C=true) (hwn:aH w=true) (hwf:flat w=true) (hc:C.length+1≤c') (ho:os'[n]? = some (.cells (C++w::List.replicate (c' - (C.length+1)) .top))) :
  LG m os' (.osl n 0 (C.length+1) (some c')) (C++[w]):=by
 have hL:(C++w::List.replicate (c' - (C.length+1)) AV.top).length=c':=by
  rw[List.length_append,List.length_cons,List.length_replicate];omega
 refine .inr ⟨n,_,List.replicate (c' - (C.length+1)) .top,h6,?_,ho,by simp,by omega,?_,?_⟩
 ·rw[hL];simp
 ·rw[dK,hCn]
  simp only[aM,aFd,hwn,Bool.and_self]
 ·rw[rQ,hCf]
  simp only[jE,aGx,hwf,Bool.and_self]
theorem aTM [Gv] {m:Nat} {os':List AObj} {n:Nat} (h6:m≤n) (C:List AV) (w:AV) (junk:List AV) (hwn:aH w=true) (hwf:flat w=true) (hlt:C.length<(C++junk).length) (hn:aM (C++junk)=true) (hf:jE (C++junk)=true)
  (ho:os'[n]? = some (.cells (spl (C++junk) C.length [w]))):LG m os' (.osl n 0 (C.length+1) (some (C++junk).length)) (C++[w]):=by
 cases junk with
 | nil=>simp at hlt
 | cons j junk=>
  have e:spl (C++j::junk) C.length [w]=(C++[w])++junk:=by
   unfold spl
   have h1:(C++j::junk).take C.length=C:=by
    rw[List.take_append_of_le_length (by omega),List.take_of_length_le (by omega)]
   have h2:(C++j::junk).drop (C.length+[w].length)=junk:=by
    rw[List.drop_append,List.drop_eq_nil_of_le (by simp)]
    simp
   rw[h1,h2]
  rw[e] at ho
  rw[dK,Bool.and_eq_true] at hn
  rw[rQ,Bool.and_eq_true] at hf
  simp only[aM,Bool.and_eq_true] at hn
  simp only[jE,Bool.and_eq_true] at hf
  refine .inr ⟨n,_,junk,h6,?_,ho,rfl,?_,?_,?_⟩
  ·simp
  ·simp;omega
  ·rw[dK,dK,hn.1,hn.2.2];simp[aM,hwn]
  ·rw[rQ,rQ,hf.1,hf.2.2];simp[jE,hwf]
theorem aBc [Gv] (c:UInt8):∀ (s:List UInt8),∀ w∈dM c s,w.length≤s.length
 | [],w,h=>by simp[dM] at h;simp[h]
 | x::xs,w,h=>by
  have hh:=aCj c xs
  unfold dM at h
  split at h
  ·rcases List.mem_cons.1 h with rfl|h
   ·simp
   ·have:=aBc c xs w h;simp;omega
  ·rcases List.mem_cons.1 h with rfl|h
   ·have:=aBc c xs ((dM c xs).headD []) (by rw[← hh];simp)
    simp;simpa using this
   ·have:=aBc c xs w (by rw[← hh];exact List.mem_cons_of_mem _ h)
    simp;omega
def pO (b:Nat) (c:UInt8) (s:List UInt8):List Nat:=if s=[] then [] else (dM c s).map fun w=>(puF b 16 w).1%65536
theorem aJv [Gv] (b:Nat) (hb:b=10∨b=16) (c:UInt8) (s:List UInt8) (hs:s.length≤200000) :
  ACalls Tryz.prog GP 190 [str s,str [c],.val (.int .i64 (b:Int))] [] (fun r os=>os=[]∧∃ p,fG p=true∧r=.sl (pO b c s).length (aTp (pO b c s)) p):=by
 have cS:=aGB s c
 have hY:=aEV s c (by omega)
 unfold SQ str at *
 refine aAd Tryz.func190 rfl rfl Tryz.ntmps190 (rts:=#[273]) rfl Tryz.results190 (by simp) fun n0=>?_
 simp only[seval,aZ]
 refine qM fun K hK=>aA [] ?_
 simp only[seval,kT]
 and_intros<;>try omega
 refine hK _ ?_
 clear hK K
 refine qL [0,1,5,6] ?_
 simp only[seval,kQ]
 refine qM fun K hK=>aA [] ?_
 simp only[seval,kT]
 and_intros<;>try omega
 refine hK _ ?_
 clear hK K
 refine qL [0,1,5,6,7] ?_
 simp only[seval,kQ]
 refine qM fun K hK=>?_
 by_cases h0:s=[]
 ·subst h0
  refine kq ?_
  apply bG rfl
  refine ks [6] ?_
  apply aS
  show Go.V.Fin Tryz.prog [273] [.tmp 6] (fun r os=>os=[]∧∃ p,fG p=true∧r=.sl (pO b c []).length (aTp (pO b c [])) p) .ret _
  simp only[seval,kT,kF]
  exact⟨.full,rfl,rfl⟩
 have d0:(s == [])=false:=beq_eq_false_iff_ne.2 h0
 have hG:pO b c s=(dM c s).map fun w=>(puF b 16 w).1%65536:=by unfold pO;rw[if_neg h0]
 refine ky d0 ?_
 apply aR rfl
 apply bC
 simp only[seval,kT]
 refine hK _ ?_
 clear hK K
 refine qL [0,1,5,6,7] ?_
 simp only[seval,kQ]
 refine aFB ?_
 refine qM fun K hK=>aA [1000015] ?_
 simp only[seval,kT]
 refine gF [] false [9,9] ⟨by decide,by simp,by simp⟩ (C:=True∧True∧True) (by simp[gT,nR,aH]) ⟨trivial,trivial,trivial⟩ cS ⟨by simp,by simp[fU,eV,ref],by simp[ref,eV],fun h=>by cases h⟩ ?_
 simp only[yC,aEa,List.map_cons,List.map_nil,gJ,gH,ren,List.nil_append,List.length_nil,Nat.zero_add,List.cons_append,List.length_cons]
 simp only[seval,kT]
 refine hK _ ?_
 clear hK K
 refine qL [5,6,7,15] ?_
 simp only[seval,kQ]
 refine aGo ?_
 rw[hG]
 have hpl:(dM c s).length≤200001:=by
  rw[aTr]
  have:=List.count_le_length (a:=c) (l:=s)
  omega
 have hwl:∀ w∈dM c s,w.length≤200000:=by
  intro w hw
  exact Nat.le_trans (aBc c s w hw) hs
 generalize hps:dM c s=ps at *
 refine aGp (p:=16) hY rfl rfl rfl rfl (by decide) (by decide) (by decide) (by decide) (fun k o=>∃ X rest,o=[.cells [.val (.int .i64 (b:Int))],.cells [X],.dead,.dead,.dead]++rest∧LG 5 o X (aTp ((ps.take k).map fun w=>(puF b 16 w).1%65536))) (fun o=>False) ?_ ?_ ?_ ?_
 ·exact⟨.sl 0 [] .full,[],rfl,.inl ⟨rfl,rfl⟩⟩
 ·rintro k x o hx ⟨X,rest,rfl,hX⟩ r
  obtain⟨w,hw,rfl⟩:∃ w,ps[k]? = some w∧x=.string ⟨w.toArray⟩:=by
   rw[List.getElem?_map] at hx
   cases h:ps[k]? with
   | none=>rw[h] at hx;cases hx
   | some w=>rw[h] at hx;injection hx with hx;exact⟨w,rfl,hx.symm⟩
  have hstep:(ps.take (k+1)).map (fun w=>(puF b 16 w).1%65536)=(ps.take k).map (fun w=>(puF b 16 w).1%65536)++[(puF b 16 w).1%65536]:=by
   rw[List.take_add_one,hw,List.map_append];rfl
  have hkl:k<ps.length:=(List.getElem?_eq_some_iff.1 hw).1
  have hlk:((ps.take k).map (fun w=>(puF b 16 w).1%65536)).length=k:=by simp;omega
  rw[hstep]
  clear hstep
  generalize (ps.take k).map (fun w=>(puF b 16 w).1%65536)=l at *
  have cP:=aNQ b 16 hb (.inl rfl) w (by have:=hwl w (List.mem_of_getElem? hw);omega)
  unfold str at cP
  generalize (puF b 16 w).1=v at *
  refine iB [] rfl (fun _ h=>by cases h.1) ?_
  simp only[seval,kT]
  refine qN [5,7,8] ?_
  simp only[seval,kQ]
  refine aAw ?_
  refine rK fun K hK=>iB [] rfl (fun _ h=>h) ?_
  simp only[seval,kT]
  refine kc (cP) (hK _ ?_)
  clear hK K
  refine qN [5,7,9] ?_
  simp only[seval,kQ]
  refine aJB (n:=4) (d:=27) (ts:=23) (tx:=26) (sT:=273) (e:=271) (by_:=2) (zv:=.int .u16 0) rfl rfl rfl rfl Tryz.underlying273 (by simp only[bD]) (by simp only[lX]) (by decide) (by simp only[bS]) rfl (fun _ h=>h) ?_
  simp only[seval,kT,aTi,qC]
  refine⟨_,_,rfl,rfl,?_⟩
  rcases hX with⟨hl0,rfl⟩|⟨r6,cs,junk,h6,rfl,ho,rfl,hpos,hnr,hfl⟩
  ·have hl0:l=[]:=by cases l with
    | nil=>rfl
    | cons a l=>simp[aTp] at hl0
   subst hl0
   refine .inl ⟨rfl,fun c' hc'=>?_⟩
   simp only[seval,kT]
   exact⟨_,_,rfl,aSW (n:=rest.length+5) (by omega) [] (.val (.int .u16 ((v%65536:Nat):Int))) rfl rfl rfl rfl hc' (by simp)⟩
  ·have hLc:l.length≤(aTp l++junk).length:=by simp[iM]
   rw[iM] at *
   obtain⟨m,rfl⟩:∃ m,r6=m+5:=⟨r6 - 5,by omega⟩
   refine .inr ⟨m+5,l.length,_,_,rfl,ho,rfl,hLc,hpos,by omega,hnr,hfl,fun hlt=>?_,fun hge c' hc'=>?_⟩
   ·skip
    simp only[seval,kT]
    have hml:m<rest.length:=by
     have:=(List.getElem?_eq_some_iff.1 ho).1
     simp at this
     omega
    rw[aKv]
    have hp:=aTM (m:=5) (n:=m+5) (os':=[.cells [.val (.int .i64 (b:Int))],.cells [.osl (m+5) 0 (l.length+1) (some (aTp l++junk).length)],.dead,.dead,.dead]++rest.set m (.cells (spl (aTp l++junk) l.length [.val (.int .u16 ((v%65536:Nat):Int))]))) (by omega) (aTp l) (.val (.int .u16 ((v%65536:Nat):Int))) junk rfl rfl (by rw[iM];exact hlt) hnr hfl (by rw[iM];simp[hml])
    rw[iM] at hp
    exact⟨_,_,rfl,hp⟩
   ·have hj:junk=[]:=List.eq_nil_of_length_eq_zero (by rw[List.length_append,iM] at hge;omega)
    subst hj
    simp only[seval,kT]
    rw[aKv]
    have hp:=aSW (m:=5) (n:=rest.length+5) (c':=c') (os':=[.cells [.val (.int .i64 (b:Int))],.cells [.osl (rest.length+5) 0 (l.length+1) (some c')],.dead,.dead,.dead]++(rest++[.cells (aTp l++.val (.int .u16 ((v%65536:Nat):Int))::List.replicate (c' - (l.length+1)) .top)])) (by omega) (aTp l) (.val (.int .u16 ((v%65536:Nat):Int))) (mP l) (aRl l) rfl rfl (by rw[iM];exact hc') (by rw[iM];simp)
    rw[iM] at hp
    exact⟨_,_,rfl,hp⟩
 ·rintro D o ⟨X,rest,rfl,hX⟩
  rw[List.length_map,List.take_length] at hX
  refine zK ?_
  refine kp [7] ?_
  have hlen:(ps.map fun w=>(puF b 16 w).1%65536).length≤200001:=by simp;omega
  generalize (ps.map fun w=>(puF b 16 w).1%65536)=l at *
  rcases hX with⟨hl0,rfl⟩|⟨r6,cs,junk,h6,rfl,ho,rfl,hpos,hnr,hfl⟩
  ·have hl0:l=[]:=by cases l with
    | nil=>rfl
    | cons a l=>simp[aTp] at hl0
   subst hl0
   refine ks [6] ?_
   apply aS
   show Go.V.Fin Tryz.prog [273] [.tmp 6] (fun r os=>os=[]∧∃ p,fG p=true∧r=.sl ([]:List Nat).length (aTp []) p) .ret _
   simp only[seval,kT,kF]
   exact⟨.full,rfl,rfl⟩
  ·obtain⟨m,rfl⟩:∃ m,r6=m+5:=⟨r6 - 5,by omega⟩
   have ho':rest[m]? = some (.cells (aTp l++junk)):=ho
   have htk:(aTp l++junk).take l.length=aTp l:=by
    have:=iM l
    rw[List.take_append_of_le_length (by omega),List.take_of_length_le (by omega)]
   have hnl:=mP l
   rw[iM] at *
   refine ks [6] ?_
   refine aRK 6 (m+5) l.length (aTp l++junk) (by simp[iM]) rfl ho hpos hnr ?_
   rw[htk]
   apply aS
   show Go.V.Fin Tryz.prog [273] [.tmp 6] (fun r os=>os=[]∧∃ p,fG p=true∧r=.sl l.length (aTp l) p) .ret _
   simp only[seval,kT,kF,hnl]
   exact⟨.no,rfl,rfl⟩
 ·rintro D o h
  exact h.elim
theorem aFk [Gv] (b:Nat) (hb:b=10∨b=16) (c:UInt8) (s:List UInt8) (hs:s.length≤200000) :
  ACalls Tryz.prog GP 190 [str s,str [c],.val (.int .i64 (b:Int))] [] (fun r os=>os=[]∧r=.sl (pO b c s).length (aTp (pO b c s)) .no):=by
 refine⟨(aJv b hb c s hs).1,fun E vs h1 h2 h3=>((aJv b hb c s hs).2 E vs h1 h2 h3).mono ?_⟩
 rintro e w' ⟨E',v,r,o,hw,he,⟨rfl,p,hp,rfl⟩,hr,ho,hx⟩
 refine⟨E',v,_,[],hw,he,⟨rfl,rfl⟩,?_,ho,hx⟩
 simp only[bE] at hr ⊢
 obtain⟨A,cap,rfl,h4,h5,_⟩:=hr
 exact⟨A,cap,rfl,h4,h5,trivial⟩
def vR (l:List Nat):Nat→List UInt8
 | 0=>Z 16
 | i+1=>((vR l i).set (2*i) (UInt8.ofNat (l.getD i 0/256))).set (2*i+1) (UInt8.ofNat (l.getD i 0))
theorem rO [Gv] (l:List Nat):∀ i,(vR l i).length=16
 | 0=>eZ 16
 | i+1=>by rw[vR,List.length_set,List.length_set,rO l i]
theorem aTa [Gv] (l:List Nat) (hl:l.length=8) (h16:∀ n∈l,n<65536):ACalls Tryz.prog GP 191 [.agg (aTp l)] [] (fun r os=>os=[]∧r=.agg (AD true (vR l 8))):=by
 have hUl:=iM l
 have hUo:(aTp l).all dC=true:=by
  rw[List.all_eq_true]
  intro x hx
  obtain⟨n,_,rfl⟩:=List.mem_map.1 hx
  rfl
 have hUn:=mP l
 have hUt:(aTp l).take 8=aTp l:=List.take_of_length_le (by omega)
 have hAl:∀ i,(AD true (vR l i)).length=17:=fun i=>by simp[AD,aX,rO]
 have hAo:∀ L,(AD true L).all dC=true:=fun L=>by simp[AD,eR,dC,Value.oneCell']
 have hAn:∀ L,aM (AD true L)=true:=fun L=>by simp[AD,aM,aH,Go.V.aJ]
 have hAt:∀ i,(AD true (vR l i)).take 17=AD true (vR l i):=fun i=>List.take_of_length_le (by have:=hAl i;omega)
 have hAd:∀ i,(AD true (vR l i)).drop 17=[]:=fun i=>List.drop_eq_nil_of_le (by have:=hAl i;omega)
 refine ke Tryz.func191 Tryz.ntmps191 Tryz.results191 #[26] ?_
 refine kx [1,2] hUo ?_
 refine ks [1,2,3] ?_
 refine aC fun K1 hK1=>?_
 refine kx [2,3,7,8] (kI hUl (kI hl hUt)) ?_
 apply bK
 refine bZ (fun i:Nat=>⟨28,[(2,.ptr 1 0),(3,.ptr 2 0),(7,.agg (aTp l)),(8,.val (.int .i64 (i:Int)))],[.cells (aTp l),.cells (AD false (Z 16)),.cells (AD true (vR l i))]⟩) (fun i=>i≤8) (fun i=>8 - i) 0 (by omega) (.of_keep [2,3,7,8] rfl) ?_
 intro i hi
 have ha:=hAl i
 by_cases hlt:i<8
 ·have d:decide ((i:Int)<8)=true:=decide_eq_true (by omega)
  refine ky d ?_
  apply bJ
  refine bG rfl (bC ?_)
  simp only[seval,kT]
  refine kp [2,3,7,8] ?_
  have hg:(aTp l).getD i .top=.val (.int .u16 ((l.getD i 0:Nat):Int)):=by
   simp[aTp,List.getD_eq_getElem?_getD,List.getElem?_map,List.getElem?_eq_getElem (show i<l.length by omega)]
  have hn16:l.getD i 0<65536:=by
   rw[List.getD_eq_getElem?_getD,List.getElem?_eq_getElem (show i<l.length by omega)]
   exact h16 _ (List.getElem_mem _)
  have hset:vR l (i+1)=((vR l i).set (2*i) (UInt8.ofNat (l.getD i 0/256))).set (2*i+1) (UInt8.ofNat (l.getD i 0)):=rfl
  have hsl:=rO l i
  refine aC fun K hK=>bK ?_
  refine aC fun K hK=>aA [] ?_
  simp only[qq,aF,Nat.reduceLT,aB,Nat.reduceEqDiff,uU,Tryz.underlying272,bD,apart,aO,Tryz.underlying271,Int.toNat_natCast,Nat.mul_one,hUl,hl,hg,Int.cast_ofNat_Int,aG,aI]
  (repeat' apply And.intro)<;>try (first|exact True.intro|omega)
  refine hK _ ?_
  clear hK K
  refine aE [2,3,4,5,7,8] ?_
  simp only[aD,aB,Nat.reduceEqDiff,if_true,if_false]
  generalize l.getD i 0=n at *
  have w1:IntKind.i64.wrap ((2*i:Nat):Int)=((2*i:Nat):Int):=fD (by omega)
  have w2:IntKind.i64.wrap ((2*i+1:Nat):Int)=((2*i+1:Nat):Int):=fD (by omega)
  have hBu:∀ q:Nat,AV.val (.int .u8 ((q%256:Nat):Int))=B (UInt8.ofNat q):=fun q=>by
   unfold B
   rw[UInt8.toNat_ofNat']
  generalize vR l i=L at *
  have hs1:List.take (1+2*i) (AD true L)++[.val (.int .u8 ((n/2^8%256:Nat):Int))]++List.drop (1+2*i+1) (AD true L)=AD true (L.set (2*i) (UInt8.ofNat (n/256))):=by
   rw[hBu]
   exact aMj _ _ _ _ (by omega)
  have hs2:List.take (1+(2*i+1)) (AD true (L.set (2*i) (UInt8.ofNat (n/256))))++[.val (.int .u8 ((n%256:Nat):Int))]++List.drop (1+(2*i+1)+1) (AD true (L.set (2*i) (UInt8.ofNat (n/256))))=AD true (vR l (i+1)):=by
   rw[hBu,hset]
   exact aMj _ _ _ _ (by rw[List.length_set];omega)
  have ha2:(AD true (L.set (2*i) (UInt8.ofNat (n/256)))).length=17:=by simp[AD,aX,hsl]
  clear hBu
  refine aA [] ?_
  simp only[qq,aF,Nat.reduceLT,aB,Nat.reduceEqDiff,cav,aL,aP,bH,aPe,w1,gO,w2,Int.reduceLE,Int.reduceToNat,IntKind.bits,Nat.min_def,Nat.reduceLeDiff,rV,eL,Tryz.underlying5,eG,bA,aH,fF,Tryz.underlying271,Option.isSome_some,aJf,aN,Tryz.underlying26,bD,ne_eq,reduceCtorEq,dN,Tryz.underlying24,Int.toNat_natCast,bQ,bX,bB,List.all_cons,dC,Value.oneCell',List.all_nil,spl,aG,Int.cast_ofNat_Int,Nat.mul_one,ha,hs1,ha2,hs2]
  refine⟨⟨by omega,by omega⟩,by omega,⟨by omega,by omega⟩,by omega,?_⟩
  simp only[seval,kT,kF]
  refine hK _ ?_
  clear hK K
  refine kp [2,3,7,8] ?_
  have w5:IntKind.i64.wrap ((i+1:Nat):Int)=((i+1:Nat):Int):=fD (by omega)
  refine ku [] (kI @gO w5) ?_
  exact⟨i+1,by omega,by omega,.of_keep [2,3,7,8] rfl⟩
 ·have d:decide ((i:Int)<8)=false:=decide_eq_false (by omega)
  have he:i=8:=by omega
  subst he
  refine kq ?_
  apply bJ
  apply aR rfl
  apply dR
  simp only[seval,kT,kF]
  refine hK1 _ ?_
  clear hK1 K1
  have hat:=hAt 8
  have had:=hAd 8
  have hao:=hAo (vR l 8)
  have han:=hAn (vR l 8)
  have hzl:(AD false (Z 16)).length=17:=rfl
  have hzd:(AD false (Z 16)).drop 17=[]:=rfl
  generalize AD true (vR l 8)=A at *
  refine kp [2,3] ?_
  refine kx [2] (kI (kI ha hat) (kI hzl (kI hao hzd))) ?_
  apply aS
  simp only[seval,kT,kF,ha,hat,han]
end Go.Proofs.YtefdnmeopbkflaaGreatDoor
namespace Go.Proofs.YtefdnmeopbkflaaGreatDoor
open Go Go.V
set_option linter.unusedSimpArgs false
set_option linter.unusedVariables false
set_option maxRecDepth 100000
open Go.RowKit (Below)
theorem aRi [Gv] (s sep:List UInt8) (hs:s.length≤200000):ACalls Tryz.prog GP 121 [str s,str sep] [] (fun r os=>os=[]∧r=.tup [str (Lib.cut s sep).1,str (Lib.cut s sep).2.1,.val (.bool (Lib.cut s sep).2.2)]):=by
 refine aGY ⟨_,Tryz.func121,rfl,rfl⟩ fun E vs hl hG=>?_
 simp only[bY,bE,str] at hl
 obtain⟨_,_,rfl,rfl,_,_,rfl,rfl,rfl⟩:=hl
 have hsz:(⟨s.toArray⟩:ByteArray).size=s.length:=by simp[ByteArray.size]
 refine(Tryz.strings_Cut ⟨s.toArray⟩ ⟨sep.toArray⟩ Gv.most E.w (by rw[hsz];omega) (aJe hG)).mono ?_
 rintro e w' ⟨rfl,n,rfl⟩
 refine⟨_,fun _=>0,rfl,below_drewNg _ _,?_⟩
 simp only[bE,bY,str]
 exact⟨_,rfl,_,_,rfl,by simp,_,_,rfl,by simp,_,_,rfl,by simp,rfl⟩
theorem aPZ [Gv] (s:List UInt8) (c:UInt8):ACalls Tryz.prog GP 189 [str s,str [c]] [] (fun r os=>os=[]∧r=.val (.bool (decide (0≤Lib.indexByte s c)))):=by
 refine jA ⟨_,Tryz.func189,rfl,rfl⟩ fun E vs hl hG=>?_
 simp only[bY,bE,str] at hl
 obtain⟨_,_,rfl,rfl,_,_,rfl,rfl,rfl⟩:=hl
 refine(Tryz.strings_Contains_one ⟨s.toArray⟩ c E.w).mono ?_
 rintro e w' ⟨rfl,rfl⟩
 exact⟨rfl,Below.refl _ _⟩
theorem aPl [Gv] (s sep:List UInt8):(Lib.cut s sep).1.length≤s.length∧(Lib.cut s sep).2.1.length≤s.length:=by
 unfold Lib.cut
 split
 ·simp;exact Nat.min_le_right _ _
 ·simp
theorem aQz [Gv] (b:Nat) (c:UInt8) (s:List UInt8):∀ n∈pO b c s,n<65536:=by
 intro n hn
 unfold pO at hn
 split at hn
 ·cases hn
 ·obtain⟨w,_,rfl⟩:=List.mem_map.1 hn
  omega
theorem aJz [Gv] (b:Nat) (c:UInt8) (s:List UInt8):(pO b c s).length≤s.length+1:=by
 unfold pO
 split
 ·simp
 ·rw[List.length_map,aTr]
  have:=List.count_le_length (a:=c) (l:=s)
  omega
def zz (n:Nat):List Nat:=List.replicate n 0
theorem aHK [Gv] (n:Nat):(zz n).length=n:=by simp[zz]
theorem xS [Gv] (a b:List Nat):aTp (a++b)=aTp a++aTp b:=by simp[aTp]
theorem aRF [Gv] (l:List Nat):(aTp l).all dC=true:=by
 rw[List.all_eq_true]
 intro x hx
 obtain⟨n,_,rfl⟩:=List.mem_map.1 hx
 rfl
theorem aOQ [Gv] (n k:Nat):(aTp (zz n)).drop k=aTp (zz (n - k)):=by simp[aTp,zz]
def aEQ (f b:List Nat):List Nat:=f++zz (8 - f.length - b.length)++b
theorem aRd [Gv] (f b:List Nat) (h:f.length+b.length≤8):(aEQ f b).length=8:=by
 unfold aEQ
 rw[List.length_append,List.length_append,aHK]
 omega
theorem aTI [Gv] (f b:List Nat) (h:f.length+b.length≤8) (A0 A1:AObj):(if 0<b.length then [A0,A1,AObj.cells ((aTp (f++zz (8 - f.length))).take (8 - b.length)++aTp b)] else [A0,A1,.cells (aTp (f++zz (8 - f.length)))])=[A0,A1,.cells (aTp (aEQ f b))]:=by
 have e:(aTp (f++zz (8 - f.length))).take (8 - b.length)=aTp (f++zz (8 - f.length - b.length)):=by
  rw[xS,xS,List.take_append,iM,List.take_of_length_le (by rw[iM];omega)]
  congr 1
  simp[aTp,zz,List.take_replicate]
  congr 1
  omega
 by_cases h0:0<b.length
 ·rw[if_pos h0,e]
  unfold aEQ
  rw[xS (f++_)]
 ·have:b=[]:=List.length_eq_zero_iff.1 (by omega)
  subst this
  simp[aEQ]
def aCL (l:List Nat):Nat→List UInt8
 | 0=>Z 16
 | i+1=>(aCL l i).set i (UInt8.ofNat (l.getD i 0))
theorem sJ [Gv] (l:List Nat):∀ i,(aCL l i).length=16
 | 0=>eZ 16
 | i+1=>by rw[aCL,List.length_set,sJ l i]
def aBv (s:List UInt8):Option (List UInt8):=
 if 8<(pO 16 58 (Lib.cut s [58,58]).1).length+(pO 16 58 (Lib.cut s [58,58]).2.1).length then none
 else some (vR (aEQ (pO 16 58 (Lib.cut s [58,58]).1) (pO 16 58 (Lib.cut s [58,58]).2.1)) 8)
def aFa (s:List UInt8):Option (List UInt8):=
 if (pO 10 46 s).length=4 then some (aCL (pO 10 46 s) 4) else none
def nS (s:List UInt8) (v6:Bool) (o:Option (List UInt8)):Option (Bool×List UInt8):=
 match o with
 | none=>none
 | some b=>if tB v6 b=s then some (v6,b) else none
def aTq (s:List UInt8):Option (Bool×List UInt8):=
 if 39<s.length then none else if 0≤Lib.indexByte s 58 then nS s true (aBv s) else nS s false (aFa s)
def aOt (o:Option (Bool×List UInt8)):AV:=match o with
 | some (v6,b)=>.tup [.agg (AD v6 b),.val (.bool true)]
 | none=>.tup [.agg (AD false (Z 16)),.val (.bool false)]
theorem aSA [Gv] (s:List UInt8) (hs:s.length≤200000):ACalls Tryz.prog GP 122 [str s] [] (fun r os=>os=[]∧r=aOt (aTq s)):=by
 have hsz:((⟨s.toArray⟩:ByteArray).size:Int)=(s.length:Int):=by simp[ByteArray.size]
 have cC:=aPZ s 58
 have hzl:(AD false (Z 16)).length=17:=rfl
 unfold str at *
 refine ke Tryz.func122 Tryz.ntmps122 Tryz.results122 #[26,4] ?_
 refine ks [0,2,3] ?_
 refine aC fun K1 hK1=>?_
 by_cases h39:39<s.length
 ·have d:decide ((s.length:Int) > 39)=true:=decide_eq_true (by omega)
  have hF:aTq s=none:=by unfold aTq;rw[if_pos h39]
  rw[hF]
  refine ky d ?_
  refine bG rfl ?_
  refine kp [2,3] ?_
  refine ks [2,3] ?_
  refine aS ?_
  simp only[aI,bL]
  simp only[qq,bR,eU,bN,bO,aY,aB,Nat.reduceEqDiff,apart,aO,Tryz.underlying26,bD,Nat.reduceAdd,List.take_nil,dA,aH,aM]
  rfl
 have d:decide ((s.length:Int) > 39)=false:=decide_eq_false (by omega)
 refine ky d ?_
 refine aR rfl (bC (hK1 _ ?_))
 clear hK1 K1
 refine kp [0,2,3] ?_
 refine ks [0,2,3,4] ?_
 refine aC fun K1 hK1=>?_
 refine kr [] fun K hK=>?_
 refine kc (cC) (hK _ ?_)
 clear hK K
 refine kp [0,2,3,4,19] ?_
 have hAl:∀ (v:Bool) (L:List UInt8),L.length=16→(AD v L).length=17:=fun v L h=>by simp[AD,aX,h]
 have hAo:∀ v L,(AD v L).all dC=true:=fun v L=>by simp[AD,eR,dC,Value.oneCell']
 have hAn:∀ v L,aM (AD v L)=true:=fun v L=>by simp[AD,aM,aH,Go.V.aJ]
 have hzd:(AD false (Z 16)).drop 17=[]:=rfl
 have hzt:(AD false (Z 16)).take 17=AD false (Z 16):=rfl
 have hzn:=hAn false (Z 16)
 have tail:∀ (v6:Bool) (b:List UInt8) (rest:List AObj) (st:St),b.length=16→aTq s=nS s v6 (some b)→gE GP st ⟨73,[(0,.val (.string ⟨s.toArray⟩)),(2,.ptr 0 0),(4,.ptr 1 0)],.cells (AD false (Z 16))::.cells (AD v6 b)::rest⟩→K1 st:=by
  intro v6 b rest st hb hF hw
  refine hK1 st (eX hw ?_)
  clear hw hK1 K1
  have cT:=aKx v6 b hb
  have hal:=hAl v6 b hb
  have han:=hAn v6 b
  have hat:(AD v6 b).take 17=AD v6 b:=List.take_of_length_le (by omega)
  have had:(AD v6 b).drop 17=[]:=List.drop_eq_nil_of_le (by omega)
  have hao:=hAo v6 b
  unfold str at cT
  refine aC fun K1 hK1=>?_
  refine kw [] (kI hal hat) fun K hK=>?_
  refine aV han cT rfl ?_
  by_cases hT:tB v6 b=s
  ·have e:(tB v6 b == s)=true:=beq_iff_eq.2 hT
   have hR:aTq s=some (v6,b):=by rw[hF];unfold nS;simp only;rw[if_pos hT]
   rw[hR]
   simp only[seval,kT,e]
   refine hK _ ?_
   clear hK K
   refine aR rfl (bC (hK1 _ ?_))
   clear hK1 K1
   rw[hR,show aOt (some (v6,b))=.tup [.agg (AD v6 b),.val (.bool true)] from rfl]
   generalize AD v6 b=A at *
   refine kp [2,4] ?_
   refine kx [2,3] (kI (kI hal hat) (kI hzl (kI hao hzd))) ?_
   refine aS ?_
   simp only[seval,kT,kF,hal,hat,han]
  ·have e:(tB v6 b == s)=false:=beq_eq_false_iff_ne.2 hT
   have hR:aTq s=none:=by rw[hF];unfold nS;simp only;rw[if_neg hT]
   simp only[seval,kT,e]
   refine hK _ ?_
   clear hK K
   refine bG rfl ?_
   refine kp [2] ?_
   refine kx [2,3] (kI hzl hzd) ?_
   refine aS ?_
   simp only[aI,bL]
   simp only[qq,bR,eU,bN,bO,aY,aB,Nat.reduceEqDiff,apart,aO,Tryz.underlying26,bD,Nat.reduceAdd,List.take_nil,dA,aH,aM]
   rw[hR]
   rfl
 by_cases hc:0≤Lib.indexByte s 58
 ·have d:decide (0≤Lib.indexByte s 58)=true:=decide_eq_true hc
  rw[d]
  have hF:aTq s=nS s true (aBv s):=by unfold aTq;rw[if_neg h39,if_pos hc]
  refine bG rfl ?_
  have cU:=aRi s [58,58] hs
  obtain⟨hl1,hl2⟩:=aPl s [58,58]
  unfold aBv at hF
  generalize (Lib.cut s [58,58]).1=h at *
  generalize (Lib.cut s [58,58]).2.1=t at *
  generalize (Lib.cut s [58,58]).2.2=ok at *
  have cG1:=aFk 16 (.inr rfl) 58 h (by omega)
  have cG2:=aFk 16 (.inr rfl) 58 t (by omega)
  have h16a:∀ n∈pO 16 58 h,n<65536:=aQz _ _ _
  have h16b:∀ n∈pO 16 58 t,n<65536:=aQz _ _ _
  have hfl:=aJz 16 58 h
  have hbl:=aJz 16 58 t
  generalize pO 16 58 h=f at *
  generalize pO 16 58 t=b at *
  unfold str at cU cG1 cG2
  refine kp [0,2,3,4] ?_
  refine ks [0,2,3,4,5] ?_
  refine kr [] fun K hK=>?_
  refine kc (cU) (hK _ ?_)
  clear hK K
  refine kp [0,2,3,4,5,6,7] ?_
  have hfn:=mP f
  have hbn:=mP b
  have hfL:=iM f
  have hbL:=iM b
  refine kr [] fun K hK=>?_
  refine aV (by simp[aH,aM]) cG1 (by simp[aH,hfn]) ?_
  simp only[seval,kT]
  refine aV (by simp[aH,aM]) cG2 (by simp[aH,hbn]) ?_
  simp only[seval,kT]
  refine hK _ ?_
  clear hK K
  refine kp [0,2,3,4,5,9,10] ?_
  refine aC fun K2 hK2=>?_
  by_cases h8:8<f.length+b.length
  ·rw[if_pos h8] at hF
   have d8:decide (((f.length+b.length:Nat):Int) > 8)=true:=decide_eq_true (by omega)
   have w8:IntKind.i64.wrap ((f.length+b.length:Nat):Int)=((f.length+b.length:Nat):Int):=fD (by omega)
   refine aC fun K hK=>aA [] ?_
   simp only[qq,aF,Nat.reduceLT,aB,reduceCtorEq,Nat.reduceEqDiff,bI,bV,eN,Tryz.underlying273,aL,cav,aG,aI,aP,bH,oW,w8,d8]
   (repeat' apply And.intro)<;>try (first|exact True.intro|omega)
   refine hK _ ?_
   clear hK K
   refine bG rfl ?_
   refine kp [2,4] ?_
   refine ks [2,3] ?_
   refine aS ?_
   simp only[aI,bL]
   simp only[qq,bR,eU,bN,bO,aY,aB,Nat.reduceEqDiff,apart,aO,Tryz.underlying26,bD,Nat.reduceAdd,List.take_nil,dA,aH,aM]
   rw[hF]
   rfl
  rw[if_neg h8] at hF
  have d8:decide (((f.length+b.length:Nat):Int) > 8)=false:=decide_eq_false (by omega)
  have w8:IntKind.i64.wrap ((f.length+b.length:Nat):Int)=((f.length+b.length:Nat):Int):=fD (by omega)
  refine aC fun K hK=>aA [] ?_
  simp only[qq,aF,Nat.reduceLT,aB,reduceCtorEq,Nat.reduceEqDiff,bI,bV,eN,Tryz.underlying273,aL,cav,aG,aI,aP,bH,oW,w8,d8]
  (repeat' apply And.intro)<;>try (first|exact True.intro|omega)
  refine hK _ ?_
  clear hK K
  refine aR rfl (bC (hK2 _ ?_))
  clear hK2 K2
  refine kp [0,2,4,5,9,10] ?_
  have hk:(if f.length≤8 then f.length else 8)=f.length:=if_pos (by omega)
  have htk:(aTp f).take f.length=aTp f:=List.take_of_length_le (by omega)
  have hfo:=aRF f
  have hz8:=aHK 8
  have ho1:∀ A0 A1:AObj,(if 0<f.length then [A0,A1,AObj.cells (aTp f++(aTp (zz 8)).drop f.length)] else [A0,A1,.cells (aTp (zz 8))])=[A0,A1,.cells (aTp (f++zz (8 - f.length)))]:=by
   intro A0 A1
   rw[xS,aOQ]
   by_cases h0:0<f.length
   ·rw[if_pos h0]
   ·have:f=[]:=List.length_eq_zero_iff.1 (by omega)
    subst this
    rfl
  rw[show List.map cav (zvs IntKind.u16 8)=aTp (zz 8) from rfl]
  refine kw [] (kI (kI hfL (kI hk @iM)) (kI (kI hz8 htk) (kI hfo ho1))) fun K hK=>?_
  refine⟨by omega,hK _ ?_⟩
  clear hK K
  clear ho1
  refine aE [0,2,4,5,10] ?_
  simp only[aD,aB,Nat.reduceEqDiff,if_true,if_false]
  have hCl:(f++zz (8 - f.length)).length=8:=by rw[List.length_append,aHK];omega
  have w9:IntKind.i64.wrap (8 - (b.length:Int))=((8 - b.length:Nat):Int):=by
   rw[show 8 - (b.length:Int)=((8 - b.length:Nat):Int) by omega]
   exact fD (by omega)
  have hq:(8 - ((8 - b.length:Nat):Int)).toNat=b.length:=by omega
  have hsum:8 - b.length+b.length=8:=by omega
  have hbt:(aTp b).take b.length=aTp b:=List.take_of_length_le (by omega)
  have hbo:=aRF b
  have hCd:(aTp (f++zz (8 - f.length))).drop 8=[]:=List.drop_eq_nil_of_le (by rw[iM,hCl];exact Nat.le_refl _)
  refine aC fun K hK=>aA [] ?_
  simp only[qq,aF,Nat.reduceLT,aB,reduceCtorEq,Nat.reduceEqDiff,bI,bV,eN,Tryz.underlying273,cav,aL,eY,iR,Option.map_some,Option.map_none,Tryz.underlying272,bD,eJ,dH,Int.cast_ofNat_Int,ne_eq,Nat.mul_one,aCK,eQ,hbL,Nat.min_def,spl,aG,aI,aP,bH,w9,Int.le_refl,not_true_eq_false,or_false,Int.toNat_natCast,hq,hsum,iM,hCl,hbt,hbo,hCd,aTI f b (by omega)]
  refine⟨⟨by omega,by omega⟩,hK _ ?_⟩
  clear hK K
  have h6l:=aRd f b (by omega)
  have h6b:∀ n∈aEQ f b,n<65536:=by
   intro n hn
   unfold aEQ zz at hn
   rcases List.mem_append.1 hn with hn|hn
   ·rcases List.mem_append.1 hn with hn|hn
    ·exact h16a n hn
    ·have:=List.eq_of_mem_replicate hn;omega
   ·exact h16b n hn
  have c6:=aTa (aEQ f b) h6l h6b
  have hbl6:=rO (aEQ f b) 8
  generalize aEQ f b=l at *
  have hUl:=iM l
  have hUt:(aTp l).take 8=aTp l:=List.take_of_length_le (by omega)
  have hUn:=mP l
  rw[h6l] at hUl
  have hal:=hAl true _ hbl6
  have han:=hAn true (vR l 8)
  have hao:=hAo true (vR l 8)
  have htl:=tail true (vR l 8) [.cells (aTp l)]
  generalize vR l 8=Bx at *
  rw[show ([.val (.bool false),.val (.int .u8 0),.val (.int .u8 0),.val (.int .u8 0),.val (.int .u8 0),.val (.int .u8 0),.val (.int .u8 0),.val (.int .u8 0),.val (.int .u8 0),.val (.int .u8 0),.val (.int .u8 0),.val (.int .u8 0),.val (.int .u8 0),.val (.int .u8 0),.val (.int .u8 0),.val (.int .u8 0),.val (.int .u8 0)]:List AV)=AD false (Z 16) from rfl]
  refine kp [0,2,4,5] ?_
  refine ku [] (kI hUl hUt) ?_
  refine aV hUn c6 (by simp[aH,han]) ?_
  have hAB:(AD true Bx).drop 17=[]:=List.drop_eq_nil_of_le (by omega)
  simp only[seval,kT,hao,hal,hzl,hzd]
  refine htl _ hbl6 hF ?_
  exact .of_keep [0,2,4] rfl
 ·have d:decide (0≤Lib.indexByte s 58)=false:=decide_eq_false hc
  rw[d]
  have hF:aTq s=nS s false (aFa s):=by unfold aTq;rw[if_neg h39,if_neg hc]
  apply aR rfl
  have cG:=aFk 10 (.inl rfl) 46 s (by omega)
  unfold aFa at hF
  have hgl:=aJz 10 46 s
  have grpl16:=aQz 10 46 s
  generalize pO 10 46 s=l at *
  unfold str at cG
  have hln:=mP l
  have hlL:=iM l
  refine kp [0,2,3,4] ?_
  refine kr [] fun K hK=>?_
  refine aV (by simp[aH,aM]) cG (by simp[aH,hln]) ?_
  simp only[seval,kT]
  refine hK _ ?_
  clear hK K
  refine kp [0,2,3,4,11] ?_
  refine aC fun K2 hK2=>?_
  by_cases h4:l.length=4
  ·rw[if_pos h4] at hF
   have d4:(((l.length:Nat):Int) != 4)=false:=by rw[h4];rfl
   refine aC fun K hK=>aA [] ?_
   simp only[qq,aF,Nat.reduceLT,aB,reduceCtorEq,Nat.reduceEqDiff,bI,bV,eN,Tryz.underlying273,cav,aL,aG,aI,aP,bH,d4]
   (repeat' apply And.intro)<;>try (first|exact True.intro|omega)
   refine hK _ ?_
   clear hK K
   refine aR rfl (bC (hK2 _ ?_))
   clear hK2 K2
   rw[h4] at hlL ⊢
   refine aE [0,2,4,11] ?_
   simp only[aD,aB,Nat.reduceEqDiff,if_true,if_false]
   refine aC fun K hK=>aA [] ?_
   simp only[qq,aF,Nat.reduceLT,aB,reduceCtorEq,Nat.reduceEqDiff,bI,bV,eN,Tryz.underlying273,Int.cast_ofNat_Int,cav,aG,aI]
   (repeat' apply And.intro)<;>try (first|exact True.intro|omega)
   refine hK _ ?_
   clear hK K
   refine aE [0,2,4,54,55,56] ?_
   simp only[aD,aB,Nat.reduceEqDiff,if_true,if_false]
   refine bK ?_
   refine bZ (fun i:Nat=>⟨73,[(0,.val (.string ⟨s.toArray⟩)),(2,.ptr 0 0),(4,.ptr 1 0),(54,.sl 4 (aTp l) .no),(55,.val (.int .i64 4)),(56,.val (.int .i64 (i:Int)))],[.cells (AD false (Z 16)),.cells (AD false (aCL l i))]⟩) (fun i=>i≤4) (fun i=>4 - i) 0 (by omega) (.of_keep [0,2,4,54,55,56] rfl) ?_
   intro i hi
   have hfi:=sJ l i
   have ha:=hAl false _ hfi
   by_cases hlt:i<4
   ·have d:decide ((i:Int)<4)=true:=decide_eq_true (by omega)
    refine ky d ?_
    refine bJ ?_
    refine bG rfl (bC ?_)
    simp only[aI]
    refine aE [0,2,4,54,55,56] ?_
    simp only[aD,aB,Nat.reduceEqDiff,if_true,if_false]
    have hg:((aTp l).drop i).getD 0 .top=.val (.int .u16 ((l.getD i 0:Nat):Int)):=by
     simp[aTp,List.getD_eq_getElem?_getD,List.getElem?_map,List.getElem?_eq_getElem (show i<l.length by omega)]
    have hn16:l.getD i 0<65536:=by
     rw[List.getD_eq_getElem?_getD,List.getElem?_eq_getElem (show i<l.length by omega)]
     exact grpl16 _ (List.getElem_mem _)
    have hset:aCL l (i+1)=(aCL l i).set i (UInt8.ofNat (l.getD i 0)):=rfl
    refine aC fun K hK=>bK ?_
    refine aC fun K hK=>aA [] ?_
    simp only[qq,aF,Nat.reduceLT,aB,reduceCtorEq,Nat.reduceEqDiff,dN,Tryz.underlying273,bD,hlL,Nat.mul_one,Int.cast_ofNat_Int,Int.toNat_natCast,aY,apart,aO,Tryz.underlying271,aG,aI,List.length_drop,hg]
    (repeat' apply And.intro)<;>try (first|exact True.intro|omega)
    refine hK _ ?_
    clear hK K
    refine aE [0,2,4,12,13,54,55,56] ?_
    simp only[aD,aB,Nat.reduceEqDiff,if_true,if_false]
    generalize l.getD i 0=n at *
    have hBu:∀ q:Nat,AV.val (.int .u8 ((q%256:Nat):Int))=B (UInt8.ofNat q):=fun q=>by
     unfold B
     rw[UInt8.toNat_ofNat']
    generalize aCL l i=L at *
    have hs1:List.take (1+i) (AD false L)++[.val (.int .u8 ((n%256:Nat):Int))]++List.drop (1+i+1) (AD false L)=AD false (aCL l (i+1)):=by
     rw[hBu,hset]
     exact aMj _ _ _ _ (by omega)
    clear hBu
    refine aA [] ?_
    simp only[qq,aF,Nat.reduceLT,aB,reduceCtorEq,Nat.reduceEqDiff,eL,Tryz.underlying5,eG,bA,aH,fF,Tryz.underlying271,Option.isSome_some,aJf,aN,Tryz.underlying26,bD,ne_eq,dN,Tryz.underlying24,Int.toNat_natCast,bQ,bX,bB,List.all_cons,dC,Value.oneCell',List.all_nil,spl,aG,Int.cast_ofNat_Int,Nat.mul_one,ha,Nat.reduceLeDiff,hs1]
    refine⟨⟨by omega,by omega⟩,by omega,?_⟩
    simp only[seval,kT,kF]
    refine hK _ ?_
    clear hK K
    refine aE [0,2,4,54,55,56] ?_
    simp only[aD,aB,Nat.reduceEqDiff,if_true,if_false]
    have w5:IntKind.i64.wrap ((i+1:Nat):Int)=((i+1:Nat):Int):=fD (by omega)
    refine ku [] (kI @gO w5) ?_
    exact⟨i+1,by omega,by omega,.of_keep [0,2,4,54,55,56] rfl⟩
   ·have d:decide ((i:Int)<4)=false:=decide_eq_false (by omega)
    have he:i=4:=by omega
    subst he
    refine kq ?_
    refine bJ ?_
    apply aR rfl
    apply dR
    simp only[seval,kT,kF]
    exact tail false (aCL l 4) [] _ (sJ l 4) hF (.of_keep [0,2,4] (by exact rfl))
  ·rw[if_neg h4] at hF
   have d4:(((l.length:Nat):Int) != 4)=true:=by simp;omega
   refine aC fun K hK=>aA [] ?_
   simp only[qq,aF,Nat.reduceLT,aB,reduceCtorEq,Nat.reduceEqDiff,bI,bV,eN,Tryz.underlying273,cav,aL,aG,aI,aP,bH,d4]
   (repeat' apply And.intro)<;>try (first|exact True.intro|omega)
   refine hK _ ?_
   clear hK K
   refine bG rfl ?_
   refine kp [2,4] ?_
   refine ks [2,3] ?_
   refine aS ?_
   simp only[aI,bL]
   simp only[qq,bR,eU,bN,bO,aY,aB,Nat.reduceEqDiff,apart,aO,Tryz.underlying26,bD,Nat.reduceAdd,List.take_nil,dA,aH,aM]
   rw[hF]
   rfl
theorem aRJ [Gv] (s:List UInt8):-9223372036854775808≤nP s∧nP s≤9223372036854775807:=by
 unfold nP
 cases hc:Lib.atoiAll s with
 | range=>simp only[Lib.atoiSat];split<;>omega
 | ok v=>
  simp only
  unfold Lib.atoiAll at hc
  cases s with
  | nil=>cases hc
  | cons c r=>
   simp only at hc
   split at hc
   ·cases hc
   ·cases hc
   ·rename_i u hu
    split at hc
    ·cases hc
    ·split at hc
     ·cases hc
     ·injection hc with hc
      subst hc
      split<;>omega
 | _=>simp
def tV (s:List UInt8):Option (Bool×List UInt8×Int):=match aTq (Lib.cut s [47]).1 with
 | none=>none
 | some (v6,b)=>if aEK v6 b (nP (Lib.cut s [47]).2.1)=s then some (v6,b,nP (Lib.cut s [47]).2.1) else none
def aDC (o:Option (Bool×List UInt8×Int)):AV:=match o with
 | some (v6,b,n)=>.tup [.agg (NT v6 b n),.val (.bool true)]
 | none=>.tup [.agg (NT false (Z 16) 0),.val (.bool false)]
theorem aHY [Gv] {s:List UInt8} {v6:Bool} {b:List UInt8} (h:aTq s=some (v6,b)):b.length=16:=by
 unfold aTq at h
 have key:∀ w o,nS s w o=some (v6,b)→o=some b:=by
  intro w o ho
  unfold nS at ho
  cases o with
  | none=>cases ho
  | some c=>
   simp only at ho
   split at ho
   ·injection ho with ho;injection ho with _ ho;rw[ho]
   ·cases ho
 split at h
 ·cases h
 ·split at h
  ·have:=key _ _ h
   unfold aBv at this
   split at this
   ·cases this
   ·injection this with this;rw[← this];exact rO _ _
  ·have:=key _ _ h
   unfold aFa at this
   split at this
   ·injection this with this;rw[← this];exact sJ _ _
   ·cases this
theorem aSL [Gv] (s:List UInt8) (hs:s.length≤200000):ACalls Tryz.prog GP 61 [str s] [] (fun r os=>os=[]∧r=aDC (tV s)):=by
 have cU:=aRi s [47] hs
 obtain⟨hl1,hl2⟩:=aPl s [47]
 have cA:=aSA (Lib.cut s [47]).1 (by omega)
 have cI:=aRq (Lib.cut s [47]).2.1 (by omega)
 have hbits:=aRJ (Lib.cut s [47]).2.1
 have hF:tV s=match aTq (Lib.cut s [47]).1 with
  | none=>none
  | some (v6,b)=>if aEK v6 b (nP (Lib.cut s [47]).2.1)=s then some (v6,b,nP (Lib.cut s [47]).2.1) else none:=rfl
 have hlen:=fun v6 b=>aHY (s:=(Lib.cut s [47]).1) (v6:=v6) (b:=b)
 generalize (Lib.cut s [47]).1=h at *
 generalize (Lib.cut s [47]).2.2=ok at *
 generalize nP (Lib.cut s [47]).2.1=bits at *
 generalize (Lib.cut s [47]).2.1=t at *
 generalize aTq h=o at *
 have hz18:(NT false (Z 16) 0).length=18:=rfl
 have hzd:(NT false (Z 16) 0).drop 18=[]:=rfl
 have hzt:(NT false (Z 16) 0).take 18=NT false (Z 16) 0:=rfl
 have hzn:aM (NT false (Z 16) 0)=true:=rfl
 have hAl:∀ (v:Bool) (L:List UInt8),L.length=16→(AD v L).length=17:=fun v L h=>by simp[AD,aX,h]
 have hAo:∀ v L,(AD v L).all dC=true:=fun v L=>by simp[AD,eR,dC,Value.oneCell']
 have hAn:∀ v L,aM (AD v L)=true:=fun v L=>by simp[AD,aM,aH,Go.V.aJ]
 unfold str at *
 refine ke Tryz.func61 Tryz.ntmps61 Tryz.results61 #[79,4] ?_
 refine ks [0,2,3] ?_
 refine kr [] fun K hK=>?_
 refine kc (cU) (hK _ ?_)
 clear hK K
 refine kp [0,2,4,5] ?_
 obtain⟨v6,b,okb,hV,hb,hFR⟩:∃ v6 b okb,aOt o=.tup [.agg (AD v6 b),.val (.bool okb)]∧b.length=16∧tV s=if okb=true∧aEK v6 b bits=s then some (v6,b,bits) else none:=by
  rw[hF]
  cases o with
  | none=>exact⟨false,Z 16,false,rfl,rfl,by simp⟩
  | some p=>
   obtain⟨v6,b⟩:=p
   refine⟨v6,b,true,rfl,hlen v6 b rfl,?_⟩
   by_cases hT:aEK v6 b bits=s
   ·simp[hT]
   ·simp[hT]
 rw[hV] at cA
 rw[hFR]
 clear hF hlen hV hFR
 have hal:=hAl v6 b hb
 have hao:=hAo v6 b
 have han:=hAn v6 b
 have hat:(AD v6 b).take 17=AD v6 b:=List.take_of_length_le (by omega)
 have had:(AD v6 b).drop 17=[]:=List.drop_eq_nil_of_le (by omega)
 have cT:=aMM v6 b bits hb hbits
 have hNl:=fZ v6 b bits hb
 have hNo:=jO v6 b bits
 have hNn:=iZ v6 b bits
 have hNt:(NT v6 b bits).take 18=NT v6 b bits:=List.take_of_length_le (by omega)
 have hNd:(NT v6 b bits).drop 18=[]:=List.drop_eq_nil_of_le (by omega)
 have hNA:AD v6 b++[.val (.int .i64 bits)]=NT v6 b bits:=by simp[AD,NT]
 unfold str at cT
 refine kr [] fun K hK=>?_
 refine aV (by simp[aH,aM]) cA (by simp[aH,aM,han]) ?_
 simp only[seval,kT,hao,hal]
 refine hK _ ?_
 clear hK K
 refine kp [0,2,5,7,8] ?_
 refine kr [] fun K hK=>?_
 refine kc (cI) (hK _ ?_)
 clear hK K
 refine kp [0,2,7,8,9] ?_
 have hNA0:AD v6 b++[.val (.int .i64 0)]=NT v6 b 0:=by simp[AD,NT]
 have hN0l:=fZ v6 b 0 hb
 have hN0t:(NT v6 b 0).take 17=AD v6 b:=by
  have:(Bs b).length=16:=by rw[aX];exact hb
  simp[NT,AD,List.take_append,this]
 have hN0d:(NT v6 b 0).drop 18=[]:=List.drop_eq_nil_of_le (by omega)
 refine ky (kI (kI (kI hal hat) (kI hao (kI hNA0 hN0l))) (kI (kI hN0t hNA) (kI hN0d (kI hNo hNl)))) ?_
 rw[show ([.val (.bool false),.val (.int .u8 0),.val (.int .u8 0),.val (.int .u8 0),.val (.int .u8 0),.val (.int .u8 0),.val (.int .u8 0),.val (.int .u8 0),.val (.int .u8 0),.val (.int .u8 0),.val (.int .u8 0),.val (.int .u8 0),.val (.int .u8 0),.val (.int .u8 0),.val (.int .u8 0),.val (.int .u8 0),.val (.int .u8 0),.val (.int .i64 0)]:List AV)=NT false (Z 16) 0 from rfl]
 refine kp [0,2,8,11] ?_
 refine aC fun K1 hK1=>?_
 by_cases hg:okb=true∧aEK v6 b bits=s
 ·rw[if_pos hg,show aDC (some (v6,b,bits))=.tup [.agg (NT v6 b bits),.val (.bool true)] from rfl]
  obtain⟨rfl,hT⟩:=hg
  have e:(aEK v6 b bits == s)=true:=beq_iff_eq.2 hT
  refine kw [] (kI hNl hNt) fun K hK=>?_
  refine aV hNn cT rfl ?_
  simp only[seval,kT,e]
  refine hK _ ?_
  clear hK K
  refine aR rfl (bC (hK1 _ ?_))
  clear hK1 K1
  rw[if_pos ⟨rfl,hT⟩,show aDC (some (v6,b,bits))=.tup [.agg (NT v6 b bits),.val (.bool true)] from rfl]
  generalize NT v6 b bits=N0 at *
  refine kp [2,11] ?_
  refine kx [2,3] (kI (kI hNl hNt) (kI hz18 (kI hNo hzd))) ?_
  refine aS ?_
  simp only[seval,kT,kF,hNl,hNt,hNn]
 ·rw[if_neg hg,show aDC none=.tup [.agg (NT false (Z 16) 0),.val (.bool false)] from rfl]
  refine aC fun K hK=>?_
  have next:∀ st:St,gE GP st ⟨41,[(2,.ptr 0 0),(38,.val (.bool true))],[.cells (NT false (Z 16) 0),.cells (AD v6 b),.cells (NT v6 b bits)]⟩→K st:=by
   intro st hw
   refine hK st (eX hw ?_)
   clear hw hK K
   apply bG rfl
   refine kp [2] ?_
   refine kx [2,3] (kI hz18 hzd) ?_
   refine aS ?_
   simp only[aI,bL]
   simp only[qq,bR,eU,bN,bO,aY,aB,Nat.reduceEqDiff,apart,aO,Tryz.underlying79,bD,Nat.reduceAdd,List.take_nil,dA,aH,aM]
   rfl
  cases okb with
  | false=>
   refine ko [] ?_
   exact next _ (.of_keep [2,38] (by exact rfl))
  | true=>
   have e:(aEK v6 b bits == s)=false:=beq_eq_false_iff_ne.2 fun h=>hg ⟨rfl,h⟩
   refine ku [] (kI hNl hNt) ?_
   refine aV hNn cT rfl ?_
   simp only[seval,kT,e]
   exact next _ (.of_keep [2,38] (by exact rfl))
def cvt (n:Nat):Nat:=(1022+n.log2)*4503599627370496+n*2^(52 - n.log2)
theorem aTO [Gv] {n:Nat} (h0:0<n) (h1:n<9007199254740992):FloatKind.f64.nearest (n:Int)=cvt n:=by
 obtain⟨hl,ha,hb⟩:=pP h0 h1
 have h2:FloatKind.f64.nearest (n:Int)=Ieee.double.nearest false n 0:=by
  unfold FloatKind.nearest
  have hd:decide ((n:Int)<0)=false:=decide_eq_false (by omega)
  rw[hd,Int.natAbs_natCast]
  rfl
 obtain⟨e1,e2⟩:=xQ (k:=1022+n.log2) ha hb
 have hr:cvt n=(1022+n.log2)*4503599627370496+n*2^(52 - n.log2):=rfl
 rw[← hr] at e1 e2
 rw[h2,vA (r:=cvt n) false (by rw[hr];omega) (by rw[hr];omega) (.inr ⟨by rw[e2];omega,?_⟩),aGL]
 rw[e1,e2]
 congr 2
 omega
theorem aSD [Gv] {n:Nat} (h0:0<n) (h1:n<9007199254740992):0<cvt n∧cvt n<9218868437227405312:=by
 obtain⟨hl,ha,hb⟩:=pP h0 h1
 unfold cvt
 omega
theorem aTj [Gv]:FloatKind.f64.nearest (0:Int)=0:=by decide +kernel
theorem aRn [Gv] (e:Int):ACalls Tryz.prog GP 195 [.val (.float .f64 0),.val (.int .i64 e)] [] (fun r os=>os=[]∧r=.val (.float .f64 0)):=by
 have hz:=xL 0
 rw[show decide (dX 0=0)=true by decide] at hz
 refine ke Tryz.func195 Tryz.ntmps195 Tryz.results195 #[27] ?_
 refine ks [0,1] ?_
 refine aC fun K hK=>?_
 apply bK
 refine ky (kI @jU hz) ?_
 apply bG rfl
 refine ks [4] ?_
 refine aS ?_
 simp only[aI,bL]
 simp only[qq,bR,eU,bN,bO,dA,aB,aH]
theorem aSI [Gv] (e:Int):ACalls Tryz.prog GP 125 [.val (.float .f64 0),.val (.int .i64 e)] [] (fun r os=>os=[]∧r=.val (.float .f64 0)):=by
 have cL:=aRn e
 refine ke Tryz.func125 Tryz.ntmps125 Tryz.results125 #[27] ?_
 refine ks [0,1] ?_
 refine aC fun K hK=>?_
 refine aBD (bC ?_)
 simp only[seval,kT]
 refine hK _ ?_
 clear hK K
 refine kr [] fun K hK=>?_
 refine kc (cL) (hK _ ?_)
 clear hK K
 refine kp [4] ?_
 refine aS ?_
 simp only[qq,bR,eU,bN,bO,dA,aB,aH]
def ldV (n:Nat) (e:Int):Nat:=if n=0 then 0 else qU (nrm (cvt n)) (vW (cvt n) e)
theorem aTP [Gv] (n:Nat) (h:n<9007199254740992) (e:Int):ACalls Tryz.prog GP 125 [.val (.float .f64 (FloatKind.f64.nearest (n:Int))),.val (.int .i64 e)] [] (fun r os=>os=[]∧r=.val (.float .f64 (ldV n e))):=by
 unfold ldV
 by_cases h0:n=0
 ·subst h0
  rw[if_pos rfl,show ((0:Nat):Int)=0 from rfl,aTj]
  exact aSI e
 ·rw[if_neg h0,aTO (by omega) h]
  obtain⟨r1,r2⟩:=aSD (n:=n) (by omega) h
  exact aLu (cvt n) r1 r2 e
theorem aRN [Gv] (x:Nat) (h:x<9223372036854775808):ACalls Tryz.prog GP 127 [.val (.float .f64 x),.val (.float .f64 13830554455654793216)] [] (fun r os=>os=[]∧r=.val (.float .f64 (x+9223372036854775808))):=by
 have h1:bits .andNot .u64 (x:Int) 9223372036854775808=(x:Int):=by
  rw[zG (by omega),Nat.mod_eq_of_lt h]
 have h2:bits .and .u64 13830554455654793216 9223372036854775808=9223372036854775808:=by decide +kernel
 have h3:bits .or .u64 (x:Int) 9223372036854775808=((x+9223372036854775808:Nat):Int):=by
  rw[show (9223372036854775808:Int)=((9223372036854775808:Nat):Int) from rfl,(nM .u64 x 9223372036854775808 uV).2.1]
  congr 1
  have:=Nat.two_pow_add_eq_or_of_lt (i:=63) (b:=x) (by rw[aMY];exact h) 1
  rw[aMY,Nat.mul_one] at this
  rw[Nat.or_comm,← this,Nat.add_comm]
  exact Nat.mod_eq_of_lt (by rw[show IntKind.u64.bits=64 from rfl,nH];omega)
 refine ke Tryz.func127 Tryz.ntmps127 Tryz.results127 #[27] ?_
 refine ks [0,1] ?_
 refine kr [] fun K hK=>?_
 refine iT trivial (nE x) ?_
 simp only[seval,kT]
 refine iT trivial (nE 13830554455654793216) ?_
 simp only[seval,kT,h1,h2,h3]
 refine iT trivial (oT (x+9223372036854775808)) ?_
 simp only[seval,kT]
 refine hK _ ?_
 clear hK K
 refine kp [4] ?_
 refine aS ?_
 simp only[qq,bR,eU,bN,bO,dA,aB,aH]
theorem aRo [Gv] (m:Nat) (p:Int):Ieee.double.nearest false m p≤9218868437227405312:=by
 unfold Ieee.Format.nearest
 split
 ·rw[aGL];omega
 ·simp only[aGL,aAL]
  exact Nat.min_le_right _ _
theorem aSf [Gv] (y:Nat) (ex:Int):qU y ex≤9218868437227405312:=by
 unfold qU
 split
 ·omega
 ·split
  ·exact Nat.le_refl _
  ·split
   ·obtain⟨R,hR⟩:∃ R,(ex+1076).toNat*4503599627370496+y%4503599627370496=R:=⟨_,rfl⟩
    rw[hR]
    have hlt:R<9218868437227405312:=by omega
    have hfr:dX R=R:=gD (by omega)
    have hng:kV R=false:=mJ (by omega)
    have c3:dX 4368491638549381120=4368491638549381120:=by decide +kernel
    have c4:kV 4368491638549381120=false:=by decide +kernel
    have hm:=aEJ 4368491638549381120 R (by rw[c3];decide) (by rw[hfr];exact hlt)
    rw[c4,hng,Bool.xor_false] at hm
    rw[hm,Option.getD_some]
    exact aRo _ _
   ·omega
theorem aSg [Gv] (n:Nat) (e:Int):ldV n e≤9218868437227405312:=by
 unfold ldV
 split
 ·omega
 ·exact aSf _ _
def aAt (rest:List UInt8):Nat:=if rest=[105,110,102] then 9218868437227405312 else ldV (puF 10 53 (Lib.cut rest [112]).1).1 (nP (Lib.cut rest [112]).2.1)
def aIh (s:List UInt8):Nat:=if Lib.hasPrefix s [45]=true then aAt (Lib.trimPrefix s [45])+9223372036854775808 else aAt (Lib.trimPrefix s [45])
def aCs (s:List UInt8):Option Nat:=if s≠[]∧wX (aIh s)=s then some (aIh s) else none
def aPa (o:Option Nat):AV:=match o with
 | some x=>.tup [.val (.float .f64 x),.val (.bool true)]
 | none=>.tup [.val (.float .f64 0),.val (.bool false)]
theorem aRP [Gv] (s:List UInt8):aAt s≤9218868437227405312:=by
 unfold aAt
 split
 ·exact Nat.le_refl _
 ·exact aSg _ _
theorem aSw [Gv] (s:List UInt8):aIh s<18446744073709551616:=by
 have:=aRP (Lib.trimPrefix s [45])
 unfold aIh
 split<;>omega
theorem aSC [Gv] (s:List UInt8) (hs:s.length≤200000):ACalls Tryz.prog GP 62 [str s] [] (fun r os=>os=[]∧r=aPa (aCs s)):=by
 have hle:(Lib.trimPrefix s [45]).length≤200000:=by
  unfold Lib.trimPrefix
  split
  ·rw[List.length_drop];omega
  ·exact hs
 have cC:=aNf s [45]
 have cU:=aRi (Lib.trimPrefix s [45]) [112] hle
 obtain⟨hl1,hl2⟩:=aPl (Lib.trimPrefix s [45]) [112]
 have cP:=aNQ 10 53 (.inl rfl) (.inr rfl) (Lib.cut (Lib.trimPrefix s [45]) [112]).1 (by omega)
 have cI:=aRq (Lib.cut (Lib.trimPrefix s [45]) [112]).2.1 (by omega)
 have hn:(puF 10 53 (Lib.cut (Lib.trimPrefix s [45]) [112]).1).1<9007199254740992:=by
  unfold puF
  split
  ·omega
  ·have:=aTW (b:=10) (mx:=2^53 - 1) (Lib.cut (Lib.trimPrefix s [45]) [112]).1 0 (by omega)
   omega
 have cL:=aTP _ hn (nP (Lib.cut (Lib.trimPrefix s [45]) [112]).2.1)
 have hll:=aSg (puF 10 53 (Lib.cut (Lib.trimPrefix s [45]) [112]).1).1 (nP (Lib.cut (Lib.trimPrefix s [45]) [112]).2.1)
 have h0:aAt (Lib.trimPrefix s [45])=if Lib.trimPrefix s [45]=[105,110,102] then 9218868437227405312 else ldV (puF 10 53 (Lib.cut (Lib.trimPrefix s [45]) [112]).1).1 (nP (Lib.cut (Lib.trimPrefix s [45]) [112]).2.1):=rfl
 have h00:=aRP (Lib.trimPrefix s [45])
 have cT:=aNe (aIh s) (aSw s)
 have hc:aIh s=if Lib.hasPrefix s [45]=true then aAt (Lib.trimPrefix s [45])+9223372036854775808 else aAt (Lib.trimPrefix s [45]):=rfl
 have hF:aCs s=if s≠[]∧wX (aIh s)=s then some (aIh s) else none:=rfl
 generalize aAt (Lib.trimPrefix s [45])=x0 at *
 generalize ldV (puF 10 53 (Lib.cut (Lib.trimPrefix s [45]) [112]).1).1 (nP (Lib.cut (Lib.trimPrefix s [45]) [112]).2.1)=y0 at *
 generalize nP (Lib.cut (Lib.trimPrefix s [45]) [112]).2.1=pw at *
 generalize (puF 10 53 (Lib.cut (Lib.trimPrefix s [45]) [112]).1).1=od at *
 generalize (Lib.cut (Lib.trimPrefix s [45]) [112]).1=hd at *
 generalize (Lib.cut (Lib.trimPrefix s [45]) [112]).2.1=tl at *
 generalize (Lib.cut (Lib.trimPrefix s [45]) [112]).2.2=okc at *
 generalize Lib.trimPrefix s [45]=rest at *
 generalize Lib.hasPrefix s [45]=mi at *
 rw[hF]
 clear hF
 generalize aIh s=X at *
 have cInf:=aPV
 have cS:=aRN x0 (by omega)
 unfold str at *
 refine ke Tryz.func62 Tryz.ntmps62 Tryz.results62 #[27,4] ?_
 refine ks [0] ?_
 refine kr [] fun K hK=>?_
 refine kc (cC) (hK _ ?_)
 clear hK K
 refine kp [0,4,5] ?_
 refine kr [] fun K hK=>?_
 refine kc (cU) (hK _ ?_)
 clear hK K
 refine kp [0,4,5,6,7] ?_
 refine kr [] fun K hK=>?_
 refine kc (cP) (hK _ ?_)
 clear hK K
 refine kp [0,4,5,7,9] ?_
 refine kr [] fun K hK=>?_
 refine kc (cI) (hK _ ?_)
 clear hK K
 refine kp [0,4,5,9,11] ?_
 refine kr [] fun K hK=>?_
 refine kc (cL) (hK _ ?_)
 clear hK K
 refine kp [0,4,5,13] ?_
 refine aC fun K1 hK1=>?_
 have n1:∀ st:St,gE GP st ⟨54,[(0,.val (.string ⟨s.toArray⟩)),(5,.val (.bool mi)),(13,.val (.float .f64 x0))],[]⟩→K1 st:=by
  intro st hw
  refine hK1 st (eX hw ?_)
  clear hw hK1 K1
  refine aC fun K1 hK1=>?_
  have n2:∀ st:St,gE GP st ⟨54,[(0,.val (.string ⟨s.toArray⟩)),(13,.val (.float .f64 X))],[]⟩→K1 st:=by
   intro st hw
   refine hK1 st (eX hw ?_)
   clear hw hK1 K1
   refine aC fun K1 hK1=>?_
   by_cases hg:s≠[]∧wX X=s
   ·rw[if_pos hg]
    have e0:(s == [])=false:=beq_eq_false_iff_ne.2 hg.1
    have e1:(wX X == s)=true:=beq_iff_eq.2 hg.2
    refine kw [] e0 fun K hK=>?_
    refine kv (cT) e1 (hK _ ?_)
    clear hK K
    refine aR rfl (bC (hK1 _ ?_))
    clear hK1 K1
    rw[if_pos hg]
    refine kp [13] ?_
    refine ks [2,3] ?_
    refine aS ?_
    simp only[qq,bR,eU,bN,bO,dA,aB,Nat.reduceEqDiff,aH]
    rfl
   ·rw[if_neg hg]
    refine aC fun K hK=>?_
    have n3:∀ st:St,gE GP st ⟨54,[(52,.val (.bool true))],[]⟩→K st:=by
     intro st hw
     refine hK st (eX hw ?_)
     clear hw hK K
     apply bG rfl
     apply aE []
     simp only[aD]
     refine ks [2,3] ?_
     refine aS ?_
     simp only[aI,bL]
     simp only[qq,bR,eU,bN,bO,dA,aB,Nat.reduceEqDiff,aH]
     rfl
    by_cases e:s=[]
    ·have e0:(s == [])=true:=beq_iff_eq.2 e
     refine ku [] e0 ?_
     exact n3 _ (.of_keep [52] (by exact rfl))
    ·have e0:(s == [])=false:=beq_eq_false_iff_ne.2 e
     have e1:(wX X == s)=false:=beq_eq_false_iff_ne.2 fun h=>hg ⟨e,h⟩
     refine ku [] e0 ?_
     refine kv (cT) e1 ?_
     exact n3 _ (.of_keep [52] (by exact rfl))
  cases mi with
  | false=>
   rw[if_neg (by decide)] at hc
   subst hc
   refine kq ?_
   refine aR rfl (bC ?_)
   exact n2 _ (.of_keep [0,13] (by exact rfl))
  | true=>
   rw[if_pos rfl] at hc
   refine kq ?_
   apply bG rfl
   refine ko [] ?_
   refine kc (cS) ?_
   rw[← hc]
   exact n2 _ (.of_keep [0,13] (by exact rfl))
 by_cases hr:rest=[105,110,102]
 ·have e:(rest == [105,110,102])=true:=beq_iff_eq.2 hr
  rw[if_pos hr] at h0
  refine ky e ?_
  apply bG rfl
  refine ko [] ?_
  refine kc (cInf) ?_
  subst h0
  exact n1 _ (.of_keep [0,5,13] (by exact rfl))
 ·have e:(rest == [105,110,102])=false:=beq_eq_false_iff_ne.2 hr
  rw[if_neg hr] at h0
  subst h0
  refine ky e ?_
  refine aR rfl (bC ?_)
  exact n1 _ (.of_keep [0,5,13] (by exact rfl))
def nL (w t:List UInt8):Option PV:=
 if w=[98,101,102,111,114,101] then (aRB t).map fun u=>⟨1,u,[],[],false,Z 16,0,0⟩
 else if w=[115,105,110,99,101] then (aRB t).map fun u=>⟨2,u,[],[],false,Z 16,0,0⟩
 else if w=[111,112] then (lJ t).map fun l=>⟨3,0,l,[],false,Z 16,0,0⟩
 else if w=[112,97,116,104] then (if iI t=true then some ⟨4,0,[],t,false,Z 16,0,0⟩ else none)
 else if w=[110,101,116] then (tV t).map fun x=>⟨5,0,[],[],x.1,x.2.1,x.2.2,0⟩
 else if w=[99,111,115,116] then (aCs t).map fun x=>⟨6,0,[],[],false,Z 16,0,x⟩
 else none
def xU (s:List UInt8):Option PV:=match qB s with
 | some [w,t]=>nL w t
 | _=>none
def aRC (o:Option PV):AV:=match o with
 | some p=>.tup [.agg (PA p .full),.val (.bool true)]
 | none=>.tup [.agg (PA aQD .full),.val (.bool false)]
theorem aRY [Gv] {s:List UInt8} {x:Bool×List UInt8×Int} (h:tV s=some x):x.2.1.length=16:=by
 unfold tV at h
 cases ha:aTq (Lib.cut s [47]).1 with
 | none=>rw[ha] at h;cases h
 | some p=>
  obtain⟨v6,b⟩:=p
  rw[ha] at h
  simp only at h
  split at h
  ·injection h with h
   rw[← h]
   exact aHY ha
  ·cases h
theorem aSj [Gv] (s:List UInt8) (hs:s.length≤200000):ACalls Tryz.prog GP 24 [str s] [] (fun r os=>os=[]∧r=aRC (xU s)):=by
 have cW:=aMv s hs
 have hnw:aH (zD s)=true:=by
  unfold zD
  split
  ·simp only[aH,aM,dP,Bool.and_true]
  ·rfl
 obtain⟨F,hF⟩:∃ F,xU s=F:=⟨_,rfl⟩
 rw[hF]
 unfold xU at hF
 have hzl:(PA aQD .full).length=23:=rfl
 simp only[str] at *
 refine ke Tryz.func24 Tryz.ntmps24 Tryz.results24 #[81,4] ?_
 refine ks [0,2,3] ?_
 have hz0:([.val (.int .i64 0),.val (.int .u64 0),.sl 0 [] .full,.val (.string ⟨#[]⟩),.val (.bool false),.val (.int .u8 0),.val (.int .u8 0),.val (.int .u8 0),.val (.int .u8 0),.val (.int .u8 0),.val (.int .u8 0),.val (.int .u8 0),.val (.int .u8 0),.val (.int .u8 0),.val (.int .u8 0),.val (.int .u8 0),.val (.int .u8 0),.val (.int .u8 0),.val (.int .u8 0),.val (.int .u8 0),.val (.int .u8 0),.val (.int .i64 0),.val (.float .f64 0)]:List AV)=PA aQD .full:=rfl
 refine kr [] fun K hK=>?_
 refine aV (by simp[aH,aM]) cW hnw ?_
 cases hw:qB s with
 | none=>
  have hF0:none=F:=by rw[hw] at hF;exact hF
  subst hF0
  have hv:zD s=.tup [.sl 0 [] .full,.val (.bool false)]:=by unfold zD;rw[hw]
  rw[hv]
  simp only[seval,kT]
  refine hK _ ?_
  clear hK K
  refine aE [2,3,4] ?_
  simp only[aD,aB,Nat.reduceEqDiff,if_true,if_false]
  refine aC fun K1 hK1=>?_
  refine kq ?_
  refine bG rfl ?_
  refine kp [2] ?_
  refine ks [2,3] ?_
  refine aS ?_
  simp only[aI,bL]
  simp only[qq,bR,eU,bN,bO,aY,aB,Nat.reduceEqDiff,apart,aO,Tryz.underlying81,bD,Nat.reduceAdd,List.take_nil,dA,aH,aM]
  rfl
 | some l=>
  have hnl:=dP l
  have hv:zD s=.tup [.sl l.length (dU l) .full,.val (.bool true)]:=by unfold zD;rw[hw]
  rw[hw] at hF
  rw[hv]
  simp only[seval,kT]
  refine hK _ ?_
  clear hK K
  refine aE [2,3,4] ?_
  simp only[aD,aB,Nat.reduceEqDiff,if_true,if_false]
  refine aC fun K1 hK1=>?_
  by_cases h2:l.length=2
  ·obtain⟨w,t,rfl⟩:∃ w t,l=[w,t]:=by
    match l,h2 with
    | [w,t],_=>exact⟨w,t,rfl⟩
   rw[show dU [w,t]=[.val (.string ⟨w.toArray⟩),.val (.string ⟨t.toArray⟩)] from rfl,show [w,t].length=2 from rfl]
   have hFw:nL w t=F:=hF
   clear hF
   have hjn:=aHp 32 s
   have hsp:dM 32 s=[w,t]:=by
    unfold qB at hw
    split at hw
    ·cases hw
    ·split at hw
     ·cases hw
     ·injection hw
   have ht:t.length≤200000:=Nat.le_trans (aBc 32 s t (by rw[hsp];simp)) hs
   clear hjn hsp
   have cNum:=aSJ t ht
   have cNam:=aFb t ht
   have cPa:=xR t ht
   have cNet:=aSL t ht
   have cCo:=aSC t ht
   simp only[str] at cNum cNam cPa cNet cCo
   refine aC fun K hK=>aA [] ?_
   simp only[qq,aF,Nat.reduceLT,aB,Nat.reduceEqDiff,aun,Bool.not_true,dD,bT,Option.bind_some,aW,Bool.not_false,dQ,gok,bI,bV,eN,Tryz.underlying43,Int.cast_ofNat_Int,cav,aL,bU,aG,aI,aP,bH,Int.reduceBNe]
   (repeat' apply And.intro)<;>try (first|exact True.intro|omega)
   refine hK _ ?_
   clear hK K
   refine aR rfl (bC (hK1 _ ?_))
   clear hK1 K1
   refine aE [2,3,4] ?_
   simp only[aD,aB,Nat.reduceEqDiff,if_true,if_false]
   refine aC fun K hK=>?_
   refine dW [] (by kernel_rfl) (by kernel_rfl) ?_
   simp only[qq,aF,Nat.reduceLT,aB,Nat.reduceEqDiff,dN,cav,Tryz.underlying43,bD,Nat.reduceAdd,Nat.mul_one,Int.le_refl,Int.cast_ofNat_Int,Int.reduceLT,Nat.zero_lt_succ,Int.toNat_zero,aY,apart,aO,Tryz.underlying9,Int.reduceLE,Int.reduceToNat,aG,aI]
   refine hK _ ?_
   clear hK K
   refine kp [2,3,5,6] ?_
   refine aC fun K1 hK1=>?_
   have fin:∀ (ok:Bool) (C:List AV) (st:St),C.length=23→C.all dC=true→aM C=true→(ok=true→∃ p,C=PA p .full∧F=some p)→(ok=false→F=none)→gE GP st ⟨79,[(2,.ptr 0 0),(3,.val (.bool ok))],[.cells C]⟩→K1 st:=by
    intro ok C st hl ho hn h1 h0 hwk
    refine hK1 st (eX hwk ?_)
    clear hwk hK1 K1
    have hCt:C.take 23=C:=List.take_of_length_le (by omega)
    have hCd:C.drop 23=[]:=List.drop_eq_nil_of_le (by omega)
    refine aC fun K1 hK1=>?_
    cases ok with
    | false=>
     refine kq ?_
     refine bG rfl ?_
     refine kp [2] ?_
     refine kx [2,3] (kI hl hCd) ?_
     refine aS ?_
     simp only[aI,bL]
     simp only[qq,bR,eU,bN,bO,aY,aB,Nat.reduceEqDiff,apart,aO,Tryz.underlying81,bD,Nat.reduceAdd,List.take_nil,dA,aH,aM]
     rw[h0 rfl]
     rfl
    | true=>
     obtain⟨p,hp,hFp⟩:=h1 rfl
     refine kq ?_
     refine aR rfl (bC (hK1 _ ?_))
     clear hK1 K1
     refine kp [2] ?_
     refine kx [2,3] (kI (kI hl hCt) (kI ho hCd)) ?_
     refine aS ?_
     simp only[seval,kT,kF,hl,hCt,hn]
     rw[hFp,hp]
     rfl
   refine ks [2,3,5,6,26] ?_
   apply bK
   refine aC fun K2 hK2=>?_
   by_cases hb:w=[98,101,102,111,114,101]
   ·have eb:(w == [98,101,102,111,114,101])=true:=beq_iff_eq.2 hb
    have es:(w == [115,105,110,99,101])=false:=beq_eq_false_iff_ne.2 (by rw[hb];decide)
    unfold nL at hFw
    rw[if_pos hb] at hFw
    refine ky eb ?_
    refine bG rfl (bC ?_)
    refine hK2 _ ?_
    clear hK2 K2
    refine bG rfl ?_
    refine kp [2,3,5,6] ?_
    refine ks [2,3,5,6] ?_
    refine aC fun K3 hK3=>?_
    refine ky es ?_
    refine aR rfl (bC (hK3 _ ?_))
    clear hK3 K3
    refine kp [2,3,6] ?_
    cases hN:aRB t with
    | none=>
     have cV:aFm t=.tup [.val (.int .u64 0),.val (.bool false)]:=by unfold aFm;rw[hN]
     rw[cV] at cNum
     rw[hN] at hFw
     refine ko [] ?_
     refine kc (cNum) ?_
     simp only[seval,kT,kF]
     refine fin false _ _ ?_ ?_ ?_ (fun h=>by cases h) (fun _=>hFw.symm) (.of_keep [2,3] (by exact rfl))<;>rfl
    | some u=>
     have cV:aFm t=.tup [.val (.int .u64 (u:Int)),.val (.bool true)]:=by unfold aFm;rw[hN]
     rw[cV] at cNum
     rw[hN] at hFw
     refine ko [] ?_
     refine kc (cNum) ?_
     simp only[seval,kT,kF]
     refine fin true (PA ⟨1,u,[],[],false,Z 16,0,0⟩ .full) _ rfl rfl rfl (fun _=>⟨_,rfl,hFw.symm⟩) (fun h=>by cases h) ?_
     exact .of_keep [2,3] rfl
   have eb:(w == [98,101,102,111,114,101])=false:=beq_eq_false_iff_ne.2 hb
   by_cases hs2:w=[115,105,110,99,101]
   ·have es:(w == [115,105,110,99,101])=true:=beq_iff_eq.2 hs2
    unfold nL at hFw
    rw[if_neg hb,if_pos hs2] at hFw
    refine ky eb ?_
    apply aR rfl
    refine ku [] es ?_
    refine hK2 _ ?_
    clear hK2 K2
    refine bG rfl ?_
    refine kp [2,3,5,6] ?_
    refine ks [2,3,5,6] ?_
    refine aC fun K3 hK3=>?_
    refine ky es ?_
    refine bG rfl ?_
    refine ko [] ?_
    refine hK3 _ ?_
    clear hK3 K3
    refine kp [2,3,6] ?_
    cases hN:aRB t with
    | none=>
     have cV:aFm t=.tup [.val (.int .u64 0),.val (.bool false)]:=by unfold aFm;rw[hN]
     rw[cV] at cNum
     rw[hN] at hFw
     refine ko [] ?_
     refine kc (cNum) ?_
     simp only[seval,kT,kF]
     refine fin false _ _ ?_ ?_ ?_ (fun h=>by cases h) (fun _=>hFw.symm) (.of_keep [2,3] (by exact rfl))<;>rfl
    | some u=>
     have cV:aFm t=.tup [.val (.int .u64 (u:Int)),.val (.bool true)]:=by unfold aFm;rw[hN]
     rw[cV] at cNum
     rw[hN] at hFw
     refine ko [] ?_
     refine kc (cNum) ?_
     simp only[seval,kT,kF]
     refine fin true (PA ⟨2,u,[],[],false,Z 16,0,0⟩ .full) _ rfl rfl rfl (fun _=>⟨_,rfl,hFw.symm⟩) (fun h=>by cases h) ?_
     exact .of_keep [2,3] rfl
   have es:(w == [115,105,110,99,101])=false:=beq_eq_false_iff_ne.2 hs2
   refine ky eb ?_
   apply aR rfl
   refine ku [] es ?_
   refine hK2 _ ?_
   clear hK2 K2
   apply aR rfl
   refine kp [2,3,6,26] ?_
   by_cases hop:w=[111,112]
   ·have e:(w == [111,112])=true:=beq_iff_eq.2 hop
    unfold nL at hFw
    rw[if_neg hb,if_neg hs2,if_pos hop] at hFw
    refine ky e ?_
    refine bG rfl ?_
    refine kp [2,3,6] ?_
    refine ks [2,3,6] ?_
    have hnv:aH (nN t)=true:=by
     unfold nN
     split
     ·simp only[aH,aM,dP,Bool.and_true]
     ·rfl
    refine ko [] ?_
    refine aV (by simp[aH,aM]) cNam hnv ?_
    cases hN:lJ t with
    | none=>
     rw[hN] at hFw
     simp only[seval,kT,nN,hN]
     simp only[seval,kT,kF]
     refine fin false _ _ ?_ ?_ ?_ (fun h=>by cases h) (fun _=>hFw.symm) (.of_keep [2,3] (by exact rfl))<;>rfl
    | some l=>
     have hnl:=dP l
     rw[hN] at hFw
     simp only[seval,kT,nN,hN]
     simp only[seval,kT,kF]
     refine fin true (PA ⟨3,0,l,[],false,Z 16,0,0⟩ .full) _ rfl rfl (sX _ _ rfl) (fun _=>⟨_,rfl,hFw.symm⟩) (fun h=>by cases h) ?_
     exact .of_keep [2,3] rfl
   have eop:(w == [111,112])=false:=beq_eq_false_iff_ne.2 hop
   refine ky eop ?_
   apply aR rfl
   refine kp [2,3,6,26] ?_
   by_cases hpa:w=[112,97,116,104]
   ·have e:(w == [112,97,116,104])=true:=beq_iff_eq.2 hpa
    unfold nL at hFw
    rw[if_neg hb,if_neg hs2,if_neg hop,if_pos hpa] at hFw
    refine ky e ?_
    refine bG rfl ?_
    refine kp [2,3,6] ?_
    refine ko [] ?_
    refine kc (cPa) ?_
    simp only[seval,kT,kF]
    cases hR:iI t with
    | false=>
     rw[hR,if_neg (by decide)] at hFw
     refine fin false _ _ ?_ ?_ ?_ (fun h=>by cases h) (fun _=>hFw.symm) (.of_keep [2,3] (by exact rfl))<;>rfl
    | true=>
     rw[hR,if_pos rfl] at hFw
     refine fin true (PA ⟨4,0,[],t,false,Z 16,0,0⟩ .full) _ rfl rfl (sX _ _ rfl) (fun _=>⟨_,rfl,hFw.symm⟩) (fun h=>by cases h) ?_
     exact .of_keep [2,3] rfl
   have epa:(w == [112,97,116,104])=false:=beq_eq_false_iff_ne.2 hpa
   refine ky epa ?_
   apply aR rfl
   refine kp [2,3,6,26] ?_
   by_cases hne:w=[110,101,116]
   ·have e:(w == [110,101,116])=true:=beq_iff_eq.2 hne
    unfold nL at hFw
    rw[if_neg hb,if_neg hs2,if_neg hop,if_neg hpa,if_pos hne] at hFw
    refine ky e ?_
    refine bG rfl ?_
    refine kp [2,3,6] ?_
    refine ks [2,3,6] ?_
    cases hN:tV t with
    | none=>
     have hz18:(NT false (Z 16) 0).length=18:=rfl
     have hzn:aM (NT false (Z 16) 0)=true:=rfl
     have hzo:(NT false (Z 16) 0).all dC=true:=rfl
     have hzt:(NT false (Z 16) 0).take 18=NT false (Z 16) 0:=rfl
     rw[hN] at hFw cNet
     rw[show aDC none=.tup [.agg (NT false (Z 16) 0),.val (.bool false)] from rfl] at cNet
     refine ko [] ?_
     refine aV (by simp[aH,aM]) cNet (by simp[aH,aM,hzn]) ?_
     simp only[seval,kT,hzo,hz18]
     simp only[seval,kT,kF]
     refine fin false _ _ ?_ ?_ ?_ (fun h=>by cases h) (fun _=>hFw.symm) (.of_keep [2,3] (by exact rfl))<;>rfl
    | some x=>
     have hxl:=aRY hN
     obtain⟨v6,b,n⟩:=x
     simp only at hxl
     have hN18:=fZ v6 b n hxl
     have hNo:=jO v6 b n
     have hNn:=iZ v6 b n
     have hNt:(NT v6 b n).take 18=NT v6 b n:=List.take_of_length_le (by omega)
     rw[hN] at hFw cNet
     rw[show aDC (some (v6,b,n))=.tup [.agg (NT v6 b n),.val (.bool true)] from rfl] at cNet
     refine ko [] ?_
     refine aV (by simp[aH,aM]) cNet (by simp[aH,aM,hNn]) ?_
     simp only[seval,kT,hNo,hN18]
     simp only[seval,kT,kF]
     refine fin true (PA ⟨5,0,[],[],v6,b,n,0⟩ .full) _ (iE _ _ hxl) (lE _ _) (sX _ _ rfl) (fun _=>⟨_,rfl,hFw.symm⟩) (fun h=>by cases h) ?_
     exact .of_keep [2,3] rfl
   have ene:(w == [110,101,116])=false:=beq_eq_false_iff_ne.2 hne
   refine ky ene ?_
   apply aR rfl
   refine kp [2,3,6,26] ?_
   by_cases hco:w=[99,111,115,116]
   ·have e:(w == [99,111,115,116])=true:=beq_iff_eq.2 hco
    unfold nL at hFw
    rw[if_neg hb,if_neg hs2,if_neg hop,if_neg hpa,if_neg hne,if_pos hco] at hFw
    refine ky e ?_
    refine bG rfl ?_
    refine kp [2,3,6] ?_
    refine ks [2,3,6] ?_
    cases hN:aCs t with
    | none=>
     rw[hN] at hFw cCo
     rw[show aPa none=.tup [.val (.float .f64 0),.val (.bool false)] from rfl] at cCo
     refine ko [] ?_
     refine kc (cCo) ?_
     simp only[seval,kT,kF]
     refine fin false _ _ ?_ ?_ ?_ (fun h=>by cases h) (fun _=>hFw.symm) (.of_keep [2,3] (by exact rfl))<;>rfl
    | some x=>
     rw[hN] at hFw cCo
     rw[show aPa (some x)=.tup [.val (.float .f64 x),.val (.bool true)] from rfl] at cCo
     refine ko [] ?_
     refine kc (cCo) ?_
     simp only[seval,kT,kF]
     refine fin true (PA ⟨6,0,[],[],false,Z 16,0,x⟩ .full) _ rfl rfl (sX _ _ rfl) (fun _=>⟨_,rfl,hFw.symm⟩) (fun h=>by cases h) ?_
     exact .of_keep [2,3] rfl
   have eco:(w == [99,111,115,116])=false:=beq_eq_false_iff_ne.2 hco
   unfold nL at hFw
   rw[if_neg hb,if_neg hs2,if_neg hop,if_neg hpa,if_neg hne,if_neg hco] at hFw
   refine ky eco ?_
   apply aR rfl
   refine kp [2] ?_
   refine ks [2,3] ?_
   refine aS ?_
   simp only[aI,bL]
   simp only[qq,bR,eU,bN,bO,aY,aB,Nat.reduceEqDiff,apart,aO,Tryz.underlying81,bD,Nat.reduceAdd,List.take_nil,dA,aH,aM]
   rw[← hFw]
   rfl
  ·have hF0:none=F:=by
    rw[← hF]
    match l,h2 with
    | [],_=>rfl
    | [_],_=>rfl
    | [_,_],h=>exact absurd rfl h
    | _::_::_::_,_=>rfl
   subst hF0
   have d2:((l.length:Int) != 2)=true:=by simp;omega
   refine aC fun K hK=>aA [] ?_
   simp only[qq,aF,Nat.reduceLT,aB,Nat.reduceEqDiff,aun,Bool.not_true,dD,bT,Option.bind_some,aW,Bool.not_false,dQ,gok,bI,bV,eN,Tryz.underlying43,cav,aL,bU,aG,aI,aP,bH,d2]
   (repeat' apply And.intro)<;>try (first|exact True.intro|omega)
   refine hK _ ?_
   clear hK K
   refine bG rfl ?_
   refine kp [2] ?_
   refine ks [2,3] ?_
   refine aS ?_
   simp only[aI,bL]
   simp only[qq,bR,eU,bN,bO,aY,aB,Nat.reduceEqDiff,apart,aO,Tryz.underlying81,bD,Nat.reduceAdd,List.take_nil,dA,aH,aM]
   rfl
end Go.Proofs.YtefdnmeopbkflaaGreatDoor
namespace Go.Proofs.YtefdnmeopbkflaaGreatDoor
open Go Go.V
set_option linter.unusedSimpArgs false
set_option linter.unusedVariables false
set_option maxRecDepth 100000
theorem aTY [Gv] (c c':Nat):ACalls Tryz.prog GP 56 [.val (.float .f64 c),.val (.float .f64 c')] [] (fun r os=>os=[]∧r=.val (.bool (c == c'))):=by
 have q6:(((c:Nat):Int) == ((c':Nat):Int))=(c == c'):=by
  rw[Bool.eq_iff_iff]
  simp only[beq_iff_eq]
  omega
 refine ke Tryz.func56 Tryz.ntmps56 Tryz.results56 #[4] ?_
 refine ks [0,1] ?_
 refine kr [] fun K hK=>?_
 refine iT trivial (nE c) ?_
 simp only[seval,kT]
 refine iT trivial (nE c') ?_
 simp only[seval,kT,q6]
 refine hK _ ?_
 clear hK K
 refine kp [4] ?_
 apply aS
 simp only[qq,bR,eU,bN,bO,dA,aB,aH]
theorem aTZ [Gv] (a b:List (List UInt8)) (p q:Perm) (ha:a.length≤200000) (hb:b.length≤200000):ACalls Tryz.prog GP 55 [.sl a.length (dU a) p,.sl b.length (dU b) q] [] (fun r os=>os=[]∧r=.val (.bool (decide (a=b)))):=by
 have haL:=dY a
 have hbL:=dY b
 refine ke Tryz.func55 Tryz.ntmps55 Tryz.results55 #[4] ?_
 refine ks [0,1] ?_
 refine aC fun K1 hK1=>?_
 by_cases hl:a.length=b.length
 ·have d:(((a.length:Nat):Int) != ((b.length:Nat):Int))=false:=by rw[hl];simp
  refine aC fun K hK=>aA [] ?_
  simp only[qq,aF,Nat.reduceLT,aB,reduceCtorEq,bI,Nat.reduceEqDiff,bV,eN,Tryz.underlying43,aL,aG,aI,aP,bH,d]
  (repeat' apply And.intro)<;>try (first|exact True.intro|omega)
  refine hK _ ?_
  clear hK K
  refine aR rfl (bC (hK1 _ ?_))
  clear hK1 K1
  refine aE [0,1] ?_
  simp only[aD,aB,Nat.reduceEqDiff,if_true,if_false]
  refine aC fun K1 hK1=>?_
  refine aC fun K hK=>aA [] ?_
  simp only[qq,aF,Nat.reduceLT,aB,reduceCtorEq,bI,Nat.reduceEqDiff,bV,eN,Tryz.underlying43,cav,aG,aI]
  (repeat' apply And.intro)<;>try (first|exact True.intro|omega)
  refine hK _ ?_
  clear hK K
  refine aE [0,1,12,13] ?_
  simp only[aD,aB,Nat.reduceEqDiff,if_true,if_false]
  refine bK ?_
  refine bZ (fun i:Nat=>⟨26,[(0,.sl a.length (dU a) p),(1,.sl b.length (dU b) q),(12,.val (.int .i64 (a.length:Int))),(13,.val (.int .i64 (i:Int)))],[]⟩) (fun i=>i≤a.length∧a.take i=b.take i) (fun i=>a.length - i) 0 (by simp) (.of_keep [0,1,12,13] rfl) ?_
  rintro i ⟨hi,ht⟩
  by_cases hlt:i<a.length
  ·have d2:decide ((i:Int)<((a.length:Nat):Int))=true:=decide_eq_true (by omega)
   refine ky d2 ?_
   apply bJ
   refine bG rfl (bC ?_)
   simp only[aI]
   refine aE [0,1,12,13] ?_
   simp only[aD,aB,Nat.reduceEqDiff,if_true,if_false]
   refine aC fun K hK=>bK ?_
   refine aC fun K hK=>aA [] ?_
   simp only[qq,aF,Nat.reduceLT,aB,reduceCtorEq,Nat.reduceEqDiff,aG,aI]
   (repeat' apply And.intro)<;>try (first|exact True.intro|omega)
   refine hK _ ?_
   clear hK K
   refine aE [0,1,5,12,13] ?_
   simp only[aD,aB,Nat.reduceEqDiff,if_true,if_false]
   have ga:=mR hlt
   have gb:=mR (l:=b) (i:=i) (by omega)
   refine aC fun K2 hK2=>?_
   refine dW [] (by kernel_rfl) (by kernel_rfl) ?_
   simp only[qq,aF,Nat.reduceLT,aB,reduceCtorEq,Nat.reduceEqDiff,dN,Tryz.underlying43,bD,haL,Nat.mul_one,Int.toNat_natCast,aY,apart,aO,Tryz.underlying9,hbL,aL,aG,aI,List.length_drop,fL]
   refine⟨⟨by omega,by omega⟩,by omega,⟨by omega,by omega⟩,by omega,?_⟩
   rw[ga,gb]
   have hta:a.take (i+1)=a.take i++[a.getD i []]:=by
    rw[List.take_add_one,List.getD_eq_getElem?_getD,List.getElem?_eq_getElem hlt];rfl
   have htb:b.take (i+1)=b.take i++[b.getD i []]:=by
    rw[List.take_add_one,List.getD_eq_getElem?_getD,List.getElem?_eq_getElem (show i<b.length by omega)];rfl
   generalize a.getD i []=x at *
   generalize b.getD i []=y at *
   unfold str
   by_cases hxy:x=y
   ·have e:(x == y)=true:=beq_iff_eq.2 hxy
    simp only[seval,kT,e]
    refine hK2 _ ?_
    clear hK2 K2
    refine aR rfl (bC ?_)
    simp only[seval,kT,kF]
    refine hK _ ?_
    clear hK K
    refine aE [0,1,12,13] ?_
    simp only[aD,aB,Nat.reduceEqDiff,if_true,if_false]
    have w5:IntKind.i64.wrap ((i+1:Nat):Int)=((i+1:Nat):Int):=fD (by omega)
    refine ku [] (kI @gO w5) ?_
    exact⟨i+1,⟨by omega,by rw[hta,htb,ht,hxy]⟩,by omega,.of_keep [0,1,12,13] rfl⟩
   ·have e:(x == y)=false:=beq_eq_false_iff_ne.2 hxy
    have hne:decide (a=b)=false:=decide_eq_false fun h=>by
     subst h
     rw[hta] at htb
     have:=List.append_cancel_left htb
     injection this with this
     exact hxy this
    simp only[seval,kT,e]
    refine hK2 _ ?_
    clear hK2 K2
    refine bG rfl ?_
    apply aE []
    simp only[aD]
    refine ks [4] ?_
    apply aS
    simp only[aI,bL]
    simp only[qq,bR,eU,bN,bO,dA,aB,aH]
    rw[hne]
  ·have d2:decide ((i:Int)<((a.length:Nat):Int))=false:=decide_eq_false (by omega)
   have he:i=a.length:=by omega
   subst he
   have hab:a=b:=by rw[List.take_length,hl,List.take_length] at ht;exact ht
   refine ky d2 ?_
   apply bJ
   apply aR rfl
   apply dR
   simp only[seval,kT,kF]
   refine hK1 _ ?_
   clear hK1 K1
   apply aE []
   simp only[aD]
   refine ks [4] ?_
   apply aS
   simp only[qq,bR,eU,bN,bO,dA,aB,aH]
   rw[decide_eq_true hab]
 ·have d:(((a.length:Nat):Int) != ((b.length:Nat):Int))=true:=by simp;omega
  have hne:decide (a=b)=false:=decide_eq_false fun e=>hl (by rw[e])
  rw[hne]
  refine aC fun K hK=>aA [] ?_
  simp only[qq,aF,Nat.reduceLT,aB,reduceCtorEq,bI,Nat.reduceEqDiff,bV,eN,Tryz.underlying43,aL,aG,aI,aP,bH,d]
  (repeat' apply And.intro)<;>try (first|exact True.intro|omega)
  refine hK _ ?_
  clear hK K
  refine bG rfl ?_
  apply aE []
  simp only[aD]
  refine ks [4] ?_
  apply aS
  simp only[aI,bL]
  simp only[qq,bR,eU,bN,bO,dA,aB,aH]
theorem aSo [Gv] (k k':Int) (t t':Nat) (l l':List (List UInt8)) (q q':Perm) (hq:fG q=true) (hq':fG q'=true) (pa pa':List UInt8) (v6 v6':Bool) (b b':List UInt8) (bits bits':Int) (c c':Nat) (hb:b.length=16) (hb':b'.length=16)
  (hl:l.length≤200000) (hl':l'.length≤200000) :
  ACalls Tryz.prog GP 23 [.agg (PD k t l.length (dU l) q pa (NT v6 b bits++[.val (.float .f64 c)])),.agg (PD k' t' l'.length (dU l') q' pa' (NT v6' b' bits'++[.val (.float .f64 c')]))] []
   (fun r os=>os=[]∧r=.val (.bool ((k == k')&&((t == t')&&(decide (l=l')&&((pa == pa')&&(((v6 == v6')&&((b == b')&&(bits == bits')))&&(c == c')))))))):=by
 have cE:=fun q q'=>aTZ l l' q q' hl hl'
 have cF:=aTY c c'
 have hn:=dP l
 have hn':=dP l'
 have hcmp:=aHL v6 v6' b b' bits bits' hb hb'
 have hagg:=aAi v6 v6' b b' bits bits' hb hb'
 have h1:=fZ v6 b bits hb
 have h1':=fZ v6' b' bits' hb'
 have h2:=jO v6 b bits
 have h2':=jO v6' b' bits'
 have h3:=iZ v6 b bits
 have h3':=iZ v6' b' bits'
 generalize NT v6 b bits=N at *
 generalize NT v6' b' bits'=N' at *
 generalize hnet:((v6 == v6')&&((b == b')&&(bits == bits')))=net at *
 have eo:(N++[.val (.float .f64 c)]:List AV).all dC=true:=by rw[List.all_append,h2];rfl
 have eo':(N'++[.val (.float .f64 c')]:List AV).all dC=true:=by rw[List.all_append,h2'];rfl
 have el:(N++[.val (.float .f64 c)]:List AV).length=19:=by simp[h1]
 have el':(N'++[.val (.float .f64 c')]:List AV).length=19:=by simp[h1']
 have et:(N++[.val (.float .f64 c)]:List AV).take 18=N:=by rw[← h1];simp
 have et':(N'++[.val (.float .f64 c')]:List AV).take 18=N':=by rw[← h1'];simp
 have eg:(N++[.val (.float .f64 c)]:List AV).getD 18 .top=.val (.float .f64 c):=by rw[← h1];simp
 have eg':(N'++[.val (.float .f64 c')]:List AV).getD 18 .top=.val (.float .f64 c'):=by rw[← h1'];simp
 generalize (N++[.val (.float .f64 c)]:List AV)=M at *
 generalize (N'++[.val (.float .f64 c')]:List AV)=M' at *
 simp only[str,PD] at *
 refine ke Tryz.func23 Tryz.ntmps23 Tryz.results23 #[4] ?_
 refine kx [2,3,4] (kI eo eo') ?_
 refine aC fun K hK=>?_
 have fin:∀ st (r:Bool),r=((k == k')&&((t == t')&&(decide (l=l')&&((pa == pa')&&(net&&(c == c'))))))→lk st.slots 4=.val (.bool r)→st.nt=45→K st:=by
  rintro⟨nt,sl,os⟩ r hr h4 hnt
  simp only at h4 hnt
  subst hnt
  refine hK _ ?_
  apply aE [4]
  simp only[aD,h4]
  apply aS
  simp only[qq,bR,eU,bN,bO,dA,aB,aH]
  rw[hr]
 apply aA []
 by_cases q1:k=k'
 case neg=>
  have q1':(k == k')=false:=beq_eq_false_iff_ne.2 q1
  simp only[seval,kT,q1',el',el]
  refine fin _ false (by simp[q1']) rfl rfl
 have q1':(k == k')=true:=beq_iff_eq.2 q1
 by_cases q2:t=t'
 case neg=>
  have q2':(t == t')=false:=beq_eq_false_iff_ne.2 q2
  have q2i:(((t:Nat):Int) == ((t':Nat):Int))=false:=beq_eq_false_iff_ne.2 (by omega)
  simp only[seval,kT,q1',q2',el',el,q2i]
  refine fin _ false (by simp[q1',q2']) rfl rfl
 have q2':(t == t')=true:=beq_iff_eq.2 q2
 have q2i:(((t:Nat):Int) == ((t':Nat):Int))=true:=beq_iff_eq.2 (by omega)
 simp only[seval,kT,q1',q2',el',el,q2i]
 refine aV (by simp[aM,aH,hn,hn']) (cE _ _) rfl ?_
 by_cases q3:l=l'
 case neg=>
  have q3':decide (l=l')=false:=decide_eq_false q3
  simp only[seval,kT,q3']
  refine fin _ false (by simp[q1',q2',q3']) rfl rfl
 have q3':decide (l=l')=true:=decide_eq_true q3
 by_cases q4:pa=pa'
 case neg=>
  have q4':(pa == pa')=false:=beq_eq_false_iff_ne.2 q4
  simp only[seval,kT,q3',q4',el',el]
  refine fin _ false (by simp[q1',q2',q3',q4']) rfl rfl
 have q4':(pa == pa')=true:=beq_iff_eq.2 q4
 simp only[qq,q3',q4',Bool.true_and,aK,aF,bU,aB,Nat.reduceEqDiff,cav,Nat.reduceLT,dD,bT,Option.bind_some,aW,dQ,gok,aN,Tryz.underlying81,bD,ne_eq,reduceCtorEq,aY,apart,aO,Tryz.underlying9,aL,el',Nat.reduceAdd,List.getD_cons_succ,el,aP,gL,ByteArray.toList_mk,Tryz.underlying79,Nat.reduceLeDiff,et',et,aDW,tC,aGG,aDJ,hagg]
 refine⟨.inr ?_,?_⟩
 ·have hcmp':=hcmp
  unfold mC at hcmp'
  rw[Tryz.underlying79] at hcmp'
  simp only[Bool.and_eq_true] at hcmp'
  exact hcmp'.2
 have q5:net=true∨net=false:=by cases net<;>simp
 rcases q5 with rfl|rfl
 case inr=>
  simp only[seval,kT]
  refine fin _ false (by simp[q1',q2',q3',q4']) rfl rfl
 simp only[seval,kT,el',eg',el,eg]
 refine kc (cF) ?_
 refine fin _ (c == c') (by simp[q1',q2',q3',q4']) rfl rfl
theorem aNU [Gv] (a b:PV) (q q':Perm) (hq:fG q=true) (hq':fG q'=true) (ha:sF a) (hb:sF b):ACalls Tryz.prog GP 23 [.agg (PA a q),.agg (PA b q')] [] (fun r os=>os=[]∧r=.val (.bool (aFu a b))):=
 aSo _ _ _ _ _ _ _ _ hq hq' _ _ _ _ _ _ _ _ _ _ ha.1 hb.1 ha.2.1 hb.2.1
def DS (l:List TokV):List AV:=l.flatMap fun t=>TA t .no
def aRD (l:List TokV):Prop:=∀ t∈l,t.tag.length=32
theorem aAZ [Gv] {l:List TokV} (h:aRD l):(DS l).length=l.length*36:=by
 induction l with
 | nil=>rfl
 | cons c l ih=>
  rw[show DS (c::l)=TA c .no++DS l from rfl,List.length_append,ih (fun t ht=>h t (by simp[ht])),eP c .no (h c (by simp))]
  simp;omega
theorem aSK [Gv] (l:List TokV):aM (DS l)=true:=by
 induction l with
 | nil=>rfl
 | cons c l ih=>rw[show DS (c::l)=TA c .no++DS l from rfl,dK,ih,fQ c .no rfl];rfl
theorem aJg [Gv] {l:List TokV} {i:Nat} (ht:aRD l) (h:i<l.length) (d:TokV):((DS l).drop (i*36)).take 36=TA (l.getD i d) .no:=by
 induction l generalizing i with
 | nil=>simp at h
 | cons c l ih=>
  have hc:=eP c .no (ht c (by simp))
  rw[show DS (c::l)=TA c .no++DS l from rfl]
  cases i with
  | zero=>
   rw[Nat.zero_mul,List.drop_zero,← hc,List.take_left];rfl
  | succ i=>
   rw[show (i+1)*36=(TA c .no).length+i*36 by omega,← List.drop_drop,List.drop_left]
   simpa using ih (fun t h=>ht t (by simp[h])) (by simpa using h)
def aTl (c:CavV):Prop:=c.text.length≤1048576∧c.id.length≤1048576∧c.vault.length≤1048576
def aOH (t:TokV):Prop:=t.id.length≤1048576∧t.cavs.length≤1048576∧(∀ c∈t.cavs,aTl c)∧t.tag.length=32
def aCe (c:CavV):Nat:=c.text.length+c.id.length+c.vault.length+1
def aBf (t:TokV):Nat:=t.id.length+(t.cavs.map aCe).sum
theorem aNO [Gv] (t:TokV) (p:Perm) (hs:aOH t):ACalls Tryz.prog GP 47 [.agg (TA t p)] [] (fun r os=>os=[]∧r=.val (.int .i64 (if 10000<aBf t then 1 else 0))):=by
 have hoc:=gP t p
 have hlen:=eP t p hs.2.2.2
 obtain⟨g0,g1,g2,g3⟩:=sZ t p
 have hsz:∀ s:List UInt8,((⟨s.toArray⟩:ByteArray).size:Int)=(s.length:Int):=fun s=>by simp[ByteArray.size]
 have hCl:=mD t.cavs
 have hid:=hs.1
 simp only[str] at g1
 obtain⟨R,hR⟩:∃ R:Int,(if 10000<aBf t then 1 else 0)=R:=⟨_,rfl⟩
 rw[hR]
 generalize TA t p=T at *
 refine ke Tryz.func47 Tryz.ntmps47 Tryz.results47 #[3] ?_
 refine kx [1] hoc ?_
 refine kx [1,3] (kI hsz (kI hlen g1)) ?_
 refine aC fun K1 hK1=>?_
 -- the end: what was summed up
 have fin:∀ (n:Nat) (os:List AObj) (st:St),(10000<n↔10000<aBf t)→gE GP st ⟨35,[(3,.val (.int .i64 (n:Int)))],os⟩→K1 st:=by
  intro n os st hn hw
  refine hK1 st (eX hw ?_)
  clear hw hK1 K1
  refine aC fun K1 hK1=>?_
  by_cases h:10000<n
  ·have d:decide ((n:Int) > 10000)=true:=decide_eq_true (by omega)
   rw[if_pos (hn.1 h)] at hR
   subst hR
   refine ky d ?_
   apply bG rfl
   apply aE []
   simp only[aD]
   refine ks [2] ?_
   refine aS ?_
   simp only[aI,bL]
   simp only[qq,bR,eU,bN,bO,dA,aB,aH]
  ·have d:decide ((n:Int) > 10000)=false:=decide_eq_false (by omega)
   rw[if_neg (fun e=>h (hn.2 e))] at hR
   subst hR
   refine ky d ?_
   refine aR rfl (bC (hK1 _ ?_))
   clear hK1 K1
   apply aE []
   simp only[aD]
   refine ks [2] ?_
   refine aS ?_
   simp only[qq,bR,eU,bN,bO,dA,aB,aH]
 refine aC fun K hK=>aA [] ?_
 simp only[qq,aF,aN,Tryz.underlying67,bD,aB,Nat.reduceEqDiff,ne_eq,reduceCtorEq,Nat.reduceLT,aY,apart,aO,Tryz.underlying65,bI,bV,eN,cav,aG,aI,hlen,g2]
 (repeat' apply And.intro)<;>try (first|exact True.intro|omega)
 refine hK _ ?_
 clear hK K
 refine aE [3,10,11,12] ?_
 simp only[aD,aB,Nat.reduceEqDiff,if_true,if_false]
 refine bK ?_
 refine bZ (fun i:Nat=>⟨35,[(3,.val (.int .i64 ((t.id.length+((t.cavs.take i).map aCe).sum:Nat):Int))),(10,.sl t.cavs.length (CS t.cavs) p),(11,.val (.int .i64 (t.cavs.length:Int))),(12,.val (.int .i64 (i:Int)))],.cells T::dd i⟩)
  (fun i=>i≤t.cavs.length∧(i=0∨t.id.length+((t.cavs.take i).map aCe).sum≤10000)) (fun i=>t.cavs.length - i) 0 (by simp) (.of_keep [3,10,11,12] rfl) ?_
 rintro i ⟨hi,hle⟩
 have hcl:=hs.2.1
 by_cases hlt:i<t.cavs.length
 ·have d:decide ((i:Int)<((t.cavs.length:Nat):Int))=true:=decide_eq_true (by omega)
  refine ky d ?_
  refine bJ ?_
  refine bG rfl (bC ?_)
  simp only[aI]
  refine aE [3,10,11,12] ?_
  simp only[aD,aB,Nat.reduceEqDiff,if_true,if_false]
  have hget:=aDO hlt (t.cavs[i])
  rw[List.getD_eq_getElem?_getD,List.getElem?_eq_getElem hlt] at hget
  simp only[Option.getD_some] at hget
  have hsum:((t.cavs.take (i+1)).map aCe).sum=((t.cavs.take i).map aCe).sum+aCe t.cavs[i]:=by
   rw[List.take_add_one,List.getElem?_eq_getElem hlt,List.map_append,List.sum_append]
   simp
  have htot:((t.cavs.take (i+1)).map aCe).sum≤(t.cavs.map aCe).sum:=by
   conv=>rhs;rw[← List.take_append_drop (i+1) t.cavs,List.map_append,List.sum_append]
   omega
  obtain⟨w1,w2,w3⟩:=hs.2.2.1 _ (List.getElem_mem hlt)
  have hcS:aCe t.cavs[i]=t.cavs[i].text.length+t.cavs[i].id.length+t.cavs[i].vault.length+1:=rfl
  have hS0:t.id.length+((t.cavs.take i).map aCe).sum≤1048576:=by
   rcases hle with rfl|h
   ·simpa using hid
   ·omega
  have htS:aBf t=t.id.length+(t.cavs.map aCe).sum:=rfl
  refine aC fun K hK=>bK ?_
  have hco:=uA t.cavs[i]
  generalize hA1:((t.cavs.take (i+1)).map aCe).sum=A1 at *
  generalize ((t.cavs.take i).map aCe).sum=A0 at *
  generalize t.cavs[i]=c at *
  have hc5:(CA c).length=5:=rfl
  refine aC fun K2 hK2=>aA [] ?_
  simp only[qq,aF,dN,aB,Nat.reduceEqDiff,Tryz.underlying65,bD,hCl,Nat.reduceLT,Int.toNat_natCast,aY,apart,aO,Tryz.underlying74,dF,bS,iS,cav,bQ,bX,bB,spl,aG,aI,oR,Nat.reduceAdd,lU,List.length_drop,hget,hco,hc5,List.drop_nil]
  refine⟨⟨by omega,by omega⟩,by omega,hK2 _ ?_⟩
  clear hK2 K2
  refine kp [3,5,10,11,12] ?_
  rw[show CA c=[.val (.bool c.third),.val (.string ⟨c.text.toArray⟩),.val (.int .u64 (c.party:Int)),.val (.string ⟨c.id.toArray⟩),.val (.string ⟨c.vault.toArray⟩)] from rfl]
  have v1:IntKind.i64.wrap ((c.text.length+c.id.length:Nat):Int)=((c.text.length+c.id.length:Nat):Int):=fD (by omega)
  have v2:IntKind.i64.wrap ((c.text.length+c.id.length+c.vault.length:Nat):Int)=((c.text.length+c.id.length+c.vault.length:Nat):Int):=fD (by omega)
  have v3:IntKind.i64.wrap ((c.text.length+c.id.length+c.vault.length+1:Nat):Int)=((c.text.length+c.id.length+c.vault.length+1:Nat):Int):=fD (by omega)
  have v4:IntKind.i64.wrap ((t.id.length+A0+(c.text.length+c.id.length+c.vault.length+1):Nat):Int)=((t.id.length+A1:Nat):Int):=by
   rw[fD (by omega)];congr 1;omega
  refine ky (kI (kI (kI hsz @oR) (kI @oW v1)) (kI (kI v2 @gO) (kI v3 v4))) ?_
  refine lT (i+1) ?_
  rw[List.set_cons_succ,lU,rN]
  refine aE [3,10,11,12] ?_
  simp only[aD,aB,Nat.reduceEqDiff,if_true,if_false]
  by_cases hg:10000<t.id.length+A1
  ·have d3:decide (((t.id.length+A1:Nat):Int) > 10000)=true:=decide_eq_true (by omega)
   refine ky d3 ?_
   apply bG rfl
   apply dR
   simp only[seval,kT,kF]
   exact fin (t.id.length+A1) _ _ ⟨fun _=>by omega,fun _=>hg⟩ (.of_keep [3] (by exact rfl))
  ·have d3:decide (((t.id.length+A1:Nat):Int) > 10000)=false:=decide_eq_false (by omega)
   refine ky d3 ?_
   refine aR rfl (bC ?_)
   simp only[seval,kT,kF]
   refine hK _ ?_
   clear hK K
   refine aE [3,10,11,12] ?_
   simp only[aD,aB,Nat.reduceEqDiff,if_true,if_false]
   have w5:IntKind.i64.wrap ((i+1:Nat):Int)=((i+1:Nat):Int):=fD (by omega)
   refine ku [] (kI @gO w5) ?_
   subst hA1
   exact⟨i+1,⟨by omega,.inr (by omega)⟩,by omega,.of_keep [3,10,11,12] rfl⟩
 ·have d:decide ((i:Int)<((t.cavs.length:Nat):Int))=false:=decide_eq_false (by omega)
  have he:i=t.cavs.length:=by omega
  subst he
  refine ky d ?_
  refine bJ ?_
  apply aR rfl
  apply dR
  simp only[seval,kT,kF]
  rw[List.take_length]
  exact fin _ _ _ Iff.rfl (.of_keep [3] (by exact rfl))
structure BunV where
 root:TokV
 ds:List TokV
def BB (b:BunV):List AV:=TA b.root .no++[.sl b.ds.length (DS b.ds) .no]
def aRf (b:BunV):Prop:=aOH b.root∧b.ds.length≤1048576∧∀ d∈b.ds,aOH d
theorem aCD [Gv] {b:BunV} (h:aRf b):aRD b.ds:=fun d hd=>(h.2.2 d hd).2.2.2
theorem pQ [Gv] (b:BunV) (h:b.root.tag.length=32):(BB b).length=37:=by rw[BB,List.length_append,eP _ _ h];rfl
theorem aBo [Gv] (b:BunV):(BB b).all dC=true:=by rw[BB,List.all_append,gP];rfl
theorem aFl [Gv] (b:BunV):aM (BB b)=true:=by
 rw[BB,dK,fQ _ _ rfl]
 simp[aM,aH,aSK]
theorem aJJ [Gv] (b:BunV) (h:b.root.tag.length=32):(BB b).take 36=TA b.root .no:=by rw[BB,← eP b.root .no h,List.take_left]
theorem aRE [Gv] (b:BunV) (h:b.root.tag.length=32):(BB b).getD 36 .top=.sl b.ds.length (DS b.ds) .no:=by
 rw[BB,List.getD_eq_getElem?_getD,List.getElem?_append_right (by rw[eP _ _ h];omega),eP _ _ h]
 rfl
theorem aST [Gv] (b:BunV):(BB b).getD 3 .top=.val (.bool b.root.bound):=rfl
def aBz (b:BunV):Bool:=decide (10000<aBf b.root) || (decide (40<b.ds.length) || b.ds.any fun d=>decide (10000<aBf d))
theorem aDU [Gv] (b:BunV):aBz b=true↔(10000<aBf b.root∨40<b.ds.length∨∃ d∈b.ds,10000<aBf d):=by
 unfold aBz
 simp only[Bool.or_eq_true,decide_eq_true_eq,List.any_eq_true]
theorem aRW [Gv] (b:BunV) (hs:aRf b):ACalls Tryz.prog GP 18 [.agg (BB b)] [] (fun r os=>os=[]∧r=.val (.int .i64 (if aBz b then 1 else 0))):=by
 have hlen:=pQ b hs.1.2.2.2
 have hoc:=aBo b
 have htk:=aJJ b hs.1.2.2.2
 have hds:=aRE b hs.1.2.2.2
 have cG:=aNO b.root .no hs.1
 have cD:=fun (d:TokV) (hd:d∈b.ds)=>aNO d .no (hs.2.2 d hd)
 have hDl:=aAZ (aCD hs)
 have htg:=aCD hs
 have hnR:=fQ b.root .no rfl
 have hdl:=hs.2.1
 generalize BB b=Bd at *
 generalize TA b.root .no=T0 at *
 obtain⟨R,hR⟩:∃ R:Int,(if aBz b=true then 1 else 0)=R:=⟨_,rfl⟩
 rw[hR]
 have hR1:(10000<aBf b.root∨40<b.ds.length∨∃ d∈b.ds,10000<aBf d)→R=1:=fun h=>by rw[← hR,if_pos ((aDU b).2 h)]
 have hR0:¬ (10000<aBf b.root∨40<b.ds.length∨∃ d∈b.ds,10000<aBf d)→R=0:=fun h=>by rw[← hR,if_neg (fun e=>h ((aDU b).1 e))]
 clear hR
 refine ke Tryz.func18 Tryz.ntmps18 Tryz.results18 #[3] ?_
 refine kx [1] hoc ?_
 refine aC fun K1 hK1=>?_
 refine aC fun K hK=>?_
 -- the head
 have one:∀ st:St,(10000<aBf b.root∨40<b.ds.length)→gE GP st ⟨26,[(14,.val (.bool true))],[.cells Bd]⟩→K st:=by
  intro st hg hw
  refine hK st (eX hw ?_)
  clear hw hK K
  apply bG rfl
  apply aE []
  simp only[aD]
  refine ks [2] ?_
  refine aS ?_
  simp only[aI,bL]
  simp only[qq,bR,eU,bN,bO,dA,aB,aH]
  rw[hR1 (hg.elim .inl fun h=>.inr (.inl h))]
 by_cases hr:10000<aBf b.root
 ·rw[if_pos hr] at cG
  refine ku [] (kI hlen htk) ?_
  refine aV hnR cG rfl ?_
  simp only[seval,kT]
  exact one _ (.inl hr) (.of_keep [14] (by exact rfl))
 rw[if_neg hr] at cG
 by_cases hn:40<b.ds.length
 ·have d:decide ((b.ds.length:Int) > 40)=true:=decide_eq_true (by omega)
  refine ku [] (kI hlen htk) ?_
  refine aV hnR cG rfl ?_
  simp only[qq,aK,aF,aB,Nat.reduceEqDiff,cav,aL,aP,bH,Int.reduceBEq,Nat.reduceLT,dD,bT,Option.bind_some,aW,Bool.not_false,dQ,gok,aN,Tryz.underlying70,bD,ne_eq,reduceCtorEq,aY,apart,aO,Tryz.underlying68,bI,bV,eN,bU,aG,aI,hlen,hds,d]
  exact one _ (.inr hn) (.of_keep [14] (by exact rfl))
 have d:decide ((b.ds.length:Int) > 40)=false:=decide_eq_false (by omega)
 refine ku [] (kI hlen htk) ?_
 refine aV hnR cG rfl ?_
 simp only[qq,aK,aF,aB,Nat.reduceEqDiff,cav,aL,aP,bH,Int.reduceBEq,Nat.reduceLT,dD,bT,Option.bind_some,aW,Bool.not_false,dQ,gok,aN,Tryz.underlying70,bD,ne_eq,reduceCtorEq,aY,apart,aO,Tryz.underlying68,bI,bV,eN,bU,aG,aI,hlen,hds,d]
 refine hK _ ?_
 clear hK K one
 refine aR rfl (bC (hK1 _ ?_))
 clear hK1 K1
 refine aE [1] ?_
 simp only[aD,aB,Nat.reduceEqDiff,if_true,if_false]
 refine aC fun K1 hK1=>?_
 refine aC fun K hK=>aA [] ?_
 simp only[qq,aF,aN,Tryz.underlying70,bD,aB,ne_eq,reduceCtorEq,Nat.reduceLT,aY,Nat.reduceEqDiff,apart,aO,Tryz.underlying68,bI,bV,eN,cav,aG,aI,hlen,hds]
 (repeat' apply And.intro)<;>try (first|exact True.intro|omega)
 refine hK _ ?_
 clear hK K
 refine aE [16,17,18] ?_
 simp only[aD,aB,Nat.reduceEqDiff,if_true,if_false]
 refine bK ?_
 refine bZ (fun i:Nat=>⟨26,[(16,.sl b.ds.length (DS b.ds) .no),(17,.val (.int .i64 (b.ds.length:Int))),(18,.val (.int .i64 (i:Int)))],.cells Bd::dd i⟩)
  (fun i=>i≤b.ds.length∧∀ d∈b.ds.take i,¬ 10000<aBf d) (fun i=>b.ds.length - i) 0 (by simp) (.of_keep [16,17,18] rfl) ?_
 rintro i ⟨hi,hno⟩
 by_cases hlt:i<b.ds.length
 ·have d:decide ((i:Int)<((b.ds.length:Nat):Int))=true:=decide_eq_true (by omega)
  refine ky d ?_
  refine bJ ?_
  refine bG rfl (bC ?_)
  simp only[aI]
  refine aE [16,17,18] ?_
  simp only[aD,aB,Nat.reduceEqDiff,if_true,if_false]
  have hget:=aJg htg hlt (b.ds[i])
  rw[List.getD_eq_getElem?_getD,List.getElem?_eq_getElem hlt] at hget
  simp only[Option.getD_some] at hget
  have cE:=cD _ (List.getElem_mem hlt)
  have h36:=eP b.ds[i] .no (htg _ (List.getElem_mem hlt))
  have hto:=gP b.ds[i] .no
  have htn:=fQ b.ds[i] .no rfl
  have htk:b.ds.take (i+1)=b.ds.take i++[b.ds[i]]:=by
   rw[List.take_add_one,List.getElem?_eq_getElem hlt];rfl
  have hmem:=List.getElem_mem hlt
  generalize b.ds[i]=t at *
  have ht36:(TA t .no).take 36=TA t .no:=List.take_of_length_le (by omega)
  generalize TA t .no=T at *
  refine aC fun K hK=>bK ?_
  refine aC fun K2 hK2=>aA [] ?_
  simp only[qq,aF,dN,aB,Nat.reduceEqDiff,Tryz.underlying68,bD,hDl,Nat.reduceLT,Int.toNat_natCast,aY,apart,aO,Tryz.underlying67,dF,bS,iS,cav,bQ,bX,bB,spl,aG,aI,oR,Nat.reduceAdd,lU,List.length_drop,hget,hto,h36,List.drop_nil]
  refine⟨⟨by omega,by omega⟩,by omega,hK2 _ ?_⟩
  clear hK2 K2
  refine kp [4,16,17,18] ?_
  have hz:T.drop 36=[]:=List.drop_eq_nil_of_le (by omega)
  refine kw [] (kI @oR (kI h36 ht36)) fun K2 hK2=>?_
  refine aV htn cE rfl ?_
  by_cases hg:10000<aBf t
  ·rw[if_pos hg]
   simp only[seval,kT]
   refine hK2 _ ?_
   clear hK2 K2
   have hR1:=hR1 (.inr (.inr ⟨t,hmem,hg⟩))
   subst hR1
   apply bG rfl
   apply aE []
   simp only[aD]
   refine ks [2] ?_
   refine aS ?_
   simp only[aI,bL]
   simp only[qq,bR,eU,bN,bO,dA,aB,aH]
  ·rw[if_neg hg]
   simp only[seval,kT]
   refine hK2 _ ?_
   clear hK2 K2
   refine aR rfl (bC ?_)
   simp only[seval,kT,kF]
   refine hK _ ?_
   clear hK K
   refine lT (i+1) ?_
   rw[List.set_cons_succ,lU,rN]
   refine aE [16,17,18] ?_
   simp only[aD,aB,Nat.reduceEqDiff,if_true,if_false]
   have w5:IntKind.i64.wrap ((i+1:Nat):Int)=((i+1:Nat):Int):=fD (by omega)
   refine ku [] (kI @gO w5) ?_
   refine⟨i+1,⟨by omega,fun x hx=>?_⟩,by omega,.of_keep [16,17,18] rfl⟩
   rw[htk] at hx
   rcases List.mem_append.1 hx with hx|hx
   ·exact hno x hx
   ·simp only[List.mem_singleton] at hx
    subst hx;exact hg
 ·have d:decide ((i:Int)<((b.ds.length:Nat):Int))=false:=decide_eq_false (by omega)
  have he:i=b.ds.length:=by omega
  subst he
  rw[List.take_length] at hno
  have hR0:=hR0 (by
   rintro(h|h|⟨x,hx,h⟩)
   ·exact hr h
   ·exact hn h
   ·exact hno x hx h)
  subst hR0
  refine ky d ?_
  refine bJ ?_
  apply aR rfl
  apply dR
  simp only[seval,kT,kF]
  refine hK1 _ ?_
  clear hK1 K1
  apply aE []
  simp only[aD]
  refine ks [2] ?_
  refine aS ?_
  simp only[qq,bR,eU,bN,bO,dA,aB,aH]
theorem pS [Gv] (k:UInt8) (v:List UInt8) (h:v.length<18446744073709551616):(fby (k,v)).length≤v.length+11:=by
 have:=jI h
 unfold fby
 simp only[List.length_cons,List.length_append]
 omega
theorem aSa [Gv] (c:CavV) (h:aGr c=true) (hp:c.party<18446744073709551616):(kU c).length≤2100:=by
 unfold aGr at h
 unfold kU
 cases ht:c.third with
 | true=>
  rw[ht] at h
  simp only[if_true,Bool.and_eq_true,decide_eq_true_eq] at h
  have h1:=pS 4 (vb c.party) (by have:=jI hp;omega)
  have h2:=pS 5 c.id (by omega)
  have h3:=pS 6 c.vault (by omega)
  have h4:=jI hp
  simp only[if_true,V.join,List.flatMap_cons,List.flatMap_nil,List.length_append,List.length_nil]
  omega
 | false=>
  rw[ht] at h
  simp only[Bool.false_eq_true,if_false,Bool.and_eq_true,decide_eq_true_eq] at h
  have h1:=pS 3 c.text (by omega)
  simp only[Bool.false_eq_true,if_false,V.join,List.flatMap_cons,List.flatMap_nil,List.length_append,List.length_nil]
  omega
theorem aSG [Gv] (l:List CavV) (h:∀ c∈l,aGr c=true) (hp:∀ c∈l,c.party<18446744073709551616):(l.flatMap kU).length≤2100*l.length:=by
 induction l with
 | nil=>simp
 | cons c l ih=>
  have h1:=aSa c (h c (by simp)) (hp c (by simp))
  have h2:=ih (fun x hx=>h x (by simp[hx])) (fun x hx=>hp x (by simp[hx]))
  simp only[List.flatMap_cons,List.length_append,List.length_cons]
  omega
theorem aGP [Gv] {t:TokV} (h:okT t=true):t.id.length≤1024∧t.cavs.length≤64∧∀ c∈t.cavs,aGr c=true:=by
 unfold okT at h
 simp only[Bool.and_eq_true,decide_eq_true_eq,List.all_eq_true] at h
 exact⟨h.1.1,h.1.2,h.2⟩
theorem aBB [Gv] (t:TokV) (h:okT t=true) (hs:small t):(oS t).length≤140000:=by
 obtain⟨h1,h2,h3⟩:=aGP h
 have a1:=jI hs.2.2.2.2.1
 have a2:=pS 1 (vb t.key) (by omega)
 have a3:=pS 2 t.id (by omega)
 have a4:=aSG t.cavs h3 hs.2.2.2.2.2
 have a5:=pS 7 [if t.bound then 1 else 0] (by simp)
 have a6:=pS 8 t.tag (by have:=hs.2.2.2.1;omega)
 have a7:=hs.2.2.2.1
 unfold oS
 simp only[V.join,List.flatMap_cons,List.flatMap_nil,List.length_append,List.length_nil,List.length_cons] at *
 omega
def aHD (b:BunV):Prop:=small b.root∧b.ds.length≤1048576∧∀ d∈b.ds,small d
theorem yX [Gv] {b:BunV} (h:aHD b):aRD b.ds:=fun d hd=>(h.2.2 d hd).2.2.2.1
def okB (b:BunV):Bool:=(!b.root.bound&&decide (b.ds.length≤16)&&okT b.root)&&b.ds.all fun d=>d.key == 0&&okT d
theorem aBT [Gv] (b:BunV):okB b=true↔(b.root.bound=false∧b.ds.length≤16∧okT b.root=true∧∀ d∈b.ds,d.key=0∧okT d=true):=by
 unfold okB
 simp only[Bool.and_eq_true,Bool.not_eq_true',decide_eq_true_eq,List.all_eq_true,beq_iff_eq]
 constructor
 ·rintro⟨⟨⟨a,b⟩,c⟩,d⟩;exact⟨a,b,c,d⟩
 ·rintro⟨a,b,c,d⟩;exact⟨⟨⟨a,b⟩,c⟩,d⟩
theorem aRh [Gv] (b:BunV) (hs:aHD b):ACalls Tryz.prog G0 48 [.agg (BB b)] [] (fun r os=>os=[]∧r=.val (.int .i64 (if okB b=true then 0 else 1))):=by
 have hlen:=pQ b hs.1.2.2.2.1
 have hoc:=aBo b
 have htk:=aJJ b hs.1.2.2.2.1
 have hds:=aRE b hs.1.2.2.2.1
 have hbd:=aST b
 have cK:=rA b.root .no hs.1 rfl
 have cD:=fun (d:TokV) (hd:d∈b.ds)=>rA d .no (hs.2.2 d hd) rfl
 have hDl:=aAZ (yX hs)
 have htg:=yX hs
 have hnR:=fQ b.root .no rfl
 have hdl:=hs.2.1
 generalize BB b=Bd at *
 generalize TA b.root .no=T0 at *
 obtain⟨R,hR⟩:∃ R:Int,(if okB b=true then 0 else 1)=R:=⟨_,rfl⟩
 rw[hR]
 have hR0:(b.root.bound=false∧b.ds.length≤16∧okT b.root=true∧∀ d∈b.ds,d.key=0∧okT d=true)→R=0:=fun h=>by rw[← hR,if_pos ((aBT b).2 h)]
 have hR1:¬ (b.root.bound=false∧b.ds.length≤16∧okT b.root=true∧∀ d∈b.ds,d.key=0∧okT d=true)→R=1:=fun h=>by rw[← hR,if_neg (fun e=>h ((aBT b).1 e))]
 clear hR
 refine ke Tryz.func48 Tryz.ntmps48 Tryz.results48 #[37] ?_
 refine kx [1] hoc ?_
 refine aC fun K1 hK1=>?_
 refine aC fun K hK=>?_
 have one:∀ st:St,¬ (b.root.bound=false∧b.ds.length≤16∧okT b.root=true∧∀ d∈b.ds,d.key=0∧okT d=true)→gE G0 st ⟨36,[(19,.val (.bool true))],[.cells Bd]⟩→K st:=by
  intro st hg hw
  refine hK st (eX hw ?_)
  clear hw hK K
  have h1:=hR1 hg
  subst h1
  apply bG rfl
  apply aE []
  simp only[aD]
  refine ks [2] ?_
  refine aS ?_
  simp only[aI,bL]
  simp only[qq,bR,eU,bN,bO,dA,aB,aH]
 cases hb:b.root.bound with
 | true=>
  rw[hb] at hbd
  refine ku [] (kI hlen hbd) ?_
  exact one _ (fun h=>by rw[hb] at h;cases h.1) (.of_keep [19] (by exact rfl))
 | false=>
 rw[hb] at hbd hR0 hR1
 by_cases hn:16<b.ds.length
 ·have d:decide ((b.ds.length:Int) > 16)=true:=decide_eq_true (by omega)
  refine aA [] ?_
  simp only[qq,aF,aN,Tryz.underlying70,bD,aB,ne_eq,reduceCtorEq,Nat.reduceLT,Tryz.underlying67,Nat.reduceEqDiff,aY,apart,aO,Tryz.underlying4,hlen,hbd,dD,bT,Option.bind_some,aW,Bool.not_false,dQ,gok,Tryz.underlying68,bI,bV,eN,cav,aL,bU,hds,aP,bH,d,eW,aG,aI]
  exact one _ (fun h=>by omega) (.of_keep [19] (by exact rfl))
 have d:decide ((b.ds.length:Int) > 16)=false:=decide_eq_false (by omega)
 cases hok:okT b.root with
 | false=>
  rw[hok] at cK
  refine aA [] ?_
  simp only[qq,aF,aN,Tryz.underlying70,bD,aB,ne_eq,reduceCtorEq,Nat.reduceLT,Tryz.underlying67,Nat.reduceEqDiff,aY,apart,aO,Tryz.underlying4,hlen,hbd,dD,bT,Option.bind_some,aW,Bool.not_false,dQ,gok,Tryz.underlying68,bI,bV,eN,cav,aL,bU,hds,aP,bH,d,aU,Nat.reduceAdd,bF,aT,bA,bW,List.headD_cons,Nat.reduceLeDiff,htk,aH]
  refine aV hnR cK rfl ?_
  simp only[seval,kT]
  exact one _ (fun h=>by rw[hok] at h;cases h.2.2.1) (.of_keep [19] (by exact rfl))
 | true=>
 rw[hok] at cK hR0 hR1
 refine aA [] ?_
 simp only[qq,aF,aN,Tryz.underlying70,bD,aB,ne_eq,reduceCtorEq,Nat.reduceLT,Tryz.underlying67,Nat.reduceEqDiff,aY,apart,aO,Tryz.underlying4,hlen,hbd,dD,bT,Option.bind_some,aW,Bool.not_false,dQ,gok,Tryz.underlying68,bI,bV,eN,cav,aL,bU,hds,aP,bH,d,aU,Nat.reduceAdd,bF,aT,bA,bW,List.headD_cons,Nat.reduceLeDiff,htk,aH]
 refine aV hnR cK rfl ?_
 simp only[seval,kT]
 refine hK _ ?_
 clear hK K one
 refine aR rfl (bC (hK1 _ ?_))
 clear hK1 K1
 refine aE [1] ?_
 simp only[aD,aB,Nat.reduceEqDiff,if_true,if_false]
 refine aC fun K1 hK1=>?_
 refine aC fun K hK=>aA [] ?_
 simp only[qq,aF,aN,Tryz.underlying70,bD,aB,ne_eq,reduceCtorEq,Nat.reduceLT,aY,Nat.reduceEqDiff,apart,aO,Tryz.underlying68,bI,bV,eN,cav,aG,aI,hlen,hds]
 (repeat' apply And.intro)<;>try (first|exact True.intro|omega)
 refine hK _ ?_
 clear hK K
 refine aE [21,22,23] ?_
 simp only[aD,aB,Nat.reduceEqDiff,if_true,if_false]
 refine bK ?_
 refine bZ (fun i:Nat=>⟨36,[(21,.sl b.ds.length (DS b.ds) .no),(22,.val (.int .i64 (b.ds.length:Int))),(23,.val (.int .i64 (i:Int)))],.cells Bd::dd i⟩)
  (fun i=>i≤b.ds.length∧∀ d∈b.ds.take i,d.key=0∧okT d=true) (fun i=>b.ds.length - i) 0 (by simp) (.of_keep [21,22,23] rfl) ?_
 rintro i ⟨hi,hno⟩
 by_cases hlt:i<b.ds.length
 ·have d:decide ((i:Int)<((b.ds.length:Nat):Int))=true:=decide_eq_true (by omega)
  refine ky d ?_
  refine bJ ?_
  refine bG rfl (bC ?_)
  simp only[aI]
  refine aE [21,22,23] ?_
  simp only[aD,aB,Nat.reduceEqDiff,if_true,if_false]
  have hget:=aJg htg hlt (b.ds[i])
  rw[List.getD_eq_getElem?_getD,List.getElem?_eq_getElem hlt] at hget
  simp only[Option.getD_some] at hget
  have cE:=cD _ (List.getElem_mem hlt)
  have h36:=eP b.ds[i] .no (htg _ (List.getElem_mem hlt))
  have hto:=gP b.ds[i] .no
  have htn:=fQ b.ds[i] .no rfl
  have hkey:=(sZ b.ds[i] .no).1
  have htk2:b.ds.take (i+1)=b.ds.take i++[b.ds[i]]:=by
   rw[List.take_add_one,List.getElem?_eq_getElem hlt];rfl
  have hmem:=List.getElem_mem hlt
  generalize b.ds[i]=t at *
  have ht36:(TA t .no).take 36=TA t .no:=List.take_of_length_le (by omega)
  generalize TA t .no=T at *
  refine aC fun K hK=>bK ?_
  refine aC fun K2 hK2=>aA [] ?_
  simp only[qq,aF,dN,aB,Nat.reduceEqDiff,Tryz.underlying68,bD,hDl,Nat.reduceLT,Int.toNat_natCast,aY,apart,aO,Tryz.underlying67,dF,bS,iS,cav,bQ,bX,bB,spl,aG,aI,oR,Nat.reduceAdd,lU,List.length_drop,hget,hto,h36,List.drop_nil]
  refine⟨⟨by omega,by omega⟩,by omega,hK2 _ ?_⟩
  clear hK2 K2
  refine kp [4,21,22,23] ?_
  have hz:T.drop 36=[]:=List.drop_eq_nil_of_le (by omega)
  refine aC fun K2 hK2=>?_
  have two:∀ st:St,¬ (t.key=0∧okT t=true)→gE G0 st ⟨36,[(34,.val (.bool true))],.cells Bd::(dd i++[.cells T])⟩→K2 st:=by
   intro st hg hw
   refine hK2 st (eX hw ?_)
   clear hw hK2 K2
   have h1:=hR1 (fun h=>hg (h.2.2.2 t hmem))
   subst h1
   apply bG rfl
   apply aE []
   simp only[aD]
   refine ks [2] ?_
   refine aS ?_
   simp only[aI,bL]
   simp only[qq,bR,eU,bN,bO,dA,aB,aH]
  by_cases hk0:t.key=0
  ·have e0:(((t.key:Nat):Int) != 0)=false:=by rw[hk0];rfl
   cases hot:okT t with
   | false=>
    rw[hot] at cE
    refine ku [] (kI (kI @oR h36) (kI hkey (kI e0 ht36))) ?_
    refine aV htn cE rfl ?_
    simp only[seval,kT]
    exact two _ (fun h=>by rw[hot] at h;cases h.2) (.of_keep [34] (by exact rfl))
   | true=>
    rw[hot] at cE
    refine ku [] (kI (kI @oR h36) (kI hkey (kI e0 ht36))) ?_
    refine aV htn cE rfl ?_
    simp only[seval,kT]
    refine hK2 _ ?_
    clear hK2 K2 two
    refine aR rfl (bC ?_)
    simp only[seval,kT,kF]
    refine hK _ ?_
    clear hK K
    refine lT (i+1) ?_
    rw[List.set_cons_succ,lU,rN]
    refine aE [21,22,23] ?_
    simp only[aD,aB,Nat.reduceEqDiff,if_true,if_false]
    have w5:IntKind.i64.wrap ((i+1:Nat):Int)=((i+1:Nat):Int):=fD (by omega)
    refine ku [] (kI @gO w5) ?_
    refine⟨i+1,⟨by omega,fun x hx=>?_⟩,by omega,.of_keep [21,22,23] rfl⟩
    rw[htk2] at hx
    rcases List.mem_append.1 hx with hx|hx
    ·exact hno x hx
    ·simp only[List.mem_singleton] at hx
     subst hx;exact⟨hk0,hot⟩
  ·have e0:(((t.key:Nat):Int) != 0)=true:=by simp;omega
   refine ku [] (kI (kI @oR h36) (kI hkey e0)) ?_
   exact two _ (fun h=>hk0 h.1) (.of_keep [34] (by exact rfl))
 ·have d:decide ((i:Int)<((b.ds.length:Nat):Int))=false:=decide_eq_false (by omega)
  have he:i=b.ds.length:=by omega
  subst he
  rw[List.take_length] at hno
  have hR0:=hR0 ⟨rfl,by omega,rfl,hno⟩
  subst hR0
  refine ky d ?_
  refine bJ ?_
  apply aR rfl
  apply dR
  simp only[seval,kT,kF]
  refine hK1 _ ?_
  clear hK1 K1
  apply aE []
  simp only[aD]
  refine ks [2] ?_
  refine aS ?_
  simp only[qq,bR,eU,bN,bO,dA,aB,aH]
def pW (b:BunV):List UInt8:=fby (16,oS b.root)++b.ds.flatMap fun d=>fby (17,oS d)
def aRk (b:BunV):AV:=
 if okB b=true then (if 65536<(pW b).length then .tup [.sl 0 [] .full,.val (.int .i64 3)] else .tup [.sl (pW b).length (Bs (pW b)) .no,.val (.int .i64 0)])
 else .tup [.sl 0 [] .full,.val (.int .i64 1)]
theorem aRR [Gv] (l:List TokV) (h:∀ d∈l,okT d=true) (hs:∀ d∈l,small d):(l.flatMap fun d=>fby (17,oS d)).length≤140011*l.length:=by
 induction l with
 | nil=>simp
 | cons c l ih=>
  have h1:=pS 17 (oS c) (by have:=aBB c (h c (by simp)) (hs c (by simp));omega)
  have h0:=aBB c (h c (by simp)) (hs c (by simp))
  have h2:=ih (fun x hx=>h x (by simp[hx])) (fun x hx=>hs x (by simp[hx]))
  simp only[List.flatMap_cons,List.length_append,List.length_cons]
  omega
theorem aRL [Gv] (b:BunV) (hs:aHD b):ACalls Tryz.prog G0 20 [.agg (BB b)] [] (fun r os=>os=[]∧r=aRk b):=by
 have hlen:=pQ b hs.1.2.2.2.1
 have hoc:=aBo b
 have htk:=aJJ b hs.1.2.2.2.1
 have hds:=aRE b hs.1.2.2.2.1
 have hnB:=aFl b
 have hBt:(BB b).take 37=BB b:=List.take_of_length_le (by omega)
 have cK:=aRh b hs
 have cE:=aHV b.root .no hs.1 rfl
 have cD:=fun (d:TokV) (hd:d∈b.ds)=>aHV d .no (hs.2.2 d hd) rfl
 have hDl:=aAZ (yX hs)
 have htg:=yX hs
 have hnR:=fQ b.root .no rfl
 have hdl:=hs.2.1
 generalize BB b=Bd at *
 generalize TA b.root .no=T0 at *
 refine ke Tryz.func20 Tryz.ntmps20 Tryz.results20 #[54,37] ?_
 refine kx [1,2,3] hoc ?_
 refine aC fun K1 hK1=>?_
 refine kw [] (kI hlen hBt) fun K hK=>?_
 refine aV hnB cK rfl ?_
 simp only[seval,kT]
 refine hK _ ?_
 clear hK K
 refine kp [1,4] ?_
 cases hok:okB b with
 | false=>
  have hV:aRk b=.tup [.sl 0 [] .full,.val (.int .i64 1)]:=by unfold aRk;rw[if_neg (by rw[hok];decide)]
  rw[hV]
  simp only[Bool.false_eq_true,if_false]
  refine kq ?_
  refine bG rfl ?_
  refine kp [4] ?_
  refine ks [2,3] ?_
  refine aS ?_
  simp only[aI,bL]
  simp only[qq,bR,eU,bN,bO,dA,aB,Nat.reduceEqDiff,aM,bW,aH]
 | true=>
 obtain⟨p1,p2,p3,p4⟩:=(aBT b).1 hok
 rw[if_pos p3] at cE
 have hle0:=aBB b.root p3 hs.1
 have cJ:=xC [(16,oS b.root)] .full (by simp[kK];omega)
 rw[show V.join [(16,oS b.root)]=fby (16,oS b.root) by simp[V.join]] at cJ
 have hf0:=pS 16 (oS b.root) (by omega)
 have hE:pW b=fby (16,oS b.root)++b.ds.flatMap fun d=>fby (17,oS d):=rfl
 have hEl:=aRR b.ds (fun d hd=>(p4 d hd).2) hs.2.2
 have hV:aRk b=if 65536<(pW b).length then .tup [.sl 0 [] .full,.val (.int .i64 3)] else .tup [.sl (pW b).length (Bs (pW b)) .no,.val (.int .i64 0)]:=by unfold aRk;rw[if_pos hok]
 rw[hV]
 simp only[if_true]
 refine kq ?_
 refine aR rfl (bC (hK1 _ ?_))
 clear hK1 K1
 rw[hV,hE]
 clear hV hE
 generalize oS b.root=e at *
 generalize fby (16,e)=J at *
 simp only[Fs,FA,List.flatMap_cons,List.flatMap_nil,List.append_nil,List.cons_append,List.nil_append,B,UInt8.reduceToNat,Int.cast_ofNat_Int,List.length_cons,List.length_nil,Nat.reduceAdd] at cJ
 refine kp [1] ?_
 refine kw [] (kI hlen htk) fun K hK=>?_
 refine aV hnR cE (by simp[aH,aM,aJ]) ?_
 simp only[seval,kT]
 refine hK _ ?_
 clear hK K
 refine kp [1,5] ?_
 refine kw [] @qC fun K hK=>?_
 refine aV (by simp[aM,aH]) cJ (by simp[aH,aJ]) ?_
 simp only[seval,kT]
 refine hK _ ?_
 clear hK K
 refine kp [1,7] ?_
 refine aC fun K1 hK1=>?_
 refine aC fun K hK=>aA [] ?_
 simp only[qq,aF,aN,Tryz.underlying70,bD,aB,Nat.reduceEqDiff,ne_eq,reduceCtorEq,Nat.reduceLT,aY,apart,aO,Tryz.underlying68,bI,bV,eN,cav,aG,aI,hlen,hds]
 (repeat' apply And.intro)<;>try (first|exact True.intro|omega)
 refine hK _ ?_
 clear hK K
 refine aE [7,29,30,31] ?_
 simp only[aD,aB,Nat.reduceEqDiff,if_true,if_false]
 refine bK ?_
 refine bZ (fun i:Nat=>⟨50,[(7,.sl (J++(b.ds.take i).flatMap fun d=>fby (17,oS d)).length (Bs (J++(b.ds.take i).flatMap fun d=>fby (17,oS d))) .no),(29,.sl b.ds.length (DS b.ds) .no),(30,.val (.int .i64 (b.ds.length:Int))),(31,.val (.int .i64 (i:Int)))],.cells Bd::dd i⟩)
  (fun i=>i≤b.ds.length) (fun i=>b.ds.length - i) 0 (by omega) (by simp only[List.take_zero,List.flatMap_nil,List.append_nil];exact .of_keep [7,29,30,31] rfl) ?_
 intro i hi
 by_cases hlt:i<b.ds.length
 ·have d:decide ((i:Int)<((b.ds.length:Nat):Int))=true:=decide_eq_true (by omega)
  refine ky d ?_
  apply bJ
  refine bG rfl (bC ?_)
  simp only[seval,kT]
  refine aE [7,29,30,31] ?_
  simp only[aD,aB,Nat.reduceEqDiff,if_true,if_false]
  have hget:=aJg htg hlt (b.ds[i])
  rw[List.getD_eq_getElem?_getD,List.getElem?_eq_getElem hlt] at hget
  simp only[Option.getD_some] at hget
  have hmem:=List.getElem_mem hlt
  have cE:=cD _ hmem
  rw[if_pos (p4 _ hmem).2] at cE
  have h36:=eP b.ds[i] .no (htg _ hmem)
  have hto:=gP b.ds[i] .no
  have htn:=fQ b.ds[i] .no rfl
  have hle:=aBB b.ds[i] (p4 _ hmem).2 (hs.2.2 _ hmem)
  have hE1:(J++(b.ds.take (i+1)).flatMap fun d=>fby (17,oS d))=(J++(b.ds.take i).flatMap fun d=>fby (17,oS d))++fby (17,oS b.ds[i]):=by
   rw[List.take_add_one,List.getElem?_eq_getElem hlt,List.flatMap_append,List.append_assoc]
   simp
  have hAl:=aRR (b.ds.take i) (fun d hd=>(p4 d (List.mem_of_mem_take hd)).2) (fun d hd=>hs.2.2 d (List.mem_of_mem_take hd))
  have hAl2:(J++(b.ds.take i).flatMap fun d=>fby (17,oS d)).length≤3000000:=by
   rw[List.length_append]
   rw[List.length_take] at hAl
   have:min i b.ds.length≤16:=by omega
   omega
  generalize hA1:(J++(b.ds.take (i+1)).flatMap fun d=>fby (17,oS d))=A1 at *
  generalize (J++(b.ds.take i).flatMap fun d=>fby (17,oS d))=A at *
  generalize b.ds[i]=t at *
  have ht36:(TA t .no).take 36=TA t .no:=List.take_of_length_le (by omega)
  generalize TA t .no=T at *
  have cP:=aNm A .no (17,oS t) (by omega) (by simp only;omega)
  generalize oS t=et at *
  simp only[FA,B,UInt8.reduceToNat,Int.cast_ofNat_Int] at cP
  refine aC fun K hK=>bK ?_
  refine aC fun K2 hK2=>aA [] ?_
  simp only[qq,aF,dN,aB,Nat.reduceEqDiff,Tryz.underlying68,bD,hDl,Nat.reduceLT,Int.toNat_natCast,aY,apart,aO,Tryz.underlying67,dF,bS,iS,cav,bQ,bX,bB,spl,aG,aI,oR,Nat.reduceAdd,lU,List.length_drop,hget,hto,h36,List.drop_nil]
  refine⟨⟨by omega,by omega⟩,by omega,hK2 _ ?_⟩
  clear hK2 K2
  refine kp [7,9,29,30,31] ?_
  have hz:T.drop 36=[]:=List.drop_eq_nil_of_le (by omega)
  refine kw [] (kI @oR (kI h36 ht36)) fun K2 hK2=>?_
  refine aV htn cE (by simp[aH,aM,aJ]) ?_
  simp only[seval,kT]
  refine hK2 _ ?_
  clear hK2 K2
  refine lT (i+1) ?_
  rw[List.set_cons_succ,lU,rN]
  refine kp [7,10,29,30,31] ?_
  refine ko [] ?_
  refine aV (by simp[aM,aH,aJ]) cP (by simp[aH,aJ]) ?_
  simp only[seval,kT]
  simp only[seval,kT,kF]
  refine hK _ ?_
  clear hK K
  rw[← hE1]
  refine aE [7,29,30,31] ?_
  simp only[aD,aB,Nat.reduceEqDiff,if_true,if_false]
  have w5:IntKind.i64.wrap ((i+1:Nat):Int)=((i+1:Nat):Int):=fD (by omega)
  refine ku [] (kI @gO w5) ?_
  subst hA1
  exact⟨i+1,by omega,by omega,.of_keep [7,29,30,31] rfl⟩
 ·have d:decide ((i:Int)<((b.ds.length:Nat):Int))=false:=decide_eq_false (by omega)
  have he:i=b.ds.length:=by omega
  subst he
  refine ky d ?_
  apply bJ
  apply aR rfl
  apply dR
  simp only[seval,kT,kF]
  refine hK1 _ ?_
  clear hK1 K1
  rw[List.take_length]
  generalize (J++b.ds.flatMap fun d=>fby (17,oS d))=A at *
  refine aE [7] ?_
  simp only[aD,aB,Nat.reduceEqDiff,if_true,if_false]
  refine aC fun K1 hK1=>?_
  by_cases hg:65536<A.length
  ·have d2:decide ((A.length:Int) > 65536)=true:=decide_eq_true (by omega)
   rw[if_pos hg]
   refine aC fun K hK=>aA [] ?_
   simp only[qq,aF,Nat.reduceLT,aB,bI,Nat.reduceEqDiff,bV,eN,Tryz.underlying54,cav,aL,aG,aI,aP,bH,d2]
   (repeat' apply And.intro)<;>try (first|exact True.intro|omega)
   refine hK _ ?_
   clear hK K
   refine bG rfl ?_
   apply aE []
   simp only[aD]
   refine ks [2,3] ?_
   refine aS ?_
   simp only[aI,bL]
   simp only[qq,bR,eU,bN,bO,dA,aB,Nat.reduceEqDiff,aM,bW,aH]
  ·have d2:decide ((A.length:Int) > 65536)=false:=decide_eq_false (by omega)
   refine aC fun K hK=>aA [] ?_
   simp only[qq,aF,Nat.reduceLT,aB,bI,Nat.reduceEqDiff,bV,eN,Tryz.underlying54,cav,aL,aG,aI,aP,bH,d2]
   (repeat' apply And.intro)<;>try (first|exact True.intro|omega)
   refine hK _ ?_
   clear hK K
   refine aR rfl (bC (hK1 _ ?_))
   clear hK1 K1
   rw[if_neg hg]
   refine aE [7] ?_
   simp only[aD,aB,Nat.reduceEqDiff,if_true,if_false]
   refine ks [2,3] ?_
   refine aS ?_
   simp only[seval,kT,kF]
theorem aTK [Gv] {c d:CavV} (h:iN (CA c) (CA d)=true):c=d:=by
 obtain⟨t1,x1,p1,i1,v1⟩:=c
 obtain⟨t2,x2,p2,i2,v2⟩:=d
 simp[CA,str,iN,vQ] at h
 obtain⟨rfl,rfl,h3,rfl,rfl⟩:=h
 have:p1=p2:=by omega
 subst this
 rfl
theorem aSt [Gv] (c:CavV):iN (CA c) (CA c)=true:=by simp[CA,str,iN,vQ]
theorem aRz [Gv] (a b:TokV) (hA:aOH a) (hB:aOH b):ACalls Tryz.prog GP 52 [.agg (TA a .no),.agg (TA b .no)] [] (fun r os=>os=[]∧r=.val (.bool (decide (a=b)))):=by
 have hal:=eP a .no hA.2.2.2
 have hbl:=eP b .no hB.2.2.2
 have hao:=gP a .no
 have hbo:=gP b .no
 obtain⟨a0,a1,a2,a3⟩:=sZ a .no
 obtain⟨b0,b1,b2,b3⟩:=sZ b .no
 have a4:=aGR a .no
 have b4:=aGR b .no
 have hAc:=hA.2.1
 have hBc:=hB.2.1
 have a32:(Bs a.tag).take 32=Bs a.tag:=List.take_of_length_le (by rw[aX,hA.2.2.2];exact Nat.le_refl _)
 have b32:(Bs b.tag).take 32=Bs b.tag:=List.take_of_length_le (by rw[aX,hB.2.2.2];exact Nat.le_refl _)
 have haT:=hA.2.2.2
 have hbT:=hB.2.2.2
 have hCa:=mD a.cavs
 have hCb:=mD b.cavs
 have hall:=aDi (P:=Tryz.prog) (e:=5) Tryz.underlying5 a.tag b.tag (by omega)
 obtain⟨R,hR⟩:∃ R,decide (a=b)=R:=⟨_,rfl⟩
 rw[hR]
 have hR0:a≠b→R=false:=fun h=>by rw[← hR,decide_eq_false h]
 have hR1:a=b→R=true:=fun h=>by rw[← hR,decide_eq_true h]
 clear hR
 simp only[str] at a1 b1
 generalize TA a .no=Ta at *
 generalize TA b .no=Tb at *
 refine ke Tryz.func52 Tryz.ntmps52 Tryz.results52 #[4] ?_
 refine kx [2,3] (kI hao hbo) ?_
 refine aC fun K1 hK1=>?_
 refine aC fun K hK=>?_
 have one:∀ st:St,a≠b→gE GP st ⟨59,[(40,.val (.bool true))],[.cells Ta,.cells Tb]⟩→K st:=by
  intro st hg hw
  refine hK st (eX hw ?_)
  clear hw hK K
  have h1:=hR0 hg
  subst h1
  apply bG rfl
  apply aE []
  simp only[aD]
  refine ks [4] ?_
  refine aS ?_
  simp only[aI,bL]
  simp only[qq,bR,eU,bN,bO,dA,aB,aH]
 by_cases q0:a.key=b.key
 case neg=>
  have e0:((a.key:Int) != (b.key:Int))=true:=by simp;omega
  refine ku [] (kI (kI hbl b0) (kI hal (kI a0 e0))) ?_
  exact one _ (fun h=>q0 (by rw[h])) (.of_keep [40] rfl)
 have e0:((a.key:Int) != (b.key:Int))=false:=by rw[q0];simp
 by_cases q1:a.id=b.id
 case neg=>
  have e1:(a.id == b.id)=false:=beq_eq_false_iff_ne.2 q1
  refine ku [] (kI (kI (kI hbl b0) (kI hal a0)) (kI (kI e0 b1) (kI a1 e1))) ?_
  exact one _ (fun h=>q1 (by rw[h])) (.of_keep [40] rfl)
 have e1:(a.id == b.id)=true:=beq_iff_eq.2 q1
 by_cases q3:a.bound=b.bound
 case neg=>
  have e3:(a.bound == b.bound)=false:=beq_eq_false_iff_ne.2 q3
  refine ku [] (kI (kI (kI hbl b0) (kI hal (kI a0 e0))) (kI (kI b1 (kI a1 e1)) (kI b3 (kI a3 e3)))) ?_
  exact one _ (fun h=>q3 (by rw[h])) (.of_keep [40] rfl)
 have e3:(a.bound == b.bound)=true:=beq_iff_eq.2 q3
 by_cases q4:a.tag=b.tag
 case neg=>
  have e4:(a.tag == b.tag)=false:=beq_eq_false_iff_ne.2 q4
  refine aA [] ?_
  simp only[qq,aF,aN,Tryz.underlying67,bD,aB,Nat.reduceEqDiff,ne_eq,reduceCtorEq,Nat.reduceLT,aY,apart,aO,Tryz.underlying30,aL,hbl,b0,hal,a0,aP,bH,e0,dD,bT,Option.bind_some,aW,Bool.not_false,dQ,gok,Tryz.underlying9,bU,cav,b1,a1,gL,ByteArray.toList_mk,e1,Bool.not_true,Tryz.underlying4,b3,a3,aAc,e3,Tryz.underlying23,Nat.reduceAdd,b4,b32,a4,a32,aDW,tC,aGG,aX,haT,hall,aAh,e4,eW,aG,aI]
  exact one _ (fun h=>q4 (by rw[h])) (.of_keep [40] rfl)
 have e4:(a.tag == b.tag)=true:=beq_iff_eq.2 q4
 by_cases q2:a.cavs.length=b.cavs.length
 case neg=>
  have e2:(((a.cavs.length:Nat):Int) != ((b.cavs.length:Nat):Int))=true:=by simp;omega
  refine aA [] ?_
  simp only[qq,aF,aN,Tryz.underlying67,bD,aB,Nat.reduceEqDiff,ne_eq,reduceCtorEq,Nat.reduceLT,aY,apart,aO,Tryz.underlying30,aL,hbl,b0,hal,a0,aP,bH,e0,dD,bT,Option.bind_some,aW,Bool.not_false,dQ,gok,Tryz.underlying9,bU,cav,b1,a1,gL,ByteArray.toList_mk,e1,Bool.not_true,Tryz.underlying4,b3,a3,aAc,e3,Tryz.underlying23,Nat.reduceAdd,b4,b32,a4,a32,aDW,tC,aGG,aX,haT,hall,aAh,e4,Tryz.underlying65,bI,bV,eN,aG,aI,a2,b2,e2]
  exact one _ (fun h=>q2 (by rw[h])) (.of_keep [40] rfl)
 have e2:(((a.cavs.length:Nat):Int) != ((b.cavs.length:Nat):Int))=false:=by rw[q2];simp
 refine aA [] ?_
 simp only[qq,aF,aN,Tryz.underlying67,bD,aB,Nat.reduceEqDiff,ne_eq,reduceCtorEq,Nat.reduceLT,aY,apart,aO,Tryz.underlying30,aL,hbl,b0,hal,a0,aP,bH,e0,dD,bT,Option.bind_some,aW,Bool.not_false,dQ,gok,Tryz.underlying9,bU,cav,b1,a1,gL,ByteArray.toList_mk,e1,Bool.not_true,Tryz.underlying4,b3,a3,aAc,e3,Tryz.underlying23,Nat.reduceAdd,b4,b32,a4,a32,aDW,tC,aGG,aX,haT,hall,aAh,e4,Tryz.underlying65,bI,bV,eN,aG,aI,a2,b2,e2]
 refine hK _ ?_
 clear hK K one
 refine aR rfl (bC (hK1 _ ?_))
 clear hK1 K1
 refine aE [2,3] ?_
 simp only[aD,aB,Nat.reduceEqDiff,if_true,if_false]
 refine aC fun K1 hK1=>?_
 refine aC fun K hK=>aA [] ?_
 simp only[qq,aF,aN,Tryz.underlying67,bD,aB,Nat.reduceEqDiff,ne_eq,reduceCtorEq,Nat.reduceLT,aY,apart,aO,Tryz.underlying65,bI,bV,eN,cav,aG,aI,hal,a2]
 (repeat' apply And.intro)<;>try (first|exact True.intro|omega)
 refine hK _ ?_
 clear hK K
 refine aE [2,3,43,44] ?_
 simp only[aD,aB,Nat.reduceEqDiff,if_true,if_false]
 refine bK ?_
 refine bZ (fun i:Nat=>⟨59,[(2,.ptr 0 0),(3,.ptr 1 0),(43,.val (.int .i64 (a.cavs.length:Int))),(44,.val (.int .i64 (i:Int)))],[.cells Ta,.cells Tb]⟩)
  (fun i=>i≤a.cavs.length∧a.cavs.take i=b.cavs.take i) (fun i=>a.cavs.length - i) 0 (by simp) (.of_keep [2,3,43,44] rfl) ?_
 rintro i ⟨hi,ht⟩
 by_cases hlt:i<a.cavs.length
 ·have d:decide ((i:Int)<((a.cavs.length:Nat):Int))=true:=decide_eq_true (by omega)
  refine ky d ?_
  apply bJ
  refine bG rfl (bC ?_)
  simp only[aI]
  refine aE [2,3,43,44] ?_
  simp only[aD,aB,Nat.reduceEqDiff,if_true,if_false]
  have hltb:i<b.cavs.length:=by omega
  have hga:=aDO hlt (a.cavs[i])
  rw[List.getD_eq_getElem?_getD,List.getElem?_eq_getElem hlt] at hga
  simp only[Option.getD_some] at hga
  have hgb:=aDO hltb (b.cavs[i])
  rw[List.getD_eq_getElem?_getD,List.getElem?_eq_getElem hltb] at hgb
  simp only[Option.getD_some] at hgb
  have hta:a.cavs.take (i+1)=a.cavs.take i++[a.cavs[i]]:=by rw[List.take_add_one,List.getElem?_eq_getElem hlt];rfl
  have htb:b.cavs.take (i+1)=b.cavs.take i++[b.cavs[i]]:=by rw[List.take_add_one,List.getElem?_eq_getElem hltb];rfl
  generalize a.cavs[i]=x at *
  generalize b.cavs[i]=y at *
  have hxo:=uA x
  have hyo:=uA y
  have hx5:(CA x).length=5:=rfl
  have hy5:(CA y).length=5:=rfl
  refine aC fun K hK=>bK ?_
  refine aC fun K hK=>aA [] ?_
  simp only[qq,aF,Nat.reduceLT,aB,Nat.reduceEqDiff,aG,aI]
  (repeat' apply And.intro)<;>try (first|exact True.intro|omega)
  refine hK _ ?_
  clear hK K
  refine aE [2,3,5,43,44] ?_
  simp only[aD,aB,Nat.reduceEqDiff,if_true,if_false]
  refine aC fun K2 hK2=>?_
  refine dW [] (by kernel_rfl) (by kernel_rfl) ?_
  simp only[qq,aF,aN,Tryz.underlying67,bD,aB,Nat.reduceEqDiff,ne_eq,reduceCtorEq,Nat.reduceLT,aY,apart,aO,Tryz.underlying65,dN,Int.toNat_natCast,Tryz.underlying74,aL,aG,aI,hbl,b2,hCb,List.length_drop,hgb,hal,a2,hCa,hga,aP,aDW,tC,aGG,aDJ]
  refine⟨⟨by omega,by omega⟩,by omega,⟨by omega,by omega⟩,by omega,.inl (by simp[CA,str,aFL,pK,Tryz.underlying4,Tryz.underlying9,Tryz.underlying30]),hK2 _ ?_⟩
  clear hK2 K2
  cases hq:iN (CA x) (CA y) with
  | true=>
   have hxy:=aTK hq
   refine aR (by simp only[aB,lk];rfl) (bC ?_)
   simp only[bL,aI]
   refine hK _ ?_
   clear hK K
   refine aE [2,3,43,44] ?_
   simp only[aD,aB,Nat.reduceEqDiff,if_true,if_false]
   have w5:IntKind.i64.wrap ((i+1:Nat):Int)=((i+1:Nat):Int):=fD (by omega)
   refine aA [] ?_
   simp only[qq,aF,aB,Nat.reduceEqDiff,cav,aL,aP,bH,gO,w5,Nat.reduceLT,aG,aI]
   exact⟨i+1,⟨by omega,by rw[hta,htb,ht,hxy]⟩,by omega,.of_keep [2,3,43,44] rfl⟩
  | false=>
   have hne:a≠b:=fun h=>by
    rw[← h,hta] at htb
    have:=List.append_cancel_left htb
    injection this with this
    rw[this,aSt] at hq
    cases hq
   have hR0:=hR0 hne
   subst hR0
   refine bG (by simp only[aB,lk];rfl) ?_
   apply aE []
   simp only[aD]
   refine ks [4] ?_
   refine aS ?_
   simp only[aI,bL]
   simp only[qq,bR,eU,bN,bO,dA,aB,aH]
 ·have d:decide ((i:Int)<((a.cavs.length:Nat):Int))=false:=decide_eq_false (by omega)
  have he:i=a.cavs.length:=by omega
  subst he
  have hab:a.cavs=b.cavs:=by rw[List.take_length,q2,List.take_length] at ht;exact ht
  have hE:a=b:=by
   obtain⟨k1,i1,c1,b1',t1⟩:=a
   obtain⟨k2,i2,c2,b2',t2⟩:=b
   simp only at q0 q1 q3 q4 hab
   subst q0 q1 q3 q4 hab
   rfl
  have hR1:=hR1 hE
  subst hR1
  refine ky d ?_
  apply bJ
  apply aR rfl
  apply dR
  simp only[seval,kT,kF]
  refine hK1 _ ?_
  clear hK1 K1
  apply aE []
  simp only[aD]
  refine ks [4] ?_
  refine aS ?_
  simp only[qq,bR,eU,bN,bO,dA,aB,aH]
def aHo (a b:BunV):Bool:=decide (a.root=b.root)&&decide (a.ds=b.ds)
theorem aSN [Gv] (a b:BunV):aHo a b=true↔a=b:=by
 obtain⟨r1,d1⟩:=a
 obtain⟨r2,d2⟩:=b
 unfold aHo
 simp only[Bool.and_eq_true,decide_eq_true_eq,BunV.mk.injEq]
theorem aTE [Gv] (a b:BunV) (hA:aRf a) (hB:aRf b):ACalls Tryz.prog GP 21 [.agg (BB a),.agg (BB b)] [] (fun r os=>os=[]∧r=.val (.bool (aHo a b))):=by
 have hal:=pQ a hA.1.2.2.2
 have hbl:=pQ b hB.1.2.2.2
 have hao:=aBo a
 have hbo:=aBo b
 have hat:=aJJ a hA.1.2.2.2
 have hbt:=aJJ b hB.1.2.2.2
 have had:=aRE a hA.1.2.2.2
 have hbd:=aRE b hB.1.2.2.2
 have cR:=aRz a.root b.root hA.1 hB.1
 have cD:=fun (x y:TokV) (hx:x∈a.ds) (hy:y∈b.ds)=>aRz x y (hA.2.2 x hx) (hB.2.2 y hy)
 have hta:=aCD hA
 have htb:=aCD hB
 have hDa:=aAZ hta
 have hDb:=aAZ htb
 have hnA:=fQ a.root .no rfl
 have hnB:=fQ b.root .no rfl
 have hla:=hA.2.1
 have hlb:=hB.2.1
 obtain⟨R,hR⟩:∃ R,aHo a b=R:=⟨_,rfl⟩
 rw[hR]
 have hR0:(a.root≠b.root∨a.ds≠b.ds)→R=false:=fun h=>by
  rw[← hR]
  unfold aHo
  rcases h with h|h
  ·rw[decide_eq_false h,Bool.false_and]
  ·rw[decide_eq_false h,Bool.and_false]
 have hR1:a.root=b.root→a.ds=b.ds→R=true:=fun h1 h2=>by
  rw[← hR]
  unfold aHo
  rw[decide_eq_true h1,decide_eq_true h2];rfl
 clear hR
 generalize BB a=Ba at *
 generalize BB b=Bb at *
 generalize TA a.root .no=Ra at *
 generalize TA b.root .no=Rb at *
 refine ke Tryz.func21 Tryz.ntmps21 Tryz.results21 #[4] ?_
 refine kx [2,3] (kI hao hbo) ?_
 refine aC fun K1 hK1=>?_
 refine aC fun K hK=>?_
 have one:∀ st:St,(a.root≠b.root∨a.ds≠b.ds)→gE GP st ⟨40,[(20,.val (.bool true))],[.cells Ba,.cells Bb]⟩→K st:=by
  intro st hg hw
  refine hK st (eX hw ?_)
  clear hw hK K
  have h1:=hR0 hg
  subst h1
  apply bG rfl
  apply aE []
  simp only[aD]
  refine ks [4] ?_
  refine aS ?_
  simp only[aI,bL]
  simp only[qq,bR,eU,bN,bO,dA,aB,aH]
 by_cases q0:a.root=b.root
 case neg=>
  rw[decide_eq_false q0] at cR
  refine ku [] (kI (kI hbl hbt) (kI hal hat)) ?_
  refine aV ⟨hnA,hnB⟩ cR rfl ?_
  simp only[seval,kT]
  exact one _ (.inl q0) (.of_keep [20] (by exact rfl))
 rw[decide_eq_true q0] at cR
 by_cases q2:a.ds.length=b.ds.length
 case neg=>
  have e2:(((a.ds.length:Nat):Int) != ((b.ds.length:Nat):Int))=true:=by simp;omega
  refine ku [] (kI (kI hbl hbt) (kI hal hat)) ?_
  refine aV ⟨hnA,hnB⟩ cR rfl ?_
  simp only[qq,aK,aF,aun,aB,Nat.reduceEqDiff,Bool.not_true,Nat.reduceLT,dD,bT,Option.bind_some,aW,Bool.not_false,dQ,gok,aN,Tryz.underlying70,bD,ne_eq,reduceCtorEq,aY,apart,aO,Tryz.underlying68,bI,bV,eN,aL,bU,cav,aG,aI,hal,had,hbl,hbd,aP,bH,e2]
  exact one _ (.inr (fun h=>q2 (by rw[h]))) (.of_keep [20] rfl)
 have e2:(((a.ds.length:Nat):Int) != ((b.ds.length:Nat):Int))=false:=by rw[q2];simp
 refine ku [] (kI (kI hbl hbt) (kI hal hat)) ?_
 refine aV ⟨hnA,hnB⟩ cR rfl ?_
 simp only[qq,aK,aF,aun,aB,Nat.reduceEqDiff,Bool.not_true,Nat.reduceLT,dD,bT,Option.bind_some,aW,Bool.not_false,dQ,gok,aN,Tryz.underlying70,bD,ne_eq,reduceCtorEq,aY,apart,aO,Tryz.underlying68,bI,bV,eN,aL,bU,cav,aG,aI,hal,had,hbl,hbd,aP,bH,e2]
 refine hK _ ?_
 clear hK K one
 refine aR rfl (bC (hK1 _ ?_))
 clear hK1 K1
 refine aE [2,3] ?_
 simp only[aD,aB,Nat.reduceEqDiff,if_true,if_false]
 refine aC fun K1 hK1=>?_
 refine aC fun K hK=>aA [] ?_
 simp only[qq,aF,aN,Tryz.underlying70,bD,aB,Nat.reduceEqDiff,ne_eq,reduceCtorEq,Nat.reduceLT,aY,apart,aO,Tryz.underlying68,bI,bV,eN,cav,aG,aI,hal,had]
 (repeat' apply And.intro)<;>try (first|exact True.intro|omega)
 refine hK _ ?_
 clear hK K
 refine aE [2,3,23,24] ?_
 simp only[aD,aB,Nat.reduceEqDiff,if_true,if_false]
 refine bK ?_
 refine bZ (fun i:Nat=>⟨40,[(2,.ptr 0 0),(3,.ptr 1 0),(23,.val (.int .i64 (a.ds.length:Int))),(24,.val (.int .i64 (i:Int)))],[.cells Ba,.cells Bb]⟩)
  (fun i=>i≤a.ds.length∧a.ds.take i=b.ds.take i) (fun i=>a.ds.length - i) 0 (by simp) (.of_keep [2,3,23,24] rfl) ?_
 rintro i ⟨hi,ht⟩
 by_cases hlt:i<a.ds.length
 ·have d:decide ((i:Int)<((a.ds.length:Nat):Int))=true:=decide_eq_true (by omega)
  refine ky d ?_
  apply bJ
  refine bG rfl (bC ?_)
  simp only[aI]
  refine aE [2,3,23,24] ?_
  simp only[aD,aB,Nat.reduceEqDiff,if_true,if_false]
  have hltb:i<b.ds.length:=by omega
  have hga:=aJg hta hlt (a.ds[i])
  rw[List.getD_eq_getElem?_getD,List.getElem?_eq_getElem hlt] at hga
  simp only[Option.getD_some] at hga
  have hgb:=aJg htb hltb (b.ds[i])
  rw[List.getD_eq_getElem?_getD,List.getElem?_eq_getElem hltb] at hgb
  simp only[Option.getD_some] at hgb
  have hka:a.ds.take (i+1)=a.ds.take i++[a.ds[i]]:=by rw[List.take_add_one,List.getElem?_eq_getElem hlt];rfl
  have hkb:b.ds.take (i+1)=b.ds.take i++[b.ds[i]]:=by rw[List.take_add_one,List.getElem?_eq_getElem hltb];rfl
  have cE:=cD _ _ (List.getElem_mem hlt) (List.getElem_mem hltb)
  have hx36:=eP a.ds[i] .no (hta _ (List.getElem_mem hlt))
  have hy36:=eP b.ds[i] .no (htb _ (List.getElem_mem hltb))
  generalize a.ds[i]=x at *
  generalize b.ds[i]=y at *
  have hxo:=gP x .no
  have hyo:=gP y .no
  have hxn:=fQ x .no rfl
  have hyn:=fQ y .no rfl
  generalize TA x .no=X at *
  generalize TA y .no=Y at *
  refine aC fun K hK=>bK ?_
  refine aC fun K hK=>aA [] ?_
  simp only[qq,aF,Nat.reduceLT,aB,Nat.reduceEqDiff,aG,aI]
  (repeat' apply And.intro)<;>try (first|exact True.intro|omega)
  refine hK _ ?_
  clear hK K
  refine aE [2,3,5,23,24] ?_
  simp only[aD,aB,Nat.reduceEqDiff,if_true,if_false]
  refine aC fun K2 hK2=>?_
  refine dW [] (by kernel_rfl) (by kernel_rfl) ?_
  simp only[qq,aF,aN,Tryz.underlying70,bD,aB,Nat.reduceEqDiff,ne_eq,reduceCtorEq,Nat.reduceLT,aY,apart,aO,Tryz.underlying68,dN,Int.toNat_natCast,Tryz.underlying67,aU,Nat.reduceAdd,bF,aT,bA,bW,List.headD_cons,List.tail_cons,hbl,hbd,hDb,List.length_drop,hgb,aH,hal,had,hDa,hga]
  refine⟨⟨by omega,by omega⟩,by omega,⟨by omega,by omega⟩,by omega,?_⟩
  refine aV ⟨hxn,hyn⟩ cE rfl ?_
  by_cases hq:x=y
  ·rw[decide_eq_true hq]
   simp only[seval,kT]
   refine hK2 _ ?_
   clear hK2 K2
   refine aR rfl (bC ?_)
   simp only[bL,aI]
   refine hK _ ?_
   clear hK K
   refine aE [2,3,23,24] ?_
   simp only[aD,aB,Nat.reduceEqDiff,if_true,if_false]
   have w5:IntKind.i64.wrap ((i+1:Nat):Int)=((i+1:Nat):Int):=fD (by omega)
   refine aA [] ?_
   simp only[qq,aF,aB,Nat.reduceEqDiff,cav,aL,aP,bH,gO,w5,Nat.reduceLT,aG,aI]
   exact⟨i+1,⟨by omega,by rw[hka,hkb,ht,hq]⟩,by omega,.of_keep [2,3,23,24] rfl⟩
  ·rw[decide_eq_false hq]
   have hne:a.ds≠b.ds:=fun h=>by
    rw[← h,hka] at hkb
    have:=List.append_cancel_left hkb
    injection this with this
    exact hq this
   have hR0:=hR0 (.inr hne)
   subst hR0
   simp only[seval,kT]
   refine hK2 _ ?_
   clear hK2 K2
   apply bG rfl
   apply aE []
   simp only[aD]
   refine ks [4] ?_
   refine aS ?_
   simp only[aI,bL]
   simp only[qq,bR,eU,bN,bO,dA,aB,aH]
 ·have d:decide ((i:Int)<((a.ds.length:Nat):Int))=false:=decide_eq_false (by omega)
  have he:i=a.ds.length:=by omega
  subst he
  have hab:a.ds=b.ds:=by rw[List.take_length,q2,List.take_length] at ht;exact ht
  have hR1:=hR1 q0 hab
  subst hR1
  refine ky d ?_
  apply bJ
  apply aR rfl
  apply dR
  simp only[seval,kT,kF]
  refine hK1 _ ?_
  clear hK1 K1
  apply aE []
  simp only[aD]
  refine ks [4] ?_
  refine aS ?_
  simp only[qq,bR,eU,bN,bO,dA,aB,aH]
end Go.Proofs.YtefdnmeopbkflaaGreatDoor
namespace Go.Proofs.YtefdnmeopbkflaaGreatDoor
open Go Go.V
set_option linter.unusedSimpArgs false
set_option linter.unusedVariables false
set_option maxRecDepth 20000
set_option linter.unusedSectionVars false
def aJn (c:CavV):List eK:=if c.third then [(4,vb c.party),(5,c.id),(6,c.vault)] else [(3,c.text)]
def aJr (t:TokV):List eK:=[(1,vb t.key),(2,t.id)]++t.cavs.flatMap aJn++[(7,[if t.bound then 1 else 0]),(8,t.tag)]
theorem aSF [Gv] (c:CavV):kU c=V.join (aJn c):=by unfold kU aJn;split<;>rfl
theorem aRj [Gv] (l:List CavV):l.flatMap kU=V.join (l.flatMap aJn):=by
 induction l with
 | nil=>rfl
 | cons c l ih=>rw[List.flatMap_cons,List.flatMap_cons,nF,ih,aSF]
theorem aMe [Gv] (t:TokV):oS t=V.join (aJr t):=by
 unfold oS aJr
 rw[nF,nF,aRj]
theorem aSs [Gv] {m n:Nat} (h:vb m=vb n):m=n:=by rw[← aSr m,h,aSr]
theorem aSv [Gv] {c d:CavV} (hc:aGr c=true) (hd:aGr d=true):∀ {r s:List eK},aJn c++r=aJn d++s→c=d∧r=s:=by
 intro r s h
 obtain⟨t1,x1,p1,i1,v1⟩:=c
 obtain⟨t2,x2,p2,i2,v2⟩:=d
 unfold aGr at hc hd
 unfold aJn at h
 cases t1<;>cases t2<;>simp at hc hd h
 ·obtain⟨rfl,rfl⟩:=h
  obtain⟨_,⟨a1,a2⟩,a3⟩:=hc
  obtain⟨_,⟨b1,b2⟩,b3⟩:=hd
  subst a1 a2 a3 b1 b2 b3
  exact⟨rfl,rfl⟩
 ·obtain⟨h1,rfl,rfl,rfl⟩:=h
  have:=aSs h1
  subst this
  obtain⟨⟨a1,_⟩,_⟩:=hc
  obtain⟨⟨b1,_⟩,_⟩:=hd
  subst a1 b1
  exact⟨rfl,rfl⟩
theorem aMg [Gv] (c:CavV):∃ k v r,aJn c=(k,v)::r∧k≠7:=by
 unfold aJn
 split
 ·exact⟨4,_,_,rfl,by decide⟩
 ·exact⟨3,_,_,rfl,by decide⟩
theorem aRM [Gv]:∀ {l m:List CavV},(∀ c∈l,aGr c=true)→(∀ c∈m,aGr c=true)→∀ {x y:List UInt8} {r s:List eK},l.flatMap aJn++(7,x)::r=m.flatMap aJn++(7,y)::s→l=m∧x=y∧r=s
 | [],[],_,_,x,y,r,s,h=>by
  simp only[List.flatMap_nil,List.nil_append,List.cons.injEq,Prod.mk.injEq,true_and] at h
  exact⟨rfl,h.1,h.2⟩
 | [],d::m,_,_,x,y,r,s,h=>by
  obtain⟨k,v,q,e,hk⟩:=aMg d
  rw[List.flatMap_cons,e] at h
  simp at h
  exact absurd h.1.1.symm hk
 | c::l,[],_,_,x,y,r,s,h=>by
  obtain⟨k,v,q,e,hk⟩:=aMg c
  rw[List.flatMap_cons,e] at h
  simp at h
  exact absurd h.1.1 hk
 | c::l,d::m,hl,hm,x,y,r,s,h=>by
  rw[List.flatMap_cons,List.flatMap_cons,List.append_assoc,List.append_assoc] at h
  obtain⟨rfl,h2⟩:=aSv (hl c (by simp)) (hm d (by simp)) h
  obtain⟨rfl,h3⟩:=aRM (fun c hc=>hl c (by simp[hc])) (fun c hc=>hm c (by simp[hc])) h2
  exact⟨rfl,h3⟩
theorem aSb [Gv] {t u:TokV} (ht:okT t=true) (hu:okT u=true) (h:aJr t=aJr u):t=u:=by
 obtain⟨k1,i1,c1,b1,g1⟩:=t
 obtain⟨k2,i2,c2,b2,g2⟩:=u
 unfold aJr at h
 simp only[List.cons_append,List.nil_append,List.append_assoc,List.cons.injEq,Prod.mk.injEq,true_and] at h
 obtain⟨h1,rfl,h3⟩:=h
 have:=aSs h1
 subst this
 obtain⟨rfl,h4,h5⟩:=aRM (aGP ht).2.2 (aGP hu).2.2 h3
 simp only[List.cons.injEq,Prod.mk.injEq,true_and,and_true] at h4 h5
 subst h5
 have:b1=b2:=by cases b1<;>cases b2<;>simp_all
 subst this
 rfl
theorem aRV [Gv] {l m:List eK} (hl:kK l<18446744073709551616) (hm:kK m<18446744073709551616) (h:V.join l=V.join m):l=m:=by
 have h1:=vJ l hl
 have h2:=vJ m hm
 rw[h,h2] at h1
 exact(Option.some.inj h1).symm
theorem aRS [Gv] {t u:TokV} (ht:okT t=true) (hu:okT u=true) (st:small t) (su:small u) (h:oS t=oS u):t=u:=by
 have l1:=aBB t ht st
 have l2:=aBB u hu su
 rw[aMe] at h l1
 rw[aMe] at h l2
 have b1:=aJD (aJr t)
 have b2:=aJD (aJr u)
 exact aSb ht hu (aRV (by omega) (by omega) h)
def aRT (b:BunV):List eK:=(16,oS b.root)::b.ds.map fun d=>(17,oS d)
theorem aJl [Gv] (b:BunV):pW b=V.join (aRT b):=by
 unfold pW aRT
 rw[join_cons]
 congr 1
 induction b.ds with
 | nil=>rfl
 | cons d l ih=>rw[List.flatMap_cons,List.map_cons,join_cons,ih]
theorem aSZ [Gv]:∀ {l m:List TokV},(∀ d∈l,okT d=true)→(∀ d∈m,okT d=true)→(∀ d∈l,small d)→(∀ d∈m,small d)→(l.map fun d=>((17:UInt8),oS d))=(m.map fun d=>((17:UInt8),oS d))→l=m
 | [],[],_,_,_,_,_=>rfl
 | [],y::m,_,_,_,_,h=>by cases h
 | x::l,[],_,_,_,_,h=>by cases h
 | x::l,y::m,h1,h2,s1,s2,h=>by
  simp only[List.map_cons,List.cons.injEq,Prod.mk.injEq,true_and] at h
  have hxy:=aRS (h1 x (by simp)) (h2 y (by simp)) (s1 x (by simp)) (s2 y (by simp)) h.1
  subst hxy
  rw[aSZ (fun d hd=>h1 d (by simp[hd])) (fun d hd=>h2 d (by simp[hd])) (fun d hd=>s1 d (by simp[hd])) (fun d hd=>s2 d (by simp[hd])) h.2]
theorem aSE [Gv] {a b:BunV} (ha:okB a=true) (hb:okB b=true) (sa:aHD a) (sb:aHD b) (la:(pW a).length≤65536) (lb:(pW b).length≤65536) (h:pW a=pW b):a=b:=by
 obtain⟨_,_,a3,a4⟩:=(aBT a).1 ha
 obtain⟨_,_,b3,b4⟩:=(aBT b).1 hb
 rw[aJl] at h la
 rw[aJl] at h lb
 have b1:=aJD (aRT a)
 have b2:=aJD (aRT b)
 have hf:=aRV (by omega) (by omega) h
 obtain⟨r1,d1⟩:=a
 obtain⟨r2,d2⟩:=b
 unfold aRT at hf
 simp only[List.cons.injEq,Prod.mk.injEq,true_and] at hf
 have hr:=aRS a3 b3 sa.1 sb.1 hf.1
 simp only at hr a4 b4
 subst hr
 have hds:d1=d2:=aSZ (fun d hd=>(a4 d hd).2) (fun d hd=>(b4 d hd).2) sa.2.2 sb.2.2 hf.2
 subst hds
 rfl
theorem aRQ [Gv] {α:Type} (M:Nat) (f:Nat→List UInt8→α) (hf:∀ acc d r,d<10→acc*10+d≤M→f acc (UInt8.ofNat (48+d)::r)=f (acc*10+d) r) :
  ∀ u r,u≤M→f 0 (Lib.decDigits u++r)=f u r:=by
 intro u
 induction u using Nat.strongRecOn with
 | ind u ih=>
  intro r hu
  by_cases h:u<10
  ·rw[Lib.decDigits,dif_pos h,List.singleton_append,hf 0 u r h (by omega),Nat.zero_mul,Nat.zero_add]
  ·rw[Lib.decDigits,dif_neg h,List.append_assoc,ih (u/10) (by omega) _ (by omega),List.singleton_append,hf _ _ _ (by omega) (by omega)]
   congr 1
   omega
theorem aIw [Gv] {d:Nat} (h:d<10):(UInt8.ofNat (48+d)).toNat=48+d:=by rw[UInt8.toNat_ofNat'];omega
theorem aFg [Gv] (u:Nat):Lib.decDigits u≠[]:=by
 rw[Lib.decDigits]
 split
 ·simp
 ·simp
theorem lS [Gv] (u:Nat):∀ c∈Lib.decDigits u,48≤c.toNat∧c.toNat≤57:=by
 induction u using Nat.strongRecOn with
 | ind u ih=>
  intro c hc
  rw[Lib.decDigits] at hc
  split at hc
  ·simp only[List.mem_singleton] at hc
   subst hc
   rw[aIw (by assumption)]
   omega
  ·rcases List.mem_append.1 hc with hc|hc
   ·exact ih _ (by omega) c hc
   ·simp only[List.mem_singleton] at hc
    subst hc
    rw[aIw (by omega)]
    omega
theorem aRy [Gv] (u:Nat) (h:u<18446744073709551616):Lib.parseUintB 64 (Lib.decDigits u)=.ok u:=by
 unfold Lib.parseUintB
 rw[if_neg (aFg u)]
 have:=aRQ (2^64 - 1) (fun acc l=>Lib.parseUintM (2^64 - 1) acc l) (fun acc d r hd hb=>by
  simp only[Lib.parseUintM,aIw hd]
  rw[if_pos (by omega),if_neg (by omega),if_neg (by omega)]
  congr 1
  omega) u [] (by omega)
 simpa[Lib.parseUintM] using this
theorem aRw [Gv] (u:Nat) (h:u<18446744073709551616):Lib.parseMag (Lib.decDigits u)=.ok u:=by rw[← Lib.parseUintB_64];exact aRy u h
theorem aLI [Gv] (n:Int) (h0:-9223372036854775808≤n) (h1:n≤9223372036854775807):Lib.atoiAll (Lib.itoa n)=.ok n:=by
 by_cases hn:n<0
 ·obtain⟨u,rfl⟩:∃ u:Nat,n=-(u:Int):=⟨n.natAbs,by omega⟩
  rw[Lib.itoa_neg u (by omega)]
  simp only[Lib.atoiAll]
  have e:(45:UInt8).toNat=45:=rfl
  rw[e,if_pos (.inr rfl),aRw u (by omega)]
  simp only
  rw[if_neg (by simp),if_neg (by omega),if_pos trivial]
 ·obtain⟨u,rfl⟩:∃ u:Nat,n=(u:Int):=⟨n.natAbs,by omega⟩
  rw[Lib.itoa_nonneg u]
  have hne:=aFg u
  have hd:=lS u
  have hm:=aRw u (by omega)
  cases hL:Lib.decDigits u with
  | nil=>exact absurd hL hne
  | cons c r=>
   rw[hL] at hm hd
   have hc:=hd c (by simp)
   simp only[Lib.atoiAll]
   rw[if_neg (by omega),hm]
   simp only
   rw[if_neg (by omega),if_neg (by omega),if_neg (by omega)]
theorem aJF [Gv] (u:Nat):pD u≠[]:=by
 rw[pD]
 split
 ·simp
 ·simp
theorem aSd [Gv] {α:Type} (M:Nat) (f:Nat→List UInt8→α) (hf:∀ acc d r,d<16→acc*16+d≤M→f acc (aED d::r)=f (acc*16+d) r) :
  ∀ u r,u≤M→f 0 (pD u++r)=f u r:=by
 intro u
 induction u using Nat.strongRecOn with
 | ind u ih=>
  intro r hu
  by_cases h:u<16
  ·rw[pD,dif_pos h,List.singleton_append,hf 0 u r h (by omega),Nat.zero_mul,Nat.zero_add]
  ·rw[pD,dif_neg h,List.append_assoc,ih (u/16) (by omega) _ (by omega),List.singleton_append,hf _ _ _ (by omega) (by omega)]
   congr 1
   omega
theorem aTe [Gv] {d:Nat} (h:d<10):dig (UInt8.ofNat (48+d))=some d:=by
 have:=aIw h
 unfold dig
 rw[if_pos (by omega),this]
 congr 1;omega
theorem aTf [Gv] {d:Nat} (h:d<16):dig (aED d)=some d:=by
 have:∀ d:Fin 16,dig (aED d.val)=some d.val:=by decide
 exact this ⟨d,h⟩
theorem aSm [Gv] (k u:Nat) (h:u≤2^k - 1):puF 10 k (Lib.decDigits u)=(u,0):=by
 unfold puF
 rw[if_neg (aFg u)]
 have:=aRQ (2^k - 1) (fun acc l=>puL 10 (2^k - 1) l acc) (fun acc d r hd hb=>by
  simp only[puL,aTe hd]
  rw[if_neg (by omega),if_neg (by omega)]) u [] h
 simpa[puL] using this
theorem aTX [Gv] (k u:Nat) (h:u≤2^k - 1):puF 16 k (pD u)=(u,0):=by
 unfold puF
 rw[if_neg (aJF u)]
 have:=aSd (2^k - 1) (fun acc l=>puL 16 (2^k - 1) l acc) (fun acc d r hd hb=>by
  simp only[puL,aTf hd]
  rw[if_neg (by omega),if_neg (by omega)]) u [] h
 simpa[puL] using this
theorem aMq [Gv] (u:Nat):∀ c∈pD u,(48≤c.toNat∧c.toNat≤57)∨(97≤c.toNat∧c.toNat≤102):=by
 have hd:∀ d:Fin 16,(48≤(aED d.val).toNat∧(aED d.val).toNat≤57)∨(97≤(aED d.val).toNat∧(aED d.val).toNat≤102):=by decide
 induction u using Nat.strongRecOn with
 | ind u ih=>
  intro c hc
  rw[pD] at hc
  split at hc
  ·rename_i h
   simp only[List.mem_singleton] at hc
   subst hc
   exact hd ⟨u,h⟩
  ·rcases List.mem_append.1 hc with hc|hc
   ·exact ih _ (by omega) c hc
   ·simp only[List.mem_singleton] at hc
    subst hc
    exact hd ⟨u%16,by omega⟩
theorem aSe [Gv] {u:Nat} (h:pD u=[48]):u=0:=by
 by_cases h16:u<16
 ·rw[pD,dif_pos h16] at h
  have hd:∀ d:Fin 16,aED d.val=48→d.val=0:=by decide
  injection h with h
  exact hd ⟨u,h16⟩ h
 ·rw[pD,dif_neg h16] at h
  have:=congrArg List.length h
  have hn:=List.length_pos_iff.2 (aJF (u/16))
  simp at this
  exact absurd this (aJF _)
theorem aSz [Gv] {u:Nat}:∀ k,u<16^(k+1)→(pD u).length≤k+1:=by
 intro k
 induction k generalizing u with
 | zero=>intro h;rw[pD,dif_pos (by simpa using h)];simp
 | succ k ih=>
  intro h
  rw[pD]
  split
  ·simp
  ·have:=ih (u:=u/16) (by rw[Nat.pow_succ] at h;omega)
   simp;omega
theorem aTF [Gv] (l:List (List UInt8)) (k:Nat):∀ j,k≤j→j<oY l k→l.getD j []=[48]:=by
 fun_induction oY l k with
 | case1 k h hz ih=>
  intro j h1 h2
  by_cases e:j=k
  ·subst e;exact hz
  ·exact ih j (by omega) h2
 | case2=>intro j h1 h2;omega
 | case3=>intro j h1 h2;omega
theorem aTT [Gv] (l:List (List UInt8)) (n:Nat):(∀ j,(rX l n).1≤j→j<(rX l n).2→l.getD j []=[48])∧((rX l n).2=0∨(rX l n).1+2≤(rX l n).2):=by
 induction n with
 | zero=>exact⟨fun j h1 h2=>by simp[rX] at h2,.inl rfl⟩
 | succ n ih=>
  rw[aCu]
  unfold aAQ
  split
  ·rename_i h
   exact⟨aTF l n,.inr (by simp only;omega)⟩
  ·exact ih
theorem uK [Gv] (x y:List UInt8) (r:List (List UInt8)) (sep:List UInt8):Lib.join (x::y::r) sep=x++sep++Lib.join (y::r) sep:=by
 rw[Lib.join_cons,Lib.join_cons]
 simp[Lib.joinTail]
theorem aDE [Gv] (c:UInt8):∀ (L:List (List UInt8)),(∀ w∈L,w≠[]∧c∉w)→∀ (B:List UInt8) (j:Nat),j<(Lib.join L [c]).length→Lib.occAt (Lib.join L [c]++c::c::B) [c,c] j=false
 | [],_,B,j,hj=>by simp[Lib.join_nil] at hj
 | [x],h,B,j,hj=>by
  rw[Lib.join_one] at hj ⊢
  have hx:=(h x (by simp)).2
  unfold Lib.occAt
  rw[List.drop_append_of_le_length (by omega),List.drop_eq_getElem_cons hj]
  have hne:¬ c=x[j]:=fun e=>hx (e ▸ List.getElem_mem hj)
  rw[List.cons_append]
  simp only[List.isPrefixOf]
  rw[beq_eq_false_iff_ne.2 hne,Bool.false_and]
 | x::y::r,h,B,j,hj=>by
  rw[uK] at hj ⊢
  have hx:=(h x (by simp)).2
  have hy:=h y (by simp)
  have ih:=aDE c (y::r) (fun w hw=>h w (by simp[hw])) B
  have hJ:∃ a t,Lib.join (y::r) [c]=a::t∧a≠c:=by
   rw[Lib.join_cons]
   cases hy0:y with
   | nil=>exact absurd hy0 hy.1
   | cons a t=>exact⟨a,_,rfl,fun e=>hy.2 (by rw[hy0,e];simp)⟩
  obtain⟨a,t,hat,hac⟩:=hJ
  unfold Lib.occAt
  by_cases h1:j<x.length
  ·rw[List.append_assoc,List.append_assoc,List.drop_append_of_le_length (by omega),List.drop_eq_getElem_cons h1]
   have hne:¬ c=x[j]:=fun e=>hx (e ▸ List.getElem_mem h1)
   rw[List.cons_append]
   simp only[List.isPrefixOf]
   rw[beq_eq_false_iff_ne.2 hne,Bool.false_and]
  ·by_cases h2:j=x.length
   ·subst h2
    rw[List.append_assoc,List.append_assoc,List.drop_left,hat]
    have:¬ c=a:=fun e=>hac e.symm
    simp[List.isPrefixOf,this]
   ·have:=ih (j - x.length - 1) (by simp at hj;omega)
    unfold Lib.occAt at this
    rw[show x++[c]++Lib.join (y::r) [c]++c::c::B=(x++[c])++(Lib.join (y::r) [c]++c::c::B) by simp,List.drop_append,List.drop_eq_nil_of_le (by simp;omega),List.nil_append]
    have e:j - (x++[c]).length=j - x.length - 1:=by simp;omega
    rw[e]
    exact this
theorem aSY [Gv] (c:UInt8) (L:List (List UInt8)) (h:∀ w∈L,w≠[]∧c∉w) (B:List UInt8):Lib.cut (Lib.join L [c]++[c,c]++B) [c,c]=(Lib.join L [c],B,true):=by
 have e:Lib.join L [c]++[c,c]++B=Lib.join L [c]++c::c::B:=by simp
 rw[e]
 have hi:Lib.index (Lib.join L [c]++c::c::B) [c,c]=((Lib.join L [c]).length:Nat):=Lib.index_first (by simp) (by simp[Lib.occAt,List.isPrefixOf]) (fun j hj=>aDE c L h B j hj)
 unfold Lib.cut
 rw[hi,if_pos (by omega)]
 simp
theorem aKt [Gv] (c:UInt8) (L:List (List UInt8)) (h:∀ w∈L,w≠[]∧c∉w):Lib.cut (Lib.join L [c]) [c,c]=(Lib.join L [c],[],false):=by
 have hi:Lib.index (Lib.join L [c]) [c,c]=-1:=by
  refine Lib.index_none fun j hj=>?_
  by_cases hl:j<(Lib.join L [c]).length
  ·have:=aDE c L h [] j hl
   unfold Lib.occAt at this ⊢
   rw[List.drop_append_of_le_length (by omega)] at this
   generalize (Lib.join L [c]).drop j=D at *
   match D with
   | []=>rfl
   | [a]=>simp[List.isPrefixOf]
   | a::b::r=>simpa[List.isPrefixOf] using this
  ·have:j=(Lib.join L [c]).length:=by omega
   subst this
   simp[Lib.occAt,List.isPrefixOf]
 unfold Lib.cut
 rw[hi]
 rfl
theorem aRv [Gv] (c:UInt8) (L:List (List UInt8)) (h:∀ w∈L,w≠[]) (hne:L≠[]):Lib.join L [c]≠[]:=by
 cases L with
 | nil=>exact absurd rfl hne
 | cons x r=>
  rw[Lib.join_cons]
  have:=h x (by simp)
  simp[this]
theorem aBP [Gv] (c:UInt8) (m:Nat):∀ (L:List (List UInt8)),L≠[]→(∀ w∈L,w.length≤m)→(Lib.join L [c]).length+1≤L.length*(m+1)
 | [],h,_=>absurd rfl h
 | [x],_,h=>by
  rw[Lib.join_one]
  have:=h x (by simp)
  simp;omega
 | x::y::r,_,h=>by
  have h1:=h x (by simp)
  have h2:=aBP c m (y::r) (by simp) (fun w hw=>h w (by simp[hw]))
  rw[uK]
  simp only[List.length_append,List.length_cons,List.length_nil,Nat.add_mul,Nat.one_mul] at h2 ⊢
  omega
theorem qK [Gv] (c:UInt8):∀ (L:List (List UInt8)) (x:UInt8),x∈Lib.join L [c]→x=c∨∃ w∈L,x∈w
 | [],x,h=>by simp[Lib.join_nil] at h
 | [y],x,h=>by rw[Lib.join_one] at h;exact .inr ⟨y,by simp,h⟩
 | y::z::r,x,h=>by
  rw[uK] at h
  rcases List.mem_append.1 h with h|h
  ·rcases List.mem_append.1 h with h|h
   ·exact .inr ⟨y,by simp,h⟩
   ·exact .inl (by simpa using h)
  ·rcases qK c (z::r) x h with h|⟨w,hw,h⟩
   ·exact .inl h
   ·exact .inr ⟨w,by simp at hw ⊢;rcases hw with hw|hw<;>simp[hw],h⟩
theorem aJG [Gv] (L:List Nat):∀ w∈L.map pD,w≠[]∧(58:UInt8)∉w:=by
 intro w hw
 obtain⟨v,_,rfl⟩:=List.mem_map.1 hw
 refine⟨aJF v,fun h=>?_⟩
 have:=aMq v 58 h
 have e:(58:UInt8).toNat=58:=rfl
 omega
theorem aRA [Gv] (L:List Nat) (h:∀ v∈L,v<65536):pO 16 58 (Lib.join (L.map pD) [58])=L:=by
 unfold pO
 by_cases h0:L=[]
 ·subst h0;rfl
 ·have hne:L.map pD≠[]:=by simpa using h0
  rw[if_neg (aRv 58 _ (fun w hw=>(aJG L w hw).1) hne),vS 58 _ hne (fun w hw=>(aJG L w hw).2),List.map_map]
  conv=>rhs;rw[← List.map_id L]
  refine List.map_congr_left fun v hv=>?_
  have:=h v hv
  simp only[Function.comp,id]
  rw[aTX 16 v (by omega)]
  simp only
  omega
theorem aRr [Gv] {b:List UInt8} (hb:b.length=16):∃ b0 b1 b2 b3 b4 b5 b6 b7 b8 b9 ba bb bc bd be bf,b=[b0,b1,b2,b3,b4,b5,b6,b7,b8,b9,ba,bb,bc,bd,be,bf]:=by
 match b,hb with
 | [b0,b1,b2,b3,b4,b5,b6,b7,b8,b9,ba,bb,bc,bd,be,bf],_=>exact⟨_,_,_,_,_,_,_,_,_,_,_,_,_,_,_,_,rfl⟩
def lC (b:List UInt8):List Nat:=(List.range 8).map (aEB b)
theorem aSc [Gv] (b:List UInt8) (i:Nat):aEB b i<65536:=by
 unfold aEB
 have:=(b.getD (2*i) 0).toNat_lt
 have:=(b.getD (2*i+1) 0).toNat_lt
 omega
theorem aBC [Gv] (b:List UInt8):aTo b=(lC b).map pD:=by simp[aTo,lC]
theorem hi8 [Gv] (a c:UInt8):UInt8.ofNat ((a.toNat*256+c.toNat)/256)=a:=by
 have:=c.toNat_lt
 rw[show (a.toNat*256+c.toNat)/256=a.toNat by omega]
 simp
theorem lo8 [Gv] (a c:UInt8):UInt8.ofNat (a.toNat*256+c.toNat)=c:=by
 apply UInt8.toNat_inj.1
 rw[UInt8.toNat_ofNat']
 have:=c.toNat_lt
 omega
theorem aRe [Gv] {b:List UInt8} (hb:b.length=16):vR (lC b) 8=b:=by
 obtain⟨b0,b1,b2,b3,b4,b5,b6,b7,b8,b9,ba,bb,bc,bd,be,bf,rfl⟩:=aRr hb
 have e:lC [b0,b1,b2,b3,b4,b5,b6,b7,b8,b9,ba,bb,bc,bd,be,bf]=[b0.toNat*256+b1.toNat,b2.toNat*256+b3.toNat,b4.toNat*256+b5.toNat,b6.toNat*256+b7.toNat,b8.toNat*256+b9.toNat,ba.toNat*256+bb.toNat,bc.toNat*256+bd.toNat,be.toNat*256+bf.toNat]:=rfl
 rw[e]
 simp only[vR,Z,List.getD_cons_zero,List.getD_cons_succ,hi8,lo8]
 rfl
theorem aSQ [Gv] {b:List UInt8} {f t:Nat} (hft:f≤t) (ht:t≤8) (hz:∀ j,f≤j→j<t→(aTo b).getD j []=[48]):aEQ ((lC b).take f) ((lC b).drop t)=lC b:=by
 have hl:(lC b).length=8:=by simp[lC]
 have hmid:((lC b).drop f).take (t - f)=zz (t - f):=by
  refine List.ext_getElem? fun i=>?_
  by_cases hi:i<t - f
  ·have h1:=hz (f+i) (by omega) (by omega)
   rw[aBC] at h1
   have hlt:f+i<(lC b).length:=by omega
   rw[List.getElem?_take,if_pos hi,List.getElem?_drop,List.getElem?_eq_getElem hlt]
   rw[List.getD_eq_getElem?_getD,List.getElem?_map,List.getElem?_eq_getElem hlt] at h1
   have:=aSe h1
   rw[this]
   simp[zz,hi]
  ·rw[List.getElem?_eq_none (by simp;omega),List.getElem?_eq_none (by simp[zz];omega)]
 unfold aEQ
 have e:8 - ((lC b).take f).length - ((lC b).drop t).length=t - f:=by simp[hl];omega
 rw[e,← hmid]
 conv=>rhs;rw[← List.take_append_drop f (lC b),← List.take_append_drop (t - f) ((lC b).drop f),List.drop_drop]
 rw[show f+(t - f)=t by omega,List.append_assoc]
theorem aTg [Gv] {s:List UInt8} (h:(58:UInt8)∈s):0≤Lib.indexByte s 58:=by
 have:=Lib.indexByte_ge s 58
 by_cases e:Lib.indexByte s 58=-1
 ·obtain⟨k,hk⟩:=List.mem_iff_getElem?.1 h
  exact absurd hk (Lib.indexByte_none e k)
 ·omega
theorem aTn [Gv] {s:List UInt8} (h:(58:UInt8)∉s):¬ 0≤Lib.indexByte s 58:=by
 intro h0
 obtain⟨o,ho⟩:∃ o:Nat,Lib.indexByte s 58=o:=⟨(Lib.indexByte s 58).toNat,by omega⟩
 exact h (List.mem_of_getElem? (Lib.indexByte_some ho).1)
theorem aRg [Gv] {b:List UInt8} (hb:b.length=16):aTq (tB true b)=some (true,b):=by
 have hT:tB true b=aDv (aTo b):=rfl
 have hl:(lC b).length=8:=by simp[lC]
 have hlT:(aTo b).length=8:=by simp[aTo]
 have h16:∀ v∈lC b,v<65536:=fun v hv=>by
  obtain⟨i,_,rfl⟩:=List.mem_map.1 hv
  exact aSc b i
 have h4:∀ w∈aTo b,w.length≤4:=fun w hw=>by
  rw[aBC] at hw
  obtain⟨v,hv,rfl⟩:=List.mem_map.1 hw
  exact aSz 3 (by have:=h16 v hv;omega)
 have key:aBv (aDv (aTo b))=some b∧(aDv (aTo b)).length≤39∧(58:UInt8)∈aDv (aTo b):=by
  obtain⟨z1,z2⟩:=aTT (aTo b) (aTo b).length
  obtain⟨n1,n2⟩:=aEL (aTo b) (aTo b).length (Nat.le_refl _)
  unfold aDv
  generalize rX (aTo b) (aTo b).length=N at *
  by_cases h0:N.2=0
  ·rw[if_pos h0]
   refine⟨?_,?_,?_⟩
   ·have hc:=aKt 58 ((lC b).map pD) (aJG _)
    rw[← aBC] at hc
    unfold aBv
    rw[hc]
    simp only
    rw[aBC,aRA _ h16,show pO 16 58 []=[] from rfl,hl,if_neg (by simp)]
    have:aEQ (lC b) []=lC b:=by simp[aEQ,hl,zz]
    rw[this,aRe hb]
   ·have:=aBP 58 4 (aTo b) (fun e=>by rw[e] at hlT;cases hlT) h4
    rw[hlT] at this
    omega
   ·match hg:aTo b,hlT with
    | x::y::r,_=>rw[uK];simp
  ·rw[if_neg h0]
   have hz2:N.1+2≤N.2:=by omega
   rw[hlT] at n2
   refine⟨?_,?_,by simp⟩
   ·have hc:=aSY 58 (((lC b).take N.1).map pD) (aJG _) (Lib.join ((aTo b).drop N.2) [58])
    have e1:(aTo b).take N.1=((lC b).take N.1).map pD:=by rw[aBC,List.map_take]
    have e2:(aTo b).drop N.2=((lC b).drop N.2).map pD:=by rw[aBC,List.map_drop]
    unfold aBv
    rw[e1,hc]
    simp only
    rw[e2,aRA _ (fun v hv=>h16 v (List.mem_of_mem_take hv)),aRA _ (fun v hv=>h16 v (List.mem_of_mem_drop hv))]
    rw[if_neg (by simp[hl];omega),aSQ n1 n2 z1,aRe hb]
   ·have j1:(Lib.join ((aTo b).take N.1) [58]).length≤N.1*5:=by
     by_cases e:(aTo b).take N.1=[]
     ·rw[e,Lib.join_nil];simp
     ·have:=aBP 58 4 _ e (fun w hw=>h4 w (List.mem_of_mem_take hw))
      rw[List.length_take,hlT] at this
      omega
    have j2:(Lib.join ((aTo b).drop N.2) [58]).length≤(8 - N.2)*5:=by
     by_cases e:(aTo b).drop N.2=[]
     ·rw[e,Lib.join_nil];simp
     ·have:=aBP 58 4 _ e (fun w hw=>h4 w (List.mem_of_mem_drop hw))
      rw[List.length_drop,hlT] at this
      omega
    simp only[List.length_append,List.length_cons,List.length_nil]
    omega
 rw[hT]
 unfold aTq
 rw[if_neg (by omega),if_pos (aTg key.2.2),key.1]
 unfold nS
 simp only
 rw[hT,if_pos rfl]
theorem aRm [Gv] {b0 b1 b2 b3:UInt8}:aCL [b0.toNat,b1.toNat,b2.toNat,b3.toNat] 4=[b0,b1,b2,b3]++Z 12:=by
 simp only[aCL,Z,List.getD_cons_zero,List.getD_cons_succ]
 simp
theorem aTm [Gv] {u:Nat} (h:u<256):(Lib.decDigits u).length≤3:=by
 rw[Lib.decDigits]
 split
 ·simp
 ·rw[Lib.decDigits]
  split
  ·simp
  ·rw[Lib.decDigits,dif_pos (by omega)]
   simp
theorem aRu [Gv] (L:List Nat):∀ w∈L.map Lib.decDigits,w≠[]∧(46:UInt8)∉w:=by
 intro w hw
 obtain⟨v,_,rfl⟩:=List.mem_map.1 hw
 refine⟨aFg v,fun h=>?_⟩
 have:=lS v 46 h
 have e:(46:UInt8).toNat=46:=rfl
 omega
theorem aSy [Gv] (L:List Nat) (hne:L≠[]) (h:∀ v∈L,v<65536):pO 10 46 (Lib.join (L.map Lib.decDigits) [46])=L:=by
 unfold pO
 have hne':L.map Lib.decDigits≠[]:=by simpa using hne
 rw[if_neg (aRv 46 _ (fun w hw=>(aRu L w hw).1) hne'),vS 46 _ hne' (fun w hw=>(aRu L w hw).2),List.map_map]
 conv=>rhs;rw[← List.map_id L]
 refine List.map_congr_left fun v hv=>?_
 have:=h v hv
 simp only[Function.comp,id]
 rw[aSm 16 v (by omega)]
 simp only
 omega
theorem aRH [Gv] {b:List UInt8} (hb:b.length=16) (hF:lP false b=true):aTq (tB false b)=some (false,b):=by
 have hT:tB false b=Lib.join (jN b) [46]:=by unfold tB;rw[if_pos hF];rfl
 obtain⟨b0,b1,b2,b3,b4,b5,b6,b7,b8,b9,ba,bb,bc,bd,be,bf,rfl⟩:=aRr hb
 have hz:[b4,b5,b6,b7,b8,b9,ba,bb,bc,bd,be,bf]=Z 12:=by simpa[lP] using hF
 have hd:jN [b0,b1,b2,b3,b4,b5,b6,b7,b8,b9,ba,bb,bc,bd,be,bf]=[b0.toNat,b1.toNat,b2.toNat,b3.toNat].map Lib.decDigits:=by
  simp[jN,Lib.itoa_nonneg]
 have l0:=b0.toNat_lt
 have l1:=b1.toNat_lt
 have l2:=b2.toNat_lt
 have l3:=b3.toNat_lt
 rw[hT,hd]
 have h39:(Lib.join ([b0.toNat,b1.toNat,b2.toNat,b3.toNat].map Lib.decDigits) [46]).length≤39:=by
  have:=aBP 46 3 ([b0.toNat,b1.toNat,b2.toNat,b3.toNat].map Lib.decDigits) (by simp) (fun w hw=>by
   obtain⟨v,hv,rfl⟩:=List.mem_map.1 hw
   refine aTm ?_
   simp only[List.mem_cons,List.not_mem_nil,or_false] at hv
   rcases hv with rfl|rfl|rfl|rfl<;>omega)
  simp only[List.length_map,List.length_cons,List.length_nil] at this
  omega
 have hno:(58:UInt8)∉Lib.join ([b0.toNat,b1.toNat,b2.toNat,b3.toNat].map Lib.decDigits) [46]:=by
  intro h
  rcases qK 46 _ _ h with h|⟨w,hw,h⟩
  ·cases h
  ·obtain⟨v,_,rfl⟩:=List.mem_map.1 hw
   have:=lS v 58 h
   have e:(58:UInt8).toNat=58:=rfl
   omega
 unfold aTq
 rw[if_neg (by omega),if_neg (aTn hno)]
 unfold aFa
 rw[aSy _ (by simp) (fun v hv=>by
  simp only[List.mem_cons,List.not_mem_nil,or_false] at hv
  rcases hv with rfl|rfl|rfl|rfl<;>omega),if_pos (show [b0.toNat,b1.toNat,b2.toNat,b3.toNat].length=4 from rfl)]
 unfold nS
 simp only
 rw[aRm,← hz]
 simp only[List.cons_append,List.nil_append]
 rw[hT,hd,if_pos rfl]
theorem aRI [Gv] {v6:Bool} {b:List UInt8} (hb:b.length=16) (hF:lP v6 b=true):aTq (tB v6 b)=some (v6,b):=by
 cases v6 with
 | true=>exact aRg hb
 | false=>exact aRH hb hF
theorem aSH [Gv] {n r:Nat} {p:Int} (h0:0<n) (h1:n<9007199254740992) (hr:0<r) (hi:r<9218868437227405312)
  (h:(p≤fe r∧n=fm r*2^(fe r - p).toNat)∨(fe r≤p∧fm r=n*2^(p - fe r).toNat)) (hp:-3000≤p∧p≤3000):ldV n p=r:=by
 have hnr:=vA (m:=n) (p:=p) false hr hi h
 rw[aGL] at hnr
 obtain⟨hl,ha,hb⟩:=pP h0 h1
 have hge:=aLZ r
 obtain⟨hf0,hlog⟩:=aNz hr
 have hfe:fe r≤971:=by unfold fe;split<;>omega
 -- ex
 have hex:(n.log2:Int)+p=(fm r).log2+fe r:=by
  rcases h with⟨a,b⟩|⟨a,b⟩
  ·have:=congrArg Nat.log2 b
   rw[rS _ hf0] at this
   omega
  ·have:=congrArg Nat.log2 b
   rw[rS _ (by omega)] at this
   omega
 have hnrm:nrm (cvt n)=cvt n:=by unfold nrm;rw[if_neg (by unfold cvt;omega)]
 have hnrE:aAG (cvt n)=0:=by unfold aAG;rw[if_neg (by unfold cvt;omega)]
 have hd:cvt n/4503599627370496=1023+n.log2:=by unfold cvt;omega
 have hm:cvt n%4503599627370496=n*2^(52 - n.log2) - 4503599627370496:=by unfold cvt;omega
 have hE:vW (cvt n) p=p+n.log2:=by
  unfold vW
  have q1:IntKind.i64.wrap p=p:=lY (by omega) (by omega)
  rw[hnrE,hnrm,hd,Int.add_zero,q1,lY (by omega) (by omega)]
  omega
 unfold ldV
 rw[if_neg (by omega),hnrm,hE]
 unfold qU
 rw[hm]
 generalize hM:n*2^(52 - n.log2)=M at *
 obtain⟨ex,hx⟩:∃ ex:Int,p+(n.log2:Int)=ex:=⟨_,rfl⟩
 rw[hx]
 rw[if_neg (by omega),if_neg (by omega)]
 by_cases hd:ex < -1022
 ·rw[if_pos hd]
  obtain⟨k,hk⟩:∃ k:Nat,ex+1075=k:=⟨(ex+1075).toNat,by omega⟩
  have e1:(ex+1076).toNat*4503599627370496+(M - 4503599627370496)=k*4503599627370496+M:=by omega
  obtain⟨b1,b2⟩:=xQ (k:=k) ha hb
  have c1:fm 4368491638549381120=4503599627370496:=by decide +kernel
  have c2:fe 4368491638549381120=-105:=by decide +kernel
  have c3:dX 4368491638549381120=4368491638549381120:=by decide +kernel
  have c4:kV 4368491638549381120=false:=by decide +kernel
  obtain⟨R,hR⟩:∃ R,k*4503599627370496+M=R:=⟨_,rfl⟩
  rw[hR] at e1 b1 b2
  have hlt:R<9218868437227405312:=by omega
  have hfr:dX R=R:=gD (by omega)
  have hng:kV R=false:=mJ (by omega)
  rw[e1,aEJ _ _ (by rw[c3];decide) (by rw[hfr];exact hlt),c4,hng,c3,hfr,b1,b2,c1,c2]
  have h6:4503599627370496*M=fm r*2^(fe r - (-105+(-1074+(k:Int)))).toNat:=by
   have e52:(4503599627370496:Nat)=2^52:=by decide
   rw[← hM,e52]
   rcases h with⟨a,b⟩|⟨a,b⟩
   ·conv=>lhs;rw[b]
    rw[Nat.mul_comm,Nat.mul_assoc,Nat.mul_assoc,← Nat.pow_add,← Nat.pow_add]
    rw[← b]
    exact congrArg (fun e=>fm r*2^e) (by omega)
   ·rw[b,Nat.mul_assoc n,← Nat.pow_add,Nat.mul_left_comm,← Nat.pow_add]
    exact congrArg (fun e=>n*2^e) (by omega)
  have:=vA (r:=r) (p:=-105+(-1074+(k:Int))) false hr hi (.inl ⟨by omega,h6⟩)
  rw[aGL] at this
  simp only[Bool.xor_false]
  rw[this,Option.getD_some]
 ·rw[if_neg hd]
  obtain⟨k,hk⟩:∃ k:Nat,ex+1022=k:=⟨(ex+1022).toNat,by omega⟩
  have e1:(ex+1023).toNat*4503599627370496+(M - 4503599627370496)=k*4503599627370496+M:=by omega
  obtain⟨b1,b2⟩:=xQ (k:=k) ha hb
  obtain⟨R,hR⟩:∃ R,k*4503599627370496+M=R:=⟨_,rfl⟩
  rw[hR] at e1 b1 b2
  have h7:0<R:=by omega
  have h8:R<9218868437227405312:=by omega
  have h5:fe R≤p:=by rw[b2];omega
  have h6:fm R=n*2^(p - fe R).toNat:=by
   rw[b1,b2,← hM]
   exact congrArg (fun e=>n*2^e) (by omega)
  have:=vA (r:=R) (m:=n) (p:=p) false h7 h8 (.inr ⟨h5,h6⟩)
  rw[aGL] at this
  rw[e1,← this,hnr]
theorem aRs [Gv] (c:UInt8) (A D:List UInt8) (h:c∉A):Lib.cut (A++[c]++D) [c]=(A,D,true):=by
 have e:A++[c]++D=A++c::D:=by simp
 rw[e]
 have hi:Lib.index (A++c::D) [c]=(A.length:Nat):=Lib.index_first (by simp) (by simp[Lib.occAt,List.isPrefixOf]) (fun j hj=>by
  unfold Lib.occAt
  rw[List.drop_append_of_le_length (by omega),List.drop_eq_getElem_cons hj,List.cons_append]
  have hne:¬ c=A[j]:=fun e=>h (e ▸ List.getElem_mem hj)
  simp only[List.isPrefixOf]
  rw[beq_eq_false_iff_ne.2 hne,Bool.false_and])
 unfold Lib.cut
 rw[hi,if_pos (by omega)]
 simp
theorem aTN [Gv] (c:UInt8) (A:List UInt8) (h:c∉A):Lib.cut A [c]=(A,[],false):=by
 have hi:Lib.index A [c]=-1:=Lib.index_none fun j hj=>by
  unfold Lib.occAt
  by_cases hl:j<A.length
  ·rw[List.drop_eq_getElem_cons hl]
   have hne:¬ c=A[j]:=fun e=>h (e ▸ List.getElem_mem hl)
   simp only[List.isPrefixOf]
   rw[beq_eq_false_iff_ne.2 hne,Bool.false_and]
  ·rw[List.drop_eq_nil_of_le (by omega)]
   rfl
 unfold Lib.cut
 rw[hi]
 rfl
theorem aKA [Gv] (n:Int):∀ c∈Lib.itoa n,c=45∨(48≤c.toNat∧c.toNat≤57):=by
 intro c hc
 unfold Lib.itoa at hc
 split at hc
 ·rcases List.mem_cons.1 hc with h|h
  ·exact .inl h
  ·exact .inr (lS _ c h)
 ·exact .inr (lS _ c hc)
theorem aJj [Gv] (v6:Bool) (b:List UInt8):∀ c∈tB v6 b,c=46∨(48≤c.toNat∧c.toNat≤58)∨(97≤c.toNat∧c.toNat≤102):=by
 intro c hc
 have hg:∀ w∈aTo b,c∈w→(48≤c.toNat∧c.toNat≤58)∨(97≤c.toNat∧c.toNat≤102):=by
  intro w hw h
  obtain⟨i,_,rfl⟩:=List.mem_map.1 hw
  rcases aMq _ c h with h|h
  ·exact .inl (by omega)
  ·exact .inr h
 have h58:c=58→48≤c.toNat∧c.toNat≤58:=by rintro rfl;decide
 unfold tB at hc
 split at hc
 ·split at hc
  ·unfold aDv at hc
   split at hc
   ·rcases qK 58 _ c hc with h|⟨w,hw,h⟩
    ·exact .inr (.inl (h58 h))
    ·exact .inr (hg w hw h)
   ·rcases List.mem_append.1 hc with hc|hc
    ·rcases List.mem_append.1 hc with hc|hc
     ·rcases qK 58 _ c hc with h|⟨w,hw,h⟩
      ·exact .inr (.inl (h58 h))
      ·exact .inr (hg w (List.mem_of_mem_take hw) h)
     ·simp only[List.mem_cons,List.not_mem_nil,or_false,or_self] at hc
      exact .inr (.inl (h58 hc))
    ·rcases qK 58 _ c hc with h|⟨w,hw,h⟩
     ·exact .inr (.inl (h58 h))
     ·exact .inr (hg w (List.mem_of_mem_drop hw) h)
  ·rcases qK 46 _ c hc with h|⟨w,hw,h⟩
   ·exact .inl h
   ·obtain⟨x,_,rfl⟩:=List.mem_map.1 hw
    rw[Lib.itoa_nonneg] at h
    have:=lS _ c h
    exact .inr (.inl (by omega))
 ·cases hc
theorem aRZ [Gv] {v6:Bool} {b:List UInt8} {bits:Int} (hb:b.length=16) (hF:yT v6 b bits=true):tV (aEK v6 b bits)=some (v6,b,bits):=by
 obtain⟨b0,b1,hA⟩:=aJi hF
 have hT:aEK v6 b bits=tB v6 b++[47]++Lib.itoa bits:=by unfold aEK;rw[if_pos hF]
 have h47:(47:UInt8)∉tB v6 b:=fun h=>by
  have:=aJj v6 b 47 h
  have e:(47:UInt8).toNat=47:=rfl
  rcases this with h|h|h
  ·cases h
  ·omega
  ·omega
 have hat:nP (Lib.itoa bits)=bits:=by unfold nP;rw[aLI bits (by omega) (by omega)]
 have hcut:=aRs 47 (tB v6 b) (Lib.itoa bits) h47
 unfold tV
 rw[hT,hcut]
 simp only
 rw[aRI hb hA]
 simp only
 rw[hat,if_pos hT]
theorem aSP [Gv] (x:Nat) (R:List UInt8) (h:R.head?≠some 45):aIh (nV x++R)=(if kV x then 9223372036854775808 else 0)+aAt R:=by
 unfold nV aIh
 cases kV x with
 | true=>
  have h1:Lib.hasPrefix (45::R) [45]=true:=by simp[Lib.hasPrefix,List.isPrefixOf]
  have h2:Lib.trimPrefix (45::R) [45]=R:=by unfold Lib.trimPrefix;rw[if_pos h1];rfl
  simp only[if_true,List.cons_append,List.nil_append]
  rw[if_pos h1,h2]
  omega
 | false=>
  have h1:Lib.hasPrefix R [45]=false:=by
   cases R with
   | nil=>rfl
   | cons c r=>
    have:¬ (45:UInt8)=c:=fun e=>h (by rw[e];rfl)
    simp[Lib.hasPrefix,List.isPrefixOf,this]
  have h2:Lib.trimPrefix R [45]=R:=by unfold Lib.trimPrefix;rw[if_neg (by rw[h1];decide)]
  simp only[Bool.false_eq_true,if_false,List.nil_append]
  rw[if_neg (by rw[h1];decide),h2]
  omega
theorem aTJ [Gv] {x:Nat} (hx:x<18446744073709551616):(if kV x then 9223372036854775808 else 0)+dX x=x:=by
 unfold kV dX
 by_cases h:x/9223372036854775808%2=1
 ·rw[if_pos (by rw[h];rfl)];omega
 ·rw[if_neg (by simpa using h)];omega
theorem aTB [Gv] {r:Nat} (h0:0<r) (h1:r<9218868437227405312):ldV (sV r/2^Lib.ctz 64 (sV r)) (aAE r+(Lib.ctz 64 (sV r):Nat))=r:=by
 obtain⟨m1,m2⟩:=rU h0
 obtain⟨x1,x2⟩:=aBR h0 h1
 obtain⟨f1,f2⟩:=aSx h0
 obtain⟨hlow,hk⟩:=Lib.lowest_bit 64 (sV r) (by omega) (by omega)
 obtain⟨n,hn⟩:∃ n,sV r=2^Lib.ctz 64 (sV r)*n:=by
  obtain⟨m,hm,_⟩:=Lib.ctzFrom_spec 64 (sV r) (by omega) (by omega)
  refine⟨2*m+1,?_⟩
  unfold Lib.ctz
  rw[if_neg (by omega)]
  exact hm
 generalize Lib.ctz 64 (sV r)=k at *
 have hpos:0<2^k:=Nat.pow_pos (by decide)
 have hdiv:sV r/2^k=n:=by rw[hn,Nat.mul_comm,Nat.mul_div_cancel _ hpos]
 rw[hdiv]
 have hn0:0<n:=by
  rcases Nat.eq_zero_or_pos n with e|e
  ·rw[e,Nat.mul_zero] at hn;omega
  ·exact e
 have hnl:n<9007199254740992:=by
  have:n≤2^k*n:=Nat.le_mul_of_pos_left n hpos
  omega
 refine aSH hn0 hnl h0 h1 ?_ (by omega)
 -- n*2^(nExp+k)=fm*2^fe
 have key:2^k*n=fm r*2^(fe r - aAE r).toNat:=by rw[← hn];exact f1
 by_cases hc:aAE r+(k:Int)≤fe r
 ·refine .inl ⟨hc,?_⟩
  have e:(fe r - aAE r).toNat=k+(fe r - (aAE r+(k:Int))).toNat:=by omega
  rw[e,Nat.pow_add,Nat.mul_left_comm] at key
  exact Nat.eq_of_mul_eq_mul_left hpos key
 ·refine .inr ⟨by omega,?_⟩
  have e:k=(fe r - aAE r).toNat+(aAE r+(k:Int) - fe r).toNat:=by omega
  rw[e,Nat.pow_add,Nat.mul_comm (fm r),Nat.mul_assoc] at key
  have:=Nat.eq_of_mul_eq_mul_left (Nat.pow_pos (by decide)) key
  rw[← this,Nat.mul_comm]
theorem aTk [Gv] (u:Nat) (h:u<9007199254740992):puF 10 53 (Lib.decDigits u)=(u,0):=aSm 53 u (by omega)
theorem aHk [Gv] {x:Nat} (hx:x<18446744073709551616) (hn:wX x≠[]) :
  (∃ R,wX x=nV x++R∧R.head?≠some 45∧aAt R=dX x∧R≠[]∧∀ c∈R,c=45∨(48≤c.toNat∧c.toNat≤57)∨(97≤c.toNat∧c.toNat≤122)):=by
 unfold wX at hn ⊢
 cases hnan:mI x with
 | true=>rw[hnan] at hn;exact absurd rfl hn
 | false=>
 rw[if_neg (by decide)]
 by_cases hinf:dX x=9218868437227405312
 ·rw[if_pos hinf]
  refine⟨_,rfl,by simp,?_,by simp,?_⟩
  ·unfold aAt;rw[if_pos rfl,hinf]
  ·intro c hc
   simp only[List.mem_cons,List.not_mem_nil,or_false] at hc
   rcases hc with rfl|rfl|rfl<;>decide
 rw[if_neg hinf]
 by_cases hz:dX x=0
 ·rw[if_pos hz]
  refine⟨_,rfl,by simp,?_,by simp,?_⟩
  ·unfold aAt
   rw[if_neg (by decide),aTN 112 [48] (by decide),hz]
   have:puF 10 53 [48]=(0,0):=by
    have:=aTk 0 (by omega)
    rwa [Lib.decDigits_one (by omega)] at this
   simp only[this]
   rfl
  ·intro c hc
   simp only[List.mem_cons,List.not_mem_nil,or_false] at hc
   subst hc;decide
 rw[if_neg hz]
 have hr0:0<dX x:=by omega
 have hr1:dX x<9218868437227405312:=by
  have:¬ 9218868437227405312<dX x:=fun h=>by unfold mI at hnan;rw[decide_eq_true h] at hnan;cases hnan
  omega
 have ho:kH x=sV (dX x)/2^Lib.ctz 64 (sV (dX x)):=by unfold kH;rw[if_neg (by omega)]
 have hp:jR x=aAE (dX x)+(Lib.ctz 64 (sV (dX x)):Nat):=by unfold jR;rw[if_neg (by omega)]
 obtain⟨m1,m2⟩:=rU hr0
 have hol:kH x<9007199254740992:=by rw[ho];exact Nat.lt_of_le_of_lt (Nat.div_le_self _ _) m2
 obtain⟨p1,p2⟩:=uX x
 have h112:(112:UInt8)∉Lib.decDigits (kH x):=fun h=>by
  have:=lS _ _ h
  have e:(112:UInt8).toNat=112:=rfl
  omega
 refine⟨Lib.decDigits (kH x)++[112]++Lib.itoa (jR x),by simp,?_,?_,by simp,?_⟩
 ·have hd:=lS (kH x)
  cases hL:Lib.decDigits (kH x) with
  | nil=>exact absurd hL (aFg _)
  | cons c r=>
   rw[hL] at hd
   have:=hd c (by simp)
   intro h
   simp only[List.cons_append,List.head?_cons,Option.some.injEq] at h
   rw[h] at this
   have e:(45:UInt8).toNat=45:=rfl
   omega
 ·unfold aAt
  rw[if_neg ?_,aRs 112 _ _ h112]
  ·simp only
   rw[aTk _ hol]
   simp only
   have hat:nP (Lib.itoa (jR x))=jR x:=by unfold nP;rw[aLI _ (by omega) (by omega)]
   rw[hat,ho,hp]
   exact aTB hr0 hr1
  ·intro h
   have hd:=lS (kH x)
   cases hL:Lib.decDigits (kH x) with
   | nil=>exact absurd hL (aFg _)
   | cons c r=>
    rw[hL] at hd h
    have:=hd c (by simp)
    simp only[List.cons_append] at h
    injection h with h _
    rw[h] at this
    have e:(105:UInt8).toNat=105:=rfl
    omega
 ·intro c hc
  rcases List.mem_append.1 hc with hc|hc
  ·rcases List.mem_append.1 hc with hc|hc
   ·exact .inr (.inl (lS _ c hc))
   ·simp only[List.mem_singleton] at hc
    subst hc;decide
  ·rcases aKA _ c hc with h|h
   ·exact .inl h
   ·exact .inr (.inl h)
theorem aRO [Gv] {x:Nat} (hx:x<18446744073709551616) (hn:wX x≠[]):aCs (wX x)=some x:=by
 obtain⟨R,hR,hh,hv,_,_⟩:=aHk hx hn
 have hc:aIh (wX x)=x:=by rw[hR,aSP x R hh,hv,aTJ hx]
 unfold aCs
 rw[hc,if_pos ⟨hn,rfl⟩]
def wch (c:UInt8):Prop:=33≤c.toNat∧c.toNat≤126
theorem aSS [Gv] (w t:List UInt8) (hw:w≠[]) (ht:t≠[]) (cw:∀ c∈w,wch c) (ct:∀ c∈t,wch c) (hl:(w++32::t).length≤512):qB (w++32::t)=some [w,t]:=by
 have e:w++32::t=Lib.join [w,t] [32]:=by rw[uK,Lib.join_one];simp
 have hno:∀ l:List UInt8,(∀ c∈l,wch c)→(32:UInt8)∉l:=fun l h hm=>by
  have:=h 32 hm
  unfold wch at this
  have e:(32:UInt8).toNat=32:=rfl
  omega
 have hs:dM 32 (w++32::t)=[w,t]:=by
  rw[e]
  exact vS 32 _ (by simp) (fun x hx=>by
   simp only[List.mem_cons,List.not_mem_nil,or_false] at hx
   rcases hx with rfl|rfl
   ·exact hno _ cw
   ·exact hno _ ct)
 have ho:aOJ (w++32::t)=false:=by
  unfold aOJ
  rw[List.any_eq_false]
  intro c hc
  have:32≤c.toNat∧c.toNat≤126:=by
   rcases List.mem_append.1 hc with h|h
   ·have:=cw c h;unfold wch at this;omega
   ·rcases List.mem_cons.1 h with h|h
    ·subst h;decide
    ·have:=ct c h;unfold wch at this;omega
  simp;omega
 unfold qB
 rw[if_neg (by simp),if_neg ?_,hs]
 rw[hs,ho]
 simp only[Bool.false_eq_true,false_or,List.mem_cons,List.not_mem_nil,or_false,not_or]
 exact⟨by omega,fun h=>hw h.symm,fun h=>ht h.symm⟩
theorem aRX [Gv] {t:List UInt8} {l:List (List UInt8)} (h:lJ t=some l):∀ c∈t,c=44∨(97≤c.toNat∧c.toNat≤122):=by
 unfold lJ at h
 split at h
 ·rename_i hc
  injection h with h
  rw[h] at hc
  have hj:=aHp 44 t
  rw[h] at hj
  intro c hcm
  rw[← hj] at hcm
  rcases qK 44 _ c hcm with h|⟨w,hw,h⟩
  ·exact .inl h
  ·obtain⟨i,hi⟩:=List.mem_iff_getElem?.1 hw
   have hil:i<l.length:=(List.getElem?_eq_some_iff.1 hi).1
   have hr:=hc.2
   unfold aPr at hr
   have:=List.all_eq_true.1 hr i (List.mem_range.2 hil)
   unfold tT at this
   have hg:l.getD i []=w:=by rw[List.getD_eq_getElem?_getD,hi];rfl
   rw[hg] at this
   simp only[Bool.and_eq_true] at this
   have hn:=this.1
   unfold aBS at hn
   simp only[Bool.and_eq_true,Bool.not_eq_true'] at hn
   have ho:=hn.2
   unfold aQZ at ho
   rw[List.any_eq_false] at ho
   have:=ho c h
   simp at this
   exact .inr (by omega)
 ·cases h
theorem aRp [Gv] {t:List UInt8} (h:iI t=true):t≠[]∧∀ c∈t,wch c:=by
 unfold iI at h
 cases hn:sO t with
 | none=>rw[hn] at h;cases h
 | some q=>
  rw[hn] at h
  simp only[beq_iff_eq] at h
  subst h
  unfold sO at hn
  split at hn
  ·rename_i hp
   cases hf:nT [] (dM 47 (Lib.trimPrefix t [47])) with
   | none=>rw[hf] at hn;cases hn
   | some l=>
    rw[hf] at hn
    simp only at hn
    split at hn
    ·cases hn
    ·injection hn with hn
     have hl:=aFh hf
     rw[← hn]
     refine⟨by simp,fun c hc=>?_⟩
     rcases List.mem_cons.1 hc with h|h
     ·subst h;unfold wch;decide
     ·rcases qK 47 _ c h with h|⟨w,hw,h⟩
      ·subst h;unfold wch;decide
      ·have:=hl w hw
       unfold kX at this
       simp only[Bool.and_eq_true,Bool.not_eq_true'] at this
       have ho:=this.2
       rw[List.any_eq_false] at ho
       have:=ho c h
       simp only[Bool.not_eq_true',Bool.not_eq_false] at this
       unfold iP at this
       unfold wch
       simp at this
       omega
  ·cases hn
theorem aSO [Gv] {q:PV} {k:Int} (h:aFu q (vB k)=true):q=vB k:=by
 obtain⟨kind,time,names,path,v6,addr,bits,cost⟩:=q
 unfold aFu vB at h
 simp only[Bool.and_eq_true,beq_iff_eq,decide_eq_true_eq] at h
 obtain⟨rfl,rfl,rfl,rfl,⟨rfl,rfl,rfl⟩,rfl⟩:=h
 rfl
theorem aRa [Gv] {u:Nat} (h:u<18446744073709551616):aRB (Lib.decDigits u)=some u:=by
 unfold aRB
 rw[aRy u h]
 simp
theorem aRt [Gv] (u:Nat):∀ c∈Lib.decDigits u,wch c:=fun c hc=>by have:=lS u c hc;unfold wch;omega
theorem aDr [Gv] {p:PV} (ha:p.addr.length=16) (ht:p.time<18446744073709551616) (hc:p.cost<18446744073709551616) (h:zY p≠[]):xU (zY p)=some p:=by
 have key:∀ (w x:List UInt8) (q:PV),iW p=(w,x,q)→w≠[]→(∀ c∈w,wch c)→(q=vB p.kind→x≠[]→(∀ c∈x,wch c)∧nL w x=some p)→xU (zY p)=some p:=by
  intro w x q hw hwn hwc hx
  unfold zY at h ⊢
  rw[hw] at h ⊢
  simp only at h ⊢
  unfold tX at h ⊢
  split at h
  ·exact absurd rfl h
  ·rename_i hn
   rw[if_neg hn]
   simp only[not_or] at hn
   obtain⟨n1,n2,n3⟩:=hn
   have hs:=aSO (by simpa using n3)
   obtain⟨c1,c2⟩:=hx hs n1
   unfold xU
   rw[aSS w x hwn n1 hwc c1 (by omega)]
   exact c2
 unfold zY iW at h
 by_cases k1:p.kind=1
 ·refine key _ _ _ (by unfold iW;rw[if_pos k1]) (by simp) (by simp[wch]) fun hq hx=>⟨aRt _,?_⟩
  obtain⟨kind,time,names,path,v6,addr,bits,cost⟩:=p
  simp only[vB,PV.mk.injEq] at hq k1 ht
  obtain⟨_,_,rfl,rfl,rfl,rfl,rfl,rfl⟩:=hq
  subst k1
  unfold nL
  rw[if_pos rfl,aRa ht]
  rfl
 by_cases k2:p.kind=2
 ·refine key _ _ _ (by unfold iW;rw[if_neg k1,if_pos k2]) (by simp) (by simp[wch]) fun hq hx=>⟨aRt _,?_⟩
  obtain⟨kind,time,names,path,v6,addr,bits,cost⟩:=p
  simp only[vB,PV.mk.injEq] at hq k2 ht
  obtain⟨_,_,rfl,rfl,rfl,rfl,rfl,rfl⟩:=hq
  subst k2
  unfold nL
  rw[if_neg (by decide),if_pos rfl,aRa ht]
  rfl
 by_cases k3:p.kind=3
 ·refine key _ _ _ (by unfold iW;rw[if_neg k1,if_neg k2,if_pos k3]) (by simp) (by simp[wch]) fun hq hx=>?_
  have hN:lJ (Lib.join p.names [44])=some p.names∧lV p.names=Lib.join p.names [44]:=by
   unfold lV at hx ⊢
   split at hx
   ·rename_i hh;exact⟨hh,by rw[if_pos hh]⟩
   ·exact absurd rfl hx
  rw[hN.2] at hx ⊢
  refine⟨fun c hc=>?_,?_⟩
  ·rcases aRX hN.1 c hc with h|h
   ·subst h;unfold wch;decide
   ·unfold wch;omega
  ·obtain⟨kind,time,names,path,v6,addr,bits,cost⟩:=p
   simp only[vB,PV.mk.injEq] at hq k3 hN ⊢
   obtain⟨_,rfl,_,rfl,rfl,rfl,rfl,rfl⟩:=hq
   subst k3
   unfold nL
   rw[if_neg (by decide),if_neg (by decide),if_pos rfl,hN.1]
   rfl
 by_cases k4:p.kind=4
 ·refine key _ _ _ (by unfold iW;rw[if_neg k1,if_neg k2,if_neg k3,if_pos k4]) (by simp) (by simp[wch]) fun hq hx=>?_
  have hR:iI p.path=true:=by
   by_cases hh:iI p.path=true
   ·exact hh
   ·rw[if_neg hh] at hx;exact absurd rfl hx
  rw[if_pos hR]
  refine⟨(aRp hR).2,?_⟩
  obtain⟨kind,time,names,path,v6,addr,bits,cost⟩:=p
  simp only[vB,PV.mk.injEq] at hq k4 hR ⊢
  obtain⟨_,rfl,rfl,_,rfl,rfl,rfl,rfl⟩:=hq
  subst k4
  unfold nL
  rw[if_neg (by decide),if_neg (by decide),if_neg (by decide),if_pos rfl,if_pos hR]
 by_cases k5:p.kind=5
 ·refine key _ _ _ (by unfold iW;rw[if_neg k1,if_neg k2,if_neg k3,if_neg k4,if_pos k5]) (by simp) (by simp[wch]) fun hq hx=>?_
  have hF:yT p.v6 p.addr p.bits=true:=by
   unfold aEK at hx
   split at hx
   ·assumption
   ·exact absurd rfl hx
  refine⟨fun c hc=>?_,?_⟩
  ·unfold aEK at hc
   rw[if_pos hF] at hc
   unfold wch
   rcases List.mem_append.1 hc with hc|hc
   ·rcases List.mem_append.1 hc with hc|hc
    ·rcases aJj _ _ c hc with h|h|h
     ·subst h;decide
     ·omega
     ·omega
    ·simp only[List.mem_singleton] at hc
     subst hc;decide
   ·rcases aKA _ c hc with h|h
    ·subst h;decide
    ·omega
  ·have hP:=aRZ ha hF
   obtain⟨kind,time,names,path,v6,addr,bits,cost⟩:=p
   simp only[vB,PV.mk.injEq] at hq k5 hP ⊢
   obtain⟨_,rfl,rfl,rfl,_,_,_,rfl⟩:=hq
   subst k5
   unfold nL
   rw[if_neg (by decide),if_neg (by decide),if_neg (by decide),if_neg (by decide),if_pos rfl,hP]
   rfl
 by_cases k6:p.kind=6
 ·refine key _ _ _ (by unfold iW;rw[if_neg k1,if_neg k2,if_neg k3,if_neg k4,if_neg k5,if_pos k6]) (by simp) (by simp[wch]) fun hq hx=>?_
  obtain⟨R,hR,_,_,_,hch⟩:=aHk hc hx
  refine⟨fun c hcm=>?_,?_⟩
  ·rw[hR] at hcm
   unfold wch
   rcases List.mem_append.1 hcm with hcm|hcm
   ·unfold nV at hcm
    split at hcm
    ·simp only[List.mem_singleton] at hcm
     subst hcm;decide
    ·cases hcm
   ·rcases hch c hcm with h|h|h
    ·subst h;decide
    ·omega
    ·omega
  ·have hP:=aRO hc hx
   obtain⟨kind,time,names,path,v6,addr,bits,cost⟩:=p
   simp only[vB,PV.mk.injEq] at hq k6 hP ⊢
   obtain⟨_,rfl,rfl,rfl,rfl,rfl,rfl,_⟩:=hq
   subst k6
   unfold nL
   rw[if_neg (by decide),if_neg (by decide),if_neg (by decide),if_neg (by decide),if_neg (by decide),if_pos rfl,hP]
   rfl
 ·rw[if_neg k1,if_neg k2,if_neg k3,if_neg k4,if_neg k5,if_neg k6] at h
  exact absurd (by unfold tX;rw[if_pos (.inl rfl)]) h
end Go.Proofs.YtefdnmeopbkflaaGreatDoor
namespace Go.Proofs.YtefdnmeopbkflaaGreatDoor
open Go Go.V
set_option linter.unusedSimpArgs false
set_option linter.unusedVariables false
set_option maxRecDepth 100000
def aRU (t:TokV):Prop:=aOH t∧t.key<18446744073709551616∧∀ c∈t.cavs,c.party<18446744073709551616
def aFf (b:BunV):Prop:=aRU b.root∧b.ds.length≤1048576∧∀ d∈b.ds,aRU d
theorem aFf.wide [Gv] {b:BunV} (h:aFf b):aRf b:=⟨h.1.1,h.2.1,fun d hd=>(h.2.2 d hd).1⟩
theorem aSu [Gv] {l:List CavV} {c:CavV} (h:c∈l):aCe c≤(l.map aCe).sum:=by
 induction l with
 | nil=>cases h
 | cons x l ih=>
  rw[List.map_cons,List.sum_cons]
  rcases List.mem_cons.1 h with rfl|h
  ·omega
  ·have:=ih h;omega
theorem aRU.small [Gv] {t:TokV} (h:aRU t) (hl:¬ 10000<aBf t):small t:=by
 unfold aBf at hl
 have hn:t.cavs.length≤(t.cavs.map aCe).sum:=by
  induction t.cavs with
  | nil=>simp
  | cons x l ih=>simp only[List.map_cons,List.sum_cons,List.length_cons,aCe];omega
 refine⟨by omega,by omega,fun c hc=>?_,h.1.2.2.2,h.2.1,h.2.2⟩
 have:=aSu hc
 have e:aCe c=c.text.length+c.id.length+c.vault.length+1:=rfl
 omega
theorem aFf.small [Gv] {b:BunV} (h:aFf b) (hl:aBz b=false):aHD b:=by
 have hn:¬ (10000<aBf b.root∨40<b.ds.length∨∃ d∈b.ds,10000<aBf d):=fun e=>by
  rw[(aDU b).2 e] at hl;cases hl
 exact⟨h.1.small (fun e=>hn (.inl e)),h.2.1,fun d hd=>(h.2.2 d hd).small fun e=>hn (.inr (.inr ⟨d,hd,e⟩))⟩
theorem aMf [Gv] (b:BunV):∃ (s:List UInt8) (e:Int) (p:Perm),aRk b=.tup [.sl s.length (Bs s) p,.val (.int .i64 e)]∧fG p=true∧(e=0→okB b=true∧(pW b).length≤65536∧s=pW b):=by
 unfold aRk
 by_cases h:okB b=true
 ·rw[if_pos h]
  by_cases hl:65536<(pW b).length
  ·rw[if_pos hl];exact⟨[],3,.full,rfl,rfl,fun h=>by cases h⟩
  ·rw[if_neg hl];exact⟨pW b,0,.no,rfl,rfl,fun _=>⟨h,by omega,rfl⟩⟩
 ·rw[if_neg h];exact⟨[],1,.full,rfl,rfl,fun h=>by cases h⟩
theorem aTG [Gv] {p q:PV} (h:aFu p q=true):p=q:=by
 obtain⟨k1,t1,n1,p1,v1,a1,b1,c1⟩:=p
 obtain⟨k2,t2,n2,p2,v2,a2,b2,c2⟩:=q
 unfold aFu at h
 simp only[Bool.and_eq_true,beq_iff_eq,decide_eq_true_eq] at h
 obtain⟨rfl,rfl,rfl,rfl,⟨rfl,rfl,rfl⟩,rfl⟩:=h
 rfl
theorem aNW [Gv] (p:PV):aFu p p=true:=by unfold aFu;simp
theorem aSR [Gv] (p:PV):(zY p).length≤512:=by
 unfold zY tX
 split
 ·simp
 ·rename_i h
  simp only[not_or] at h
  omega
theorem aSp [Gv] {p q:PV} (hp:OkP p) (hq:OkP q) (h1:zY p≠[]) (h2:zY q≠[]):(zY p == zY q)=aFu p q:=by
 rw[Bool.eq_iff_iff,beq_iff_eq]
 constructor
 ·intro h
  have e1:=aDr hp.small.1 hp.time hp.cost h1
  have e2:=aDr hq.small.1 hq.time hq.cost h2
  rw[h,e2] at e1
  rw[Option.some.inj e1]
  exact aNW _
 ·intro h
  rw[aTG h]
theorem zL [Gv] {G:Gl} {nt:Nat} {s:List (Nat×AV)} {os:List AObj} (i r:Nat) (cs:List AV) (h:lk s i=.ptr r 0) (ho:os[r]? = some (.cells cs)) (hp:0<cs.length) (hn:aM cs=true) :
  gE G ⟨nt,s,os⟩ ⟨nt,(i,.cptr cs)::s,os.set r .dead⟩:=by
 cases cs with
 | nil=>simp at hp
 | cons c cs=>exact .freeze i r c cs h ho hn
set_option maxHeartbeats 4000000 in
theorem aSM [Gv] {C:List Nat→List UInt8→List Nat} (hC:COk C) (a b:BunV) (ga:aFf a) (gb:aFf b) (p q:PV) (hp:InP p) (hq:InP q) :
  ACalls Tryz.prog GP 5 [.agg (BB a++BB b),.agg (PA p .no),.agg (PA q .no)] [] (fun r os=>os=[]∧r=.val (.bool true)):=by
 have cAl:=aKp hC
 have cG1:=aRW a ga.wide
 have cG2:=aRW b gb.wide
 have cL1:=aIP p .no hp.addr hp.path hp.each hp.names
 have cL2:=aIP q .no hq.addr hq.path hq.each hq.names
 have cE1:=fun h=>(aRL a (ga.small h)).g (G:=GP)
 have cE2:=fun h=>(aRL b (gb.small h)).g (G:=GP)
 have cS:=aTE a b ga.wide gb.wide
 have cT1:=fun h=>aOX p .no rfl (hp.ok h)
 have cT2:=fun h=>aOX q .no rfl (hq.ok h)
 have cP:=aSj (zY p) (by have:=aSR p;omega)
 have cQ:=fun (h1:aCo p=false) (h2:aCo q=false)=>aNU p q .no .no rfl rfl (hp.ok h1).small (hq.ok h2).small
 have cQ2:=fun (h1:aCo p=false)=>aNU p p .full .no rfl rfl (hp.ok h1).small (hp.ok h1).small
 have inj:=fun h1 h2=>aSp (hp.ok h1) (hq.ok h2)
 have back:=fun (h1:aCo p=false)=>aDr (hp.ok h1).small.1 (hp.ok h1).time (hp.ok h1).cost
 have l1:=pQ a ga.wide.1.2.2.2
 have l2:=pQ b gb.wide.1.2.2.2
 have o1:=aBo a
 have o2:=aBo b
 have n1:=aFl a
 have n2:=aFl b
 have p1:=iE p .no hp.addr
 have p2:=lE p .no
 have p3:=sX p .no rfl
 have p5:(PA p .no).take 23=PA p .no:=List.take_of_length_le (by omega)
 have q1:=iE q .no hq.addr
 have q2:=lE q .no
 have q3:=sX q .no rfl
 have q5:(PA q .no).take 23=PA q .no:=List.take_of_length_le (by omega)
 obtain⟨sa,ea,pa,hVa,hpa,hea⟩:=aMf a
 obtain⟨sb,eb,pb,hVb,hpb,heb⟩:=aMf b
 rw[hVa] at cE1
 rw[hVb] at cE2
 obtain⟨AB,hAB⟩:∃ AB,BB a++BB b=AB:=⟨_,rfl⟩
 have h74:AB.length=74:=by rw[← hAB,List.length_append];omega
 have hAo:AB.all dC=true:=by rw[← hAB,List.all_append,o1,o2];rfl
 have hA1:AB.take 37=BB a:=by rw[← hAB,← l1,List.take_left]
 have hA2:(AB.drop 37).take 37=BB b:=by rw[← hAB,← l1,List.drop_left,l1];exact List.take_of_length_le (by omega)
 have hAn:aM AB=true:=by rw[← hAB,dK,n1,n2];rfl
 rw[hAB]
 have t1:(BB a).take 37=BB a:=List.take_of_length_le (by omega)
 have t2:(BB b).take 37=BB b:=List.take_of_length_le (by omega)
 have hinj:ea=0→eb=0→aBz a=false→aBz b=false→(sa == sb)=aHo a b:=by
  intro h1 h2 g1 g2
  obtain⟨a1,a2,a3⟩:=hea h1
  obtain⟨b1,b2,b3⟩:=heb h2
  rw[Bool.eq_iff_iff,beq_iff_eq,aSN]
  constructor
  ·intro h
   rw[a3,b3] at h
   exact aSE a1 b1 (ga.small g1) (gb.small g2) a2 b2 h
  ·intro h
   rw[a3,b3,h]
 clear hVa hVb hea heb hAB
 have hnS1:=aJ sa
 have hnS2:=aJ sb
 generalize BB a=Ba at *
 generalize BB b=Bb at *
 refine ke Tryz.func5 Tryz.ntmps5 Tryz.results5 #[4] ?_
 refine kx [3,4,5,6] (kI hAo (kI p2 q2)) ?_
 refine iH 3 0 AB rfl rfl (by omega) hAn ?_
 refine aC fun K hK=>?_
 have fin:∀ st,gE GP st ⟨105,[(4,.ptr 1 0),(5,.ptr 2 0),(7,.cptr Ba),(8,.cptr Bb)],[.dead,.cells (PA p .no),.cells (PA q .no),.dead,.dead]⟩→K st:=by
  intro st hw
  refine hK st (eX hw ?_)
  clear hw hK K
  refine aC fun K1 hK1=>?_
  refine kr [] fun K2 hK2=>?_
  refine kc (cAl) (hK2 _ ?_)
  clear hK2 K2
  refine aR rfl (bC ?_)
  simp only[seval,kT]
  refine hK1 _ ?_
  clear hK1 K1
  refine kp [4,5,7,8] ?_
  refine aC fun K1 hK1=>?_
  refine aC fun K hK=>?_
  have nope:∀ st,lk st.slots 40=.val (.bool true)→st.nt=105→st.objs=[.dead,.cells (PA p .no),.cells (PA q .no),.dead,.dead]→K st:=by
   rintro⟨nt,sl,os⟩ h40 hnt hos
   simp only at h40 hnt hos
   subst hnt hos
   refine hK _ ?_
   refine bG h40 ?_
   apply aE []
   simp only[aD]
   refine ks [6] ?_
   refine aS ?_
   simp only[aI,bL]
   simp only[qq,bR,eU,bN,bO,dA,aB,aH]
  refine ku [] (kI l1 t1) ?_
  refine aV n1 cG1 rfl ?_
  cases g1:aBz a with
  | true=>
   simp only[seval,kT]
   exact nope _ rfl rfl rfl
  | false=>
  simp only[seval,kT,l2,t2]
  refine aV n2 cG2 rfl ?_
  cases g2:aBz b with
  | true=>
   simp only[seval,kT]
   exact nope _ rfl rfl rfl
  | false=>
  simp only[seval,kT,p1,p5]
  refine aV p3 cL1 rfl ?_
  cases r1:aCo p with
  | true=>
   simp only[seval,kT]
   exact nope _ rfl rfl rfl
  | false=>
  simp only[seval,kT,q1,q5]
  refine aV q3 cL2 rfl ?_
  cases r2:aCo q with
  | true=>
   simp only[seval,kT]
   exact nope _ rfl rfl rfl
  | false=>
  simp only[seval,kT]
  refine hK _ ?_
  clear nope hK K cG1 cG2 cL1 cL2 cAl
  refine aR rfl (bC (hK1 _ ?_))
  clear hK1 K1
  have cE1:=cE1 g1
  have cE2:=cE2 g2
  have hinj:=fun h1 h2=>hinj h1 h2 g1 g2
  have cT1:=cT1 r1
  have cT2:=cT2 r2
  have cQ:=cQ r1 r2
  have cQ2:=cQ2 r1
  have inj:=inj r1 r2
  have back:=back r1
  unfold str at cT1 cT2 cP
  refine kp [4,5,7,8] ?_
  refine kw [] (kI l1 t1) fun K hK=>?_
  refine aV n1 cE1 (by cases pa<;>simp_all [aH,aM,fG]) ?_
  simp only[seval,kT]
  refine hK _ ?_
  clear hK K
  refine kp [4,5,7,8,9,10] ?_
  refine kw [] (kI l2 t2) fun K hK=>?_
  refine aV n2 cE2 (by cases pb<;>simp_all [aH,aM,fG]) ?_
  simp only[seval,kT]
  refine hK _ ?_
  clear hK K
  refine kp [4,5,7,8,9,10,11,12] ?_
  refine aC fun K1 hK1=>?_
  refine aC fun K hK=>?_
  have next:∀ st,gE GP st ⟨105,[(4,.ptr 1 0),(5,.ptr 2 0),(67,.val (.bool false))],[.dead,.cells (PA p .no),.cells (PA q .no),.dead,.dead]⟩→K st:=by
   intro st hw
   refine hK st (eX hw ?_)
   clear hw hK K
   refine aR rfl (bC (hK1 _ ?_))
   clear hK1 K1
   refine kp [4,5] ?_
   refine aC fun K hK=>?_
   refine kde [] (kI p1 p5) ?_
   refine aV p3 cT1 rfl ?_
   simp only[seval,kT,q1,q5]
   refine aV q3 cT2 rfl ?_
   simp only[seval,kT]
   refine hK _ ?_
   clear hK K
   refine kp [4,5,13,14] ?_
   refine aC fun K1 hK1=>?_
   refine aC fun K hK=>?_
   have next2:∀ st,gE GP st ⟨105,[(4,.ptr 1 0),(13,.val (.string ⟨(zY p).toArray⟩)),(86,.val (.bool false))],[.dead,.cells (PA p .no),.cells (PA q .no),.dead,.dead]⟩→K st:=by
    intro st hw
    refine hK st (eX hw ?_)
    clear hw hK K
    refine aR rfl (bC (hK1 _ ?_))
    clear hK1 K1
    refine kp [4,13] ?_
    by_cases e1:zY p=[]
    ·have hV:aRC (xU (zY p))=.tup [.agg (PA aQD .full),.val (.bool false)]:=by rw[e1];rfl
     rw[hV] at cP
     have z1:(PA aQD .full).length=23:=rfl
     have z2:(PA aQD .full).all dC=true:=rfl
     have z3:aM (PA aQD .full)=true:=rfl
     have z4:(PA aQD .full).take 23=PA aQD .full:=rfl
     have d0:(zY p == [])=true:=beq_iff_eq.2 e1
     generalize PA aQD .full=Zp at *
     refine kr [] fun K hK=>?_
     refine aV (by simp[aH,aM]) cP (by simp[aH,aM,z3]) ?_
     simp only[seval,kT,z2,z1]
     refine hK _ ?_
     clear hK K
     refine kp [4,13,15,16] ?_
     refine kx [6] d0 ?_
     refine aS ?_
     simp only[qq,bR,eU,bN,bO,dA,aB,aH]
    ·have hV:aRC (xU (zY p))=.tup [.agg (PA p .full),.val (.bool true)]:=by rw[back e1];rfl
     rw[hV] at cP
     have z1:=iE p .full hp.addr
     have z2:=lE p .full
     have z3:=sX p .full rfl
     have z4:(PA p .full).take 23=PA p .full:=List.take_of_length_le (by omega)
     have d0:(zY p == [])=false:=beq_eq_false_iff_ne.2 e1
     rw[aNW] at cQ2
     generalize PA p .full=Zp at *
     have z5:Zp.drop 23=[]:=List.drop_eq_nil_of_le (by omega)
     refine kr [] fun K hK=>?_
     refine aV (by simp[aH,aM]) cP (by simp[aH,aM,z3]) ?_
     simp only[seval,kT,z2,z1]
     refine hK _ ?_
     clear hK K
     refine kp [4,13,15,16] ?_
     refine kw [] (kI (kI d0 z1) (kI z4 (kI p1 p5))) fun K hK=>?_
     refine aV ⟨z3,p3⟩ cQ2 rfl ?_
     simp only[seval,kT]
     refine hK _ ?_
     clear hK K
     refine kp [6] ?_
     refine aS ?_
     simp only[qq,bR,eU,bN,bO,dA,aB,aH]
   by_cases e1:zY p=[]
   ·have d0:(zY p == [])=true:=beq_iff_eq.2 e1
    refine ku [] d0 ?_
    refine next2 _ ?_
    exact .of_keep [4,13,86] rfl
   have d0:(zY p == [])=false:=beq_eq_false_iff_ne.2 e1
   by_cases e2:zY q=[]
   ·have d2:(zY q == [])=true:=beq_iff_eq.2 e2
    refine ku [] (kI d0 d2) ?_
    refine next2 _ ?_
    exact .of_keep [4,13,86] rfl
   have d2:(zY q == [])=false:=beq_eq_false_iff_ne.2 e2
   have hY:=inj e1 e2
   obtain⟨Y,hY0⟩:∃ Y,aFu p q=Y:=⟨_,rfl⟩
   rw[hY0] at hY cQ
   refine ku [] (kI (kI d0 (kI d2 hY)) (kI (kI p1 p5) (kI q1 q5))) ?_
   refine aV ⟨p3,q3⟩ cQ rfl ?_
   simp only[seval,kT]
   exact next2 _ (.of_keep [4,13,86] (by exact rfl))
  by_cases h1:ea=0
  case neg=>
   have d1:(ea == 0)=false:=beq_eq_false_iff_ne.2 h1
   refine kde [] d1 ?_
   exact next _ (.of_keep [4,5,67] (by exact rfl))
  have d1:(ea == 0)=true:=beq_iff_eq.2 h1
  by_cases h2:eb=0
  case neg=>
   have d2:(eb == 0)=false:=beq_eq_false_iff_ne.2 h2
   refine kde [] (kI d1 d2) ?_
   exact next _ (.of_keep [4,5,67] (by exact rfl))
  have d2:(eb == 0)=true:=beq_iff_eq.2 h2
  have hX:=hinj h1 h2
  obtain⟨X,hX0⟩:∃ X,aHo a b=X:=⟨_,rfl⟩
  rw[hX0] at cS hX
  refine kde [] (kI (kI d1 (kI d2 l1)) (kI t1 (kI l2 t2))) ?_
  refine aV ⟨n1,n2⟩ cS rfl ?_
  simp only[seval,kT,hX]
  exact next _ (.of_keep [4,5,67] (by exact rfl))
 refine aSB [18,20] 4 [[4,5,6,7],[5,4,6,7]] (by kernel_rfl) rfl (by kernel_rfl) (by kernel_rfl) (by kernel_rfl) ?_
 simp only[qq,aF,dN,aB,cav,Tryz.underlying77,Nat.reduceEqDiff,bD,Int.le_refl,Int.cast_ofNat_Int,Int.reduceLT,Int.toNat_zero,Nat.zero_mul,h74,Nat.reduceLeDiff,Nat.reduceLT,aY,List.contains_cons,beq_self_eq_true,Nat.reduceBEq,apart,aO,Tryz.underlying70,Int.reduceLE,Int.reduceToNat,Nat.reduceMul,Bool.false_or,aG,List.length_drop,Nat.reduceSub,hA2,hA1]
 intro o ho
 simp only[List.mem_cons,List.not_mem_nil,or_false] at ho
 rcases ho with rfl|rfl
 ·simp only[pick,List.filterMap_cons,List.filterMap_nil]
  simp only[seval,kT,o1,l1,o2,l2]
  refine fin _ ?_
  exact(zL 7 3 Ba rfl rfl (by omega) n1).trans ((zL 8 4 Bb rfl rfl (by omega) n2).trans (.of_keep [4,5,7,8] rfl))
 ·simp only[pick,List.filterMap_cons,List.filterMap_nil]
  simp only[seval,kT,o1,l1,o2,l2]
  refine fin _ ?_
  exact(zL 7 4 Ba rfl rfl (by omega) n1).trans ((zL 8 3 Bb rfl rfl (by omega) n2).trans (.of_keep [4,5,7,8] rfl))
end Go.Proofs.YtefdnmeopbkflaaGreatDoor
