/-
  Texts of one proof, merged: Gk, Kc, Kd, Ke, Kf, Ta, Kg, Sh, Na, La, Nb, Lb, Nc, Lc, Ld, Nd, Ne, Nf, Le, Lf, Lg, Lh, Li, Lj, Lk, Ll, Lm, Ln, Lo, Lp.
-/
import Derived.Test.YtefdnmeopbkflaaGreatDoorBOw3
import Derived.Shelf.Strings.Builder1
import Derived.Shelf.Strings.Builder2
import Derived.Shelf.Strings.OnBuilder
import Derived.Shelf.Small.Utf8
import Derived.Shelf.Small.Strs
import Derived.Shelf.Small.Wraps
import Derived.Shelf.Utf8.RuneCount
import Derived.Shelf.Strconv.Atoi
import Derived.Shelf.Strconv.Itoa0
import Derived.Shelf.Strconv.Itoa1
import Derived.Shelf.LaysM
import Derived.Shelf.Strconv.Itoa2
import Derived.Shelf.Strconv.Itoa3
import Derived.Shelf.Strconv.AtoiErrFast
import Derived.Shelf.Strconv.ParseIntEmpty
import Derived.Shelf.Strconv.AtoiFail
import Derived.Shelf.Strconv.Clone
import Derived.Shelf.Strconv.SyntaxError
import Derived.Shelf.LaysC
import Derived.Shelf.Strconv.ToError
import Derived.Shelf.Strconv.Lower
import Derived.Shelf.Strconv.ParseUint10
import Derived.Shelf.Strconv.ParseUint10Empty
import Derived.Shelf.Strconv.ParseUint10Any
import Derived.Shelf.Strconv.ParseInt10
import Derived.Shelf.Strconv.AtoiLong
import Derived.Shelf.Strconv.AtoiInnerAll
import Derived.Shelf.Strconv.RangeError
import Derived.Shelf.Strconv.ToErrorRange
import Derived.Shelf.Strconv.AtoiAll
import Derived.Shelf.Strconv.ErrVarAll
import Derived.Ground.MpProg
import Derived.Shelf.Pu.ParseUintPublic10
import Derived.Shelf.Pu.ErrVarParseUint
import Derived.Shelf.Strings.Search1
import Derived.Shelf.Strings.Search2
import Derived.Shelf.Strings.Search3
import Derived.Shelf.Strings.Cut
import Derived.Shelf.Strings.Count
import Derived.Shelf.Strings.Shaped
import Derived.Shelf.GgClosure.StringsIndexFunc
import Derived.Ground.GgwProg
import Derived.Shelf.GgClosure.StringsIndexFuncTop
import Derived.Shelf.GgClosure.StringsRunes
import Derived.Shelf.Strings.Prefix
import Derived.Shelf.Strings.Split
import Derived.Shelf.Strings.SplitShaped
import Derived.Shelf.Unicode.Decode
import Derived.Shelf.Strings.Runes
import Derived.Shelf.Strings.RuneCount
import Derived.Shelf.Strings.Explode
import Derived.Shelf.Unicode.DecodeSlow
import Derived.Shelf.Unicode.DecodeAny
import Derived.Shelf.Strings.FuncGrows
import Derived.Shelf.Slices.Turned
import Derived.Shelf.Slices.Equal
import Derived.Shelf.Slices.Empties2
import Derived.Test.YtefdnmeopbkflaaGreatDoorProg
import Derived.Shelf.Spec.TrailingZeros
set_option linter.unusedSimpArgs false
set_option linter.unusedVariables false
namespace Go.Proofs.YtefdnmeopbkflaaGreatDoor
open Go Go.V
set_option linter.unusedSimpArgs false
set_option linter.unusedVariables false
set_option maxRecDepth 100000
theorem aLl [Gv] (x:AV) (hx:aH x=true) (p:Perm):ACalls Tryz.prog G0 159 [.sl 0 [] p,x] [] (fun r os=>os=[]∧r=.val (.int .i64 (-1))):=by
 refine ke Tryz.func159 Tryz.ntmps159 Tryz.results159 #[3] ?_
 refine ks [0] ?_
 refine aC fun K1 hK1=>?_
 refine aC fun K hK=>aA [] ?_
 simp only[qq,aF,Nat.reduceLT,aB,bI,reduceCtorEq,bV,eN,Tryz.underlying68,Int.cast_ofNat_Int,cav,aG,aI]
 (repeat' apply And.intro)<;>try (first|exact True.intro|omega)
 refine hK _ ?_
 clear hK K
 refine aE [6,7,8] ?_
 simp only[aD,aB,Nat.reduceEqDiff,if_true,if_false]
 refine bK ?_
 refine bZ (fun _:Unit=>_) (fun _=>True) (fun _=>0) () trivial (.refl _) ?_
 intro _ _
 refine ky (kI @Int.lt_irrefl @decide_false) ?_
 refine bJ ?_
 refine aR rfl ?_
 refine dR ?_
 simp only[aI,bL,if_true]
 refine hK1 _ ?_
 clear hK1 K1
 refine kp [6] ?_
 refine ks [4] ?_
 refine aS ?_
 simp only[seval,kT,kF]
theorem aLh [Gv] (v:Value) (p:Perm):ACalls Tryz.prog G0 89 [.sl 0 [] p,.val v] [] (fun r os=>os=[]∧r=.val (.bool false)):=by
 have cI:=aLl (.val v) rfl (bW p)
 refine ke Tryz.func89 Tryz.ntmps89 Tryz.results89 #[4] ?_
 refine ks [0,1] ?_
 refine kr [] fun K hK=>?_
 refine aV (by simp[aM]) cI rfl ?_
 simp only[seval,kT,decide_false]
 refine hK _ ?_
 clear hK K
 refine kp [4] ?_
 refine aS ?_
 simp only[seval,kT,kF]
theorem aOb [Gv] {C:List Nat→List UInt8→List Nat} (hC:COk C) (t:TokV) (p:Perm) (hs:small t) (hp:fG p=true) (hb:t.bound=false) (hok:okT t=true) (text:List UInt8) (ht:text.length≤200000)
  (hs':small (gK C t (eO text))) (hok':okT (gK C t (eO text))=true) (hl:(gM (gK C t (eO text))).length≤65536)
  (PR:List AV) (hPl:PR.length=23) (hPo:PR.all dC=true) (hPn:aM PR=true) (hP:ACalls Tryz.prog GP 24 [str text] [] (fun r os=>os=[]∧r=.tup [.agg PR,.val (.bool true)])) :
  ACalls Tryz.prog GP 88 [.agg (BA t p),str text] [] (fun r os=>os=[]∧r=.tup [.agg (BA (gK C t (eO text)) .no),.val (.int .i64 0)]):=by
 have hoc:=kG t p
 have hlen:=fV t p hs.2.2.2.1
 have hnB:=iF t p hp
 have hBt:(BA t p).take 37=BA t p:=List.take_of_length_le (by omega)
 have g36:=aHx t p hs.2.2.2.1
 have htk:=aDN t p hs.2.2.2.1
 have hnT:=fQ t p (by cases p<;>simp_all [fG])
 have cK:=(uF t p hs hp hb).g (G:=GP)
 rw[hok,if_pos rfl] at cK
 have cH:=(aLh (.func (.func 157) #[] #[]) .full).g (G:=GP)
 have cA:=aNa hC t p hs hp hb text ht hs' PR hPl hPo hPn hP
 rw[hok',if_pos rfl] at cA
 have hb':(gK C t (eO text)).bound=false:=hb
 have cO:=fun q=>(aLH (gK C t (eO text)) .no q hs' rfl).g (G:=GP)
 have cE:=(aAy (gK C t (eO text)) .no hs' rfl hb' hok' hl).g (G:=GP)
 have hl6:=eP (gK C t (eO text)) .no hs'.2.2.2.1
 have ho6:=gP (gK C t (eO text)) .no
 have hn6:=fQ (gK C t (eO text)) .no rfl
 have ht6:(TA (gK C t (eO text)) .no).take 36=TA (gK C t (eO text)) .no:=List.take_of_length_le (by omega)
 have hd6:(TA (gK C t (eO text)) .no).drop 36=[]:=List.drop_eq_nil_of_le (by omega)
 have hl7:=fV (gK C t (eO text)) .no hs'.2.2.2.1
 have ho7:=kG (gK C t (eO text)) .no
 have hn7:=iF (gK C t (eO text)) .no rfl
 have ht7:(BA (gK C t (eO text)) .no).take 37=BA (gK C t (eO text)) .no:=List.take_of_length_le (by omega)
 have hd7:(BA (gK C t (eO text)) .no).drop 37=[]:=List.drop_eq_nil_of_le (by omega)
 have hz0:=oL
 have hlz:=fV fK .full (by simp[fK])
 have hzd7:(BA fK .full).drop 37=[]:=rfl
 generalize BA fK .full=B0 at *
 generalize gM (gK C t (eO text))=eB at *
 generalize BA (gK C t (eO text)) .no=B7 at *
 generalize TA (gK C t (eO text)) .no=T6 at *
 generalize BA t p=Bd at *
 generalize TA t p=T at *
 simp only[str] at *
 refine ke Tryz.func88 Tryz.ntmps88 Tryz.results88 #[70,37] ?_
 refine ky hoc ?_
 rw[hz0]
 refine kp [1,2,4,5] ?_
 refine aC fun K1 hK1=>?_
 refine aC fun K hK=>aA [] ?_
 simp only[qq,aF,aY,aB,Nat.reduceEqDiff,apart,aO,Tryz.underlying70,bD,hlen,hBt,Nat.reduceLT,aU,Nat.reduceAdd,bF,aT,bA,bW,List.headD_cons,aH]
 refine aV hnB cK rfl ?_
 simp only[seval,kT]
 refine hK _ ?_
 clear hK K
 refine kp [1,2,4,5,6] ?_
 refine kq ?_
 refine aR rfl (bC (hK1 _ ?_))
 clear hK1 K1
 refine kp [1,2,4,5] ?_
 refine aC fun K1 hK1=>?_
 refine kw [] (kI hlen g36) fun K hK=>?_
 refine aV (by simp[aM]) cH rfl ?_
 simp only[aK,aG,aI]
 refine hK _ ?_
 clear hK K
 refine aR rfl (bC (hK1 _ ?_))
 clear hK1 K1
 refine kp [1,2,4,5] ?_
 refine kw [] (kI hlen htk) fun K hK=>?_
 refine aV hnT cA (by simp[aH,aM,hn6]) ?_
 simp only[seval,kT,ho6,hl6]
 refine hK _ ?_
 clear hK K
 refine kp [2,4,5,7,8] ?_
 refine aC fun K1 hK1=>?_
 refine kq ?_
 refine aR rfl (bC (hK1 _ ?_))
 clear hK1 K1
 refine kp [2,4,5,7] ?_
 refine kw [] (kI (kI hl6 ht6) (kI hlen g36)) fun K hK=>?_
 refine aV (by simp[aM,aH,hn6]) (cO _) (by simp[aH,aM,hn7]) ?_
 simp only[seval,kT,ho7,hl7]
 refine hK _ ?_
 clear hK K
 refine kp [4,5,9] ?_
 refine aC fun K1 hK1=>?_
 refine kw [] (kI hl7 ht7) fun K hK=>?_
 refine aV hn7 cE (by simp[aH,aM,aJ]) ?_
 simp only[seval,kT]
 refine hK _ ?_
 clear hK K
 refine kp [4,5,9,11] ?_
 refine kq ?_
 refine aR rfl (bC (hK1 _ ?_))
 clear hK1 K1
 refine kp [4,9] ?_
 refine kx [4,5] (kI (kI hl7 ht7) (kI hlz (kI ho7 hzd7))) ?_
 refine aS ?_
 simp only[seval,kT,kF,hl7,ht7,hn7]
theorem aLk [Gv] (v:Value) (p:Perm):ACalls Tryz.prog G0 146 [.sl 0 [] p,.val v] [] (fun r os=>os=[]∧r=.val (.int .i64 (-1))):=by
 refine ke Tryz.func146 Tryz.ntmps146 Tryz.results146 #[3] ?_
 refine ks [0] ?_
 refine aC fun K1 hK1=>?_
 refine aC fun K hK=>aA [] ?_
 simp only[qq,aF,Nat.reduceLT,aB,bI,reduceCtorEq,bV,eN,Tryz.underlying147,Int.cast_ofNat_Int,cav,aG,aI]
 (repeat' apply And.intro)<;>try (first|exact True.intro|omega)
 refine hK _ ?_
 clear hK K
 refine aE [6,7,8] ?_
 simp only[aD,aB,Nat.reduceEqDiff,if_true,if_false]
 refine bK ?_
 refine bZ (fun _:Unit=>_) (fun _=>True) (fun _=>0) () trivial (.refl _) ?_
 intro _ _
 refine ky (kI @Int.lt_irrefl @decide_false) ?_
 refine bJ ?_
 refine aR rfl ?_
 refine dR ?_
 simp only[aI,bL,if_true]
 refine hK1 _ ?_
 clear hK1 K1
 refine kp [6] ?_
 refine ks [4] ?_
 refine aS ?_
 simp only[seval,kT,kF]
theorem aLg [Gv] (v:Value) (p:Perm):ACalls Tryz.prog G0 76 [.sl 0 [] p,.val v] [] (fun r os=>os=[]∧r=.val (.bool false)):=by
 have cI:=aLk v (bW p)
 refine ke Tryz.func76 Tryz.ntmps76 Tryz.results76 #[4] ?_
 refine ks [0,1] ?_
 refine kr [] fun K hK=>?_
 refine aV (by simp[aM]) cI rfl ?_
 simp only[seval,kT,decide_false]
 refine hK _ ?_
 clear hK K
 refine kp [4] ?_
 refine aS ?_
 simp only[seval,kT,kF]
def aAM (C:List Nat→List UInt8→List Nat) (key:List UInt8) (t:TokV):Prop:=t.tag=pU C (lL C key t.key t.id) t.cavs
theorem aKJ [Gv] {C:List Nat→List UInt8→List Nat} (hC:COk C) (key:List UInt8) (hk:key.length=32) (t:TokV) (ts:List (List UInt8)) (p:Perm) (hp:fG p=true) (hs:small t) (hpl:wC t ts) (hb:t.bound=false) (hok:okT t=true) (htag:aAM C key t)
  (RQ:List AV) (hRl:RQ.length=20) (hRo:RQ.all dC=true) (hRn:aM RQ=true) (clock:Nat) (g:List UInt8→Bool)
  (hG:∀ s∈ts,ACalls Tryz.prog GP 75 [str s,.agg RQ,.val (.int .u64 (clock:Int))] [] (fun r os=>os=[]∧r=.val (.bool (g s)))) :
  ACalls Tryz.prog GP 28 [.agg (Bs key),.agg (BA t p),.agg RQ,.val (.int .u64 (clock:Int))] [] (fun r os=>os=[]∧r=.val (.int .i64 (if ts.all g then 0 else 7))):=by
 have hoc:=kG t p
 have hlen:=fV t p hs.2.2.2.1
 have hnB:=iF t p hp
 have hBt:(BA t p).take 37=BA t p:=List.take_of_length_le (by omega)
 have g2:=aNA t p
 have g36:=aHx t p hs.2.2.2.1
 have g4:=aOv t p hs.2.2.2.1
 have htk:=aDN t p hs.2.2.2.1
 have hnT:=fQ t p (by cases p<;>simp_all [fG])
 have hlT:=eP t p hs.2.2.2.1
 have hoT:=gP t p
 have gT2:=(sZ t p).2.2.1
 have cK:=(uF t p hs hp hb).g (G:=GP)
 rw[hok,if_pos rfl] at cK
 have cT:=aLP hC key hk t p hs (by cases p<;>simp_all [fG])
 have hsl:(lL C key t.key t.id).length=32:=fO hC _ _ _
 have hlast:=aBj hC (lL C key t.key t.id) hsl t.cavs t.cavs.length
 have htl:=lW hC (lL C key t.key t.id) hsl t.cavs t.cavs.length
 rw[List.take_length,← htag] at hlast
 generalize pV C (lL C key t.key t.id) t.cavs t.cavs.length=tg at *
 have ht32:=hs.2.2.2.1
 have hcl:t.cavs.length=ts.length:=by rw[hpl,List.length_map]
 have cE:=(aLX t.tag t.tag .no .no (by omega)).g (G:=GP)
 have hkt:key.take 32=key:=List.take_of_length_le (by omega)
 generalize BA t p=Bd at *
 generalize TA t p=T at *
 refine aQ Tryz.func28 rfl rfl Tryz.ntmps28 (rts:=#[38]) rfl Tryz.results28 (by simp) ?_
 simp only[aZ,Nat.reduceAdd]
 refine aC fun K hK=>aA [] ?_
 simp only[qq,aF,eF,bB,aB,reduceCtorEq,eR,fN,Nat.reduceLT,Nat.reduceEqDiff,hoc,hRo,Nat.reduceAdd,cav,aG,aI]
 (repeat' apply And.intro)<;>try (first|exact True.intro|omega)
 refine hK _ ?_
 clear hK K
 refine aE [3,4,5,6,8] ?_
 simp only[aD,aB,Nat.reduceEqDiff,if_true,if_false]
 refine aC fun K1 hK1=>?_
 refine aC fun K hK=>aA [] ?_
 simp only[qq,aF,aY,aB,Nat.reduceEqDiff,apart,aO,Tryz.underlying70,bD,hlen,hBt,Nat.reduceLT,aU,Nat.reduceAdd,bF,aT,bA,bW,List.headD_cons,aH]
 refine aV hnB cK rfl ?_
 simp only[qq,aK,aF,aB,Nat.reduceEqDiff,cav,aL,aP,bH,Int.reduceBNe,Nat.reduceLT,aG,aI]
 refine hK _ ?_
 clear hK K
 refine aR rfl (bC (hK1 _ ?_))
 clear hK1 K1
 refine aE [3,4,5,6] ?_
 simp only[aD,aB,Nat.reduceEqDiff,if_true,if_false]
 refine aC fun K hK=>?_
 refine dW [] (by kernel_rfl) (by kernel_rfl) ?_
 simp only[qq,aF,aY,aB,Nat.reduceEqDiff,apart,aO,Tryz.underlying70,bD,hlen,hBt,Nat.reduceLT,aN,ne_eq,reduceCtorEq,Tryz.underlying68,bI,bV,eN,aCO,Tryz.underlying147,Tryz.underlying67,Tryz.underlying23,aU,Nat.reduceAdd,bF,aT,bA,bW,List.headD_cons,List.tail_cons,g36,Int.cast_ofNat_Int,lX,bS,Int.le_refl,Int.mul_zero,Int.reduceLE,Int.toNat_zero,aHu,Nat.reduceLeDiff,htk,aX,hk,eS,hkt,aH,aJ]
 refine aV (by simp[aM,aH,aJ,hnT]) cT (by simp[aH,aJ]) ?_
 have hT36:∀ r:List AV,(T++r).take 36=T:=fun r=>List.take_left' hlT
 have hTd:∀ x:AV,(T++[x]).drop 37=[]:=fun x=>List.drop_eq_nil_of_le (by simp[hlT])
 have hB37:∀ r:List AV,(Bd++r).take 37=Bd:=fun r=>List.take_left' hlen
 have hB38:∀ x y:AV,(Bd++[x,y]).drop 38=[y]:=fun x y=>by
  rw[show Bd++[x,y]=(Bd++[x])++[y] by simp,List.drop_left' (by simp[hlen])]
 have hB38t:∀ x y:AV,(Bd++[x]++[y]).take 38=Bd++[x]:=fun x y=>List.take_left' (by simp[hlen])
 have hB39:∀ x y:AV,(Bd++[x]++[y]).drop 39=[]:=fun x y=>List.drop_eq_nil_of_le (by simp[hlen])
 simp only[qq,aK,aF,fA,bS,Tryz.underlying151,kO,cav,dO,aB,Nat.reduceEqDiff,eM,spl,bB,hlT,hT36,Nat.reduceAdd,hTd,List.length_append,List.all_cons,dC,List.all_nil,Nat.reduceLeDiff,hoT,Nat.reduceLT,dV,Tryz.underlying152,bD,qC,Nat.zero_mul,Nat.reduceMul,List.length_drop,dL,Tryz.underlying154,hlen,hB37,hB38,hB38t,hB39,hoc,eF,fN,aG,aI,List.all_append,List.drop_nil]
 refine hK _ ?_
 clear hK K
 refine aE [3,5,6,9] ?_
 simp only[aD,aB,Nat.reduceEqDiff,if_true,if_false]
 obtain⟨TK,hTK⟩:∃ TK:List AV,TK=T++[.sl (t.cavs.length+1) (Bs tg) .no]:=⟨_,rfl⟩
 rw[← hTK]
 have hKl:TK.length=37:=by rw[hTK];simp[hlT]
 have hKo:TK.all dC=true:=by rw[hTK,List.all_append,hoT];rfl
 have hK2:TK.getD 2 .top=.sl t.cavs.length (CS t.cavs) p:=by
  rw[hTK,List.getD_eq_getElem?_getD,List.getElem?_append_left (by omega),← List.getD_eq_getElem?_getD,gT2]
 have hK36:TK.getD 36 .top=.sl (t.cavs.length+1) (Bs tg) .no:=by
  rw[hTK,List.getD_eq_getElem?_getD,List.getElem?_append_right (by omega),hlT];rfl
 have hKt:TK.take 37=TK:=List.take_of_length_le (by omega)
 have hKd:TK.drop 37=[]:=List.drop_eq_nil_of_le (by omega)
 clear hTK
 have hWl:∀ a x:AV,(Bd++[a]++[x]).length=39:=fun a x=>by simp[hlen]
 have hW37:∀ a x:AV,(Bd++[a]++[x]).getD 37 .top=a:=fun a x=>by
  rw[List.getD_eq_getElem?_getD,List.append_assoc,List.getElem?_append_right (by omega),hlen];rfl
 have hW38:∀ a x:AV,(Bd++[a]++[x]).getD 38 .top=x:=fun a x=>by
  rw[List.getD_eq_getElem?_getD,List.append_assoc,List.getElem?_append_right (by omega),hlen];rfl
 have hbt:(Bs t.tag).length=32:=by rw[aX];omega
 have hbo:(Bs t.tag).all dC=true:=by
  rw[List.all_eq_true]
  intro x hx
  obtain⟨z,_,rfl⟩:=List.mem_map.1 hx
  rfl
 have htt:t.tag.take 32=t.tag:=List.take_of_length_le (by omega)
 have hz:(Z 32).drop 32=[]:=List.drop_eq_nil_of_le (by rw[eZ];exact Nat.le_refl _)
 have hmx:=hs.2.1
 refine aC fun K1 hK1=>?_
 refine aC fun K hK=>?_
 refine dW [] (by kernel_rfl) (by kernel_rfl) ?_
 simp only[qq,aF,Nat.reduceLT,aB,Nat.reduceEqDiff,fY,aN,Tryz.underlying154,bD,ne_eq,reduceCtorEq,aY,apart,aO,Tryz.underlying152,dN,cav,Int.le_refl,Int.toNat_zero,Nat.zero_mul,Tryz.underlying151,Tryz.underlying148,Tryz.underlying70,Tryz.underlying67,Tryz.underlying65,bI,bV,eN,Tryz.underlying23,dF,bS,jK,bQ,bX,bB,spl,aG,aI,hlen,g2,Int.toNat_natCast,Nat.reduceAdd,aX,eZ,eA,hWl,hW38,hKl,Nat.reduceMul,Int.cast_ofNat_Int,Int.reduceLT,Nat.reduceLeDiff,List.length_drop,Nat.reduceSub,fL,hK36,htl,hlast,hbt,eS,htt,hbo,hz,gV]
 refine⟨⟨by omega,by omega⟩,hK _ ?_⟩
 clear hK K
 refine aE [3,5,6,9,10] ?_
 simp only[aD,aB,Nat.reduceEqDiff,if_true,if_false]
 have g4':(Bd.drop 4).take 32=Bs t.tag:=g4
 rw[ht32] at cE
 refine aC fun K hK=>?_
 refine dW [] (by kernel_rfl) (by kernel_rfl) ?_
 simp only[qq,aF,eY,iR,Option.map_none,Tryz.underlying23,aB,Nat.reduceEqDiff,bD,eJ,Int.le_refl,dH,Int.cast_ofNat_Int,Int.reduceLE,ne_eq,not_true_eq_false,or_false,Int.toNat_zero,Nat.mul_one,Int.sub_zero,Int.reduceToNat,Nat.reduceLT,aN,Tryz.underlying70,reduceCtorEq,Tryz.underlying67,Int.toNat_natCast,Nat.zero_mul,iC,aU,Nat.reduceAdd,bF,aT,bA,bW,List.headD_cons,Tryz.underlying54,List.tail_cons,hlen,Nat.reduceLeDiff,g4',aJ,hbt,eS,htt]
 refine aV trivial cE (by simp[flat]) ?_
 simp only[qq,aK,aF,aun,aB,Nat.reduceEqDiff,Nat.reduceLT,aG,aI]
 refine hK _ ?_
 clear hK K
 refine aR (by simp only[aB,lk];simp) (bC (hK1 _ ?_))
 clear hK1 K1
 refine lT 4 ?_
 refine aE [3,5,6,9] ?_
 simp only[aD,aB,Nat.reduceEqDiff,if_true,if_false]
 simp only[List.set_cons_succ,List.set_cons_zero]
 refine aC fun K1 hK1=>?_
 refine bK ?_
 refine bZ (fun b:Bool=>⟨108,[(3,.val (.int .u64 (clock:Int))),(5,.ptr 1 0),(6,.ptr 2 0),(9,.ptr 3 0)],if b then .cells (Bs key)::.cells Bd::.cells RQ::.cells (Bd++[.sl 0 [] .no]++[.sl 0 [] .full])::.dead::.dead::dd ts.length else [.cells (Bs key),.cells Bd,.cells RQ,.cells (Bd++[.sl 0 [] .no]++[.sl 1 TK .full]),.dead]⟩)
  (fun b=>b=true→ts.all g=true) (fun b=>if b then 0 else 1) false (by simp) (.of_keep [3,5,6,9] rfl) ?_
 intro b hbI
 cases b with
 | true=>
  have hall:=hbI rfl
  refine bJ ?_
  refine bJ ?_
  refine aA [] ?_
  simp only[qq,aF,Nat.reduceLT,aB,Nat.reduceEqDiff,fY,aN,Tryz.underlying154,bD,ne_eq,reduceCtorEq,aY,apart,aO,Tryz.underlying152,bI,bV,eN,cav,aL,aG,aI,hWl,hW38,Int.cast_ofNat_Int,aP,bH,Int.lt_irrefl,decide_false]
  refine aR rfl ?_
  refine dR ?_
  simp only[aI,bL,if_true]
  refine hK1 _ ?_
  clear hK1 K1
  refine aE [9] ?_
  simp only[aD,aB,Nat.reduceEqDiff,if_true,if_false]
  refine aC fun K1 hK1=>?_
  refine aC fun K hK=>aA [] ?_
  simp only[qq,aF,Nat.reduceLT,aB,fY,Nat.reduceEqDiff,aN,Tryz.underlying154,bD,ne_eq,reduceCtorEq,aY,apart,aO,Tryz.underlying147,aU,Nat.reduceAdd,cav,bF,aT,bA,bW,List.headD_cons,aH,hWl,hW37,aM]
  refine aV (by simp[aM]) (aLg (.bool false) .no).g rfl ?_
  simp only[aK,aG,aI]
  refine hK _ ?_
  clear hK K
  refine aR rfl (bC (hK1 _ ?_))
  clear hK1 K1
  refine aE [9] ?_
  simp only[aD,aB,Nat.reduceEqDiff,if_true,if_false]
  refine aC fun K hK=>aA [] ?_
  simp only[qq,aF,Nat.reduceLT,aB,cav,aG,aI]
  (repeat' apply And.intro)<;>try (first|exact True.intro|omega)
  refine hK _ ?_
  clear hK K
  refine aE [8] ?_
  simp only[aD,aB,Nat.reduceEqDiff,if_true,if_false]
  refine aS ?_
  exact⟨_,_,rfl,⟨rfl,trivial⟩,rfl,by rw[hall];rfl⟩
 | false=>
  clear hbI
  refine bJ ?_
  refine bJ ?_
  refine aA [] ?_
  simp only[qq,aF,Nat.reduceLT,aB,Nat.reduceEqDiff,fY,aN,Tryz.underlying154,bD,ne_eq,reduceCtorEq,aY,apart,aO,Tryz.underlying152,bI,bV,eN,cav,aL,aG,aI,hWl,hW38,Int.cast_ofNat_Int,aP,bH,Int.reduceGT,decide_true]
  refine bG rfl (bC ?_)
  simp only[aI]
  refine aE [3,5,6,9] ?_
  simp only[aD,aB,Nat.reduceEqDiff,if_true,if_false]
  refine bK ?_
  refine aC fun K hK=>aA [] ?_
  simp only[qq,aF,Nat.reduceLT,aB,Nat.reduceEqDiff,fY,aN,Tryz.underlying154,bD,ne_eq,reduceCtorEq,aY,apart,aO,Tryz.underlying152,dN,cav,Int.le_refl,Int.toNat_zero,Nat.zero_mul,Tryz.underlying151,dF,bS,Nat.reduceAdd,bQ,bX,bB,spl,aG,aI,hWl,hW38,hKl,Nat.reduceMul,Int.cast_ofNat_Int,Int.reduceLT,Nat.zero_lt_succ,hKt,hKo,List.drop_nil]
  refine hK _ ?_
  clear hK K
  refine aE [3,5,6,9,11] ?_
  simp only[aD,aB,Nat.reduceEqDiff,if_true,if_false]
  refine aC fun K hK=>aA [] ?_
  have h11:((1:Int) - 1).toNat=0:=rfl
  simp only[qq,aF,Nat.reduceLT,aB,Nat.reduceEqDiff,fY,aN,Tryz.underlying154,bD,ne_eq,reduceCtorEq,aY,apart,aO,Tryz.underlying152,eY,iR,Option.map_some,cav,Option.map_none,eJ,Int.reduceLE,dH,Int.le_refl,not_true_eq_false,or_false,Int.reduceToNat,iC,Int.toNat_natCast,bQ,bX,bB,spl,aG,aI,hWl,hB38t,hW38,hKl,Nat.reduceMul,Int.cast_ofNat_Int,h11,Nat.zero_mul,hKd,List.take_nil,List.all_cons,dC,List.all_nil,Nat.reduceAdd,Nat.zero_lt_succ,hB39]
  refine hK _ ?_
  clear hK K
  refine aE [3,5,6,9,11] ?_
  simp only[aD,aB,Nat.reduceEqDiff,if_true,if_false]
  have hCl:=mD t.cavs
  refine aC fun K hK=>aA [] ?_
  simp only[qq,aF,aN,Tryz.underlying151,bD,aB,Nat.reduceEqDiff,ne_eq,reduceCtorEq,Nat.reduceLT,Tryz.underlying67,aY,apart,aO,Tryz.underlying65,bI,bV,eN,cav,aG,aI,hKl,hK2]
  (repeat' apply And.intro)<;>try (first|exact True.intro|omega)
  refine hK _ ?_
  clear hK K
  refine aE [3,5,6,9,11,74,75,76] ?_
  simp only[aD,aB,Nat.reduceEqDiff,if_true,if_false]
  refine bK ?_
  refine bZ (fun i:Nat=>⟨108,[(3,.val (.int .u64 (clock:Int))),(5,.ptr 1 0),(6,.ptr 2 0),(9,.ptr 3 0),(11,.ptr 5 0),(74,.sl t.cavs.length (CS t.cavs) p),(75,.val (.int .i64 (t.cavs.length:Int))),(76,.val (.int .i64 (i:Int)))],.cells (Bs key)::.cells Bd::.cells RQ::.cells (Bd++[.sl 0 [] .no]++[.sl 0 [] .full])::.dead::.cells TK::dd i⟩)
   (fun i=>i≤ts.length∧(ts.take i).all g=true) (fun i=>ts.length - i) 0 (by simp) (.of_keep [3,5,6,9,11,74,75,76] rfl) ?_
  rintro i ⟨hi,hga⟩
  refine aC fun K hK=>aA [] ?_
  simp only[qq,aF,aB,Nat.reduceEqDiff,aL,aP,bH,jM,Nat.reduceLT,aG,aI]
  (repeat' apply And.intro)<;>try (first|exact True.intro|omega)
  refine hK _ ?_
  clear hK K
  refine bJ ?_
  refine fB rfl rfl (fun hq=>?_) (fun hq=>?_)
  ·have hlt:i<t.cavs.length:=of_decide_eq_true hq
   have hlt':i<ts.length:=by omega
   refine bC ?_
   simp only[aI]
   refine aE [3,5,6,9,11,74,75,76] ?_
   simp only[aD,aB,Nat.reduceEqDiff,if_true,if_false]
   have hget:=aDO hlt (t.cavs[i])
   rw[List.getD_eq_getElem?_getD,List.getElem?_eq_getElem hlt] at hget
   simp only[Option.getD_some] at hget
   have hci:t.cavs[i]=eO ts[i]:=by
    have:t.cavs[i]? = (ts.map eO)[i]?:=by rw[hpl]
    rw[List.getElem?_eq_getElem hlt,List.getElem?_map,List.getElem?_eq_getElem hlt'] at this
    simpa using this
   rw[hci] at hget
   have cG:=hG ts[i] (List.getElem_mem hlt')
   have htk1:(ts.take (i+1)).all g=((ts.take i).all g&&g ts[i]):=by
    rw[List.take_add_one,List.getElem?_eq_getElem hlt',List.all_append]
    simp
   have hany:g ts[i]=false→ts.all g=false:=fun h=>by
    rw[Bool.eq_false_iff]
    intro hh
    rw[List.all_eq_true] at hh
    rw[hh _ (List.getElem_mem hlt')] at h
    cases h
   generalize ts[i]=s at *
   rw[show CA (eO s)=[.val (.bool false),.val (.string ⟨s.toArray⟩),.val (.int .u64 0),.val (.string ⟨#[]⟩),.val (.string ⟨#[]⟩)] from rfl] at hget
   simp only[str] at cG
   refine bJ ?_
   refine bK ?_
   refine aC fun K hK=>aA [] ?_
   simp only[qq,aF,Nat.reduceLT,aB,Nat.reduceEqDiff,dN,Tryz.underlying65,bD,hCl,Int.toNat_natCast,aY,apart,aO,Tryz.underlying74,dF,bS,iS,cav,bQ,bX,bB,spl,aG,aI,oR,Nat.reduceAdd,lU,List.length_drop,hget,List.all_cons,dC,Value.oneCell',List.all_nil,List.drop_nil]
   refine⟨⟨by omega,by omega⟩,by omega,hK _ ?_⟩
   clear hK K
   have hRt:RQ.take 20=RQ:=List.take_of_length_le (by omega)
   refine aE [3,5,6,9,11,13,74,75,76] ?_
   simp only[aD,aB,Nat.reduceEqDiff,if_true,if_false]
   refine aC fun K hK=>aA [] ?_
   simp only[qq,aF,Nat.reduceLT,aB,cav,aG,aI]
   (repeat' apply And.intro)<;>try (first|exact True.intro|omega)
   refine hK _ ?_
   clear hK K
   refine aE [3,5,6,9,11,13,14,74,75,76] ?_
   simp only[aD,aB,Nat.reduceEqDiff,if_true,if_false]
   refine aC fun K2 hK2=>?_
   refine bK ?_
   refine bJ ?_
   refine aA [] ?_
   simp only[qq,aF,aN,Tryz.underlying74,bD,aB,Nat.reduceEqDiff,ne_eq,reduceCtorEq,Nat.reduceLT,aY,apart,aO,Tryz.underlying4,aG,aI,oR,Nat.reduceAdd]
   refine aR rfl ?_
   refine bJ ?_
   refine aA [] ?_
   simp only[qq,aF,aN,Tryz.underlying74,bD,aB,Nat.reduceEqDiff,ne_eq,reduceCtorEq,Nat.reduceLT,aY,apart,aO,Tryz.underlying9,Tryz.underlying29,hRl,hRt,aU,Nat.reduceAdd,bF,aT,bA,bW,List.headD_cons,List.tail_cons,aH,oR,List.getD_cons_succ]
   refine aV (by simp[aM,aH,hRn]) cG rfl ?_
   simp only[qq,aK,aF,aun,aB,Nat.reduceEqDiff,Nat.reduceLT,aG,aI]
   cases hgs:g s with
   | false=>
    refine bG (by simp only[aB,lk];simp[hgs]) ?_
    refine aE [3,5,6,9,11,13,74,75,76] ?_
    simp only[aD,aB,Nat.reduceEqDiff,if_true,if_false]
    refine aA [] ?_
    simp only[qq,aF,Nat.reduceLT,aB,cav,aG]
    simp only[bL,aI]
    refine hK2 _ ?_
    clear hK2 K2
    refine aE [14] ?_
    simp only[aD,aB,Nat.reduceEqDiff,if_true,if_false]
    refine bJ ?_
    refine aA [] ?_
    simp only[qq,aF,Nat.reduceLT,aB,Nat.reduceEqDiff,cav,aL,aP,bH,Int.reduceBNe,aG,aI]
    refine bG rfl ?_
    refine aE [14] ?_
    simp only[aD,aB,Nat.reduceEqDiff,if_true,if_false]
    refine aC fun K hK=>aA [] ?_
    simp only[qq,aF,Nat.reduceLT,aB,Nat.reduceEqDiff,aG,aI]
    (repeat' apply And.intro)<;>try (first|exact True.intro|omega)
    refine hK _ ?_
    clear hK K
    refine aE [8] ?_
    simp only[aD,aB,Nat.reduceEqDiff,if_true,if_false]
    refine aS ?_
    simp only[bL,aI]
    exact⟨_,_,rfl,⟨rfl,trivial⟩,rfl,by rw[hany hgs];rfl⟩
   | true=>
    refine aR (by simp only[aB,lk];simp[hgs]) ?_
    refine bC ?_
    simp only[bL,aI]
    refine hK2 _ ?_
    clear hK2 K2
    refine aE [3,5,6,9,11,13,14,74,75,76] ?_
    simp only[aD,aB,Nat.reduceEqDiff,if_true,if_false]
    refine bJ ?_
    refine aA [] ?_
    simp only[qq,aF,Nat.reduceLT,aB,Nat.reduceEqDiff,cav,aL,aP,bH,Int.reduceBNe,aG,aI]
    refine aR rfl ?_
    refine bC ?_
    simp only[bL,aI]
    refine lT (i+6) ?_
    simp only[List.set_cons_succ,lU,rN]
    refine aE [3,5,6,9,11,74,75,76] ?_
    simp only[aD,aB,Nat.reduceEqDiff,if_true,if_false]
    have h6:IntKind.i64.wrap ((i+1:Nat):Int)=((i+1:Nat):Int):=fD (by have:=hs.2.1;omega)
    refine aA [] ?_
    simp only[qq,aF,aB,Nat.reduceEqDiff,cav,aL,aP,bH,gO,h6,Nat.reduceLT,aG,aI]
    exact⟨i+1,⟨by omega,by rw[htk1,hga,hgs];rfl⟩,by omega,.of_keep [3,5,6,9,11,74,75,76] rfl⟩
  ·have he:i=ts.length:=by have:=of_decide_eq_false hq;omega
   subst he
   refine dR ?_
   simp only[aI,bL,if_true]
   rw[List.take_length] at hga
   exact⟨true,fun _=>hga,by decide,.trans (.dead 5) (.of_keep [3,5,6,9] (by exact rfl))⟩
def SV (clock most last:Nat) (m:AObj) (l:List OutV):List AObj:=[.cells [.val (.int .u64 (clock:Int)),.ptr 1 0,.ptr 3 0],KO most last 2,m,SO l 4,.tok 3 l.length]
theorem xI [Gv]:ACalls Tryz.prog GP 85 [.val (.int .i64 0)] [] (fun r os=>os=[]∧r=.tup []):=by
 refine ke Tryz.func85 Tryz.ntmps85 Tryz.results85 #[] ?_
 refine kq ?_
 refine aR rfl (bC ?_)
 exact⟨_,_,rfl,trivial,rfl,rfl⟩
theorem aBe [Gv] (most:Nat) (h:most≤1024):ACalls Tryz.prog GP 10 [.val (.int .i64 (most:Int))] [] (fun r os=>os=SV 0 most 0 (.map []) []∧r=.ptr 0 0):=by
 have cK:=aNw most h
 have cS:=aOV
 simp only[KO,SO,List.length_nil,show OS []=[] from rfl] at *
 refine dB Tryz.func10 rfl rfl Tryz.ntmps10 (rts:=#[35]) rfl Tryz.results10 (by simp) ?_
 simp only[seval,aZ]
 refine ks [0] ?_
 refine kr [1000004,1000005] fun K hK=>?_
 refine gF [] false [3] ⟨by decide,by simp,by simp⟩ rfl (by simp[aH]) (by simpa[GHd] using cK) ⟨by simp,by simp[fU,eV,ref,jH],by simp[eV,ref],fun h=>by cases h⟩ ?_
 simp only[seval,kT,ren,σn,jD,gG,gJ,gH]
 refine gF [] false [] ⟨by decide,by simp,by simp⟩ rfl (by simp[aH]) (by simpa[GHd] using cS) ⟨by simp,by simp[fU,eV,ref,jH,OS],by simp[eV,ref],fun h=>by cases h⟩ ?_
 simp only[seval,kT,ren,σn,jD,gG,gJ,gH,rB]
 refine hK _ ?_
 clear hK K
 refine kp [2] ?_
 apply aS
 refine nW [4,0,1,2,3] ⟨by simp,by simp,by decide,by simp,by simp[fU,eV,ref,jH]⟩ ?_
 exact⟨⟨trivial,trivial⟩,rfl,rfl,rfl⟩
structure OpF (O:List AV) (kind key un ticks out:Nat) (draw text:List UInt8) (pub:Bool):Prop where
 len:O.length=129
 ones:O.all dC=true
 nor:aM O=true
 fkind:O.getD 0 .top=.val (.int .i64 (kind:Int))
 fkey:O.getD 1 .top=.val (.int .u64 (key:Int))
 funtil:O.getD 2 .top=.val (.int .u64 (un:Int))
 fticks:O.getD 4 .top=.val (.int .u64 (ticks:Int))
 fdraw:(O.drop 5).take 32=Bs draw
 ldraw:draw.length=32
 ftext:O.getD 101 .top=.val (.string ⟨text.toArray⟩)
 fout:O.getD 104 .top=.val (.int .i64 (out:Int))
 fpub:O.getD 128 .top=.val (.bool pub)
theorem jX [Gv] (clock most last:Nat) (m:AObj) (hm:eH m=true) (l:List OutV):∀ o∈SV clock most last m l,fU (fun r=>decide (r<5)) o=true:=by
 intro o ho
 simp only[SV,List.mem_cons,List.not_mem_nil,or_false] at ho
 rcases ho with rfl|rfl|rfl|rfl|rfl
 ·rfl
 ·rfl
 ·exact aBa _ _ hm
 ·simp[SO,fU,eV,ref,jH,bM _ _ (gA l)]
 ·rfl
def AN (e r n:Nat) (out:Int):List AV:=[.val (.int .i64 (e:Int)),.val (.int .i64 (r:Int)),.val (.int .u64 (n:Int)),.val (.int .i64 out)]
theorem aGD [Gv] (clock most last:Nat) (m:AObj) (hm:eH m=true) (l:List OutV) (hl:l.length≤1000000) (t:TokV) (p:Perm) (hp:fG p=true) (hs:small t) (hok:okT t=true) (hb:t.bound=false) (hlen:(gM t).length≤65536)
  (O:List AV) {kind key un ticks out:Nat} {draw text:List UInt8} {pub:Bool} (hO:OpF O kind key un ticks out draw text pub) :
  ACalls Tryz.prog GP 86 [.ptr 0 0,.agg (BA t p),.agg O] (SV clock most last m l) (fun r os=>os=SV clock most last m (l++[⟨gM t,true,pub⟩])∧r=.agg (AN 0 0 0 (l.length:Int))):=by
 have cE:=(aAy t p hs hp hb hok hlen).g (G:=GP)
 have cP:=aOW l hl ⟨gM t,true,pub⟩
 have hOA:OA ⟨gM t,true,pub⟩=[.val (.string ⟨(gM t).toArray⟩),.val (.bool true),.val (.bool pub)]:=rfl
 rw[hOA] at cP
 have hnl:=gA l
 have hnl2:=gA (l++[⟨gM t,true,pub⟩])
 have hlB:=fV t p hs.2.2.2.1
 have hoB:=kG t p
 have hnB:=iF t p hp
 have hBt:(BA t p).take 37=BA t p:=List.take_of_length_le (by omega)
 have hrf:=jX clock most last m hm
 generalize (⟨gM t,true,pub⟩:OutV)=ov at *
 generalize gM t=eB at *
 generalize BA t p=Bd at *
 have hOl:=hO.len
 have hOo:=hO.ones
 have hOp:=hO.fpub
 have hOt:O.take 129=O:=List.take_of_length_le (by omega)
 simp only[SV,KO,SO] at *
 refine dB Tryz.func86 rfl rfl Tryz.ntmps86 (rts:=#[40]) rfl Tryz.results86 (by simp) ?_
 simp only[seval,aZ]
 refine kx [0,4,5,6] (kI hoB hOo) ?_
 refine kw [] (kI hlB hBt) fun K hK=>?_
 refine aV hnB cE (by simp[aH,aM,aJ]) ?_
 simp only[seval,kT]
 refine hK _ ?_
 clear hK K
 refine kp [0,5,6,7,8] ?_
 refine kr [] fun K hK=>?_
 refine aV trivial xI (by simp[aH,aM]) ?_
 simp only[seval,kT]
 refine hK _ ?_
 clear hK K
 refine kp [0,5,6,7] ?_
 refine aC fun K hK=>?_
 refine kde [1000025] (kI hOl hOp) ?_
 refine gF [3,4] false [50,48] ⟨by decide,by simp,by simp[fU,eV,ref,jH,bM _ _ hnl]⟩ rfl (by simp[aH]) (by simp only[GHd,List.map_cons,List.map_nil,List.getD_cons_zero,List.getD_cons_succ,gJ,gH,ren,rB,cY _ _ hnl];exact cP) ⟨by simp,by simp[fU,eV,ref,jH,bM _ _ hnl2],by simp[eV,ref],fun h=>by cases h⟩ ?_
 simp only[seval,kT,ren,jD,gG,gJ,gH,cY _ _ hnl2,rB,σn]
 refine hK _ ?_
 clear hK K
 refine kp [6] ?_
 apply aS
 have hr:=hrf (l++[ov])
 simp only[List.length_append,List.length_cons,List.length_nil,Nat.zero_add] at hr ⊢
 refine fE (by simp) hr ?_
 simp only[seval,kT,kN]
 exact⟨rfl,rfl⟩
theorem gY [Gv] (tag:List UInt8) (u:Nat):eH (KM tag u)=true:=by simp[KM,eH,aM,aH,oJ]
theorem aNk [Gv] (clock most:Nat) (tag:List UInt8) (ht:tag.length=32) (u:Nat) (hlive:clock<u) (l:List OutV) :
  ACalls Tryz.prog GP 84 [.ptr 0 0,.val (.int .i64 1),.val (.int .u64 1)] (SV clock most 1 (KM tag u) l) (fun r os=>os=SV clock most 1 (KM tag u) l∧r=.agg (Bs tag)):=by
 have cF:=aFW most tag ht u clock
 rw[if_pos hlive] at cF
 have hnY:=oJ tag u
 have hrf:=jX clock most 1 (KM tag u) (gY tag u) l
 have hbl:(Bs tag).length=32:=by rw[aX];omega
 have htt:tag.take 32=tag:=List.take_of_length_le (by omega)
 have hbo:(Bs tag).all dC=true:=by
  rw[List.all_eq_true]
  intro x hx
  obtain⟨z,_,rfl⟩:=List.mem_map.1 hx
  rfl
 have hz:(Z 32).drop 32=[]:=List.drop_eq_nil_of_le (by rw[eZ];exact Nat.le_refl _)
 simp only[SV,KO,KM] at *
 refine dB Tryz.func84 rfl rfl Tryz.ntmps84 (rts:=#[23]) rfl Tryz.results84 (by simp) ?_
 simp only[seval,aZ]
 refine ks [0,1,2,6] ?_
 refine aC fun K hK=>?_
 refine kd [2000020] ?_
 refine gF [1,2] false [103,3,30,30] ⟨by decide,by simp,by simp[fU,eV,ref,jH,bM _ _ hnY]⟩ rfl (by simp[aH]) (by simp only[GHd,List.map_cons,List.map_nil,List.getD_cons_zero,List.getD_cons_succ,gJ,gH,ren,rB,cY _ _ hnY];exact cF) ⟨by simp,by simp[fU,eV,ref,jH,bM _ _ hnY],by simp[eV,ref,bM _ _ (aJ tag)],fun h=>by cases h⟩ ?_
 simp only[seval,kT,ren,gH,cY _ _ (aJ tag),jD,gG,gJ,σn,cY _ _ hnY,hbo,hbl,hz]
 refine hK _ ?_
 clear hK K
 refine kp [6,7,8] ?_
 refine aC fun K1 hK1=>?_
 refine kq ?_
 refine aR rfl (bC (hK1 _ ?_))
 clear hK1 K1
 refine kp [6,7] ?_
 refine kx [6] (kI (kI hbl htt) (kI hbo hz)) ?_
 apply aS
 refine fE (by simp) hrf ?_
 simp only[seval,kT,kN,hbl,htt]
 simp[ref,bM _ _ (aJ tag)]
theorem aGC [Gv] (clock most last:Nat) (m:AObj) (hm:eH m=true) (l:List OutV) (hl:l.length≤1000000) (i:Nat) (hi:i<l.length) (t:TokV) (ts:List (List UInt8)) (ho:isB l[i] t ts) :
  ACalls Tryz.prog GP 87 [.ptr 0 0,.val (.int .i64 (i:Int))] (SV clock most last m l) (fun r os=>os=SV clock most last m l∧r=.agg (BA t .no)):=by
 have cR:=aHe l hl i hi t ts ho
 obtain⟨o1,o2,hs,hpl,hok,hb,hlen⟩:=ho
 have hnC:=gA l
 have hlB:=fV t .no hs.2.2.2.1
 have hoB:=kG t .no
 have hnB:=iF t .no rfl
 have hBt:(BA t .no).take 37=BA t .no:=List.take_of_length_le (by omega)
 have hBd:(BA t .no).drop 37=[]:=List.drop_eq_nil_of_le (by omega)
 have hz0:=oL
 have hlz:=fV fK .full (by simp[fK])
 have hzd7:(BA fK .full).drop 37=[]:=rfl
 have hrf:=jX clock most last m hm l
 generalize BA fK .full=B0 at *
 generalize BA t .no=Bd at *
 simp only[SV,KO,SO] at *
 refine dB Tryz.func87 rfl rfl Tryz.ntmps87 (rts:=#[70]) rfl Tryz.results87 (by simp) ?_
 simp only[seval,aZ]
 refine kq ?_
 rw[hz0]
 refine kp [0,1,4] ?_
 refine kr [1000013] fun K hK=>?_
 refine gF [3,4] false [50,3] ⟨by decide,by simp,by simp[fU,eV,ref,jH,bM _ _ hnC]⟩ rfl (by simp[aH]) (by simp only[GHd,List.map_cons,List.map_nil,List.getD_cons_zero,List.getD_cons_succ,gJ,gH,ren,rB,cY _ _ hnC];exact cR) ⟨by simp,by simp[fU,eV,ref,jH,bM _ _ hnC],by simp[eV,ref,bM _ _ hnB],fun h=>by cases h⟩ ?_
 simp only[seval,kT,ren,gH,cY _ _ hnB,jD,gG,gJ,cY _ _ hnC,rB,σn,hoB,hlB]
 refine hK _ ?_
 clear hK K
 refine kp [4,5,6] ?_
 refine kr [] fun K hK=>?_
 refine aV trivial xI (by simp[aH,aM]) ?_
 simp only[seval,kT]
 refine hK _ ?_
 clear hK K
 refine kp [4,5] ?_
 refine kx [4] (kI (kI hlB hBt) (kI hlz (kI hoB hzd7))) ?_
 apply aS
 refine fE (by simp) hrf ?_
 simp only[seval,kT,kN,hlB,hBt]
 simp[ref,eV,bM _ _ hnB]
theorem aFn [Gv] {C:List Nat→List UInt8→List Nat} (hC:COk C) (clock most:Nat) (tag:List UInt8) (ht:tag.length=32) (u:Nat) (hlive:clock<u) (l:List OutV) (hl:l.length≤1000000)
  (O:List AV) {un ticks out:Nat} {draw text:List UInt8} {pub:Bool} (hO:OpF O 7 1 un ticks out draw text pub) (hi:text.length≤200000) (hok:okT (gN C tag 1 text)=true) (hlen:(gM (gN C tag 1 text)).length≤65536) :
  ACalls Tryz.prog GP 38 [.ptr 0 0,.agg O] (SV clock most 1 (KM tag u) l) (fun r os=>os=SV clock most 1 (KM tag u) (l++[⟨gM (gN C tag 1 text),true,pub⟩])∧r=.agg (AN 0 0 0 (l.length:Int))):=by
 have cF:=aNk clock most tag ht u hlive l
 have cM:=aLM hC tag ht 1 (by omega) text hi
 rw[hok,if_pos rfl] at cM
 have hsm:=tU hC tag 1 (by omega) text hi
 have cO:=fun q=>(aLH (gN C tag 1 text) .full q hsm rfl).g (G:=GP)
 have cP:=aGD clock most 1 (KM tag u) (gY tag u) l hl (gN C tag 1 text) .no rfl hsm hok rfl hlen O hO
 have hlT:=eP (gN C tag 1 text) .full hsm.2.2.2.1
 have hoT:=gP (gN C tag 1 text) .full
 have hnT:=fQ (gN C tag 1 text) .full rfl
 have hTt:(TA (gN C tag 1 text) .full).take 36=TA (gN C tag 1 text) .full:=List.take_of_length_le (by omega)
 have hTd:(TA (gN C tag 1 text) .full).drop 36=[]:=List.drop_eq_nil_of_le (by omega)
 have hnB:=iF (gN C tag 1 text) .no rfl
 have hrf:=jX clock most 1 (KM tag u) (gY tag u)
 have hSl:∀ l,(SV clock most 1 (KM tag u) l).length=5:=fun l=>rfl
 generalize gM (gN C tag 1 text)=eB at *
 generalize TA (gN C tag 1 text) .full=T at *
 generalize BA (gN C tag 1 text) .no=Bd at *
 have hOl:=hO.len
 have hOo:=hO.ones
 have hOt:O.take 129=O:=List.take_of_length_le (by omega)
 have hk:=hO.fkind
 have hkey:=hO.fkey
 have htx:=hO.ftext
 have hOn:=hO.nor
 simp only[str] at cM
 show ACalls Tryz.prog GP 38 _ [.cells [.val (.int .u64 (clock:Int)),.ptr 1 0,.ptr 3 0],KO most 1 2,KM tag u,SO l 4,.tok 3 l.length] _
 refine dB Tryz.func38 rfl rfl Tryz.ntmps38 (rts:=#[40]) rfl Tryz.results38 (by simp) ?_
 simp only[seval,aZ]
 refine ky hOo ?_
 refine iH 3 5 O rfl rfl (by omega) hOn ?_
 simp only[List.set_cons_succ,List.set_cons_zero]
 refine kp [0,3,4] ?_
 refine aC fun K1 hK1=>?_
 refine ky (kI hOl (kI @Nat.zero_lt_succ hk)) ?_
 apply bG rfl
 refine kp [0,3,4] ?_
 refine aC fun K hK=>?_
 refine kde [2000020,19,22,24] (kI hOl hkey) ?_
 refine iU (objs:=SV clock most 1 (KM tag u) l) [35,3,30] (hrf l) rfl (by simp[aH]) cF rfl (hrf l) (by simp[ref,bM _ _ (aJ tag)]) ?_
 simp only[seval,kT,hOl,htx,hkey]
 refine⟨rfl,?_⟩
 refine aV (by simp[aH,aM,aJ]) cM (by simp[aH,aM,hnT]) ?_
 simp only[seval,kT,SV,hoT,hlT]
 refine hK _ ?_
 clear hK K
 refine kp [0,3,4,5,6] ?_
 refine kr [] fun K hK=>?_
 refine aV trivial xI (by simp[aH,aM]) ?_
 simp only[seval,kT]
 refine hK _ ?_
 clear hK K
 refine kp [0,3,4,5] ?_
 refine aC fun K hK=>?_
 refine kde [1000034,33] (kI hlT hTt) ?_
 refine aV (by simp[aH,aM,hnT]) (cO _) (by simp[aH,aM,hnB]) ?_
 simp only[seval,kT,hOl,hOt]
 have hvw:∀ rest,gT Tryz.prog (SV clock most 1 (KM tag u) l++rest) (List.range (SV clock most 1 (KM tag u) l).length) [35,70,46] [.ptr 0 0,.agg Bd,.agg O]=some (True∧True∧True∧True,false,[.ptr 0 0,.agg Bd,.agg O]):=fun rest=>by
  simp only[gT,nR,bM _ _ hnB,bM _ _ hOn,cY _ _ hnB,cY _ _ hOn]
  rfl
 refine iU (objs:=SV clock most 1 (KM tag u) l) [35,70,46] (hrf l) (hvw _) ⟨trivial,trivial,trivial,trivial⟩ cP rfl (hrf _) rfl ?_
 simp only[seval,kT,SV,AN]
 refine hK _ ?_
 clear hK K
 refine kp [4] ?_
 apply aS
 simp only[seval,kT,kF]
 refine fE (by simp) (hrf _) ?_
 simp only[seval,kT,kN,AN]
 exact⟨rfl,rfl⟩
theorem aHa [Gv] {C:List Nat→List UInt8→List Nat} (hC:COk C) (clock most last:Nat) (m:AObj) (hm:eH m=true) (l:List OutV) (hl:l.length≤1000000)
  (O:List AV) {key un ticks out:Nat} {draw text:List UInt8} {pub:Bool} (hO:OpF O 8 key un ticks out draw text pub) (hi:out<l.length) (t:TokV) (ts:List (List UInt8)) (ho:isB l[out] t ts) (htx:text.length≤200000)
  (hs':small (gK C t (eO text))) (hok':okT (gK C t (eO text))=true) (hl':(gM (gK C t (eO text))).length≤65536)
  (PR:List AV) (hPl:PR.length=23) (hPo:PR.all dC=true) (hPn:aM PR=true) (hP:ACalls Tryz.prog GP 24 [str text] [] (fun r os=>os=[]∧r=.tup [.agg PR,.val (.bool true)])) :
  ACalls Tryz.prog GP 38 [.ptr 0 0,.agg O] (SV clock most last m l) (fun r os=>os=SV clock most last m (l++[⟨gM (gK C t (eO text)),true,pub⟩])∧r=.agg (AN 0 0 0 (l.length:Int))):=by
 have cB:=aGC clock most last m hm l hl out hi t ts ho
 obtain⟨o1,o2,hs,hpl,hok,hb,hlen⟩:=ho
 have cA:=aOb hC t .no hs rfl hb hok text htx hs' hok' hl' PR hPl hPo hPn hP
 have hb':(gK C t (eO text)).bound=false:=hb
 have cP:=aGD clock most last m hm l hl (gK C t (eO text)) .no rfl hs' hok' hb' hl' O hO
 have hlB:=fV t .no hs.2.2.2.1
 have hoB:=kG t .no
 have hnB:=iF t .no rfl
 have hBt:(BA t .no).take 37=BA t .no:=List.take_of_length_le (by omega)
 have hBd:(BA t .no).drop 37=[]:=List.drop_eq_nil_of_le (by omega)
 have hl7:=fV (gK C t (eO text)) .no hs'.2.2.2.1
 have ho7:=kG (gK C t (eO text)) .no
 have hn7:=iF (gK C t (eO text)) .no rfl
 have ht7:(BA (gK C t (eO text)) .no).take 37=BA (gK C t (eO text)) .no:=List.take_of_length_le (by omega)
 have hd7:(BA (gK C t (eO text)) .no).drop 37=[]:=List.drop_eq_nil_of_le (by omega)
 have hrf:=jX clock most last m hm
 generalize gM (gK C t (eO text))=eB at *
 generalize BA (gK C t (eO text)) .no=B7 at *
 generalize BA t .no=Bd at *
 have hOl:=hO.len
 have hOo:=hO.ones
 have hOt:O.take 129=O:=List.take_of_length_le (by omega)
 have hk:=hO.fkind
 have hout:=hO.fout
 have hxt:=hO.ftext
 have hOn:=hO.nor
 simp only[str] at cA
 show ACalls Tryz.prog GP 38 _ [.cells [.val (.int .u64 (clock:Int)),.ptr 1 0,.ptr 3 0],KO most last 2,m,SO l 4,.tok 3 l.length] _
 refine dB Tryz.func38 rfl rfl Tryz.ntmps38 (rts:=#[40]) rfl Tryz.results38 (by simp) ?_
 simp only[seval,aZ]
 refine ky hOo ?_
 refine iH 3 5 O rfl rfl (by omega) hOn ?_
 simp only[List.set_cons_succ,List.set_cons_zero]
 refine kp [0,3,4] ?_
 refine aC fun K1 hK1=>?_
 refine ky (kI hOl (kI @Nat.zero_lt_succ hk)) ?_
 refine aR rfl (bC (hK1 _ ?_))
 clear hK1 K1
 refine kp [0,3,4] ?_
 refine kw [1000038,37] (kI hOl hout) fun K hK=>?_
 refine iU (objs:=SV clock most last m l) [35,3] (hrf l) rfl (by simp[aH]) cB rfl (hrf l) (by simp[ref,bM _ _ hnB]) ?_
 simp only[seval,kT,SV,hoB,hlB]
 refine hK _ ?_
 clear hK K
 refine kp [0,3,4,7] ?_
 refine aC fun K1 hK1=>?_
 refine ky (kI hOl (kI @Nat.zero_lt_succ hk)) ?_
 apply bG rfl
 refine kp [0,3,4,7] ?_
 refine kw [45] (kI (kI hlB hBt) (kI hOl hxt)) fun K hK=>?_
 refine aV (by simp[aH,aM,hnB]) cA (by simp[aH,aM,hn7]) ?_
 simp only[seval,kT,ho7,hl7]
 refine hK _ ?_
 clear hK K
 refine kp [0,3,4,8,9] ?_
 refine kr [] fun K hK=>?_
 refine aV trivial xI (by simp[aH,aM]) ?_
 simp only[seval,kT]
 refine hK _ ?_
 clear hK K
 refine kp [0,3,4,8] ?_
 refine kw [1000054,53] (kI (kI hl7 ht7) (kI hOl hOt)) fun K hK=>?_
 have hvw:∀ rest,gT Tryz.prog (SV clock most last m l++rest) (List.range (SV clock most last m l).length) [35,70,46] [.ptr 0 0,.agg B7,.agg O]=some (True∧True∧True∧True,false,[.ptr 0 0,.agg B7,.agg O]):=fun rest=>by
  simp only[gT,nR,bM _ _ hn7,bM _ _ hOn,cY _ _ hn7,cY _ _ hOn]
  rfl
 refine iU (objs:=SV clock most last m l) [35,70,46] (hrf l) (hvw _) ⟨trivial,trivial,trivial,trivial⟩ cP rfl (hrf _) rfl ?_
 simp only[seval,kT,SV,AN]
 refine hK _ ?_
 clear hK K
 refine kp [4] ?_
 apply aS
 simp only[seval,kT,kF]
 refine fE (by simp) (hrf _) ?_
 simp only[seval,kT,kN,AN]
 exact⟨rfl,rfl⟩
theorem aEP [Gv] (clock most:Nat) (hm:0<most) (l:List OutV) (O:List AV) {key un ticks out:Nat} {draw text:List UInt8} {pub:Bool} (hO:OpF O 2 key un ticks out draw text pub) :
  ACalls Tryz.prog GP 41 [.ptr 0 0,.agg O,.agg (AN 0 0 0 (-1))] (SV clock most 0 (.map []) l) (fun r os=>os=SV clock most 1 (KM draw un) l∧r=.agg (AN 0 0 1 (-1))):=by
 have cM:=aLs most hm draw hO.ldraw un
 have hnl:=gA l
 have hnY:=oJ draw un
 have hrf:=jX clock most 1 (KM draw un) (gY draw un) l
 have hOl:=hO.len
 have hOo:=hO.ones
 have hk:=hO.fkind
 have hun:=hO.funtil
 have hdr:=hO.fdraw
 have hdl:=hO.ldraw
 have hdt:draw.take 32=draw:=List.take_of_length_le (by omega)
 have hOn:=hO.nor
 show ACalls Tryz.prog GP 41 _ [.cells [.val (.int .u64 (clock:Int)),.ptr 1 0,.ptr 3 0],KO most 0 2,.map [],SO l 4,.tok 3 l.length] _
 simp only[KO,KM] at *
 refine dB Tryz.func41 rfl rfl Tryz.ntmps41 (rts:=#[40]) rfl Tryz.results41 (by simp) ?_
 simp only[seval,aZ]
 refine ky (kI @AN.eq_1 hOo) ?_
 refine iH 4 5 O rfl rfl (by omega) hOn ?_
 simp only[List.set_cons_succ,List.set_cons_zero]
 refine kp [0,4,5,6] ?_
 refine ks [0,4,5,6,7] ?_
 refine aC fun K1 hK1=>?_
 refine bJ ?_
 refine ku [] (kI hOl hk) ?_
 apply bK
 refine bJ ?_
 refine ko [] ?_
 refine aR rfl ?_
 refine bJ ?_
 refine aA [] ?_
 simp only[qq,aF,aB,Nat.reduceEqDiff,reduceCtorEq,cav,aL,aP,bH,beq_self_eq_true,Nat.reduceLT,aG,aI]
 refine bG rfl ?_
 refine aE [0,4,5,6,7] ?_
 simp only[aD,aB,Nat.reduceEqDiff,if_true,if_false]
 refine dW [1000044,41,43] (by kernel_rfl) (by kernel_rfl) ?_
 simp only[qq,aF,Nat.reduceLT,aB,reduceCtorEq,fY,Nat.reduceEqDiff,aN,Tryz.underlying106,bD,ne_eq,aY,List.contains_cons,Nat.reduceBEq,apart,aO,Tryz.underlying103,Tryz.underlying46,hOl,Nat.reduceLeDiff,dN,cav,Tryz.underlying42,Int.le_refl,Int.toNat_zero,Nat.zero_mul,beq_self_eq_true,Bool.false_or,Tryz.underlying23,Tryz.underlying30,aU,Nat.reduceAdd,bF,aT,bA,bW,List.headD_cons,aH,List.tail_cons,List.length_drop,Nat.reduceSub,fL,hun,Int.cast_ofNat_Int,Int.reduceLT,hdr,List.getD_cons_succ]
 refine gF [1,2] false [103,3,23,30] ⟨by decide,by simp,by simp[fU,eV,ref,jH]⟩ (C:=True∧True∧True∧True∧True) (as':=[.ptr 0 0,.val (.int .i64 1),.agg (Bs draw),.val (.int .u64 (un:Int))]) (by simp[gT,nR,aH,bM _ _ (aJ draw),cY _ _ (aJ draw)]) ⟨trivial,trivial,trivial,trivial,trivial⟩ (by simp only[GHd,List.map_cons,List.map_nil,List.getD_cons_zero,List.getD_cons_succ,gJ,gH,ren,rB];exact cM) ⟨by simp,by simp[fU,eV,ref,jH,bM _ _ hnY],by simp[eV,ref],fun h=>by cases h⟩ ?_
 simp only[qq,ren,gH,jD,gG,Int.cast_ofNat_Int,gJ,σn,Nat.reduceAdd,Nat.reduceLT,List.getD_cons_succ,Nat.reduceSub,cY _ _ hnY,List.headD_cons,List.tail_cons,List.drop_nil,dE,aF,aB,Nat.reduceEqDiff,reduceCtorEq,gW,aN,Tryz.underlying40,bD,ne_eq,bQ,bX,bB,spl,aG,List.all_cons,dC,Value.oneCell',List.all_nil,Nat.reduceLeDiff]
 simp only[bL,aI]
 refine hK1 _ ?_
 clear hK1 K1
 refine aE [0,5,6,7] ?_
 simp only[aD,aB,Nat.reduceEqDiff,if_true,if_false]
 refine aC fun K hK=>aA [] ?_
 simp only[qq,Int.cast_ofNat_Int,Nat.reduceAdd,aF,Nat.reduceLT,aB,reduceCtorEq,Nat.reduceEqDiff,aU,bF,aT,bA,aH]
 refine aV trivial xI (by simp[aH,aM]) ?_
 simp only[aK,aG,aI]
 refine hK _ ?_
 clear hK K
 refine aE [5,6] ?_
 simp only[aD,aB,Nat.reduceEqDiff,if_true,if_false]
 refine aC fun K hK=>aA [] ?_
 simp only[qq,Int.cast_ofNat_Int,Nat.reduceAdd,aF,aY,aB,Nat.reduceEqDiff,apart,aO,Tryz.underlying40,bD,List.take_nil,Nat.reduceLT,bQ,bX,bB,spl,aG,aI,List.all_cons,dC,Value.oneCell',List.all_nil,List.drop_nil]
 refine hK _ ?_
 clear hK K
 refine aE [6] ?_
 simp only[aD,aB,Nat.reduceEqDiff,if_true,if_false]
 refine aS ?_
 refine fE (by simp) hrf ?_
 simp only[qq,gS,gB,fJ,fR,aY,aB,apart,aO,Tryz.underlying40,bD,Nat.reduceAdd,List.take_nil,Int.cast_ofNat_Int,AN]
 exact⟨rfl,rfl⟩
theorem aLr [Gv] {C:List Nat→List UInt8→List Nat} (hC:COk C) (clock most:Nat) (tag:List UInt8) (ht:tag.length=32) (u:Nat) (l:List OutV) (t:TokV) (ts:List (List UInt8)) (hs:small t) (hpl:wC t ts) (hb:t.bound=false) (hok:okT t=true) (hlen:(gM t).length≤65536)
  (hkey:t.key=1) (htag:aAM C tag t) (RQ:List AV) (hRl:RQ.length=20) (hRo:RQ.all dC=true) (hRn:aM RQ=true) (g:List UInt8→Bool)
  (hG:∀ s∈ts,ACalls Tryz.prog GP 75 [str s,.agg RQ,.val (.int .u64 (clock:Int))] [] (fun r os=>os=[]∧r=.val (.bool (g s)))) :
  ACalls Tryz.prog GP 14 [.ptr 0 0,.sl (gM t).length (Bs (gM t)) .no,.agg RQ] (SV clock most 1 (KM tag u) l) (fun r os=>os=SV clock most 1 (KM tag u) l∧r=.val (.int .i64 (if clock<u then if ts.all g then 0 else 7 else 4))):=by
 have cD:=(aAx t ts hs hpl hok hb hlen).g (G:=GP)
 have cF:=aFW most tag ht u clock
 have cV:=aKJ hC tag ht t ts .no rfl hs hpl hb hok htag RQ hRl hRo hRn clock g hG
 have hrf:=jX clock most 1 (KM tag u) (gY tag u) l
 have hnY:=oJ tag u
 have hlB:=fV t .no hs.2.2.2.1
 have hoB:=kG t .no
 have hnB:=iF t .no rfl
 have g0:=aOu t .no
 rw[hkey] at g0
 have hBt:(BA t .no).take 37=BA t .no:=List.take_of_length_le (by omega)
 have hBd:(BA t .no).drop 37=[]:=List.drop_eq_nil_of_le (by omega)
 have hz0:=oL
 have hlz:=fV fK .full (by simp[fK])
 have hzd7:(BA fK .full).drop 37=[]:=rfl
 have hRt:RQ.take 20=RQ:=List.take_of_length_le (by omega)
 have hz:(Z 32).drop 32=[]:=List.drop_eq_nil_of_le (by rw[eZ];exact Nat.le_refl _)
 generalize BA fK .full=B0 at *
 generalize BA t .no=Bd at *
 generalize gM t=eB at *
 generalize (if ts.all g=true then 0 else 7:Int)=ans at *
 obtain⟨kt,kr,hkt,hkr,cF'⟩:∃ (kt:List UInt8) (kr:Int),kt.length=32∧(clock<u→kt=tag∧kr=0)∧(¬ clock<u→kr=4)∧ACalls Tryz.prog GP 44 [.ptr 0 0,.val (.int .i64 1),.val (.int .u64 1),.val (.int .u64 (clock:Int))] [KO most 1 1,KM tag u] (fun r os=>os=[KO most 1 1,KM tag u]∧r=.tup [.agg (Bs kt),.val (.int .i64 kr)]):=by
  by_cases h:clock<u
  ·rw[if_pos h] at cF;exact⟨tag,0,ht,fun _=>⟨rfl,rfl⟩,fun h'=>absurd h h',cF⟩
  ·rw[if_neg h] at cF;exact⟨Z 32,4,eZ 32,fun h'=>absurd h' h,fun _=>rfl,cF⟩
 obtain⟨hkr4,cF'⟩:=cF'
 clear cF
 have hbl:(Bs kt).length=32:=by rw[aX];omega
 have htt:kt.take 32=kt:=List.take_of_length_le (by omega)
 have hbo:(Bs kt).all dC=true:=by
  rw[List.all_eq_true]
  intro x hx
  obtain⟨z,_,rfl⟩:=List.mem_map.1 hx
  rfl
 show ACalls Tryz.prog GP 14 _ [.cells [.val (.int .u64 (clock:Int)),.ptr 1 0,.ptr 3 0],KO most 1 2,KM tag u,SO l 4,.tok 3 l.length] _
 simp only[KO,KM] at *
 refine dB Tryz.func14 rfl rfl Tryz.ntmps14 (rts:=#[38]) rfl Tryz.results14 (by simp) ?_
 simp only[seval,aZ]
 refine kx [0,1,5] hRo ?_
 refine aC fun K hK=>aA [] ?_
 simp only[qq,Int.cast_ofNat_Int,Nat.reduceAdd,aF,Nat.reduceLT,aB,reduceCtorEq,Nat.reduceEqDiff,aU,bF,aT,bA,aJ,bW]
 refine aV (by simp[aJ]) cD (by simp[aH,aM,hnB]) ?_
 simp only[seval,kT,hoB,hlB]
 refine hK _ ?_
 clear hK K
 refine kp [0,5,7,8] ?_
 refine aC fun K1 hK1=>?_
 refine kq ?_
 apply bK
 apply bJ
 refine ko [] ?_
 apply bG rfl
 apply bC
 simp only[seval,kT,kF]
 refine hK1 _ ?_
 clear hK1 K1
 refine kp [0,5,7] ?_
 refine aC fun K hK=>?_
 refine kde [2000033] (kI hlB g0) ?_
 refine gF [1,2] false [103,3,30,30] ⟨by decide,by simp,by simp[fU,eV,ref,jH,bM _ _ hnY]⟩ rfl (by simp[aH]) (by simp only[GHd,List.map_cons,List.map_nil,List.getD_cons_zero,List.getD_cons_succ,gJ,gH,ren,rB,cY _ _ hnY];exact cF') ⟨by simp,by simp[fU,eV,ref,jH,bM _ _ hnY],by simp[eV,ref,bM _ _ (aJ kt)],fun h=>by cases h⟩ ?_
 simp only[seval,kT,ren,gH,cY _ _ (aJ kt),jD,gG,gJ,σn,cY _ _ hnY,hbo,hbl,hz]
 refine hK _ ?_
 clear hK K
 refine kp [0,5,7,9,10] ?_
 refine aC fun K1 hK1=>?_
 refine kq ?_
 by_cases hlive:clock<u
 ·obtain⟨rfl,rfl⟩:=hkr hlive
  refine aR rfl (bC (hK1 _ ?_))
  clear hK1 K1
  refine kp [0,5,7,9] ?_
  refine aC fun K hK=>?_
  refine kde [] (kI (kI hbl (kI htt hlB)) (kI hBt (kI hRl hRt))) ?_
  refine aV (by simp[aM,aH,aJ,hnB,hRn]) cV rfl ?_
  simp only[seval,kT]
  refine hK _ ?_
  clear hK K
  refine kp [6] ?_
  apply aS
  refine fE (by simp) hrf ?_
  simp only[seval,kT,kN]
  refine⟨rfl,rfl,?_⟩
  rw[if_pos hlive]
 ·have h4:=hkr4 hlive
  subst h4
  apply bG rfl
  refine kp [10] ?_
  refine ks [6] ?_
  apply aS
  simp only[seval,kT,kF]
  refine fE (by simp) hrf ?_
  simp only[seval,kT,kN]
  refine⟨rfl,rfl,?_⟩
  rw[if_neg hlive]
end Go.Proofs.YtefdnmeopbkflaaGreatDoor
namespace Go.Proofs.YtefdnmeopbkflaaGreatDoor
open Go Go.V
set_option linter.unusedSimpArgs false
set_option linter.unusedVariables false
set_option maxRecDepth 20000
theorem aOq {w:World} (d:TypeId) (v:Value):Sem.run Tryz.prog (binOp .neq 20 .nilIface .nilIface) w=.ok (.bool false) w∧Sem.run Tryz.prog (binOp .neq 20 (.iface d v) .nilIface) w=.ok (.bool true) w:=by
 have h:=nO (P:=Tryz.prog) (w:=w) (t:=20) Tryz.underlying20 d v
 constructor
 ·simp[binOp,h.2]
 ·simp[binOp,h.1]
theorem aLj:aOy Tryz.prog 37:=by
 refine⟨⟨_,Tryz.func37,rfl,rfl⟩,fun cap w _=>?_⟩
 refine callsD_of_wpS Tryz.func37 rfl fun c₀ cs hm=>?_
 have hrec:recoverD (c₀::cs)=none:=by simp[recoverD,hm]
 have hn:Tryz.f37.ntmps=20:=Tryz.ntmps37
 rw[hn]
 have hc:({ c₀ with mode:=.returning }:Frame)=c₀:=by rw[← hm]
 refine wpS_seq (wpS_region ?_)
 simp[wpOpsS,Region.wanted,execOp,resolve,Deferred.ofValue,invoke,builtin,hrec,Act.put,Act.eval,List.range,List.range.loop,Oper.upon,Exit.thenS]
 refine wpS_seq (wpS_region ?_)
 simp[wpOpsS,Region.wanted,execOp,Act.put,Act.eval,List.range,List.range.loop,Oper.upon,Exit.thenS,(aOq 0 .nilIface).1]
 refine wpS_cond (t:=false) (by simp[Act.eval]) ?_
 refine wpS_of_wp (wp_skip ?_)
 refine⟨rfl,.returning,by rw[hc],.tuple #[],?_,⟨_,rfl⟩,rfl,rfl⟩
 simp[jY,sQ]
end Go.Proofs.YtefdnmeopbkflaaGreatDoor
namespace Go.Proofs.YtefdnmeopbkflaaGreatDoor
open Go Go.V
set_option linter.unusedSimpArgs false
set_option linter.unusedVariables false
set_option maxRecDepth 100000
theorem _root_.Go.V.ACalls.defer [Gv] {P:Program} {G:Gl} {f:FuncId} {args:List AV} {outs:List AObj} {Q:AV→List AObj→Prop} (h:ACalls P G f args outs Q) (ds:List Deferred):ACalls P ⟨G.tab,ds⟩ f args outs Q:=
 ⟨h.1,fun E vs h1 h2 h3=>h.2 E vs h1 h2 h3⟩
theorem wI [Gv] {P:Program} {G:Gl} {g:FuncId} {cap:AV} {ts:List TypeId} {rvs:List ResultVar} {n0:Nat} {Q:AV→List AObj→Prop} {st:St} (h:aBt P ts rvs n0 Q .ret st):aQH P G g cap ts rvs n0 Q .ret st:=h
theorem aGv [Gv] (clock most last:Nat) (m:AObj) (hm:eH m=true) (l:List OutV) (clock' last':Nat) (m':AObj) (hm':eH m'=true) (l':List OutV) (O:List AV) {kind key un ticks out:Nat} {draw text:List UInt8} {pub:Bool} (hO:OpF O kind key un ticks out draw text pub)
  (hkind:kind<7) {e r n:Nat} {no:Int} (cP:ACalls Tryz.prog GP 41 [.ptr 0 0,.agg O,.agg (AN 0 0 0 (-1))] (SV clock most last m l) (fun r' os=>os=SV clock' most last' m' l'∧r'=.agg (AN e r n no))) :
  ACalls Tryz.prog GP 11 [.ptr 0 0,.agg O] (SV clock most last m l) (fun r' os=>os=SV clock' most last' m' l'∧r'=.agg (AN e r n no)):=by
 have hrf0:=jX clock most last m hm l
 have hrf:=jX clock' most last' m' hm' l'
 have hOl:=hO.len
 have hOo:=hO.ones
 have hOt:O.take 129=O:=List.take_of_length_le (by omega)
 have hk:=hO.fkind
 have hOn:=hO.nor
 have d7:(kind == 7)=false:=beq_eq_false_iff_ne.2 (by omega)
 have d8:(kind == 8)=false:=beq_eq_false_iff_ne.2 (by omega)
 have d9:(kind == 9)=false:=beq_eq_false_iff_ne.2 (by omega)
 have d10:(kind == 10)=false:=beq_eq_false_iff_ne.2 (by omega)
 have d11:(kind == 11)=false:=beq_eq_false_iff_ne.2 (by omega)
 show ACalls Tryz.prog GP 11 _ [.cells [.val (.int .u64 (clock:Int)),.ptr 1 0,.ptr 3 0],KO most last 2,m,SO l 4,.tok 3 l.length] _
 refine jP Tryz.func11 rfl rfl Tryz.ntmps11 (rts:=#[40]) rfl Tryz.results11 (by simp) aLj rfl ?_
 simp only[seval,aZ]
 refine ku [] hOo ?_
 refine⟨6,0,rfl,fun d=>?_⟩
 refine iH 3 5 O rfl rfl (by omega) hOn ?_
 simp only[List.set_cons_succ,List.set_cons_zero]
 refine kp [0,3,4] ?_
 refine aC fun K1 hK1=>?_
 apply bJ
 refine ku [] (kI hOl hk) ?_
 apply bK
 refine aC fun K2 hK2=>?_
 apply bJ
 refine ku [] (kI @wY d7) ?_
 apply aR rfl
 apply bJ
 refine ku [] (kI @wY d8) ?_
 apply aR rfl
 refine ku [] (kI @wY d9) ?_
 refine hK2 _ ?_
 clear hK2 K2
 apply aR rfl
 apply bJ
 refine ku [] (kI @wY d10) ?_
 apply aR rfl
 apply bJ
 refine ku [] (kI @wY d11) ?_
 refine aR rfl (bC ?_)
 simp only[seval,kT,kF]
 refine hK1 _ ?_
 clear hK1 K1
 refine kp [0,3,4] ?_
 refine ks [0,3,4] ?_
 refine kw [1000029] (kI hOl hOt) fun K hK=>?_
 have hvw:∀ rest,gT Tryz.prog (SV clock most last m l++rest) (List.range (SV clock most last m l).length) [35,46,40] [.ptr 0 0,.agg O,.agg (AN 0 0 0 (-1))]=some (True∧True∧True∧True,false,[.ptr 0 0,.agg O,.agg (AN 0 0 0 (-1))]):=fun rest=>by
  simp only[gT,nR,bM _ _ hOn,cY _ _ hOn]
  rfl
 refine iU (objs:=SV clock most last m l) [35,46,40] (hrf0) (hvw _) ⟨trivial,trivial,trivial,trivial⟩ (cP.defer [d]) rfl (hrf) rfl ?_
 simp only[seval,kT,SV,AN]
 refine hK _ ?_
 clear hK K
 refine kp [4] ?_
 apply aS
 refine wI (fE (by simp) hrf ?_)
 simp only[seval,kT,kN,AN]
 exact⟨rfl,rfl⟩
theorem aCb [Gv] (clock most last:Nat) (m:AObj) (hm:eH m=true) (l:List OutV) (clock' last':Nat) (m':AObj) (hm':eH m'=true) (l':List OutV) (O:List AV) {kind key un ticks out:Nat} {draw text:List UInt8} {pub:Bool} (hO:OpF O kind key un ticks out draw text pub)
  (hkind:kind=7∨kind=8) {e r n:Nat} {no:Int} (cP:ACalls Tryz.prog GP 38 [.ptr 0 0,.agg O] (SV clock most last m l) (fun r' os=>os=SV clock' most last' m' l'∧r'=.agg (AN e r n no))) :
  ACalls Tryz.prog GP 11 [.ptr 0 0,.agg O] (SV clock most last m l) (fun r' os=>os=SV clock' most last' m' l'∧r'=.agg (AN e r n no)):=by
 have hrf0:=jX clock most last m hm l
 have hrf:=jX clock' most last' m' hm' l'
 have hOl:=hO.len
 have hOo:=hO.ones
 have hOt:O.take 129=O:=List.take_of_length_le (by omega)
 have hk:=hO.fkind
 have hOn:=hO.nor
 show ACalls Tryz.prog GP 11 _ [.cells [.val (.int .u64 (clock:Int)),.ptr 1 0,.ptr 3 0],KO most last 2,m,SO l 4,.tok 3 l.length] _
 refine jP Tryz.func11 rfl rfl Tryz.ntmps11 (rts:=#[40]) rfl Tryz.results11 (by simp) aLj rfl ?_
 simp only[seval,aZ]
 refine ku [] hOo ?_
 refine⟨6,0,rfl,fun d=>?_⟩
 refine iH 3 5 O rfl rfl (by omega) hOn ?_
 simp only[List.set_cons_succ,List.set_cons_zero]
 refine kp [0,3,4] ?_
 refine aC fun K1 hK1=>?_
 apply bJ
 refine ku [] (kI hOl hk) ?_
 apply bK
 refine aC fun K2 hK2=>?_
 apply bJ
 refine ku [] @wY ?_
 have goon:∀ s,lk s.slots 8=.val (.bool true)→aAD [0,3,4] s.slots=[(0,.ptr 0 0),(3,.cptr O),(4,.ptr 6 0)]→s.nt=30→s.objs=[.cells [.val (.int .u64 (clock:Int)),.ptr 1 0,.ptr 3 0],KO most last 2,m,SO l 4,.tok 3 l.length,.dead,.cells [.val (.int .i64 0),.val (.int .i64 0),.val (.int .u64 0),.val (.int .i64 0)]]→K2 s:=by
  rintro⟨nt,sl,os⟩ h8 hkp hnt hos
  simp only at h8 hkp hnt hos
  subst hnt hos
  refine hK2 _ ?_
  refine bG h8 ?_
  apply aE [0,3,4]
  rw[hkp]
  refine kw [1000014] (kI hOl hOt) fun K hK=>?_
  have hvw:∀ rest,gT Tryz.prog (SV clock most last m l++rest) (List.range (SV clock most last m l).length) [35,46] [.ptr 0 0,.agg O]=some (True∧True∧True,false,[.ptr 0 0,.agg O]):=fun rest=>by
   simp only[gT,nR,bM _ _ hOn,cY _ _ hOn]
   rfl
  refine iU (objs:=SV clock most last m l) [35,46] (hrf0) (hvw _) ⟨trivial,trivial,trivial⟩ (cP.defer [d]) rfl (hrf) rfl ?_
  simp only[seval,kT,SV,AN]
  refine hK _ ?_
  clear hK K
  refine kp [4] ?_
  apply aS
  simp only[seval,kT,kF]
  refine wI (fE (by simp) hrf ?_)
  simp only[seval,kT,kN,AN]
  exact⟨rfl,rfl⟩
 clear hK2
 rcases hkind with rfl|rfl
 ·refine bG rfl (bC ?_)
  exact goon _ rfl rfl rfl rfl
 ·apply aR rfl
  apply bJ
  refine ko [] ?_
  refine bG rfl (bC ?_)
  exact goon _ rfl rfl rfl rfl
end Go.Proofs.YtefdnmeopbkflaaGreatDoor
namespace Go.Proofs
open Go.Shelf
theorem kZf {a:Option Func} {x y:Func} (h:a=some x) (e:x=y:=by kernel_rfl):a=some y:=e ▸ h
theorem kZl {p:Prop} (h:p:=by constructor<;>first|kernel_rfl|(intros;kernel_rfl)|(constructor<;>first|kernel_rfl|(intros;kernel_rfl)|(constructor<;>first|kernel_rfl|(intros;kernel_rfl)|exact fun w h=>Go.Proofs.cell_of_shapedOpen_int (zero:=#[.int .i64 0]) (t:=3) h (of_decide_eq_true (by kernel_rfl)) (by kernel_rfl) rfl (by kernel_rfl) (by kernel_rfl) Tryz.underlying3)|exact fun w h=>Go.Proofs.cell_of_shapedOpen_int (zero:=#[.int .i64 0]) (t:=3) h (of_decide_eq_true (by kernel_rfl)) (by kernel_rfl) rfl (by kernel_rfl) (by kernel_rfl) Tryz.underlying3)|exact fun w h=>Go.Proofs.cell_of_shapedOpen_int (zero:=#[.int .i64 0]) (t:=3) h (of_decide_eq_true (by kernel_rfl)) (by kernel_rfl) rfl (by kernel_rfl) (by kernel_rfl) Tryz.underlying3|decide):p:=h
open Go.RowKit in
open Go.RowKit in
open Go.RowKit in
open Go.RowKit in
open Go.RowKit in
def Tryz.lays156_ren:Go.Shelf.Ren:=⟨fun|156=>173|165=>222|166=>223|169=>224|240=>264|241=>265|276=>285|277=>286|n=>n,fun|31=>43|9=>9|3=>3|4=>4|0=>0|20=>20|72=>299|76=>215|70=>297|37=>54|75=>206|127=>334|164=>352|5=>5|80=>301|n=>n,fun|n=>n⟩
theorem Tryz.lays156:Go.Proofs.Lays.n156 Tryz.prog Tryz.lays156_ren:=kZl
theorem Tryz.Builder_Extra_156:Builder.Extra Tryz.prog Tryz.lays156_ren:=kZl
open Go.RowKit in
theorem Tryz.strings_Join_none (a:Option Addr) (c:Nat) (sep:ByteArray) (w:World) :
  Calls Tryz.prog 173 #[.slice a 0 c,.string sep] w fun e w'=>e=.returned (.string ⟨#[]⟩)∧w'=w:=Any.strings_Join_none Tryz.lays156 Tryz.Builder_Extra_156 a c sep w
open Go.RowKit in
theorem Tryz.strings_Join (bk o c:Nat) (xs:List ByteArray) (sep:ByteArray) (w:World) (hcells:∀ (j:Nat) x,xs[j]? = some x→w.cell? ⟨bk,o+j,none⟩=some (.string x)) (hbk:bk<w.heap.size) (hN:xs.length≤140737488355328) (hcap:xs.length≤c) (hlen:(Lib.join (xs.map (·.data.toList)) sep.data.toList).length≤140737488355328) :
  Calls Tryz.prog 173 #[.slice (some ⟨bk,o,none⟩) xs.length c,.string sep] w fun e w'=>e=.returned (.string ⟨(Lib.join (xs.map (·.data.toList)) sep.data.toList).toArray⟩)∧Below w.heap.size w w':=Any.strings_Join Tryz.lays156 Tryz.Builder_Extra_156 bk o c xs sep w hcells hbk hN hcap hlen
def Tryz.lays119_ren:Go.Shelf.Ren:=⟨fun|119=>296|n=>n,fun|21=>21|4=>4|n=>n,fun|n=>n⟩
theorem Tryz.lays119:Go.Proofs.Lays.n119 Tryz.prog Tryz.lays119_ren:=kZl
theorem Tryz.utf8_ValidRune (r:Int) (w:World) :
  Calls Tryz.prog 296 #[.int .i32 r] w fun e w'=>e=.returned (.bool (Lib.validRune r))∧w'=w:=Any.utf8_ValidRune Tryz.lays119 r w
def Tryz.lays137_ren:Go.Shelf.Ren:=⟨fun|137=>295|217=>276|266=>289|n=>n,fun|9=>9|5=>5|3=>3|n=>n,fun|n=>n⟩
theorem Tryz.lays137:Go.Proofs.Lays.n137 Tryz.prog Tryz.lays137_ren:=kZl
open Go.RowKit in
theorem Tryz.strings_IndexByte (s:ByteArray) (c:Int) (w:World) :
  Calls Tryz.prog 295 #[.string s,.int .u8 c] w fun e w'=>e=.returned (.int .i64 (Lib.indexByte s.data.toList c.toNat.toUInt8))∧w'=w:=Any.strings_IndexByte Tryz.lays137 s c w
open Go.RowKit in
def Tryz.lays103_ren:Go.Shelf.Ren:=⟨fun|103=>124|210=>193|206=>247|n=>n,fun|9=>9|4=>4|24=>209|3=>3|n=>n,fun|n=>n⟩
theorem Tryz.lays103:Go.Proofs.Lays.n103 Tryz.prog Tryz.lays103_ren:=kZl
open Go.RowKit in
theorem Tryz.strings_CutPrefix (s p:ByteArray) (w:World) :
  Calls Tryz.prog 124 #[.string s,.string p] w fun e w'=>e=.returned (.tuple #[.string ⟨(Lib.trimPrefix s.data.toList p.data.toList).toArray⟩,.bool (Lib.hasPrefix s.data.toList p.data.toList)])∧w'=w:=Any.strings_CutPrefix Tryz.lays103 s p w
open Go.RowKit in
open Go.RowKit in
open Go.RowKit in
def Tryz.lays129_ren:Go.Shelf.Ren:=⟨fun|129=>260|n=>n,fun|53=>30|3=>3|4=>4|46=>160|5=>5|9=>9|n=>n,fun|n=>n⟩
theorem Tryz.lays129:Go.Proofs.Lays.n129 Tryz.prog Tryz.lays129_ren:=kZl
theorem Tryz.bits_Len64 (x:Int) (w:World) (h0:0≤x) (h1:x≤18446744073709551615) :
  Calls Tryz.prog 260 #[.int .u64 x] w fun e w'=>e=.returned (.int .i64 (Lib.bitLen x.toNat))∧w'=w:=Any.bits_Len64 Tryz.lays129 x w h0 h1
def Tryz.lays317_ren:Go.Shelf.Ren:=⟨fun|317=>259|n=>n,fun|3=>3|46=>160|n=>n,fun|n=>n⟩
theorem Tryz.lays317:Go.Proofs.Lays.n317 Tryz.prog Tryz.lays317_ren:=kZl
open Go.Lib in
theorem Tryz.internal_strconv_log10Pow2 (x:Nat) (h:x≤64) (w:World) :
  Calls Tryz.prog 259 #[.int .i64 x] w fun e w'=>e=.returned (.int .i64 (Lib.l10 x))∧w'=w:=Any.internal_strconv_log10Pow2 Tryz.lays317 x h w
def Tryz.lays318_ren:Go.Shelf.Ren:=⟨fun|318=>261|n=>n,fun|3=>3|4=>4|n=>n,fun|n=>n⟩
theorem Tryz.lays318:Go.Proofs.Lays.n318 Tryz.prog Tryz.lays318_ren:=kZl
open Go.Lib in
theorem Tryz.internal_strconv_bool2_int (b:Bool) (w:World) :
  Calls Tryz.prog 261 #[.bool b] w fun e w'=>e=.returned (.int .i64 (if b then 1 else 0))∧w'=w:=Any.internal_strconv_bool2_int Tryz.lays318 b w
def Tryz.lays283_ren:Go.Shelf.Ren:=⟨fun|283=>218|n=>n,fun|3=>3|9=>9|4=>4|n=>n,fun|n=>n⟩
theorem Tryz.lays283:Go.Proofs.Lays.n283 Tryz.prog Tryz.lays283_ren:=kZl
open Go.Lib in
theorem Tryz.internal_strconv_small (i:Nat) (h:i<100) (w:World) :
  Calls Tryz.prog 218 #[.int .i64 i] w fun e w'=>e=.returned (.string ⟨(Lib.decDigits i).toArray⟩)∧w'=w:=Any.internal_strconv_small Tryz.lays283 i h w
def Tryz.laysM284_ren:Go.Shelf.Ren:=⟨fun|284=>219|129=>260|317=>259|318=>261|n=>n,fun|53=>30|3=>3|212=>330|0=>0|4=>4|46=>160|5=>5|9=>9|n=>n,fun|17=>1|n=>n⟩
theorem Tryz.laysM284:Go.Proofs.LaysM.n284 Tryz.prog Tryz.laysM284_ren:=kZl
open Go.Lib in
def Tryz.lays285_ren:Go.Shelf.Ren:=⟨fun|285=>220|n=>n,fun|37=>54|53=>30|3=>3|4=>4|51=>279|9=>9|5=>5|0=>0|n=>n,fun|n=>n⟩
theorem Tryz.lays285:Go.Proofs.Lays.n285 Tryz.prog Tryz.lays285_ren:=kZl
open Go.RowKit Go.Sort Go.Lib in
theorem Tryz.internal_strconv_formatBase10 (blk off cap:Nat) (u:Nat) (d:Array UInt8) (w:World) (hH:Holds (fun (b:UInt8)=>Value.int .u8 (b.toNat:Int)) w blk off d) (hu:u<10^d.size) (hu64:u<18446744073709551616) (hsz:d.size<4611686018427387904) :
  Calls Tryz.prog 220 #[.slice (some ⟨blk,off,none⟩) d.size cap,.int .u64 u] w fun e w'=>
   e=.returned (.tuple #[])∧∃ (n v':Nat) (dk:Array UInt8),w'=(putRow (fun (b:UInt8)=>Value.int .u8 (b.toNat:Int)) w blk off dk).drewN n∧FmtInv d.size u 0 v' dk:=Any.internal_strconv_formatBase10 Tryz.lays285 blk off cap u d w hH hu hu64 hsz
open Go.RowKit Go.Sort Go.Lib in
open Go.RowKit Go.Sort Go.Lib in
open Go.RowKit Go.Sort Go.Lib in
open Go.RowKit Go.Sort Go.Lib in
open Go.RowKit Go.Sort Go.Lib in
open Go.RowKit Go.Sort Go.Lib in
open Go.RowKit in
open Go.RowKit in
open Go.RowKit in
open Go.RowKit in
open Go.RowKit in
open Go.RowKit in
def Tryz.laysC245_ren:Go.Shelf.Ren:=⟨fun|245=>184|279=>238|280=>239|281=>240|282=>241|316=>272|171=>176|205=>273|243=>227|246=>266|283=>218|284=>219|285=>220|286=>221|129=>260|317=>259|318=>261|319=>262|320=>263|337=>284|338=>231|n=>n,fun|9=>9|3=>3|75=>206|167=>310|4=>4|168=>312|210=>343|37=>54|0=>0|127=>334|145=>357|143=>355|2=>2|171=>293|53=>30|5=>5|173=>295|212=>330|51=>279|20=>20|213=>331|46=>160|232=>22|233=>336|80=>301|n=>n,fun|15=>3|16=>4|17=>1|18=>6|19=>2|n=>n⟩
theorem Tryz.laysC245:Go.Proofs.LaysC.n245 Tryz.prog Tryz.laysC245_ren:=kZl
open Go.RowKit in
theorem Tryz.strconv_toError_syntax (fn s:ByteArray) (base bits:Int) (ev:Value) (w:World) (hlim:s.size≤281474976710656) (hv:w.cell? ⟨3,0,none⟩=some ev) (hev:ev=.nilIface∨∃ te pe,ev=.iface te pe) :
  Calls Tryz.prog 184 #[.string fn,.string s,.int .i64 base,.int .i64 bits,.iface 310 (.int .i64 2)] w fun e w'=>∃ N,e=.returned (.iface 312 (.pointer (some ⟨N,0,none⟩)))∧w.heap.size≤N∧w'.heap[N]? = some (.cells #[.string fn,.string s,ev] 343 (0,0))∧Below w.heap.size w w':=Any.strconv_toError_syntax Tryz.laysC245 fn s base bits ev w hlim hv hev
open Go.RowKit in
open Go.RowKit in
open Go.RowKit in
open Go.RowKit in
open Go.RowKit in
open Go.RowKit in
open Go.RowKit in
open Go.RowKit in
open Go.RowKit in
theorem Tryz.strconv_toError_range (fn s:ByteArray) (base bits:Int) (ev:Value) (w:World) (hlim:s.size≤281474976710656) (hv:w.cell? ⟨4,0,none⟩=some ev) (hev:ev=.nilIface∨∃ te pe,ev=.iface te pe) :
  Calls Tryz.prog 184 #[.string fn,.string s,.int .i64 base,.int .i64 bits,.iface 310 (.int .i64 1)] w fun e w'=>∃ N,e=.returned (.iface 312 (.pointer (some ⟨N,0,none⟩)))∧w.heap.size≤N∧w'.heap[N]? = some (.cells #[.string fn,.string s,ev] 343 (0,0))∧Below w.heap.size w w':=Any.strconv_toError_range Tryz.laysC245 fn s base bits ev w hlim hv hev
def Tryz.laysC172_ren:Go.Shelf.Ren:=⟨fun|172=>123|244=>192|245=>184|247=>246|279=>238|280=>239|281=>240|282=>241|287=>183|316=>272|171=>176|205=>273|321=>236|322=>237|243=>227|246=>266|283=>218|284=>219|285=>220|286=>221|129=>260|317=>259|318=>261|319=>262|320=>263|337=>284|338=>231|n=>n,fun|9=>9|3=>3|75=>206|76=>215|4=>4|5=>5|167=>310|37=>54|0=>0|85=>316|2=>2|168=>312|53=>30|175=>207|46=>160|210=>343|127=>334|145=>357|143=>355|21=>21|171=>293|173=>295|212=>330|51=>279|20=>20|213=>331|232=>22|233=>336|80=>301|n=>n,fun|15=>3|16=>4|17=>1|18=>6|19=>2|n=>n⟩
theorem Tryz.laysC172:Go.Proofs.LaysC.n172 Tryz.prog Tryz.laysC172_ren:=kZl
open Go.RowKit in
theorem Tryz.strconv_Atoi_ok (s:ByteArray) (hmax:s.size≤9223372036854775806) (v:Int) (h:Lib.atoiAll s.data.toList=.ok v) (w:World) :
  Calls Tryz.prog 123 #[.string s] w fun e w'=>e=.returned (.tuple #[.int .i64 v,.nilIface])∧(w'=w∨∃ t,w'=Lib.bytesWorld w 5 t):=Any.strconv_Atoi_ok Tryz.laysC172 s hmax v h w
open Go.RowKit in
theorem Tryz.strconv_Atoi_syntax (s:ByteArray) (hlim:s.size≤281474976710656) (h:Lib.atoiAll s.data.toList=Lib.atoiAll []) (ev:Value) (w:World) (hv:w.cell? ⟨3,0,none⟩=some ev) (hev:ev=.nilIface∨∃ te pe,ev=.iface te pe) :
  Calls Tryz.prog 123 #[.string s] w fun e w'=>∃ N,e=.returned (.tuple #[.int .i64 (0),.iface 312 (.pointer (some ⟨N,0,none⟩))])∧w.heap.size≤N∧w'.heap[N]? = some (.cells #[.string ⟨#[65,116,111,105]⟩,.string s,ev] 343 (0,0))∧Below w.heap.size w w':=Any.strconv_Atoi_syntax Tryz.laysC172 s hlim h ev w hv hev
open Go.RowKit in
theorem Tryz.strconv_Atoi_range (s:ByteArray) (hlim:s.size≤281474976710656) (h:Lib.atoiAll s.data.toList=.range) (ev:Value) (w:World) (hv:w.cell? ⟨4,0,none⟩=some ev) (hev:ev=.nilIface∨∃ te pe,ev=.iface te pe) :
  Calls Tryz.prog 123 #[.string s] w fun e w'=>∃ N,e=.returned (.tuple #[.int .i64 (Lib.atoiSat s.data.toList),.iface 312 (.pointer (some ⟨N,0,none⟩))])∧w.heap.size≤N∧w'.heap[N]? = some (.cells #[.string ⟨#[65,116,111,105]⟩,.string s,ev] 343 (0,0))∧Below w.heap.size w w':=Any.strconv_Atoi_range Tryz.laysC172 s hlim h ev w hv hev
def Tryz.laysPu14_ren:Go.Shelf.Ren:=⟨fun|14=>118|16=>183|17=>184|19=>236|20=>237|21=>238|22=>239|23=>240|24=>241|25=>272|27=>176|26=>273|28=>227|29=>266|30=>218|31=>219|32=>220|33=>221|35=>260|34=>259|36=>261|37=>262|38=>263|39=>284|40=>231|n=>n,fun|9=>9|3=>3|22=>30|24=>206|25=>207|4=>4|34=>310|5=>5|36=>160|37=>54|0=>0|39=>312|21=>21|44=>343|47=>334|50=>357|48=>355|2=>2|52=>293|55=>295|59=>330|60=>279|20=>20|61=>331|65=>22|66=>336|67=>301|n=>n,fun|0=>3|1=>4|2=>1|3=>6|4=>2|n=>n⟩
theorem Tryz.laysPu14:Go.Proofs.LaysPu.n14 Tryz.prog Tryz.laysPu14_ren:=kZl
open Go.RowKit in
open Go.RowKit in
open Go.RowKit in
open Go.RowKit in
theorem Tryz.strconv_ParseUint_10_at64_ok (s:ByteArray) (hmax:s.size≤9223372036854775806) (u:Nat) (h:Lib.parseUintB 64 s.data.toList=.ok u) (w:World) :
  Calls Tryz.prog 118 #[.string s,.int .i64 10,.int .i64 64] w fun e w'=>e=.returned (.tuple #[.int .u64 u,.nilIface])∧(w'=w∨w'=Lib.bytesWorld w 5 s):=Any.strconv_ParseUint_10_at64_ok Tryz.laysPu14 s hmax u h w
open Go.RowKit in
theorem Tryz.strconv_ParseUint_10_at64_syntax (s:ByteArray) (hlim:s.size≤281474976710656) (h:Lib.parseUintB 64 s.data.toList=Lib.parseUintB 64 []) (ev:Value) (w:World) (hv:w.cell? ⟨3,0,none⟩=some ev) (hev:ev=.nilIface∨∃ te pe,ev=.iface te pe) :
  Calls Tryz.prog 118 #[.string s,.int .i64 10,.int .i64 64] w fun e w'=>∃ N,e=.returned (.tuple #[.int .u64 0,.iface 312 (.pointer (some ⟨N,0,none⟩))])∧w.heap.size≤N∧w'.heap[N]? = some (.cells #[.string ⟨#[80,97,114,115,101,85,105,110,116]⟩,.string s,ev] 343 (0,0))∧Below w.heap.size w w':=Any.strconv_ParseUint_10_at64_syntax Tryz.laysPu14 s hlim h ev w hv hev
open Go.RowKit in
theorem Tryz.strconv_ParseUint_10_at64_range (s:ByteArray) (hlim:s.size≤281474976710656) (h:Lib.parseUintB 64 s.data.toList=.range) (ev:Value) (w:World) (hv:w.cell? ⟨4,0,none⟩=some ev) (hev:ev=.nilIface∨∃ te pe,ev=.iface te pe) :
  Calls Tryz.prog 118 #[.string s,.int .i64 10,.int .i64 64] w fun e w'=>∃ N,e=.returned (.tuple #[.int .u64 18446744073709551615,.iface 312 (.pointer (some ⟨N,0,none⟩))])∧w.heap.size≤N∧w'.heap[N]? = some (.cells #[.string ⟨#[80,97,114,115,101,85,105,110,116]⟩,.string s,ev] 343 (0,0))∧Below w.heap.size w w':=Any.strconv_ParseUint_10_at64_range Tryz.laysPu14 s hlim h ev w hv hev
open Go.RowKit in
open Go.RowKit in
open Go.RowKit in
open Go.RowKit in
open Go.RowKit in
open Go.RowKit in
open Go.RowKit in
open Go.RowKit in
open Go.RowKit in
open Go.RowKit Go.Lib in
open Go.RowKit Go.Lib in
open Go.RowKit Go.Lib in
open Go.RowKit Go.Lib in
open Go.RowKit Go.Lib in
def Tryz.lays143_ren:Go.Shelf.Ren:=⟨fun|143=>234|219=>245|217=>276|225=>277|224=>278|267=>279|266=>289|314=>290|n=>n,fun|9=>9|3=>3|4=>4|5=>5|46=>160|146=>359|51=>279|n=>n,fun|1=>5|n=>n⟩
theorem Tryz.lays143:Go.Proofs.Lays.n143 Tryz.prog Tryz.lays143_ren:=kZl
open Go.RowKit Go.Lib in
theorem Tryz.strings_Index_one (s:ByteArray) (c:UInt8) (w:World) :
  Calls Tryz.prog 234 #[.string s,.string ⟨#[c]⟩] w fun e w'=>e=.returned (.int .i64 (Lib.indexByte s.data.toList c))∧w'=w:=Any.strings_Index_one Tryz.lays143 s c w
open Go.RowKit Go.Lib in
def Tryz.lays144_ren:Go.Shelf.Ren:=⟨fun|144=>189|143=>234|219=>245|217=>276|225=>277|224=>278|267=>279|266=>289|314=>290|n=>n,fun|9=>9|4=>4|3=>3|5=>5|46=>160|146=>359|51=>279|n=>n,fun|1=>5|n=>n⟩
theorem Tryz.lays144:Go.Proofs.Lays.n144 Tryz.prog Tryz.lays144_ren:=kZl
open Go.RowKit Go.Lib in
theorem Tryz.strings_Contains_one (s:ByteArray) (c:UInt8) (w:World) :
  Calls Tryz.prog 189 #[.string s,.string ⟨#[c]⟩] w fun e w'=>e=.returned (.bool (decide (0≤Lib.indexByte s.data.toList c)))∧w'=w:=Any.strings_Contains_one Tryz.lays144 s c w
open Go.RowKit Go.Lib in
open Go.RowKit Go.Lib in
def Tryz.lays145_ren:Go.Shelf.Ren:=⟨fun|145=>121|220=>188|219=>245|217=>276|225=>277|224=>278|267=>279|266=>289|314=>290|n=>n,fun|9=>9|4=>4|59=>211|3=>3|5=>5|46=>160|146=>359|51=>279|n=>n,fun|1=>5|n=>n⟩
theorem Tryz.lays145:Go.Proofs.Lays.n145 Tryz.prog Tryz.lays145_ren:=kZl
open Go.RowKit Go.Lib in
theorem Tryz.strings_Cut (s sep:ByteArray) (m:Int) (w:World) (hs:s.size<4294967281) (hm:w.cell? ⟨5,0,none⟩=some (.int .i64 m)) :
  Calls Tryz.prog 121 #[.string s,.string sep] w fun e w'=>e=.returned (.tuple #[.string ⟨(Lib.cut s.data.toList sep.data.toList).1.toArray⟩,.string ⟨(Lib.cut s.data.toList sep.data.toList).2.1.toArray⟩,.bool (Lib.cut s.data.toList sep.data.toList).2.2])∧∃ n,w'=w.drewN n:=Any.strings_Cut Tryz.lays145 s sep m w hs hm
open Go.RowKit Go.Lib in
open Go.RowKit Go.Lib in
def Tryz.laysGw17_ren:Go.Shelf.Ren:=⟨fun|17=>115|15=>181|20=>235|n=>n,fun|9=>9|23=>203|4=>4|3=>3|0=>0|21=>21|n=>n,fun|n=>n⟩
theorem Tryz.laysGw17:Go.Proofs.LaysGw.n17 Tryz.prog Tryz.laysGw17_ren:=kZl
open Go.RowKit Go.Lib in
open Go.RowKit Go.Lib in
def Tryz.lays146_ren:Go.Shelf.Ren:=⟨fun|146=>114|221=>180|268=>232|138=>233|143=>234|195=>269|197=>270|218=>271|219=>245|260=>287|217=>276|225=>277|224=>278|267=>279|266=>289|314=>290|n=>n,fun|9=>9|31=>43|3=>3|4=>4|0=>0|105=>338|21=>21|5=>5|46=>160|119=>366|139=>369|138=>368|146=>359|51=>279|n=>n,fun|1=>5|3=>7|4=>8|n=>n⟩
theorem Tryz.lays146:Go.Proofs.Lays.n146 Tryz.prog Tryz.lays146_ren:=kZl
open Go.RowKit Go.Lib in
theorem Tryz.strings_Split (s sep:ByteArray) (m:Int) (w:World) (hs:s.size<4294967281) (hm:w.cell? ⟨5,0,none⟩=some (.int .i64 m)) (h1:1≤sep.size) :
  Calls Tryz.prog 114 #[.string s,.string sep] w fun e w'=>
   e=.returned (.slice (some ⟨w.heap.size,0,none⟩) (Lib.countB s sep+1) (Lib.countB s sep+1))∧w'=w.alloc (.cells ((Lib.splitB sep 0 (Lib.countB s sep) s).map Value.string).toArray 9):=Any.strings_Split Tryz.lays146 (by kernel_rfl) s sep m w hs hm h1
open Go.RowKit Go.Lib in
open Go.RowKit Go.Lib in
def Tryz.lays151_ren:Go.Shelf.Ren:=⟨fun|151=>275|152=>288|137=>295|119=>296|224=>278|225=>277|217=>276|266=>289|n=>n,fun|9=>9|21=>21|4=>4|3=>3|5=>5|0=>0|46=>160|n=>n,fun|n=>n⟩
theorem Tryz.lays151:Go.Proofs.Lays.n151 Tryz.prog Tryz.lays151_ren:=kZl
open Go.RowKit Go.Lib in
theorem Tryz.strings_ContainsRune_ascii (s:ByteArray) (r:Int) (w:World) (h0:0≤r) (h1:r<128) :
  Calls Tryz.prog 275 #[.string s,.int .i32 r] w fun e w'=>e=.returned (.bool (decide (0≤Lib.indexByte s.data.toList r.toNat.toUInt8)))∧w'=w:=Any.strings_ContainsRune_ascii Tryz.lays151 s r w h0 h1
open Go.RowKit Go.Lib in
open Go.RowKit Go.Lib in
open Go.RowKit Go.Lib in
open Go.RowKit Go.Lib in
theorem Tryz.strings_ContainsFunc_grows (g:Nat) (lb:Array Value) (eg:∀ args w,(callFunc g args).run Tryz.prog w=.ok (.enter g args) w) (p:Nat→Bool) (s:ByteArray) (w:World) (hp:PredGrows Tryz.prog g lb p w) :
  Calls Tryz.prog 115 #[.string s,.func (.func g) #[] lb] w fun e w'=>e=.returned (.bool (decide (0≤Lib.idxFunc p true s)))∧Below w.heap.size w w':=Any.strings_ContainsFunc_grows Tryz.laysGw17 g lb eg p s w hp
open Go.Lib in
open Go.Lib in
def Tryz.lays110_ren:Go.Shelf.Ren:=⟨fun|110=>117|109=>182|n=>n,fun|31=>43|9=>9|4=>4|3=>3|0=>0|n=>n,fun|n=>n⟩
theorem Tryz.lays110:Go.Proofs.Lays.n110 Tryz.prog Tryz.lays110_ren:=kZl
open Go.Lib in
theorem Tryz.slices_Contains_string (b off n c:Nat) (zs:List ByteArray) (x:ByteArray) (w:World) (hz:n≤zs.length) (hbig:n≤9223372036854775807) (hc:∀ j,j<zs.length→w.cell? ⟨b,off+j,none⟩=some (.string (zs.getD j ByteArray.empty))) :
  Calls Tryz.prog 117 #[.slice (some ⟨b,off,none⟩) n c,.string x] w fun e w'=>e=.returned (.bool (Lib.containsS (zs.take n) x))∧w'=w:=Any.slices_Contains_string Tryz.lays110 b off n c zs x w hz hbig hc
open Go.Lib in
theorem Tryz.slices_Contains_string_empty (a:Option Addr) (c:Nat) (x:ByteArray) (w:World) :
  Calls Tryz.prog 117 #[.slice a 0 c,.string x] w fun e w'=>e=.returned (.bool false)∧w'=w:=Any.slices_Contains_string_empty Tryz.lays110 a c x w
def Tryz.lays193_ren:Go.Shelf.Ren:=⟨fun|193=>112|n=>n,fun|31=>43|9=>9|4=>4|3=>3|0=>0|n=>n,fun|n=>n⟩
theorem Tryz.lays193:Go.Proofs.Lays.n193 Tryz.prog Tryz.lays193_ren:=kZl
open Go.RowKit Go.Lib in
theorem Tryz.slices_Equal_string (b1 o1 n c b2 o2 m d:Nat) (xs ys:List ByteArray) (w:World) (hx:n≤xs.length) (hy:m≤ys.length) (hbig:n≤9223372036854775807) (hbig2:m≤9223372036854775807) (hc1:∀ j,j<xs.length→w.cell? ⟨b1,o1+j,none⟩=some (.string (xs.getD j ByteArray.empty))) (hc2:∀ j,j<ys.length→w.cell? ⟨b2,o2+j,none⟩=some (.string (ys.getD j ByteArray.empty))) :
  Calls Tryz.prog 112 #[.slice (some ⟨b1,o1,none⟩) n c,.slice (some ⟨b2,o2,none⟩) m d] w fun e w'=>e=.returned (.bool (decide (xs.take n=ys.take m)))∧∃ q,w'=w.drewN q:=Any.slices_Equal_string Tryz.lays193 b1 o1 n c b2 o2 m d xs ys w hx hy hbig hbig2 hc1 hc2
open Go.RowKit Go.Lib in
theorem Tryz.slices_Equal_string_empty (a1 a2:Option Addr) (c m d:Nat) (w:World) (hbig2:m≤9223372036854775807) :
  Calls Tryz.prog 112 #[.slice a1 0 c,.slice a2 m d] w fun e w'=>e=.returned (.bool (decide (m=0)))∧w'=w:=Any.slices_Equal_string_empty Tryz.lays193 a1 a2 c m d w hbig2
open Go.RowKit Go.Lib in
theorem Tryz.slices_Equal_string_lens (a1 a2:Option Addr) (n c m d:Nat) (w:World) (hnm:n≠m) :
  Calls Tryz.prog 112 #[.slice a1 n c,.slice a2 m d] w fun e w'=>e=.returned (.bool false)∧w'=w:=Any.slices_Equal_string_lens Tryz.lays193 a1 a2 n c m d w hnm
end Go.Proofs
namespace Go.Proofs.YtefdnmeopbkflaaGreatDoor
open Go Go.V
open Go.RowKit (Below)
set_option linter.unusedSimpArgs false
set_option linter.unusedVariables false
set_option maxRecDepth 20000
def dU (l:List (List UInt8)):List AV:=l.map str
theorem dY [Gv] (l:List (List UInt8)):(dU l).length=l.length:=by simp[dU]
theorem dP [Gv] (l:List (List UInt8)):aM (dU l)=true:=by
 induction l with
 | nil=>rfl
 | cons c l ih=>simp only[dU,List.map_cons,aM] at ih ⊢;rw[ih];rfl
theorem aBI [Gv] (l:List (List UInt8)):jE (dU l)=true:=by
 induction l with
 | nil=>rfl
 | cons c l ih=>simp only[dU,List.map_cons,jE] at ih ⊢;rw[ih];rfl
theorem mR [Gv] {l:List (List UInt8)} {i:Nat} (h:i<l.length):(dU l).getD i .top=str (l.getD i []):=by
 simp[dU,List.getD_eq_getElem?_getD,List.getElem?_map,List.getElem?_eq_getElem h]
theorem aMd [Gv] (E:Env) (l:List (List UInt8)):bY E (dU l) (l.map fun s=>Value.string ⟨s.toArray⟩):=by
 induction l with
 | nil=>simp[dU,bY]
 | cons c l ih=>simp only[dU,List.map_cons,bY] at ih ⊢;exact⟨_,_,rfl,by simp only[str,bE],ih⟩
theorem aJe [Gv] {E:Env} (hG:GOk E GP):E.w.cell? ⟨5,0,none⟩=some (.int .i64 Gv.most):=by
 obtain⟨_,_,h,_⟩:=hG 5 [.val (.int .i64 Gv.most)] (by simp[GP])
 simp only[eD] at h
 obtain⟨⟨v,h1,h2⟩,_⟩:=h
 simp only[bE] at h2
 rw[h1,h2]
theorem aBi [Gv] (s:List UInt8) (c:UInt8) (hs:s.length<4294967281):ACalls Tryz.prog GP 114 [str s,str [c]] [] (fun r os=>os=[]∧r=.sl (dM c s).length (dU (dM c s)) .full):=by
 refine aGY ⟨_,Tryz.func114,rfl,rfl⟩ fun E vs hl hG=>?_
 simp only[bY,bE,str] at hl
 obtain⟨_,_,rfl,rfl,_,_,rfl,rfl,rfl⟩:=hl
 have hsz:(⟨s.toArray⟩:ByteArray).size=s.length:=by simp[ByteArray.size]
 refine(Tryz.strings_Split ⟨s.toArray⟩ ⟨#[c]⟩ Gv.most E.w (by rw[hsz];exact hs) (aJe hG) (Nat.le_refl 1)).mono ?_
 rintro e w' ⟨rfl,rfl⟩
 have hlen:Lib.countB ⟨s.toArray⟩ ⟨#[c]⟩+1=(dM c s).length:=by
  have h1:=Lib.splitB_all ⟨#[c]⟩ (Nat.le_refl 1) 0 _ ⟨s.toArray⟩ rfl
  rw[← aDI,List.length_map,h1]
 have hb:Below E.w.heap.size E.w (E.w.alloc (.cells ((Lib.splitB ⟨#[c]⟩ 0 (Lib.countB ⟨s.toArray⟩ ⟨#[c]⟩) ⟨s.toArray⟩).map Value.string).toArray 9)):=(Below.refl _ _).alloc (Nat.le_refl _) _
 refine⟨_,fun _=>(dU (dM c s)).length,rfl,hb,?_⟩
 rw[hlen]
 have hmap:(Lib.splitB ⟨#[c]⟩ 0 (Lib.countB ⟨s.toArray⟩ ⟨#[c]⟩) ⟨s.toArray⟩).map Value.string=(dM c s).map fun s=>Value.string ⟨s.toArray⟩:=by
  rw[← aDI,List.map_map]
  rfl
 refine aOP hb (Pushed.alloc E.w _).new (fun E' _=>?_) (.inr trivial)
 rw[hmap]
 exact aMd E' _
theorem aBA [Gv] (g:FuncId) (p:Nat→Bool) (hp:∀ r,128≤r→p r=true) (hg:∀ r:Nat,r≤1114111→ACalls Tryz.prog GP g [.val (.int .i32 (r:Int))] [] (fun x os=>os=[]∧x=.val (.bool (p r)))) (s:List UInt8) :
  ACalls Tryz.prog GP 115 [str s,.val (.func (.func g) #[] #[])] [] (fun x os=>os=[]∧x=.val (.bool (s.any fun b=>p b.toNat))):=by
 refine jA ⟨_,Tryz.func115,rfl,rfl⟩ fun E vs hl hG=>?_
 simp only[bY,bE,str] at hl
 obtain⟨_,_,rfl,rfl,_,_,rfl,rfl,rfl⟩:=hl
 obtain⟨fn,hfn,hb,hn⟩:=(hg 0 (by omega)).1
 rw[← aNu p hp s]
 refine Tryz.strings_ContainsFunc_grows g #[] (fun args w=>oD hfn hb hn args w) p ⟨s.toArray⟩ E.w fun W x hx hbl=>?_
 have hc:=(hg x hx).calls W [.int .i32 (x:Int)] (fun E' _=>by simp only[bY,bE];exact⟨_,_,rfl,rfl,rfl⟩) ⟨{ w:=W,lim:=E.lim,k:=0,ρ:=E.ρ },rfl,rfl,?_⟩
 ·exact hc
 ·intro g' cells hm
  obtain⟨h1,h2,h3,h4⟩:=hG g' cells hm
  refine⟨Nat.lt_of_lt_of_le h1 hbl.size,h2,eD.of_cell fun i c hc=>?_,h4⟩
  obtain⟨v,hv,hr⟩:=h3.cell i c hc
  obtain⟨u,rfl⟩:=h4 c (List.mem_of_getElem? hc)
  exact⟨v,by rw[← hv];exact hbl.cell (p:=⟨g',0+i,none⟩) h1,by simpa only[bE] using hr⟩
theorem zM [Gv] (l:List (List UInt8)) (x:List UInt8) (p:Perm) (hl:l.length≤9223372036854775807):ACalls Tryz.prog GP 117 [.sl l.length (dU l) p,str x] [] (fun r os=>os=[]∧r=.val (.bool (l.contains x))):=by
 refine jA ⟨_,Tryz.func117,rfl,rfl⟩ fun E vs hv hG=>?_
 simp only[bY,bE,str] at hv
 obtain⟨_,_,rfl,⟨A,cap,rfl,hn,hc,_⟩,_,_,rfl,rfl,rfl⟩:=hv
 by_cases h0:l=[]
 ·subst h0
  refine(Tryz.slices_Contains_string_empty A cap ⟨x.toArray⟩ E.w).mono ?_
  rintro e w' ⟨rfl,rfl⟩
  exact⟨rfl,Below.refl _ _⟩
 ·rcases hc with e|⟨g,o,rfl,hg,ho,hat⟩
  ·exact absurd (by simpa[dU] using e) h0
  ·refine(Tryz.slices_Contains_string g o l.length cap (l.map fun s=>⟨s.toArray⟩) ⟨x.toArray⟩ E.w (by simp) hl fun j hj=>?_).mono ?_
   ·have hj':j<l.length:=by simpa using hj
    obtain⟨v,h1,h2⟩:=hat.cell j (str l[j]) (by simp[dU,hj'])
    simp only[str,bE] at h2
    rw[h1,h2]
    simp[hj']
   ·rintro e w' ⟨rfl,rfl⟩
    refine⟨?_,Below.refl _ _⟩
    congr 2
    rw[Bool.eq_iff_iff,Lib.containsS_iff,List.take_of_length_le (by simp)]
    simp only[List.mem_map,List.contains_iff_mem]
    constructor
    ·rintro⟨a,ha,hax⟩
     have:a=x:=by
      have:=congrArg (fun b:ByteArray=>b.data.toList) hax
      simpa using this
     exact this ▸ ha
    ·intro h;exact⟨x,h,rfl⟩
theorem zB [Gv] (a b:List (List UInt8)) (p q:Perm) (ha:a.length≤9223372036854775807) (hb:b.length≤9223372036854775807):ACalls Tryz.prog GP 112 [.sl a.length (dU a) p,.sl b.length (dU b) q] [] (fun r os=>os=[]∧r=.val (.bool (decide (a=b)))):=by
 refine jA ⟨_,Tryz.func112,rfl,rfl⟩ fun E vs hv hG=>?_
 simp only[bY,bE,str] at hv
 obtain⟨_,_,rfl,⟨A,cap,rfl,hn,hc,_⟩,_,_,rfl,⟨A2,cap2,rfl,hn2,hc2,_⟩,rfl⟩:=hv
 by_cases hne:a.length=b.length
 ·by_cases h0:a=[]
  ·subst h0
   refine(Tryz.slices_Equal_string_empty A A2 cap b.length cap2 E.w hb).mono ?_
   rintro e w' ⟨rfl,rfl⟩
   have hb0:b=[]:=List.length_eq_zero_iff.1 hne.symm
   subst hb0
   exact⟨rfl,Below.refl _ _⟩
  ·have hb0:b≠[]:=fun e=>h0 (List.length_eq_zero_iff.1 (by rw[hne,e];rfl))
   rcases hc with e|⟨g,o,rfl,hg,ho,hat⟩
   ·exact absurd (by simpa[dU] using e) h0
   rcases hc2 with e|⟨g2,o2,rfl,hg2,ho2,hat2⟩
   ·exact absurd (by simpa[dU] using e) hb0
   refine(Tryz.slices_Equal_string g o a.length cap g2 o2 b.length cap2 (a.map fun s=>⟨s.toArray⟩) (b.map fun s=>⟨s.toArray⟩) E.w (by simp) (by simp) ha hb (fun j hj=>?_) fun j hj=>?_).mono ?_
   ·have hj':j<a.length:=by simpa using hj
    obtain⟨v,h1,h2⟩:=hat.cell j (str a[j]) (by simp[dU,hj'])
    simp only[str,bE] at h2
    rw[h1,h2]
    simp[hj']
   ·have hj':j<b.length:=by simpa using hj
    obtain⟨v,h1,h2⟩:=hat2.cell j (str b[j]) (by simp[dU,hj'])
    simp only[str,bE] at h2
    rw[h1,h2]
    simp[hj']
   ·rintro e w' ⟨rfl,k,rfl⟩
    refine⟨?_,below_drewNg _ _⟩
    congr 2
    rw[List.take_of_length_le (by simp),List.take_of_length_le (by simp),decide_eq_decide]
    constructor
    ·intro h
     have:=congrArg (List.map fun b:ByteArray=>b.data.toList) h
     rw[List.map_map,List.map_map] at this
     simpa[Function.comp_def] using this
    ·intro h;rw[h]
 ·refine(Tryz.slices_Equal_string_lens A A2 a.length cap b.length cap2 E.w hne).mono ?_
  rintro e w' ⟨rfl,rfl⟩
  refine⟨?_,Below.refl _ _⟩
  rw[decide_eq_false (fun e=>hne (by rw[e]))]
theorem uJ [Gv] (l:List (List UInt8)) (sep:List UInt8) (p:Perm) (hl:l.length≤140737488355328) (hj:(Lib.join l sep).length≤140737488355328):ACalls Tryz.prog GP 173 [.sl l.length (dU l) p,str sep] [] (fun r os=>os=[]∧r=str (Lib.join l sep)):=by
 refine jA ⟨_,Tryz.func173,rfl,rfl⟩ fun E vs hv hG=>?_
 simp only[bY,bE,str] at hv
 obtain⟨_,_,rfl,⟨A,cap,rfl,hn,hc,_⟩,_,_,rfl,rfl,rfl⟩:=hv
 by_cases h0:l=[]
 ·subst h0
  refine(Tryz.strings_Join_none A cap ⟨sep.toArray⟩ E.w).mono ?_
  rintro e w' ⟨rfl,rfl⟩
  exact⟨rfl,Below.refl _ _⟩
 ·rcases hc with e|⟨g,o,rfl,hg,ho,hat⟩
  ·exact absurd (by simpa[dU] using e) h0
  ·have hm:(l.map fun s=>(⟨s.toArray⟩:ByteArray)).map (·.data.toList)=l:=by rw[List.map_map];simp[Function.comp_def]
   have h:=Tryz.strings_Join g o cap (l.map fun s=>⟨s.toArray⟩) ⟨sep.toArray⟩ E.w (fun j x hx=>?_) hg (by simpa using hl) (by simpa using hn) (by rw[hm];exact hj)
   ·rw[hm,List.length_map] at h
    exact h
   ·simp only[List.getElem?_map,Option.map_eq_some_iff] at hx
    obtain⟨s,hs,rfl⟩:=hx
    obtain⟨v,h1,h2⟩:=hat.cell j (str s) (by simp[dU,hs])
    simp only[str,bE] at h2
    rw[h1,h2]
end Go.Proofs.YtefdnmeopbkflaaGreatDoor
namespace Go.Proofs.YtefdnmeopbkflaaGreatDoor
open Go Go.V
set_option linter.unusedSimpArgs false
set_option linter.unusedVariables false
set_option maxRecDepth 100000
theorem sR [Gv] {c:UInt8}:∀ {s:List UInt8},Lib.indexByte s c=-1→dM c s=[s]
 | [],_=>rfl
 | x::xs,h=>by
  unfold Lib.indexByte at h
  have hge:=Lib.indexByte_ge xs c
  by_cases hx:x=c
  ·subst hx;simp at h
  ·have hx':(x == c)=false:=by simpa using hx
   rw[hx'] at h
   simp only[Bool.false_eq_true,if_false] at h
   have h1:Lib.indexByte xs c=-1:=by
    by_cases h2:Lib.indexByte xs c=-1
    ·exact h2
    ·have h3:(Lib.indexByte xs c == -1)=false:=by simpa using h2
     rw[h3] at h
     simp only[Bool.false_eq_true,if_false] at h
     omega
   unfold dM
   rw[if_neg hx,sR h1]
   rfl
theorem sS [Gv] {c:UInt8}:∀ {s:List UInt8} {i:Nat},Lib.indexByte s c=(i:Int)→i<s.length∧dM c s=s.take i::dM c (s.drop (i+1))
 | [],i,h=>by simp[Lib.indexByte] at h
 | x::xs,i,h=>by
  unfold Lib.indexByte at h
  by_cases hx:x=c
  ·subst hx
   have:i=0:=by simpa using h.symm
   subst this
   simp[dM]
  ·have hx':(x == c)=false:=by simpa using hx
   rw[hx'] at h
   simp only[Bool.false_eq_true,if_false] at h
   by_cases h2:Lib.indexByte xs c=-1
   ·rw[h2] at h;simp at h
   ·have h3:(Lib.indexByte xs c == -1)=false:=by simpa using h2
    rw[h3] at h
    simp only[Bool.false_eq_true,if_false] at h
    have hge:=Lib.indexByte_ge xs c
    obtain⟨j,rfl⟩:∃ j,i=j+1:=⟨i - 1,by omega⟩
    obtain⟨h4,h5⟩:=sS (c:=c) (s:=xs) (i:=j) (by omega)
    refine⟨by simp;omega,?_⟩
    rw[show dM c (x::xs)=(x::(dM c xs).headD [])::(dM c xs).tail from by conv=>lhs;unfold dM;rw[if_neg hx],h5]
    rfl
theorem aCl [Gv] (s:List UInt8) (c:UInt8):ACalls Tryz.prog GP 234 [str s,str [c]] [] (fun r os=>os=[]∧r=.val (.int .i64 (Lib.indexByte s c))):=by
 refine jA ⟨_,Tryz.func234,rfl,rfl⟩ fun E vs hl hG=>?_
 simp only[bY,bE,str] at hl
 obtain⟨_,_,rfl,rfl,_,_,rfl,rfl,rfl⟩:=hl
 refine(Tryz.strings_Index_one ⟨s.toArray⟩ c E.w).mono ?_
 rintro e w' ⟨rfl,rfl⟩
 exact⟨rfl,Go.RowKit.Below.refl _ _⟩
def SQ (c:UInt8) (s:List UInt8):List AObj:=[.cells [str [c]],.cells [str s],.cells [.val (.int .i64 0)]]
theorem aEW [Gv] (s:List UInt8) (c:UInt8):ACalls Tryz.prog GP 242 [str s,str [c],.val (.int .i64 0)] [] (fun r os=>os=SQ c s∧r=.clo 274 [.ptr 0 0,.ptr 1 0,.ptr 2 0]):=by
 unfold SQ str
 refine dB Tryz.func242 rfl rfl Tryz.ntmps242 (rts:=#[269]) rfl Tryz.results242 (by simp) ?_
 simp only[seval,aZ]
 refine ks [3,4,5] ?_
 refine ks [6] ?_
 apply aS
 refine nW [1,0,2] ⟨by simp,by simp,by decide,by simp,by simp[fU,eV,ref,jH]⟩ ?_
 simp only[seval,kT,kN,GHd,gJ,gH,ren]
 exact⟨rfl,rfl⟩
theorem aGB [Gv] (s:List UInt8) (c:UInt8):ACalls Tryz.prog GP 186 [str s,str [c]] [] (fun r os=>os=SQ c s∧r=.clo 274 [.ptr 0 0,.ptr 1 0,.ptr 2 0]):=by
 have cS:=aEW s c
 unfold SQ str at *
 refine dB Tryz.func186 rfl rfl Tryz.ntmps186 (rts:=#[269]) rfl Tryz.results186 (by simp) ?_
 simp only[seval,aZ]
 refine ks [0,1,4] ?_
 refine kr [1000007] fun K hK=>?_
 refine gF [] false [9,9,3] ⟨by decide,by simp,by simp⟩ (C:=True∧True∧True∧True) (by simp[gT,nR,aH]) ⟨trivial,trivial,trivial,trivial⟩ cS ⟨by simp,by simp[fU,eV,ref],by simp[ref,eV],fun h=>by cases h⟩ ?_
 simp only[yC,aEa,List.map_cons,List.map_nil,gJ,gH,ren,List.nil_append,List.length_nil,Nat.zero_add]
 simp only[seval,kT]
 refine hK _ ?_
 clear hK K
 refine kp [4] ?_
 apply aS
 refine nW [0,1,2] ⟨by simp,by simp,by decide,by simp,by simp[fU,eV,ref,jH]⟩ ?_
 simp only[seval,kT,kN,GHd,gJ,gH,ren]
 exact⟨rfl,rfl⟩
def SY (lp:Nat) (c:UInt8) (s:List UInt8):St:=⟨52,[(0,.val (.func (.yield lp) #[] #[])),(1,.ptr 0 0),(2,.ptr 1 0),(3,.ptr 2 0)],SQ c s⟩
theorem aEV [Gv] (s0:List UInt8) (c:UInt8) (hs0:s0.length<4294967281):Go.V.aKm Tryz.prog GP 274 [.ptr 0 0,.ptr 1 0,.ptr 2 0] (SQ c s0) ((dM c s0).map fun w=>.string ⟨w.toArray⟩):=by
 refine⟨⟨_,Tryz.func274,rfl,rfl⟩,fun lp J hJ hY E vs hvs hobj hG hJ0=>?_⟩
 have e1:#[Value.func (.yield lp) #[] #[]]++vs.toArray=(.func (.yield lp) #[] #[]::vs).toArray:=by simp
 rw[e1]
 have hv1:bY E [.val (.func (.yield lp) #[] #[]),.ptr 0 0,.ptr 1 0,.ptr 2 0] (.func (.yield lp) #[] #[]::vs):=⟨_,_,rfl,by simp only[bE],hvs⟩
 refine calls_of_wp Tryz.func274 rfl ?_
 have hr:=uM (G:=GP) (fn:=Tryz.f274) rfl (by show 4≤Tryz.f274.ntmps;rw[Tryz.ntmps274];decide) hv1 hobj hG
 have hr:Rep GP E (SY lp c s0) { tmps:=(Value.func (.yield lp) #[] #[]::vs).toArray++Array.replicate (Tryz.f274.ntmps - (Value.func (.yield lp) #[] #[]::vs).toArray.size) undef,defers:=[] }:=by
  have:=hr
  rw[Tryz.ntmps274] at this ⊢
  exact this
 generalize ({ tmps:=(Value.func (.yield lp) #[] #[]::vs).toArray++Array.replicate (Tryz.f274.ntmps - (Value.func (.yield lp) #[] #[]::vs).toArray.size) undef,defers:=[] }:Act)=a at *
 generalize hxs:((dM c s0).map fun w=>Value.string ⟨w.toArray⟩)=xs at *
 -- the sign is one byte
 refine yA (st':=SY lp c s0) ?_ hr fun E1 a1 hr1 hx1=>?_
 ·unfold SY SQ str
  refine kq ?_
  apply aR rfl
  apply bC
  simp only[seval,kT]
  exact .of_keep [0,1,2,3] rfl
 have hJ1:=hJ _ _ _ _ _ hJ0 hobj hx1 hr1.objs
 clear hJ0 hx1 hv1 hr hobj hG
 refine wp_seq ?_
 refine wp_block ?_
 -- the loop,by the pieces that are left
 refine aHs (fun n a w=>∃ s k E,E.w=w∧s.length≤s0.length∧n=s.length∧xs.drop k=(dM c s).map (fun w=>Value.string ⟨w.toArray⟩)∧Rep GP E (SY lp c s) a∧J k E (SQ c s)) ?_ (n:=s0.length) ⟨s0,0,E1,rfl,Nat.le_refl _,rfl,by rw[← hxs];rfl,hr1,hJ1⟩
 clear hJ1 hr1 a1 E1
 rintro n a w ⟨s,k,E,rfl,hsl,rfl,hdrop,hr,hj⟩
 refine wp_block ?_
 rcases Int.lt_or_le (Lib.indexByte s c) 0 with hneg|hpos
 ·-- the last piece
  have hidx:Lib.indexByte s c=-1:=by have:=Lib.indexByte_ge s c;omega
  have cI:=aCl s c
  rw[hidx] at cI
  rw[sR hidx] at hdrop
  refine yA (st':=⟨52,[(0,.val (.func (.yield lp) #[] #[])),(1,.ptr 0 0),(2,.ptr 1 0),(3,.ptr 2 0),(7,.val (.int .i64 (-1)))],SQ c s⟩) ?_ hr fun E1 a1 hr1 hx1=>?_
  ·unfold SY SQ str at *
   refine ko [] ?_
   refine kc (cI) ?_
   exact .of_keep [0,1,2,3,7] rfl
  have hj1:=hJ _ _ _ _ _ hj hr.objs hx1 hr1.objs
  refine aMw (j:=2) (st':=SY lp c s) ?_ hr1 fun E2 a2 hr2 hx2=>?_
  ·unfold SY SQ str
   refine kq ?_
   apply bG rfl
   apply dR
   exact⟨rfl,.of_keep [0,1,2,3] rfl⟩
  have hj2:=hJ _ _ _ _ _ hj1 hr1.objs hx2 hr2.objs
  simp only[seval,Exit.inBlock,Exit.then,if_true,if_false]
  refine aGM (n:=2) (tf:=49) (tx:=50) (d:=51) (K:=fun b s=>True) hJ hY rfl rfl rfl rfl (k:=k) (x:=.string ⟨s.toArray⟩) ?_ hr2 hj2 ?_ ?_
  ·have:=congrArg (fun l=>l[0]?) hdrop
   simpa using this
  ·unfold SY SQ str
   simp only[seval,kT]
   exact fun b=>trivial
  ·intro b E3 a3 s3 _ hr3 hj3
   have hk:xs.length=k+1:=by
    have:=congrArg List.length hdrop
    simp at this
    omega
   refine⟨hr3.defers,.tuple #[],?_,.tuple #[],E3,s3.objs,_,rfl,rfl,hr3.objs,hj3,?_⟩
   ·rw[jY,Tryz.results274];simp
   ·cases b<;>simp<;>omega
 ·obtain⟨i,hi⟩:∃ i:Nat,Lib.indexByte s c=i:=⟨(Lib.indexByte s c).toNat,by omega⟩
  obtain⟨hlt,hsp⟩:=sS hi
  have cI:=aCl s c
  rw[hi] at cI
  rw[hsp] at hdrop
  have hsz:(⟨s.toArray⟩:ByteArray).size=s.length:=by simp[ByteArray.size]
  have hw:IntKind.i64.wrap (i:Int)=i:=fD (by omega)
  have hi0:decide ((i:Int)<0)=false:=decide_eq_false (by omega)
  refine yA (st':=⟨52,[(0,.val (.func (.yield lp) #[] #[])),(1,.ptr 0 0),(2,.ptr 1 0),(3,.ptr 2 0),(7,.val (.int .i64 (i:Int)))],SQ c s⟩) ?_ hr fun E1 a1 hr1 hx1=>?_
  ·unfold SY SQ str at *
   refine ko [] ?_
   refine kc (cI) ?_
   exact .of_keep [0,1,2,3,7] rfl
  have hj1:=hJ _ _ _ _ _ hj hr.objs hx1 hr1.objs
  refine yA (st':=⟨52,[(0,.val (.func (.yield lp) #[] #[])),(1,.ptr 0 0),(2,.ptr 1 0),(3,.ptr 2 0),(7,.val (.int .i64 (i:Int)))],SQ c s⟩) ?_ hr1 fun E2 a2 hr2 hx2=>?_
  ·unfold SQ str
   refine ky hi0 ?_
   apply aR rfl
   apply bC
   exact .of_keep [0,1,2,3,7] rfl
  have hj2:=hJ _ _ _ _ _ hj1 hr1.objs hx2 hr2.objs
  refine yA (st':=⟨52,[(0,.val (.func (.yield lp) #[] #[])),(1,.ptr 0 0),(2,.ptr 1 0),(3,.ptr 2 0),(7,.val (.int .i64 (i:Int))),(8,.val (.string ⟨(s.take i).toArray⟩))],SQ c s⟩) ?_ hr2 fun E3 a3 hr3 hx3=>?_
  ·unfold SQ str
   refine ku [] (kI (kI @gO hw) (kI @Nat.sub_zero hsz)) ?_
   exact⟨⟨by omega,by omega⟩,.of_keep [0,1,2,3,7,8] rfl⟩
  have hj3:=hJ _ _ _ _ _ hj2 hr2.objs hx3 hr3.objs
  have hlen0:s.length=i+1+(s.drop (i+1)).length:=by simp;omega
  refine wp_seq (wp_seq ?_)
  refine aGM (n:=2) (tf:=39) (tx:=40) (d:=41) (K:=fun b s'=>gE GP s' ⟨52,[(42,.val (.bool (!b))),(0,.val (.func (.yield lp) #[] #[])),(1,.ptr 0 0),(2,.ptr 1 0),(3,.ptr 2 0),(7,.val (.int .i64 (i:Int)))],SQ c s⟩) hJ hY rfl rfl rfl rfl (k:=k) (x:=.string ⟨(s.take i).toArray⟩) ?_ hr3 hj3 ?_ ?_
  ·have:=congrArg (fun l=>l[0]?) hdrop
   simpa using this
  ·unfold SQ str
   simp only[seval,kT]
   exact fun b=>.of_keep [42,0,1,2,3,7] rfl
  ·intro b E4 a4 s4 hK hr4 hj4
   obtain⟨E5,e5,hr5,hx5⟩:=hK E4 a4 hr4
   have hj5:=hJ _ _ _ _ _ hj4 hr4.objs hx5 hr5.objs
   rw[← e5]
   clear hK hr4 hj4 hx5 e5
   simp only[Exit.then]
   have h42:a4.eval (.tmp 42)=.bool (!b):=by have:=hr5.slots 42;simp only[lk,if_true,bE] at this;exact this
   cases b with
   | false=>
    refine wp_cond_true h42 (wp_ret ?_)
    refine⟨hr5.defers,.tuple #[],?_,.tuple #[],E5,_,_,rfl,rfl,hr5.objs,hj5,.inr rfl⟩
    rw[jY,Tryz.results274];simp
   | true=>
    refine wp_cond_false h42 (wp_skip ?_)
    refine aOe (G:=GP) (st':=SY lp c (s.drop (i+1))) ?_ hr5 fun E6 a6 hr6 hx6=>?_
    ·unfold SY SQ str
     have hw2:IntKind.i64.wrap ((i+1:Nat):Int)=((i+1:Nat):Int):=fD (by omega)
     have htk:(s.drop (i+1)).take (s.length - (i+1))=s.drop (i+1):=List.take_of_length_le (by simp)
     refine ku [] (kI (kI @gO hw2) (kI hsz htk)) ?_
     exact⟨⟨by omega,by omega⟩,.of_keep [0,1,2,3] rfl⟩
    ·refine⟨_,?_,s.drop (i+1),k+1,E6,rfl,by omega,rfl,?_,hr6,hJ _ _ _ _ _ hj5 hr5.objs hx6 hr6.objs⟩
     ·omega
     ·have:=congrArg List.tail hdrop
      simpa using this
theorem aKL [Gv] (r:Nat) (hr:r≤1114111):ACalls Tryz.prog GP 116 [.val (.int .i32 (r:Int))] [] (fun x os=>os=[]∧x=.val (.bool (decide (r<32) || decide (126<r)))):=by
 refine ke Tryz.func116 Tryz.ntmps116 Tryz.results116 #[4] ?_
 refine ks [0] ?_
 refine aC fun K hK=>?_
 by_cases h:r<32
 ·have h1:decide ((r:Int)<32)=true:=decide_eq_true (by omega)
  refine ku [] h1 ?_
  refine hK _ ?_
  refine kp [2] ?_
  refine aS ?_
  simp only[seval,kT,kF]
  simp[h]
 ·have h1:decide ((r:Int)<32)=false:=decide_eq_false (by omega)
  have h2:decide ((126:Int)<(r:Int))=decide (126<r):=decide_eq_decide.2 (by omega)
  refine ku [] (kI h1 (kI @gt_iff_lt.{0} h2)) ?_
  refine hK _ ?_
  refine kp [2] ?_
  refine aS ?_
  simp only[seval,kT,kF]
  simp[h]
theorem aMI [Gv] (r:Nat) (hr:r≤1114111):ACalls Tryz.prog GP 185 [.val (.int .i32 (r:Int))] [] (fun x os=>os=[]∧x=.val (.bool (decide (r<97) || decide (122<r)))):=by
 refine ke Tryz.func185 Tryz.ntmps185 Tryz.results185 #[4] ?_
 refine ks [0] ?_
 refine aC fun K hK=>?_
 by_cases h:r<97
 ·have h1:decide ((r:Int)<97)=true:=decide_eq_true (by omega)
  refine ku [] h1 ?_
  refine hK _ ?_
  refine kp [2] ?_
  refine aS ?_
  simp only[seval,kT,kF]
  simp[h]
 ·have h1:decide ((r:Int)<97)=false:=decide_eq_false (by omega)
  have h2:decide ((122:Int)<(r:Int))=decide (122<r):=decide_eq_decide.2 (by omega)
  refine ku [] (kI h1 (kI @gt_iff_lt.{0} h2)) ?_
  refine hK _ ?_
  refine kp [2] ?_
  refine aS ?_
  simp only[seval,kT,kF]
  simp[h]
def aOJ (s:List UInt8):Bool:=s.any fun b=>decide (b.toNat<32) || decide (126<b.toNat)
def aQZ (s:List UInt8):Bool:=s.any fun b=>decide (b.toNat<97) || decide (122<b.toNat)
theorem aOK [Gv] (s:List UInt8):ACalls Tryz.prog GP 115 [str s,.val (.func (.func 116) #[] #[])] [] (fun x os=>os=[]∧x=.val (.bool (aOJ s))):=
 aBA 116 _ (fun r hr=>by simp;omega) (fun r hr=>aKL r hr) s
theorem aOI [Gv] (s:List UInt8):ACalls Tryz.prog GP 115 [str s,.val (.func (.func 185) #[] #[])] [] (fun x os=>os=[]∧x=.val (.bool (aQZ s))):=
 aBA 185 _ (fun r hr=>by simp;omega) (fun r hr=>aMI r hr) s
def qB (s:List UInt8):Option (List (List UInt8)):=if s=[] then some [] else if aOJ s=true∨512<s.length∨[]∈dM 32 s then none else some (dM 32 s)
def zD (s:List UInt8):AV:=match qB s with
 | some l=>.tup [.sl l.length (dU l) .full,.val (.bool true)]
 | none=>.tup [.sl 0 [] .full,.val (.bool false)]
theorem aMv [Gv] (s:List UInt8) (hs:s.length≤200000):ACalls Tryz.prog GP 57 [str s] [] (fun x os=>os=[]∧x=zD s):=by
 have cS:=aBi s 32 (by omega)
 have cO:=aOK s
 have cC:=zM (dM 32 s) [] .full (by rw[aTr];have:=List.count_le_length (a:=(32:UInt8)) (l:=s);omega)
 have hsz:((⟨s.toArray⟩:ByteArray).size:Int)=(s.length:Int):=by simp[ByteArray.size]
 have hn:=dP (dM 32 s)
 have hl:=dY (dM 32 s)
 simp only[str] at *
 refine ke Tryz.func57 Tryz.ntmps57 Tryz.results57 #[43,4] ?_
 refine ks [0,2,3] ?_
 refine aC fun K1 hK1=>?_
 refine kq ?_
 by_cases h0:s=[]
 ·subst h0
  apply bG rfl
  refine kp [0,2,3] ?_
  refine aC fun K hK=>aA [] ?_
  simp only[qq,aF,Nat.reduceLT,aB,cav,aG,aI]
  (repeat' apply And.intro)<;>try (first|exact True.intro|omega)
  refine hK _ ?_
  clear hK K
  refine aE [2,3] ?_
  simp only[aD,aB,Nat.reduceEqDiff,if_true,if_false]
  refine aS ?_
  simp only[qq,aI,bR,eU,bN,bO,dA,aB,Nat.reduceEqDiff,aM,bW,aH]
  simp[zD,qB,dU]
 have e0:(s == [])=false:=beq_eq_false_iff_ne.2 h0
 refine aR (by simp[lk,e0]) (bC (hK1 _ ?_))
 clear hK1 K1
 refine kp [0,2,3] ?_
 refine kr [] fun K hK=>?_
 refine aV (by simp[aM,aH]) cS (by simp[aH,hn]) ?_
 simp only[seval,kT]
 refine hK _ ?_
 clear hK K
 refine kp [0,2,3,4] ?_
 refine kr [] fun K hK=>?_
 refine aV (by simp[aM,aH]) cO (by simp[aH]) ?_
 simp only[seval,kT]
 refine hK _ ?_
 clear hK K
 refine kp [0,2,3,4,5] ?_
 refine aC fun K1 hK1=>?_
 refine aC fun K hK=>?_
 have bad:∀ st,qB s=none→lk st.slots 21=.val (.bool true)→st.nt=23→st.objs=[]→K st:=by
  rintro⟨nt,sl,os⟩ hw h21 hnt hos
  simp only at h21 hnt hos
  subst hnt hos
  refine hK _ ?_
  refine bG h21 ?_
  refine aE [] ?_
  simp only[aD]
  refine aC fun K hK=>aA [] ?_
  simp only[qq,aF,Nat.reduceLT,aB,cav,aG,aI]
  (repeat' apply And.intro)<;>try (first|exact True.intro|omega)
  refine hK _ ?_
  clear hK K
  refine aE [2,3] ?_
  simp only[aD,aB,Nat.reduceEqDiff,if_true,if_false]
  refine aS ?_
  simp only[aI]
  simp only[qq,bR,eU,bN,bO,dA,aB,Nat.reduceEqDiff,aM,bW,aH]
  simp[zD,hw,dU,bW,aM]
 by_cases h1:aOJ s=true
 ·refine ku [] h1 ?_
  refine bad _ ?_ rfl rfl rfl
  simp[qB,h0,h1]
 have h1':aOJ s=false:=by simpa using h1
 by_cases h2:512<s.length
 ·have e2:decide ((s.length:Int) > 512)=true:=decide_eq_true (by omega)
  refine ku [] (kI h1' e2) ?_
  refine bad _ ?_ rfl rfl rfl
  simp[qB,h0,h2]
 have e2:decide ((s.length:Int) > 512)=false:=decide_eq_false (by omega)
 refine ku [] (kI h1' e2) ?_
 refine aV hn cC rfl ?_
 by_cases h3:(dM 32 s).contains []=true
 ·skip
  simp only[seval,kT,h3]
  refine bad _ ?_ rfl rfl rfl
  simp only[List.contains_iff_mem] at h3
  simp[qB,h0,h3]
 have h3':(dM 32 s).contains []=false:=by simpa using h3
 simp only[seval,kT,h3']
 clear bad
 refine hK _ ?_
 clear hK K
 have hw:qB s=some (dM 32 s):=by
  have h3m:¬ []∈dM 32 s:=fun h=>by rw[List.contains_iff_mem.2 h] at h3';cases h3'
  unfold qB
  rw[if_neg h0,if_neg (by simp only[h1',Bool.false_eq_true,false_or,not_or];exact⟨h2,h3m⟩)]
 refine aR rfl (bC (hK1 _ ?_))
 clear hK1 K1
 refine kp [4] ?_
 refine ks [2,3] ?_
 refine aS ?_
 simp only[seval,kT,kF]
 simp[zD,hw,hn]
def aBS (s:List UInt8):Bool:=!(s == [])&&decide (s.length≤16) && !aQZ s
theorem aOG [Gv] (s:List UInt8):ACalls Tryz.prog GP 119 [str s] [] (fun x os=>os=[]∧x=.val (.bool (aBS s))):=by
 have cO:=aOI s
 have hsz:((⟨s.toArray⟩:ByteArray).size:Int)=(s.length:Int):=by simp[ByteArray.size]
 simp only[str] at *
 refine ke Tryz.func119 Tryz.ntmps119 Tryz.results119 #[4] ?_
 refine ks [0,2] ?_
 refine aC fun K hK=>?_
 by_cases h0:s=[]
 ·have e0:(s == [])=true:=beq_iff_eq.2 h0
  refine ku [] e0 ?_
  refine hK _ ?_
  refine kp [2] ?_
  refine aS ?_
  simp only[seval,kT,kF]
  simp[aBS,h0]
 have e0:(s == [])=false:=beq_eq_false_iff_ne.2 h0
 by_cases h1:s.length≤16
 ·have e1:decide ((s.length:Int)≤16)=true:=decide_eq_true (by omega)
  refine ku [] (kI e0 e1) ?_
  refine aV (by simp[aM,aH]) cO (by simp[aH]) ?_
  simp only[seval,kT]
  refine hK _ ?_
  refine kp [2] ?_
  refine aS ?_
  simp only[seval,kT,kF]
  simp[aBS,h0,h1]
 ·have e1:decide ((s.length:Int)≤16)=false:=decide_eq_false (by omega)
  refine ku [] (kI e0 e1) ?_
  refine hK _ ?_
  refine kp [2] ?_
  refine aS ?_
  simp only[seval,kT,kF]
  simp[aBS,h0,h1]
def tT (l:List (List UInt8)) (i:Nat):Bool:=aBS (l.getD i [])&&(decide (i=0) || Op.bytesLess (l.getD (i - 1) []) (l.getD i []))
def aPr (l:List (List UInt8)):Bool:=(List.range l.length).all fun i=>tT l i
def lJ (s:List UInt8):Option (List (List UInt8)):=if (dM 44 s).length≤32∧aPr (dM 44 s)=true then some (dM 44 s) else none
def nN (s:List UInt8):AV:=match lJ s with
 | some l=>.tup [.sl l.length (dU l) .full,.val (.bool true)]
 | none=>.tup [.sl 0 [] .full,.val (.bool false)]
theorem aFb [Gv] (s:List UInt8) (hs:s.length≤200000):ACalls Tryz.prog GP 59 [str s] [] (fun x os=>os=[]∧x=nN s):=by
 have cS:=aBi s 44 (by omega)
 have hlen:(dM 44 s).length≤200001:=by rw[aTr];have:=List.count_le_length (a:=(44:UInt8)) (l:=s);omega
 generalize hL:dM 44 s=l at *
 have hn:=dP l
 have hl:=dY l
 simp only[str] at cS ⊢
 refine ke Tryz.func59 Tryz.ntmps59 Tryz.results59 #[43,4] ?_
 refine ks [0,2,3] ?_
 refine kr [] fun K hK=>?_
 refine aV (by simp[aM,aH]) cS (by simp[aH,hn]) ?_
 simp only[seval,kT]
 refine hK _ ?_
 clear hK K
 refine aE [2,3,4] ?_
 simp only[aD,aB,Nat.reduceEqDiff,if_true,if_false]
 refine aC fun K1 hK1=>?_
 refine aC fun K hK=>aA [] ?_
 simp only[qq,aF,Nat.reduceLT,aB,Nat.reduceEqDiff,bI,bV,eN,Tryz.underlying43,cav,aL,aG,aI,aP,bH,gt_iff_lt,yM]
 (repeat' apply And.intro)<;>try (first|exact True.intro|omega)
 refine hK _ ?_
 clear hK K
 by_cases h1:32<l.length
 ·have e1:decide (32<l.length)=true:=decide_eq_true h1
  refine bG (by simp[lk,e1]) ?_
  refine aE [2,3,4] ?_
  simp only[aD,aB,Nat.reduceEqDiff,if_true,if_false]
  refine aC fun K hK=>aA [] ?_
  simp only[qq,aF,Nat.reduceLT,aB,cav,aG,aI]
  (repeat' apply And.intro)<;>try (first|exact True.intro|omega)
  refine hK _ ?_
  clear hK K
  refine aE [2,3] ?_
  simp only[aD,aB,Nat.reduceEqDiff,if_true,if_false]
  refine aS ?_
  simp only[qq,aI,bR,eU,bN,bO,dA,aB,Nat.reduceEqDiff,aM,bW,aH]
  have hw:lJ s=none:=by unfold lJ;rw[hL,if_neg (fun h=>by omega)]
  simp[nN,hw,dU]
 have e1:decide (32<l.length)=false:=decide_eq_false h1
 refine aR (by simp[lk,e1]) (bC (hK1 _ ?_))
 clear hK1 K1
 refine aE [2,3,4] ?_
 simp only[aD,aB,Nat.reduceEqDiff,if_true,if_false]
 refine aC fun K1 hK1=>?_
 refine aC fun K hK=>aA [] ?_
 simp only[qq,aF,Nat.reduceLT,aB,Nat.reduceEqDiff,bI,bV,eN,Tryz.underlying43,cav,aG,aI]
 (repeat' apply And.intro)<;>try (first|exact True.intro|omega)
 refine hK _ ?_
 clear hK K
 refine aE [2,3,4,12,13,14] ?_
 simp only[aD,aB,Nat.reduceEqDiff,if_true,if_false]
 refine bK ?_
 refine bZ (fun i:Nat=>⟨37,[(2,.sl 0 [] .full),(3,.val (.bool false)),(4,.sl l.length (dU l) .full),(12,.sl l.length (dU l) .full),(13,.val (.int .i64 (l.length:Int))),(14,.val (.int .i64 (i:Int)))],[]⟩)
  (fun i=>i≤l.length∧∀ j,j<i→tT l j=true) (fun i=>l.length - i) 0 (by simp) (.of_keep [2,3,4,12,13,14] rfl) ?_
 rintro i ⟨hi,hgood⟩
 refine aC fun K hK=>aA [] ?_
 simp only[qq,aF,aB,Nat.reduceEqDiff,aL,aP,bH,jM,Nat.reduceLT,aG,aI]
 (repeat' apply And.intro)<;>try (first|exact True.intro|omega)
 refine hK _ ?_
 clear hK K
 refine bJ ?_
 refine fB rfl rfl (fun hq=>?_) (fun hq=>?_)
 ·have hlt:i<l.length:=of_decide_eq_true hq
  refine bC ?_
  simp only[aI]
  refine aE [2,3,4,12,13,14] ?_
  simp only[aD,aB,Nat.reduceEqDiff,if_true,if_false]
  have hgd:=mR hlt
  have hne:=aOG (l.getD i [])
  refine bJ ?_
  refine bK ?_
  refine aC fun K hK=>aA [] ?_
  simp only[qq,aF,Nat.reduceLT,aB,Nat.reduceEqDiff,dN,Tryz.underlying43,bD,Nat.mul_one,Int.toNat_natCast,aY,apart,aO,Tryz.underlying9,aG,aI,List.length_drop,fL,hgd]
  (repeat' apply And.intro)<;>try (first|exact True.intro|omega)
  refine hK _ ?_
  clear hK K
  refine aE [2,3,4,5,6,12,13,14] ?_
  simp only[aD,aB,Nat.reduceEqDiff,if_true,if_false]
  refine aC fun K hK=>?_
  have bad:∀ st,lJ s=none→lk st.slots 34=.val (.bool true)→st.nt=37→st.objs=[]→K st:=by
   rintro⟨nt,sl,os⟩ hw h21 hnt hos
   simp only at h21 hnt hos
   subst hnt hos
   refine hK _ ?_
   refine bG h21 ?_
   refine aE [] ?_
   simp only[aD]
   refine aC fun K hK=>aA [] ?_
   simp only[qq,aF,Nat.reduceLT,aB,cav,aG,aI]
   (repeat' apply And.intro)<;>try (first|exact True.intro|omega)
   refine hK _ ?_
   clear hK K
   refine aE [2,3] ?_
   simp only[aD,aB,Nat.reduceEqDiff,if_true,if_false]
   refine aS ?_
   simp only[aI,bL]
   simp only[qq,bR,eU,bN,bO,dA,aB,Nat.reduceEqDiff,aM,bW,aH]
   simp[nN,hw,dU,bW,aM]
  have none_of:tT l i=false→lJ s=none:=fun h=>by
   unfold lJ
   rw[hL,if_neg]
   rintro⟨_,hr⟩
   have:=List.all_eq_true.1 hr i (List.mem_range.2 hlt)
   rw[h] at this
   cases this
  have aPP:∀ st,tT l i=true→lk st.slots 34=.val (.bool false)→aAD [2,3,4,12,13,14] st.slots=[(2,.sl 0 [] .full),(3,.val (.bool false)),(4,.sl l.length (dU l) .full),(12,.sl l.length (dU l) .full),(13,.val (.int .i64 (l.length:Int))),(14,.val (.int .i64 (i:Int)))]→st.nt=37→st.objs=[]→K st:=by
   rintro⟨nt,sl,os⟩ hw h21 hkp hnt hos
   simp only at h21 hnt hos hkp
   subst hnt hos
   refine hK _ ?_
   refine aR h21 (bC ?_)
   simp only[bL,aI]
   refine aE [2,3,4,12,13,14] ?_
   rw[hkp]
   have h6:IntKind.i64.wrap ((i+1:Nat):Int)=((i+1:Nat):Int):=fD (by omega)
   refine aA [] ?_
   simp only[qq,aF,aB,Nat.reduceEqDiff,cav,aL,aP,bH,gO,h6,Nat.reduceLT,aG,aI]
   refine⟨i+1,⟨by omega,fun j hj=>?_⟩,by omega,.of_keep [2,3,4,12,13,14] rfl⟩
   by_cases hji:j=i
   ·rw[hji];exact hw
   ·exact hgood j (by omega)
  simp only[str] at hne
  by_cases hname:aBS (l.getD i [])=true
  ·by_cases hi0:i=0
   ·subst hi0
    refine aA [] ?_
    simp only[qq,Int.cast_ofNat_Int,str,aF,Nat.reduceLT,aB,Nat.reduceEqDiff,aU,Nat.reduceAdd,bF,aT,bA,aH]
    refine aV (by simp[aM,aH]) hne rfl ?_
    simp only[qq,hname,aK,aF,aun,aB,Nat.reduceEqDiff,Bool.not_true,Nat.reduceLT,dD,bT,Option.bind_some,aW,Bool.not_false,dQ,gok,cav,aL,aP,bH,Int.lt_irrefl,decide_false,eW,bU,aG,aI]
    refine aPP _ ?_ rfl rfl rfl rfl
    unfold tT
    rw[hname]
    rfl
   ·have hp:0<i:=Nat.pos_of_ne_zero hi0
    have hgt:decide ((i:Int) > 0)=true:=decide_eq_true (by omega)
    have hgd2:=mR (l:=l) (i:=i - 1) (by omega)
    have hsub:IntKind.i64.wrap ((i:Int) - 1)=((i - 1:Nat):Int):=by
     rw[show (i:Int) - 1=((i - 1:Nat):Int) by omega];exact fD (by omega)
    refine aA [] ?_
    simp only[qq,str,aF,Nat.reduceLT,aB,Nat.reduceEqDiff,aU,Nat.reduceAdd,bF,aT,bA,aH]
    refine aV (by simp[aM,aH]) hne rfl ?_
    simp only[qq,hname,aK,aF,aun,aB,Nat.reduceEqDiff,Bool.not_true,Nat.reduceLT,dD,bT,Option.bind_some,aW,Bool.not_false,dQ,gok,cav,aL,aP,bH,hgt,hsub,dN,Tryz.underlying43,bD,Nat.mul_one,Int.toNat_natCast,aY,apart,aO,Tryz.underlying9,bU,aG,aI,List.length_drop,fL,hgd2,str,gL,ByteArray.toList_mk]
    refine⟨⟨by omega,by omega,by omega⟩,by omega,?_⟩
    cases hb:Op.bytesLess (l.getD (i - 1) []) (l.getD i []) with
    | true=>
     refine aPP _ ?_ (by simp[lk]) rfl rfl rfl
     unfold tT
     rw[hname,hb]
     simp
    | false=>
     refine bad _ (none_of ?_) (by simp[lk]) rfl rfl
     unfold tT
     rw[hb]
     simp[hi0]
  ·have hname':aBS (l.getD i [])=false:=by simpa using hname
   refine aA [] ?_
   simp only[qq,str,aF,Nat.reduceLT,aB,Nat.reduceEqDiff,aU,Nat.reduceAdd,bF,aT,bA,aH]
   refine aV (by simp[aM,aH]) hne rfl ?_
   simp only[seval,kT,hname']
   refine bad _ (none_of ?_) rfl rfl rfl
   unfold tT
   rw[hname']
   rfl
 ·have he:i=l.length:=by have:=of_decide_eq_false hq;omega
  subst he
  apply dR
  simp only[seval,kT,kF]
  refine hK1 _ ?_
  clear hK1 K1
  have hw:lJ s=some l:=by
   unfold lJ
   rw[hL,if_pos]
   exact⟨by omega,List.all_eq_true.2 fun j hj=>hgood j (List.mem_range.1 hj)⟩
  refine kp [4] ?_
  refine ks [2,3] ?_
  refine aS ?_
  simp only[seval,kT,kF]
  simp[nN,hw,hn]
theorem aLW [Gv] (r:Nat) (h:128≤r) (hr:r≤1114111) (hv:Utf8.valid (r:Int)=true):∃ l:List UInt8,Utf8.encode (r:Int)=⟨l.toArray⟩∧2≤l.length∧l.length≤4∧∀ b∈l,128≤b.toNat:=by
 have hb:∀ n:Nat,128≤n→n<256→128≤(UInt8.ofNat n).toNat:=fun n h1 h2=>by simp;omega
 unfold Utf8.encode
 simp only[hv,if_true,Int.toNat_natCast]
 rw[if_neg (by omega)]
 by_cases h1:r<0x800
 ·rw[if_pos h1]
  refine⟨_,rfl,by simp,by simp,?_⟩
  simp only[List.mem_cons,List.not_mem_nil,or_false]
  rintro b (rfl|rfl)<;>exact hb _ (by omega) (by omega)
 ·rw[if_neg h1]
  by_cases h2:r<0x10000
  ·rw[if_pos h2]
   refine⟨_,rfl,by simp,by simp,?_⟩
   simp only[List.mem_cons,List.not_mem_nil,or_false]
   rintro b (rfl|rfl|rfl)<;>exact hb _ (by omega) (by omega)
  ·rw[if_neg h2]
   refine⟨_,rfl,by simp,by simp,?_⟩
   simp only[List.mem_cons,List.not_mem_nil,or_false]
   rintro b (rfl|rfl|rfl|rfl)<;>exact hb _ (by omega) (by omega)
theorem aBO [Gv] {c:UInt8} (h:128≤c.toNat):∀ {s:List UInt8},(∀ b∈s,b.toNat<128)→Lib.indexByte s c=-1
 | [],_=>rfl
 | x::xs,hs=>by
  unfold Lib.indexByte
  have hx:=hs x (by simp)
  have hne:(x == c)=false:=by
   rw[beq_eq_false_iff_ne]
   rintro rfl
   omega
  rw[hne,aBO h (fun b hb=>hs b (by simp[hb]))]
  rfl
theorem aLi [Gv] (s:List UInt8) (c:UInt8):ACalls Tryz.prog GP 295 [str s,.val (.int .u8 (c.toNat:Int))] [] (fun r os=>os=[]∧r=.val (.int .i64 (Lib.indexByte s c))):=by
 refine jA ⟨_,Tryz.func295,rfl,rfl⟩ fun E vs hl hG=>?_
 simp only[bY,bE,str] at hl
 obtain⟨_,_,rfl,rfl,_,_,rfl,rfl,rfl⟩:=hl
 refine(Tryz.strings_IndexByte ⟨s.toArray⟩ (c.toNat:Int) E.w).mono ?_
 rintro e w' ⟨rfl,rfl⟩
 refine⟨?_,Go.RowKit.Below.refl _ _⟩
 have:(c.toNat:Int).toNat.toUInt8=c:=by simp
 rw[this]
theorem aMs [Gv] (r:Int):ACalls Tryz.prog GP 296 [.val (.int .i32 r)] [] (fun x os=>os=[]∧x=.val (.bool (Lib.validRune r))):=by
 refine jA ⟨_,Tryz.func296,rfl,rfl⟩ fun E vs hl hG=>?_
 simp only[bY,bE,str] at hl
 obtain⟨_,_,rfl,rfl,rfl⟩:=hl
 refine(Tryz.utf8_ValidRune r E.w).mono ?_
 rintro e w' ⟨rfl,rfl⟩
 exact⟨rfl,Go.RowKit.Below.refl _ _⟩
theorem aLo [Gv] (r:Nat) (h1:128≤r) (h2:r≤1114111):ACalls Tryz.prog GP 288 [str [46,95,45],.val (.int .i32 (r:Int))] [] (fun x os=>os=[]∧x=.val (.int .i64 (-1))):=by
 have d1:decide ((r:Int)<128)=false:=decide_eq_false (by omega)
 have d0:decide ((0:Int)≤(r:Int))=true:=decide_eq_true (by omega)
 unfold str at *
 refine ke Tryz.func288 Tryz.ntmps288 Tryz.results288 #[3] ?_
 refine ks [0,1] ?_
 apply bK
 refine aC fun K hK=>?_
 refine ku [] (kI d0 d1) ?_
 refine hK _ ?_
 clear hK K
 refine kp [0,1,160] ?_
 apply aR rfl
 refine aC fun K hK=>?_
 by_cases he:r=65533
 ·subst he
  refine ko [] ?_
  refine hK _ ?_
  clear hK K
  refine kp [0,1,171] ?_
  refine bG rfl ?_
  refine aC fun K1 hK1=>?_
  refine ks [175] ?_
  apply bK
  refine bZ (fun i:Nat=>⟨187,[(175,.ptr 0 0)],[.siter ⟨#[46,95,45]⟩ i]⟩) (fun i=>i≤3) (fun i=>3 - i) 0 (by omega) (.of_keep [175] rfl) ?_
  intro i hi
  have hsz:(⟨#[46,95,45]⟩:ByteArray).size=3:=rfl
  by_cases h3:i<3
  ·obtain⟨b,hb,hne⟩:∃ b:Nat,Utf8.decode ⟨#[46,95,45]⟩ i=(b,1)∧b≠65533:=by
    have:i=0∨i=1∨i=2:=by omega
    rcases this with rfl|rfl|rfl
    ·exact⟨46,by decide,by decide⟩
    ·exact⟨95,by decide,by decide⟩
    ·exact⟨45,by decide,by decide⟩
   have hbe:((b:Int) == 65533)=false:=beq_eq_false_iff_ne.2 (by omega)
   refine ky (kI hsz (kI h3 hb)) ?_
   refine bJ ?_
   refine bG rfl ?_
   apply bC
   simp only[seval,kT]
   refine kp [175,176] ?_
   apply bK
   refine ks [175,5,6] ?_
   refine ky hbe ?_
   apply aR rfl
   apply bC
   simp only[seval,kT,kF]
   exact⟨i+1,by omega,by omega,.of_keep [175] rfl⟩
  ·skip
   refine ky (kI hsz h3) ?_
   refine bJ ?_
   apply aR rfl
   apply dR
   simp only[seval,kT,kF]
   refine hK1 _ ?_
   clear hK1 K1
   refine kp [175] ?_
   refine ks [4] ?_
   apply aS
   simp only[seval,kT,kF]
 ·have d2:((r:Int) == 65533)=false:=beq_eq_false_iff_ne.2 (by omega)
  refine ku [] d2 ?_
  refine hK _ ?_
  clear hK K
  refine kp [0,1,171] ?_
  apply aR rfl
  refine kr [] fun K hK=>?_
  refine kc (aMs (r:Int)) (hK _ ?_)
  clear hK K
  have hval:Lib.validRune (r:Int)=Utf8.valid (r:Int):=by
   unfold Lib.validRune Utf8.valid
   rw[Bool.eq_iff_iff]
   simp
   omega
  rw[hval]
  cases hv:Utf8.valid (r:Int) with
  | false=>
   refine kp [0,1,183] ?_
   refine bG rfl ?_
   refine ks [4] ?_
   apply aS
   simp only[seval,kT,kF]
  | true=>
   obtain⟨l,he,hl2,hl4,hlb⟩:=aLW r h1 h2 hv
   refine kp [0,1,183] ?_
   apply aR rfl
   refine aCT ?_
   obtain⟨n,hn,hn1,hn3⟩:∃ n,l.length=n+1∧1≤n∧n≤3:=⟨l.length - 1,by omega,by omega,by omega⟩
   obtain⟨c,hc⟩:∃ c,l[n]? = some c:=⟨l[n]'(by omega),List.getElem?_eq_getElem _⟩
   have hc128:128≤c.toNat:=hlb c (List.mem_of_getElem? hc)
   have hsz:(⟨l.toArray⟩:ByteArray).size=n+1:=by rw[← hn];simp[ByteArray.size]
   have hw1:IntKind.i64.wrap ((n+1:Nat) - 1:Int)=(n:Int):=by
    have:((n+1:Nat) - 1:Int)=(n:Int):=by omega
    rw[this];exact fD (by omega)
   refine kx [0,7] he ?_
   refine kx [0,7,8] (kI hsz hw1) ?_
   refine ks [0,7,8,9] ?_
   refine ks [0,7,8,9] ?_
   have hcn:l.getD n 0=c:=by rw[List.getD_eq_getElem?_getD,hc];rfl
   have hlow:∀ k,k≤3→Lib.indexByte (([46,95,45]:List UInt8).drop k) c=-1:=fun k hk=>aBO hc128 (fun b hb=>by
    have hb:b∈([46,95,45]:List UInt8):=List.mem_of_mem_drop hb
    simp only[List.mem_cons,List.not_mem_nil,or_false] at hb
    rcases hb with rfl|rfl|rfl<;>decide)
   refine aC fun K1 hK1=>?_
   apply bK
   refine bZ (fun _:Unit=>⟨187,[(0,.val (.string ⟨#[46,95,45]⟩)),(7,.val (.string ⟨l.toArray⟩)),(8,.val (.int .i64 (n:Int))),(9,.val (.int .i64 (n:Int)))],[]⟩) (fun _=>True) (fun _=>0) () trivial (.refl _) ?_
   intro _ _
   have hs3:(⟨#[46,95,45]⟩:ByteArray).size=3:=rfl
   refine aC fun K hK=>?_
   by_cases h3:n=3
   ·subst h3
    refine ky hs3 ?_
    apply aR rfl
    apply dR
    simp only[seval,kT,kF]
    refine hK1 _ ?_
    clear hK1 K1 hK K
    refine kp [0] ?_
    refine bJ ?_
    refine ks [4] ?_
    apply aS
    show Go.V.Fin Tryz.prog [3] [.tmp 4] (fun x os=>os=[]∧x=.val (.int .i64 (-1))) .ret _
    simp only[seval,kT,kF]
   ·have hlt:decide ((n:Int)<3)=true:=decide_eq_true (by omega)
    refine ky (kI hs3 hlt) ?_
    refine bG rfl ?_
    apply bC
    simp only[seval,kT]
    refine hK _ ?_
    clear hK K
    refine kp [0,7,8,9] ?_
    apply bK
    refine aCT ?_
    refine aC fun K2 hK2=>?_
    refine aC fun K hK=>?_
    refine dW [] (by kernel_rfl) (by kernel_rfl) ?_
    have hneq:(([46,95,45]:List UInt8).getD n 0).toNat != (l.getD n 0).toNat:=by
     rw[hcn]
     have:n=1∨n=2:=by omega
     rcases this with rfl|rfl<;>(rw[bne_iff_ne];simp;omega)
    simp only[seval,kT,hs3,hsz,aLS,hneq]
    refine⟨⟨by omega,by omega⟩,⟨by omega,by omega⟩,hK _ ?_⟩
    clear hK K
    refine aE [0,7,8,9,33] ?_
    simp only[aD,aB,Nat.reduceEqDiff,if_true,if_false]
    refine bG rfl ?_
    refine aC fun K hK=>?_
    refine dW [] (by kernel_rfl) (by kernel_rfl) ?_
    have hw2:IntKind.i64.wrap ((n+1:Nat):Int)=((n+1:Nat):Int):=fD (by omega)
    have hix:Lib.indexByte (List.take (3 - (n+1)) (List.drop n [95,45])) c=-1:=aBO hc128 (fun b hb=>by
     have hb:b∈([95,45]:List UInt8):=List.mem_of_mem_drop (List.mem_of_mem_take hb)
     simp only[List.mem_cons,List.not_mem_nil,or_false] at hb
     rcases hb with rfl|rfl<;>decide)
    simp only[qq,Nat.reduceLT,aF,aB,reduceCtorEq,Nat.reduceEqDiff,cav,aL,aP,bH,gO,hw2,eY,iR,Option.map_some,Option.map_none,Tryz.underlying9,eJ,dH,hs3,Int.cast_ofNat_Int,Int.le_refl,Int.toNat_natCast,Int.reduceToNat,jQ,uU,hsz,B,hcn,aU,Nat.reduceAdd,bF,aT,bA,bW,List.headD_cons,List.tail_cons,Tryz.underlying5,aH]
    refine⟨⟨by omega,by omega⟩,⟨by omega,by omega⟩,?_⟩
    refine aV (by simp[aJ,aM,aH]) (aLi _ c) (by simp[aH,aM,aJ,flat]) ?_
    simp only[qq,hix,aK,aF,Nat.reduceLT,aB,Nat.reduceEqDiff,reduceCtorEq,aG,aI]
    refine hK _ ?_
    clear hK K
    refine aE [11] ?_
    simp only[aD,aB,Nat.reduceEqDiff,if_true,if_false]
    refine bJ ?_
    refine aC fun K hK=>aA [] ?_
    simp only[qq,Nat.reduceLT,aF,aB,Nat.reduceEqDiff,cav,aL,aP,bH,Int.reduceLT,aG,aI]
    (repeat' apply And.intro)<;>try (first|exact True.intro|omega)
    refine hK _ ?_
    clear hK K
    refine bG rfl ?_
    refine ks [4] ?_
    apply aS
    show Go.V.Fin Tryz.prog [3] [.tmp 4] (fun x os=>os=[]∧x=.val (.int .i64 (-1))) .ret _
    simp only[seval,kT,kF]
def iP (r:Nat):Bool:=decide ((97≤r∧r≤122)∨(65≤r∧r≤90)∨(48≤r∧r≤57)∨r=46∨r=95∨r=45)
theorem aLO [Gv] (r:Nat) (h2:r≤1114111):ACalls Tryz.prog GP 275 [str [46,95,45],.val (.int .i32 (r:Int))] [] (fun x os=>os=[]∧x=.val (.bool (decide (r=46∨r=95∨r=45)))):=by
 by_cases h1:r<128
 ·refine jA ⟨_,Tryz.func275,rfl,rfl⟩ fun E vs hl hG=>?_
  simp only[bY,bE,str] at hl
  obtain⟨_,_,rfl,rfl,_,_,rfl,rfl,rfl⟩:=hl
  refine(Tryz.strings_ContainsRune_ascii ⟨#[46,95,45]⟩ (r:Int) E.w (by omega) (by omega)).mono ?_
  rintro e w' ⟨rfl,rfl⟩
  refine⟨?_,Go.RowKit.Below.refl _ _⟩
  congr 2
  have:∀ r:Fin 128,decide (0≤Lib.indexByte [46,95,45] ((r.val:Int).toNat.toUInt8))=decide (r.val=46∨r.val=95∨r.val=45):=by decide
  exact this ⟨r,h1⟩
 ·have cI:=aLo r (by omega) h2
  have hf:decide (r=46∨r=95∨r=45)=false:=decide_eq_false (by omega)
  rw[hf]
  unfold str at *
  refine ke Tryz.func275 Tryz.ntmps275 Tryz.results275 #[4] ?_
  refine ks [0,1] ?_
  refine kr [] fun K hK=>?_
  refine kc (cI) (hK _ ?_)
  clear hK K
  refine kp [4] ?_
  apply aS
  simp only[seval,kT,kF]
  rfl
theorem aMW [Gv] (r:Nat) (h2:r≤1114111):ACalls Tryz.prog GP 244 [.val (.int .i32 (r:Int))] [] (fun x os=>os=[]∧x=.val (.bool (iP r))):=by
 have cC:=aLO r h2
 unfold str at *
 have hcase:(97≤r∧r≤122)∨(65≤r∧r≤90)∨(48≤r∧r≤57)∨r<48∨(58≤r∧r<65)∨(91≤r∧r<97)∨122<r:=by omega
 refine ke Tryz.func244 Tryz.ntmps244 Tryz.results244 #[4] ?_
 refine ks [0] ?_
 refine aC fun K hK=>aA [] ?_
 rcases hcase with h|h|h|h|h|h|h
 ·have da:decide ((97:Int)≤(r:Int))=true:=decide_eq_true (by omega)
  have db:decide ((r:Int)≤122)=true:=decide_eq_true (by omega)
  simp only[seval,kT,ge_iff_le,da,db]
  refine hK _ ?_
  clear hK K
  refine kp [2] ?_
  apply aS
  simp only[seval,kT,kF]
  have:iP r=true:=decide_eq_true (by omega)
  rw[this]
 ·have da:decide ((97:Int)≤(r:Int))=false:=decide_eq_false (by omega)
  have dc:decide ((65:Int)≤(r:Int))=true:=decide_eq_true (by omega)
  have dd:decide ((r:Int)≤90)=true:=decide_eq_true (by omega)
  simp only[seval,kT,ge_iff_le,da,dc,dd]
  refine hK _ ?_
  clear hK K
  refine kp [2] ?_
  apply aS
  simp only[seval,kT,kF]
  have:iP r=true:=decide_eq_true (by omega)
  rw[this]
 ·have da:decide ((97:Int)≤(r:Int))=false:=decide_eq_false (by omega)
  have dc:decide ((65:Int)≤(r:Int))=false:=decide_eq_false (by omega)
  have de:decide ((48:Int)≤(r:Int))=true:=decide_eq_true (by omega)
  have dg:decide ((r:Int)≤57)=true:=decide_eq_true (by omega)
  simp only[seval,kT,ge_iff_le,da,dc,de,dg]
  refine hK _ ?_
  clear hK K
  refine kp [2] ?_
  apply aS
  simp only[seval,kT,kF]
  have:iP r=true:=decide_eq_true (by omega)
  rw[this]
 ·have da:decide ((97:Int)≤(r:Int))=false:=decide_eq_false (by omega)
  have dc:decide ((65:Int)≤(r:Int))=false:=decide_eq_false (by omega)
  have de:decide ((48:Int)≤(r:Int))=false:=decide_eq_false (by omega)
  simp only[seval,kT,ge_iff_le,da,dc,de]
  refine kc (cC) (hK _ ?_)
  clear hK K
  refine kp [2] ?_
  apply aS
  simp only[seval,kT,kF]
  have:iP r=decide (r=46∨r=95∨r=45):=decide_eq_decide.2 (by omega)
  rw[this]
 ·have da:decide ((97:Int)≤(r:Int))=false:=decide_eq_false (by omega)
  have dc:decide ((65:Int)≤(r:Int))=false:=decide_eq_false (by omega)
  have de:decide ((48:Int)≤(r:Int))=true:=decide_eq_true (by omega)
  have dg:decide ((r:Int)≤57)=false:=decide_eq_false (by omega)
  simp only[seval,kT,ge_iff_le,da,dc,de,dg]
  refine kc (cC) (hK _ ?_)
  clear hK K
  refine kp [2] ?_
  apply aS
  simp only[seval,kT,kF]
  have:iP r=decide (r=46∨r=95∨r=45):=decide_eq_decide.2 (by omega)
  rw[this]
 ·have da:decide ((97:Int)≤(r:Int))=false:=decide_eq_false (by omega)
  have dc:decide ((65:Int)≤(r:Int))=true:=decide_eq_true (by omega)
  have dd:decide ((r:Int)≤90)=false:=decide_eq_false (by omega)
  have de:decide ((48:Int)≤(r:Int))=true:=decide_eq_true (by omega)
  have dg:decide ((r:Int)≤57)=false:=decide_eq_false (by omega)
  simp only[seval,kT,ge_iff_le,da,dc,dd,de,dg]
  refine kc (cC) (hK _ ?_)
  clear hK K
  refine kp [2] ?_
  apply aS
  simp only[seval,kT,kF]
  have:iP r=decide (r=46∨r=95∨r=45):=decide_eq_decide.2 (by omega)
  rw[this]
 ·have da:decide ((97:Int)≤(r:Int))=true:=decide_eq_true (by omega)
  have db:decide ((r:Int)≤122)=false:=decide_eq_false (by omega)
  have dc:decide ((65:Int)≤(r:Int))=true:=decide_eq_true (by omega)
  have dd:decide ((r:Int)≤90)=false:=decide_eq_false (by omega)
  have de:decide ((48:Int)≤(r:Int))=true:=decide_eq_true (by omega)
  have dg:decide ((r:Int)≤57)=false:=decide_eq_false (by omega)
  simp only[seval,kT,ge_iff_le,da,db,dc,dd,de,dg]
  refine kc (cC) (hK _ ?_)
  clear hK K
  refine kp [2] ?_
  apply aS
  simp only[seval,kT,kF]
  have:iP r=decide (r=46∨r=95∨r=45):=decide_eq_decide.2 (by omega)
  rw[this]
theorem aJw [Gv] (r:Nat) (h2:r≤1114111):ACalls Tryz.prog GP 243 [.val (.int .i32 (r:Int))] [] (fun x os=>os=[]∧x=.val (.bool (!(iP r)))):=by
 have cP:=aMW r h2
 refine ke Tryz.func243 Tryz.ntmps243 Tryz.results243 #[4] ?_
 refine ks [0] ?_
 refine kr [] fun K hK=>?_
 refine kc (cP) (hK _ ?_)
 clear hK K
 refine kp [2] ?_
 apply aS
 simp only[seval,kT,kF]
def kX (s:List UInt8):Bool:=decide (s≠[]∧s.length≤64∧s≠[46]∧s≠[46,46]) && !(s.any fun b=>!(iP b.toNat))
theorem aMX [Gv] (s:List UInt8):ACalls Tryz.prog GP 187 [str s] [] (fun x os=>os=[]∧x=.val (.bool (kX s))):=by
 have cF:=aBA 243 (fun r=>!(iP r)) (fun r hr=>by simp[iP];omega) (fun r hr=>aJw r hr) s
 unfold str at *
 refine ke Tryz.func187 Tryz.ntmps187 Tryz.results187 #[4] ?_
 refine ks [0] ?_
 refine aC fun K hK=>aA [] ?_
 have hsz:((⟨s.toArray⟩:ByteArray).size:Int)=(s.length:Int):=by simp[ByteArray.size]
 by_cases h0:s=[]
 ·have e0:(s == [])=true:=by simp[h0]
  simp only[seval,kT,e0]
  refine hK _ ?_
  clear hK K
  refine kp [2] ?_
  apply aS
  simp only[seval,kT,kF]
  simp[kX,h0]
 have e0:(s == [])=false:=by simp[h0]
 by_cases h1:s.length≤64
 rotate_left
 ·have e1:decide ((s.length:Int)≤64)=false:=decide_eq_false (by omega)
  simp only[seval,kT,e0,e1]
  refine hK _ ?_
  clear hK K
  refine kp [2] ?_
  apply aS
  simp only[seval,kT,kF]
  simp[kX,h1]
 have e1:decide ((s.length:Int)≤64)=true:=decide_eq_true (by omega)
 by_cases h2:s=[46]
 ·have e2:(s == [46])=true:=by simp[h2]
  simp only[seval,kT,e0,e1,e2]
  refine hK _ ?_
  clear hK K
  refine kp [2] ?_
  apply aS
  simp only[seval,kT,kF]
  simp[kX,h2]
 have e2:(s == [46])=false:=by simp[h2]
 by_cases h3:s=[46,46]
 ·have e3:(s == [46,46])=true:=by simp[h3]
  simp only[seval,kT,e0,e1,e2,e3]
  refine hK _ ?_
  clear hK K
  refine kp [2] ?_
  apply aS
  simp only[seval,kT,kF]
  simp[kX,h3]
 have e3:(s == [46,46])=false:=by simp[h3]
 simp only[seval,kT,e0,e1,e2,e3]
 refine kc (cF) (hK _ ?_)
 clear hK K
 refine kp [2] ?_
 apply aS
 simp only[seval,kT,kF]
 simp[kX,h0,h1,h2,h3]
def lV (l:List (List UInt8)):List UInt8:=if lJ (Lib.join l [44])=some l then Lib.join l [44] else []
theorem aLy [Gv] (l:List (List UInt8)) (p:Perm) (hl:l.length≤200000) (hj:(Lib.join l [44]).length≤200000):ACalls Tryz.prog GP 109 [.sl l.length (dU l) p] [] (fun x os=>os=[]∧x=str (lV l)):=by
 have cJ:=fun q=>uJ l [44] q (by omega) (by omega)
 have cN:=aFb (Lib.join l [44]) hj
 have hl2:(dM 44 (Lib.join l [44])).length≤200001:=by rw[aTr];have:=List.count_le_length (a:=(44:UInt8)) (l:=Lib.join l [44]);omega
 have hn:=dP l
 generalize hS:Lib.join l [44]=s at *
 simp only[str] at *
 refine ke Tryz.func109 Tryz.ntmps109 Tryz.results109 #[9] ?_
 refine ks [0,2] ?_
 refine kr [] fun K hK=>?_
 refine aV (by simp[aM,aH,hn]) (cJ _) (by simp[aH]) ?_
 simp only[seval,kT]
 refine hK _ ?_
 clear hK K
 refine kp [0,2,3] ?_
 refine aC fun K1 hK1=>?_
 have nope:∀ st,lJ s≠some l→st.nt=22→st.objs=[]→awp Tryz.prog GP (.seq (.region 4 #[⟨some 2,.assign (.const (.string ⟨#[]⟩)),9,"lex.go:60",#[],none⟩] false) .ret) st (aI K1 (V.Fin Tryz.prog [9] [ResultVar.tmp 2] fun x os=>os=[]∧x=.val (.string ⟨(lV l).toArray⟩))):=by
  rintro⟨nt,sl,os⟩ hw hnt hos
  simp only at hnt hos
  subst hnt hos
  refine ks [2] ?_
  refine aS ?_
  simp only[aI,bL]
  simp only[qq,bR,eU,bN,bO,dA,aB,aH]
  unfold lV
  rw[hS,if_neg hw]
 refine kr [] fun K hK=>?_
 have hnv:aH (nN s)=true:=by
  unfold nN
  split
  ·simp only[aH,aM,dP,Bool.and_true]
  ·rfl
 refine aV (by simp[aM,aH]) cN hnv ?_
 cases hF:lJ s with
 | none=>
  simp only[seval,kT,nN,hF]
  refine hK _ ?_
  clear hK K
  refine kp [0,2,3,4,5] ?_
  refine kq ?_
  apply bG rfl
  exact nope _ (by rw[hF];simp) rfl rfl
 | some l'=>
  have hl':l'=dM 44 s:=by
   unfold lJ at hF
   split at hF
   ·injection hF with hF;exact hF.symm
   ·cases hF
  have cE:=fun q q'=>zB l' l q q' (by rw[hl'];omega) (by omega)
  have hn':=dP l'
  simp only[seval,kT,nN,hF]
  refine hK _ ?_
  clear hK K
  refine kp [0,2,3,4,5] ?_
  refine kr [] fun K hK=>?_
  refine aV (by simp[aM,aH,hn,hn']) (cE _ _) rfl ?_
  by_cases hq:l'=l
  ·have e:decide (l'=l)=true:=decide_eq_true hq
   simp only[seval,kT,e]
   refine hK _ ?_
   clear hK K
   refine aR rfl (bC (hK1 _ ?_))
   clear hK1 K1 nope
   refine kp [3] ?_
   refine ks [2] ?_
   refine aS ?_
   simp only[qq,bR,eU,bN,bO,dA,aB,aH]
   unfold lV
   rw[hS,hF,hq,if_pos rfl]
  ·have e:decide (l'=l)=false:=decide_eq_false hq
   simp only[seval,kT,e]
   refine hK _ ?_
   clear hK K
   apply bG rfl
   exact nope _ (by rw[hF];intro h;injection h with h;exact hq h) rfl rfl
theorem aNf [Gv] (s p:List UInt8):ACalls Tryz.prog GP 124 [str s,str p] [] (fun r os=>os=[]∧r=.tup [str (Lib.trimPrefix s p),.val (.bool (Lib.hasPrefix s p))]):=by
 refine⟨⟨_,Tryz.func124,rfl,rfl⟩,fun E vs hl ho hG=>?_⟩
 simp only[bY,bE,str] at hl
 obtain⟨_,_,rfl,rfl,_,_,rfl,rfl,rfl⟩:=hl
 refine(Tryz.strings_CutPrefix ⟨s.toArray⟩ ⟨p.toArray⟩ E.w).mono ?_
 rintro e w' ⟨rfl,rfl⟩
 exact⟨E,_,_,[],rfl,rfl,⟨rfl,rfl⟩,by simp only[bE,bY,str];exact⟨_,rfl,_,_,rfl,rfl,_,_,rfl,rfl,rfl⟩,ho,.refl _ _⟩
def nU (l:List (List UInt8)) (w:List UInt8):Option (List (List UInt8)):=
 if w=[]∨w=[46] then some l else if w=[46,46]∧l≠[] then some l.dropLast else if kX w=true then some (l++[w]) else none
def nT (l:List (List UInt8)):List (List UInt8)→Option (List (List UInt8))
 | []=>some l
 | w::ws=>(nU l w).bind fun l'=>nT l' ws
def sO (s:List UInt8):Option (List UInt8):=
 if Lib.hasPrefix s [47]=true then match nT [] (dM 47 (Lib.trimPrefix s [47])) with
  | some l=>if 256<(47::Lib.join l [47]).length then none else some (47::Lib.join l [47])
  | none=>none
 else none
def qY (s:List UInt8):AV:=match sO s with
 | some p=>.tup [str p,.val (.bool true)]
 | none=>.tup [str [],.val (.bool false)]
def LX (os:List AObj) (X:AV) (l:List (List UInt8)):Prop:=
 (l=[]∧X=.sl 0 [] .full)∨∃ r cs junk,6≤r∧X=.osl r 0 l.length (some cs.length)∧os[r]? = some (.cells cs)∧cs=dU l++junk∧0<cs.length∧aM cs=true∧jE cs=true
def NI (m:Nat) (l:List (List UInt8)) (os:List AObj):Prop:=
 l.length≤m∧∃ X rest,os=[.cells [str []],.cells [.val (.bool false)],.cells [X],.dead,.dead,.dead]++rest∧LX os X l
theorem zC [Gv] (l:List (List UInt8)) (w:List UInt8):dU (l++[w])=dU l++[str w]:=by simp[dU]
theorem aKf [Gv] {os':List AObj} {n:Nat} (h6:6≤n) (l:List (List UInt8)) (w:List UInt8) {c':Nat} (hc:l.length+1≤c') (ho:os'[n]? = some (.cells (dU l++str w::List.replicate (c' - (l.length+1)) .top))) :
  LX os' (.osl n 0 (l.length+1) (some c')) (l++[w]):=by
 have hL:(dU l++str w::List.replicate (c' - (l.length+1)) AV.top).length=c':=by
  rw[List.length_append,dY,List.length_cons,List.length_replicate];omega
 refine .inr ⟨n,_,List.replicate (c' - (l.length+1)) .top,h6,?_,ho,?_,by omega,?_,?_⟩
 ·rw[hL];simp
 ·rw[zC];simp
 ·rw[dK,dP]
  simp only[aM,aFd,str,aH,Bool.and_self]
 ·rw[rQ,aBI]
  simp only[jE,aGx,str,flat,Bool.and_self]
theorem aPA [Gv] {os':List AObj} {n:Nat} (h6:6≤n) (l:List (List UInt8)) (w:List UInt8) (junk:List AV) (hlt:l.length<(dU l++junk).length) (hn:aM (dU l++junk)=true) (hf:jE (dU l++junk)=true)
  (ho:os'[n]? = some (.cells (spl (dU l++junk) l.length [str w]))):LX os' (.osl n 0 (l.length+1) (some (dU l++junk).length)) (l++[w]):=by
 cases junk with
 | nil=>simp[dY] at hlt
 | cons j junk=>
  have e:spl (dU l++j::junk) l.length [str w]=dU (l++[w])++junk:=by
   unfold spl
   have h1:(dU l++j::junk).take l.length=dU l:=by
    have:=dY l
    rw[List.take_append_of_le_length (by omega),List.take_of_length_le (by omega)]
   have h2:(dU l++j::junk).drop (l.length+[str w].length)=junk:=by
    have:=dY l
    rw[List.drop_append,List.drop_eq_nil_of_le (by simp;omega)]
    simp[this]
   rw[h1,h2,zC]
  rw[e] at ho
  rw[dK,Bool.and_eq_true] at hn
  rw[rQ,Bool.and_eq_true] at hf
  simp only[aM,Bool.and_eq_true] at hn
  simp only[jE,Bool.and_eq_true] at hf
  refine .inr ⟨n,_,junk,h6,?_,ho,rfl,?_,?_,?_⟩
  ·simp[dY];omega
  ·simp[dY];omega
  ·rw[dK,dP,hn.2.2];rfl
  ·rw[rQ,aBI,hf.2.2];rfl
theorem aNM [Gv] {os':List AObj} {n:Nat} (h6:6≤n) (l:List (List UInt8)) (hne:l≠[]) (junk:List AV) (hn:aM (dU l++junk)=true) (hf:jE (dU l++junk)=true)
  (ho:os'[n]? = some (.cells (dU l++junk))):LX os' (.osl n 0 (l.length - 1) (some (dU l++junk).length)) l.dropLast:=by
 have e:dU l++junk=dU l.dropLast++(str (l.getLast hne)::junk):=by
  conv=>lhs;rw[← List.dropLast_concat_getLast hne]
  rw[zC];simp
 have hp:0<l.length:=List.length_pos_iff.2 hne
 refine .inr ⟨n,dU l++junk,_,h6,?_,ho,e,?_,hn,hf⟩
 ·simp
 ·simp[dY];omega
theorem xO [Gv] (a b:List (List UInt8)):∀ l,nT l (a++b)=(nT l a).bind fun l'=>nT l' b:=by
 induction a with
 | nil=>intro l;rfl
 | cons w ws ih=>
  intro l
  simp only[List.cons_append,nT]
  cases nU l w with
  | none=>rfl
  | some l'=>exact ih l'
theorem aBW [Gv] {ps:List (List UInt8)} {k:Nat} {w:List UInt8} {l:List (List UInt8)} (hw:ps[k]? = some w) (h:nT [] (ps.take k)=some l):nT [] (ps.take (k+1))=nU l w:=by
 rw[List.take_add_one,hw,xO,h]
 simp only[Option.bind_some,Option.toList_some,nT]
 cases nU l w<;>rfl
theorem aHW [Gv] {ps:List (List UInt8)} {k:Nat} {w:List UInt8} {l:List (List UInt8)} (hw:ps[k]? = some w) (h:nT [] (ps.take k)=some l) (hn:nU l w=none):nT [] ps=none:=by
 have:=xO (ps.take (k+1)) (ps.drop (k+1)) []
 rw[List.take_append_drop,aBW hw h,hn] at this
 exact this
theorem aDB [Gv] {w:List UInt8} (h:kX w=true):w.length≤64:=by
 simp only[kX,Bool.and_eq_true,decide_eq_true_eq] at h
 exact h.1.2.1
theorem aFj [Gv] {l l':List (List UInt8)} {w:List UInt8} (hl:∀ x∈l,kX x=true) (h:nU l w=some l'):∀ x∈l',kX x=true:=by
 unfold nU at h
 split at h
 ·injection h with h;subst h;exact hl
 ·split at h
  ·injection h with h;subst h;exact fun x hx=>hl x (List.mem_of_mem_take (by rw[List.dropLast_eq_take] at hx;exact hx))
  ·split at h
   ·rename_i hw
    injection h with h;subst h
    intro x hx
    rcases List.mem_append.1 hx with hx|hx
    ·exact hl x hx
    ·simp only[List.mem_singleton] at hx
     subst hx;exact hw
   ·cases h
theorem xP [Gv]:∀ {ps l l':List (List UInt8)},(∀ x∈l,kX x=true)→nT l ps=some l'→∀ x∈l',kX x=true
 | [],l,l',hl,h=>by
  injection h with h;subst h;exact hl
 | w::ws,l,l',hl,h=>by
  unfold nT at h
  cases hs:nU l w with
  | none=>rw[hs] at h;cases h
  | some l1=>
   rw[hs] at h
   exact xP (aFj hl hs) h
theorem aFh [Gv] {ps l:List (List UInt8)} (h:nT [] ps=some l):∀ x∈l,kX x=true:=xP (by simp) h
theorem tK [Gv]:∀ {l:List (List UInt8)},(∀ x∈l,kX x=true)→(Lib.join l [47]).length≤65*l.length
 | [],_=>by simp[Lib.join_nil]
 | [w],h=>by
  have:=aDB (h w (by simp))
  simp[Lib.join,List.intercalate]
  omega
 | w::x::r,h=>by
  have h1:=aDB (h w (by simp))
  have h2:=tK (l:=x::r) (fun y hy=>h y (by simp[hy]))
  have e:Lib.join (w::x::r) [47]=w++[47]++Lib.join (x::r) [47]:=by simp[Lib.join,List.intercalate]
  rw[e]
  simp only[List.length_append,List.length_cons,List.length_nil] at h2 ⊢
  omega
theorem aQU [Gv] {a b c d e f:AObj} {rest:List AObj} {r:Nat} (h:6≤r):([a,b,c,d,e,f]++rest)[r]? = rest[r - 6]?:=by
 obtain⟨m,rfl⟩:∃ m,r=m+6:=⟨r - 6,by omega⟩
 simp
theorem aCt [Gv] (s:List UInt8) (hs:s.length≤200000):ACalls Tryz.prog GP 120 [str s] [] (fun r os=>os=[]∧r=qY s):=by
 have cC:=aNf s [47]
 have hle:(Lib.trimPrefix s [47]).length≤200000:=by
  unfold Lib.trimPrefix
  split
  ·rw[List.length_drop];omega
  ·exact hs
 have cS:=aGB (Lib.trimPrefix s [47]) 47
 have hY:=aEV (Lib.trimPrefix s [47]) 47 (by omega)
 unfold SQ str at *
 refine aAd Tryz.func120 rfl rfl Tryz.ntmps120 (rts:=#[9,4]) rfl Tryz.results120 (by simp) fun n0=>?_
 simp only[seval,aZ]
 refine qM fun K hK=>aA [] ?_
 simp only[seval,kT]
 and_intros<;>try omega
 refine hK _ ?_
 clear hK K
 refine qL [0,2,3] ?_
 simp only[aD,aB,Nat.reduceEqDiff,if_true,if_false]
 refine qM fun K hK=>aA [] ?_
 simp only[seval,kT]
 refine kc (cC) (hK _ ?_)
 clear hK K
 refine qL [2,3,4,5] ?_
 simp only[aD,aB,Nat.reduceEqDiff,if_true,if_false]
 refine qM fun K hK=>?_
 cases hp:Lib.hasPrefix s [47] with
 | false=>
  have hn:qY s=.tup [str [],.val (.bool false)]:=by simp[qY,sO,hp]
  refine kq ?_
  apply bG rfl
  refine kp [2,3] ?_
  refine ks [2,3] ?_
  apply aS
  show Go.V.Fin Tryz.prog [9,4] [.cell 2 9,.cell 3 4] (fun r os=>os=[]∧r=qY s) .ret _
  simp only[seval,kT,kF,hn,str]
 | true=>
  refine kq ?_
  apply aR rfl
  apply bC
  simp only[seval,kT]
  refine hK _ ?_
  clear hK K
  refine qL [2,3,4] ?_
  simp only[aD,aB,Nat.reduceEqDiff,if_true,if_false]
  refine qM fun K hK=>aA [] ?_
  simp only[seval,kT]
  and_intros<;>try omega
  refine hK _ ?_
  clear hK K
  refine qL [2,3,4,6] ?_
  simp only[aD,aB,Nat.reduceEqDiff,if_true,if_false]
  refine aFB ?_
  refine qM fun K hK=>aA [1000017] ?_
  simp only[seval,kT]
  refine gF [] false [9,9] ⟨by decide,by simp,by simp⟩ (C:=True∧True∧True) (by simp[gT,nR,aH]) ⟨trivial,trivial,trivial⟩ cS ⟨by simp,by simp[fU,eV,ref],by simp[ref,eV],fun h=>by cases h⟩ ?_
  simp only[yC,aEa,List.map_cons,List.map_nil,gJ,gH,ren,List.nil_append,List.length_nil,Nat.zero_add,List.cons_append,List.length_cons]
  simp only[seval,kT]
  refine hK _ ?_
  clear hK K
  refine qL [2,3,6,17] ?_
  simp only[aD,aB,Nat.reduceEqDiff,if_true,if_false]
  refine aGo ?_
  have hpl:(dM 47 (Lib.trimPrefix s [47])).length≤200001:=by
   rw[aTr]
   have:=List.count_le_length (a:=(47:UInt8)) (l:=Lib.trimPrefix s [47])
   omega
  generalize hps:dM 47 (Lib.trimPrefix s [47])=ps at *
  refine aGp (p:=18) hY rfl rfl rfl rfl (by decide) (by decide) (by decide) (by decide) (fun k o=>∃ l,nT [] (ps.take k)=some l∧NI k l o) (fun o=>nT [] ps=none∧∃ rest,o=.cells [str []]::.cells [.val (.bool false)]::rest) ?_ ?_ ?_ ?_
  ·exact⟨[],rfl,by simp,.sl 0 [] .full,[],rfl,.inl ⟨rfl,rfl⟩⟩
  ·rintro k x o hx ⟨l,hl,hlen,X,rest,rfl,hX⟩ r
   obtain⟨w,hw,rfl⟩:∃ w,ps[k]? = some w∧x=.string ⟨w.toArray⟩:=by
    rw[List.getElem?_map] at hx
    cases h:ps[k]? with
    | none=>rw[h] at hx;cases hx
    | some w=>rw[h] at hx;injection hx with hx;exact⟨w,rfl,hx.symm⟩
   have hkl:k<ps.length:=(List.getElem?_eq_some_iff.1 hw).1
   have hstep:=aBW hw hl
   have hstop:=aHW hw hl
   refine iB [] rfl (fun _ h=>by cases h.1) ?_
   simp only[seval,kT]
   refine qN [2,3,6,7] ?_
   simp only[aD,aB,Nat.reduceEqDiff,if_true,if_false]
   refine aAw ?_
   refine aAw ?_
   refine rK fun K hK=>?_
   by_cases h0:w=[]∨w=[46]
   ·have hst:nU l w=some l:=by unfold nU;rw[if_pos h0]
    rw[hst] at hstep
    have fin:∀ s,gE ⟨GP.tab,[]⟩ s ⟨53,[(2,.ptr 0 0),(3,.ptr 1 0),(6,.ptr 2 0),(7,.val (.string ⟨w.toArray⟩)),(19,.val (.bool true))],[.cells [str []],.cells [.val (.bool false)],.cells [X],.dead,.dead,.dead]++rest⟩→K s:=fun s hw=>by
     refine hK s (yI hw (vO rfl (aJC ?_)))
     exact⟨l,hstep,by omega,X,rest,rfl,hX⟩
    rcases h0 with rfl|rfl
    ·refine iB [] rfl (fun _ h=>h) ?_
     simp only[seval,kT]
     exact fin _ (.of_keep [2,3,6,7,19] (by exact rfl))
    ·refine iB [] rfl (fun _ h=>h) ?_
     have e0:(([46]:List UInt8) == [])=false:=rfl
     simp only[seval,kT,e0]
     exact fin _ (.of_keep [2,3,6,7,19] (by exact rfl))
   ·have e0:(w == [])=false:=beq_eq_false_iff_ne.2 fun h=>h0 (.inl h)
    have e1:(w == [46])=false:=beq_eq_false_iff_ne.2 fun h=>h0 (.inr h)
    refine iB [] rfl (fun _ h=>h) ?_
    simp only[seval,kT,e0,e1]
    refine hK _ ?_
    clear hK K
    refine qN [2,3,6,7,19] ?_
    simp only[aD,aB,Nat.reduceEqDiff,if_true,if_false]
    refine vN rfl ?_
    refine rK fun K hK=>?_
    -- the piece is a name,or nothing
    have go:¬ (w=[46,46]∧l≠[])→∀ s,gE ⟨GP.tab,[]⟩ s ⟨53,[(2,.ptr 0 0),(3,.ptr 1 0),(6,.ptr 2 0),(7,.val (.string ⟨w.toArray⟩)),(26,.val (.bool false))],[.cells [str []],.cells [.val (.bool false)],.cells [X],.dead,.dead,.dead]++rest⟩→K s:=fun hnd s hw=>by
     refine hK s (yI hw (vN rfl ?_))
     clear hK hw K
     have cN:=aMX w
     unfold str at cN
     refine rK fun K hK=>iB [] rfl (fun _ h=>h) ?_
     simp only[seval,kT]
     refine kc (cN) (hK _ ?_)
     clear hK K
     refine qN [2,3,6,7,39] ?_
     simp only[aD,aB,Nat.reduceEqDiff,if_true,if_false]
     cases hf:kX w with
     | false=>
      have hst:nU l w=none:=by unfold nU;rw[if_neg h0,if_neg hnd,if_neg (by simp[hf])]
      refine vN rfl ?_
      refine rK fun K hK=>iB [] rfl (fun _ h=>h) ?_
      simp only[seval,kT]
      and_intros<;>try omega
      refine hK _ ?_
      clear hK K
      refine qN [2,3] ?_
      simp only[aD,aB,Nat.reduceEqDiff,if_true,if_false]
      refine aKy ?_
      exact⟨hstop hst,_,rfl⟩
     | true=>
      have hst:nU l w=some (l++[w]):=by unfold nU;rw[if_neg h0,if_neg hnd,if_pos hf]
      rw[hst] at hstep
      refine vO rfl ?_
      refine aJB (n:=3) (d:=45) (ts:=42) (tx:=44) (sT:=43) (e:=9) (by_:=16) (zv:=.string ⟨#[]⟩) rfl rfl rfl rfl Tryz.underlying43 (by simp only[bD]) (by simp only[lX]) (by decide) (by simp only[bS]) rfl (fun _ h=>h) ?_
      simp only[seval,kT,qC]
      refine⟨_,_,rfl,rfl,?_⟩
      rcases hX with⟨rfl,rfl⟩|⟨r6,cs,junk,h6,rfl,ho,rfl,hpos,hnr,hfl⟩
      ·refine .inl ⟨rfl,fun c' hc'=>?_⟩
       simp only[seval,kT]
       exact⟨[w],hstep,by simp,_,_,rfl,aKf (n:=rest.length+6) (by omega) [] w hc' (by simp[dU,str])⟩
      ·have hLc:l.length≤(dU l++junk).length:=by simp[dY]
       obtain⟨m,rfl⟩:∃ m,r6=m+6:=⟨r6 - 6,by omega⟩
       refine .inr ⟨m+6,l.length,_,_,rfl,ho,rfl,hLc,hpos,by omega,hnr,hfl,fun hlt=>?_,fun hge c' hc'=>?_⟩
       ·skip
        simp only[seval,kT]
        have hml:m<rest.length:=by
         have:=(List.getElem?_eq_some_iff.1 ho).1
         simp at this
         omega
        exact⟨l++[w],hstep,by simp;omega,_,_,rfl,aPA h6 l w junk hlt hnr hfl (by simp[hml,str,spl])⟩
       ·have hj:junk=[]:=List.eq_nil_of_length_eq_zero (by rw[List.length_append,dY] at hge;omega)
        subst hj
        simp only[seval,kT]
        exact⟨l++[w],hstep,by simp;omega,_,_,rfl,aKf (n:=rest.length+6) (by omega) l w hc' (by simp[str])⟩
    by_cases h1:w=[46,46]
    ·subst h1
     by_cases hl0:l=[]
     ·subst hl0
      rcases hX with⟨_,rfl⟩|⟨r6,cs,junk,h6,rfl,ho,hcs,hpos,hnr,hfl⟩
      ·refine iB [] rfl (fun _ h=>h) ?_
       simp only[qq,aF,Nat.reduceLT,aB,Nat.reduceEqDiff,cav,aL,aP,gL,ByteArray.toList_mk,beq_self_eq_true,dD,bT,Option.bind_some,aW,dQ,gok,aY,apart,aO,Tryz.underlying43,Nat.zero_lt_succ,bI,bV,eN,bU,aG,aI,Int.cast_ofNat_Int,bH,Int.lt_irrefl,decide_false]
       exact go (fun h=>h.2 rfl) _ (.of_keep [2,3,6,7,26] (by exact rfl))
      ·refine iB [] rfl (fun _ h=>h) ?_
       simp only[qq,aF,Nat.reduceLT,aB,Nat.reduceEqDiff,cav,aL,aP,gL,ByteArray.toList_mk,beq_self_eq_true,dD,bT,Option.bind_some,aW,dQ,gok,aY,apart,aO,Tryz.underlying43,Nat.zero_lt_succ,bI,bV,eN,bU,aG,aI,Int.cast_ofNat_Int,bH,Int.lt_irrefl,decide_false]
       exact go (fun h=>h.2 rfl) _ (.of_keep [2,3,6,7,26] (by exact rfl))
     ·clear go
      have hst:nU l [46,46]=some l.dropLast:=by unfold nU;rw[if_neg h0,if_pos ⟨rfl,hl0⟩]
      rw[hst] at hstep
      rcases hX with⟨h,_⟩|⟨r6,cs,junk,h6,rfl,ho,rfl,hpos,hnr,hfl⟩
      ·exact absurd h hl0
      have hp:0<l.length:=List.length_pos_iff.2 hl0
      have hgt:decide ((l.length:Int) > 0)=true:=decide_eq_true (by omega)
      refine iB [] rfl (fun _ h=>h) ?_
      simp only[qq,aF,Nat.reduceLT,aB,Nat.reduceEqDiff,cav,aL,aP,gL,ByteArray.toList_mk,beq_self_eq_true,dD,bT,Option.bind_some,aW,dQ,gok,aY,apart,aO,Tryz.underlying43,bI,bV,eN,bU,aG,aI,bH,hgt]
      refine hK _ ?_
      clear hK K
      refine qN [6,26] ?_
      simp only[aD,aB,Nat.reduceEqDiff,if_true,if_false]
      refine vO rfl ?_
      refine iB [] rfl (fun _ h=>h) ?_
      have hw1:IntKind.i64.wrap ((l.length:Int) - 1)=((l.length - 1:Nat):Int):=by
       have:((l.length:Int) - 1)=((l.length - 1:Nat):Int):=by omega
       rw[this];exact fD (by omega)
      simp only[qq,aF,aY,aB,Nat.reduceEqDiff,apart,aO,Tryz.underlying43,Nat.reduceLT,bI,bV,eN,cav,aL,eY,iR,Option.map_none,Option.map_some,eJ,dH,ne_eq,iC,bQ,bX,bD,bB,spl,aG,aP,bH,hw1,Int.le_refl,reduceCtorEq,true_or,Int.sub_zero,Int.toNat_natCast,Int.toNat_zero,Nat.zero_mul,Nat.sub_zero,or_true,List.all_cons,dC,List.all_nil,List.drop_nil]
      refine⟨by omega,?_⟩
      exact⟨l.dropLast,hstep,by simp;omega,_,rest,rfl,aNM h6 l hl0 junk hnr hfl ((aQU h6).trans ((aQU h6).symm.trans ho))⟩
    ·have e2:(w == [46,46])=false:=beq_eq_false_iff_ne.2 h1
     refine iB [] rfl (fun _ h=>h) ?_
     simp only[seval,kT,e2]
     exact go (fun h=>h1 h.1) _ (.of_keep [2,3,6,7,26] (by exact rfl))
  ·rintro D o ⟨l,hl,hlen,X,rest,rfl,hX⟩
   rw[List.length_map,List.take_length] at hl
   rw[List.length_map] at hlen
   have h64:=aFh hl
   have hjl:=tK h64
   have cJ:∀ p,ACalls Tryz.prog ⟨GP.tab,[Go.V.aHF D]⟩ 173 [.sl l.length (dU l) p,str [47]] [] (fun r os=>os=[]∧r=str (Lib.join l [47])):=fun p=>(uJ l [47] p (by omega) (by omega)).gmono (fun _ h=>h)
   have hnv:qY s=if 256<(47::Lib.join l [47]).length then .tup [str [],.val (.bool false)] else .tup [str (47::Lib.join l [47]),.val (.bool true)]:=by
    unfold qY sO
    rw[if_pos hp,hps,hl]
    by_cases hgt:256<(47::Lib.join l [47]).length
    ·simp only[hgt,if_true]
    ·simp only[hgt,if_false]
   have hstr:dU l=dU l:=rfl
   unfold str at cJ
   refine zK ?_
   refine kp [2,3,6] ?_
   refine aC fun K hK=>?_
   have go:∀ st,gE ⟨GP.tab,[Go.V.aHF D]⟩ st ⟨53,[(2,.ptr 0 0),(3,.ptr 1 0),(8,.val (.string ⟨(47::Lib.join l [47]).toArray⟩))],[.cells [str []],.cells [.val (.bool false)],.cells [X],.dead,.dead,.dead]++rest⟩→K st:=fun st hw=>by
    refine hK st (eX hw ?_)
    clear hK K hw
    unfold str
    refine aC fun K hK=>?_
    have hsz:((⟨(47::Lib.join l [47]).toArray⟩:ByteArray).size:Int)=((47::Lib.join l [47]).length:Int):=by simp[ByteArray.size]
    by_cases hgt:256<(47::Lib.join l [47]).length
    ·rw[if_pos hgt] at hnv
     have hd:decide (((47::Lib.join l [47]).length:Int) > 256)=true:=decide_eq_true (by omega)
     generalize (47::Lib.join l [47])=p at *
     refine ky hd ?_
     apply bG rfl
     refine ks [2,3] ?_
     apply aS
     show Go.V.Fin Tryz.prog [9,4] [.cell 2 9,.cell 3 4] (fun r os=>os=[]∧r=qY s) .ret _
     simp only[seval,kT,kF,hnv,str]
    ·rw[if_neg hgt] at hnv
     have hd:decide (((47::Lib.join l [47]).length:Int) > 256)=false:=decide_eq_false (by omega)
     generalize (47::Lib.join l [47])=p at *
     refine ky hd ?_
     apply aR rfl
     apply bC
     simp only[seval,kT]
     refine hK _ ?_
     clear hK K
     refine kp [2,3,8] ?_
     refine ks [2,3] ?_
     apply aS
     show Go.V.Fin Tryz.prog [9,4] [.cell 2 9,.cell 3 4] (fun r os=>os=[]∧r=qY s) .ret _
     simp only[seval,kT,kF,hnv,str]
   have hcat:(⟨#[47]⟩:ByteArray)++⟨(Lib.join l [47]).toArray⟩=⟨(47::Lib.join l [47]).toArray⟩:=by
    apply ByteArray.ext
    simp
   rcases hX with⟨rfl,rfl⟩|⟨r6,cs,junk,h6,rfl,ho,rfl,hpos,hnr,hfl⟩
   ·refine ko [] ?_
    refine kv (cJ .full) hcat ?_
    exact⟨by omega,go _ (.of_keep [2,3,8] (by exact rfl))⟩
   ·obtain⟨m,rfl⟩:∃ m,r6=m+6:=⟨r6 - 6,by omega⟩
    have ho':rest[m]? = some (.cells (dU l++junk)):=ho
    have htk:(dU l++junk).take l.length=dU l:=by
     have:=dY l
     rw[List.take_append_of_le_length (by omega),List.take_of_length_le (by omega)]
    have hle':l.length≤(dU l++junk).length:=by simp[dY]
    refine ku [] (kI ho' htk) ?_
    refine aV (by simp[dY,dP]) (cJ .no) rfl ?_
    simp only[seval,kT,hcat]
    exact⟨by omega,go _ (.of_keep [2,3,8] (by exact rfl))⟩
  ·rintro D o ⟨hn,rest,rfl⟩
   have hv:qY s=.tup [str [],.val (.bool false)]:=by simp[qY,sO,hp,hps,hn]
   show Go.V.Fin Tryz.prog [9,4] [.cell 2 9,.cell 3 4] (fun r os=>os=[]∧r=qY s) .ret _
   simp only[seval,kT,kF,hv,str]
def iI (s:List UInt8):Bool:=match sO s with
 | some q=>s == q
 | none=>false
theorem xR [Gv] (s:List UInt8) (hs:s.length≤200000):ACalls Tryz.prog GP 60 [str s] [] (fun r os=>os=[]∧r=.val (.bool (iI s))):=by
 have cN:=aCt s hs
 unfold qY at cN
 unfold iI
 cases hn:sO s with
 | none=>
  rw[hn] at cN
  unfold str at *
  refine ke Tryz.func60 Tryz.ntmps60 Tryz.results60 #[4] ?_
  refine ks [0] ?_
  refine kr [] fun K hK=>?_
  refine kc (cN) (hK _ ?_)
  clear hK K
  refine kp [0,3,4] ?_
  refine ks [2] ?_
  apply aS
  simp only[seval,kT,kF]
 | some q=>
  rw[hn] at cN
  unfold str at *
  refine ke Tryz.func60 Tryz.ntmps60 Tryz.results60 #[4] ?_
  refine ks [0] ?_
  refine kr [] fun K hK=>?_
  refine kc (cN) (hK _ ?_)
  clear hK K
  refine kp [0,3,4] ?_
  refine ks [2] ?_
  apply aS
  simp only[seval,kT,kF]
def PD (k:Int) (t:Nat) (n:Nat) (cs:List AV) (q:Perm) (pa:List UInt8) (M:List AV):List AV:=.val (.int .i64 k)::.val (.int .u64 (t:Int))::.sl n cs q::str pa::M
structure MF (M:List AV) (N:List AV) (c:Nat):Prop where
 eq:M=N++[.val (.float .f64 c)]
 len:N.length=18
 ones:N.all dC=true
 nor:aM N=true
theorem aBq [Gv] (t:Nat) (l:List (List UInt8)) (q:Perm) (hq:fG q=true) (pa:List UInt8) (M N:List AV) (c:Nat) (hM:MF M N c) (hl:l.length≤200000) (hj:(Lib.join l [44]).length≤200000) :
  ACalls Tryz.prog GP 53 [.ptr 0 0] [.cells (PD 3 t l.length (dU l) q pa M)] (fun r os=>os=[.cells (PD 3 t 0 [] .full pa M)]∧r=.tup [str [111,112],str (lV l)]):=by
 have cJ:=fun q=>aLy l q hl hj
 have hn:=dP l
 have hMl:M.length=19:=by rw[hM.eq];simp[hM.len]
 have hMo:M.all dC=true:=by rw[hM.eq,List.all_append,hM.ones];rfl
 have hMn:aM M=true:=by rw[hM.eq,dK,hM.nor];rfl
 have hMt:M.take 19=M:=List.take_of_length_le (by omega)
 have hMd:M.drop 19=[]:=List.drop_eq_nil_of_le (by omega)
 simp only[str,PD] at *
 refine dB Tryz.func53 rfl rfl Tryz.ntmps53 (rts:=#[9,9]) rfl Tryz.results53 (by simp) ?_
 simp only[seval,aZ]
 refine ks [0,2,3] ?_
 refine kx [0,2,3,4] (kI hMl (kI hMt hMo)) ?_
 refine aC fun K1 hK1=>?_
 apply bJ
 refine ku [] hMl ?_
 apply bK
 refine aC fun K2 hK2=>?_
 apply bJ
 refine ko [] ?_
 apply aR rfl
 refine ko [] ?_
 refine hK2 _ ?_
 clear hK2 K2
 apply aR rfl
 apply bJ
 refine ko [] ?_
 apply bG rfl
 refine kp [0,4] ?_
 refine ku [] hMl ?_
 refine aV hn (cJ _) (by simp[aH]) ?_
 simp only[seval,kT,hMl]
 simp only[seval,kT,kF]
 refine hK1 _ ?_
 clear hK1 K1
 refine kp [2,3] ?_
 refine ks [2,3] ?_
 apply aS
 refine fE (by simp) ?_ ?_
 ·intro o ho
  simp only[List.take_succ_cons,List.take_zero,List.mem_cons,List.not_mem_nil,or_false,List.length_cons,List.length_nil] at ho
  subst ho
  simp[fU,eV,ref,jH,bM _ _ hMn]
 simp only[seval,kT,kN]
 rfl
theorem aPt [Gv] (c:Nat) (w:World):(callFunc 113 #[.float .f64 c]).run Tryz.prog w=.ok (.value (.int .u64 (c:Int))) w:=by
 have h:Tryz.prog.funcs[113]? = some Tryz.f113:=Tryz.func113
 have hb:Tryz.f113.body=none:=rfl
 have h1:Extern.findNext Tryz.f113=none:=by rfl
 have h2:Extern.find Tryz.f113=some Extern.MathFloatBits.float64bits:=by rfl
 have h3:Extern.MathFloatBits.float64bits #[.float .f64 c]=pure (.int .u64 (c:Int)):=rfl
 have hn':Tryz.f113.name≠"runtime.NumGoroutine" := by decide
 unfold callFunc
 simp[h,hb,h1,h2,h3,hn']
theorem aQf [Gv] (c:Nat) (w:World):(callFunc 45 #[.int .u64 (c:Int)]).run Tryz.prog w=.ok (.value (.float .f64 c)) w:=by
 have h:Tryz.prog.funcs[45]? = some Tryz.f45:=Tryz.func45
 have hb:Tryz.f45.body=none:=rfl
 have h1:Extern.findNext Tryz.f45=none:=by rfl
 have h2:Extern.find Tryz.f45=some Extern.MathFloatBits.float64frombits:=by rfl
 have h3:Extern.MathFloatBits.float64frombits #[.int .u64 (c:Int)]=pure (.float .f64 c):=rfl
 have hn':Tryz.f45.name≠"runtime.NumGoroutine" := by decide
 unfold callFunc
 simp[h,hb,h1,h2,h3,hn']
theorem nE [Gv] (c:Nat):aMz Tryz.prog 113 [.val (.float .f64 c)] (.int .u64 (c:Int)):=fun E vs hl=>by
 simp only[bY,bE] at hl
 obtain⟨_,_,rfl,rfl,rfl⟩:=hl
 exact aPt c E.w
theorem oT [Gv] (c:Nat):aMz Tryz.prog 45 [.val (.int .u64 (c:Int))] (.float .f64 c):=fun E vs hl=>by
 simp only[bY,bE] at hl
 obtain⟨_,_,rfl,rfl,rfl⟩:=hl
 exact aQf c E.w
def NT (v6:Bool) (b:List UInt8) (bits:Int):List AV:=.val (.bool v6)::(Bs b++[.val (.int .i64 bits)])
theorem fZ [Gv] (v6:Bool) (b:List UInt8) (bits:Int) (hb:b.length=16):(NT v6 b bits).length=18:=by simp[NT,aX,hb]
theorem jO [Gv] (v6:Bool) (b:List UInt8) (bits:Int):(NT v6 b bits).all dC=true:=by simp[NT,eR,dC,Value.oneCell']
theorem iZ [Gv] (v6:Bool) (b:List UInt8) (bits:Int):aM (NT v6 b bits)=true:=by simp[NT,aM,aH,dK,Go.V.aJ]
theorem aAi [Gv] (v6 v6':Bool) (b b':List UInt8) (bits bits':Int) (hb:b.length=16) (hb':b'.length=16):iN (NT v6 b bits) (NT v6' b' bits')=((v6 == v6')&&((b == b')&&(bits == bits'))):=by
 unfold NT
 rw[iN,rI _ _ _ _ (by rw[aX,aX];omega),aAh]
 simp[iN,vQ]
theorem aHL [Gv] (v6 v6':Bool) (b b':List UInt8) (bits bits':Int) (hb:b.length=16) (hb':b'.length=16):mC Tryz.prog 10 79 (NT v6 b bits) (NT v6' b' bits')=true:=by
 have h2:=aDi (P:=Tryz.prog) (e:=5) Tryz.underlying5 b b' (by omega)
 have e1:∀ (x:AV) (b:List UInt8),b.length=16→(Bs b++[x]).take 16=Bs b:=fun x b hb=>by
  have:(Bs b).length=16:=by rw[aX,hb]
  rw[← this];simp
 have e2:∀ (x:AV) (b:List UInt8),b.length=16→(Bs b++[x]).drop 16=[x]:=fun x b hb=>by
  have:(Bs b).length=16:=by rw[aX,hb]
  rw[← this];simp
 have e3:∀ (b:List UInt8),b.length=16→(Bs b).take 16=Bs b:=fun b hb=>List.take_of_length_le (by rw[aX,hb];exact Nat.le_refl _)
 have hArr:∀ d,mC Tryz.prog (d+1) 24 (Bs b) (Bs b')=true:=fun d=>by
  unfold mC
  rw[Tryz.underlying24]
  simp[bD,h2,aX,hb]
 have hBool:∀ d,mC Tryz.prog (d+1) 4 [.val (.bool v6)] [.val (.bool v6')]=true:=fun d=>by
  unfold mC
  rw[Tryz.underlying4]
  simp[pK,Tryz.underlying4]
 have hInt:∀ d,mC Tryz.prog (d+1) 3 [.val (.int .i64 bits)] [.val (.int .i64 bits')]=true:=fun d=>by
  unfold mC
  rw[Tryz.underlying3]
  simp[pK,Tryz.underlying3]
 have hAddr:∀ d,mC Tryz.prog (d+2) 26 (.val (.bool v6)::Bs b) (.val (.bool v6')::Bs b')=true:=fun d=>by
  unfold mC
  rw[Tryz.underlying26]
  simp[xA,bD,aDJ,hArr,hBool,aX,hb,hb',e3 _ hb,e3 _ hb',List.drop_eq_nil_of_le]
 unfold mC
 rw[Tryz.underlying79]
 simp[xA,bD,aDJ,hAddr,hInt,NT,e1 _ _ hb,e1 _ _ hb',e2 _ _ hb,e2 _ _ hb',aX,hb,hb']
theorem aOS [Gv] (k k':Int) (t t':Nat) (l l':List (List UInt8)) (q q':Perm) (hq:fG q=true) (hq':fG q'=true) (pa pa':List UInt8) (v6 v6':Bool) (b b':List UInt8) (bits bits':Int) (c c':Nat) (hb:b.length=16) (hb':b'.length=16)
  (hl:l.length≤200000) (hl':l'.length≤200000) :
  ACalls Tryz.prog GP 54 [.agg (PD k t l.length (dU l) q pa (NT v6 b bits++[.val (.float .f64 c)])),.agg (PD k' t' l'.length (dU l') q' pa' (NT v6' b' bits'++[.val (.float .f64 c')]))] []
   (fun r os=>os=[]∧r=.val (.bool ((k == k')&&((t == t')&&(decide (l=l')&&((pa == pa')&&(((v6 == v6')&&((b == b')&&(bits == bits')))&&(c == c')))))))):=by
 have cE:=fun q q'=>zB l l' q q' (by omega) (by omega)
 have cF:=nE c
 have cF':=nE c'
 have hn:=dP l
 have hn':=dP l'
 have hcmp:=aHL v6 v6' b b' bits bits' hb hb'
 have hagg:=aAi v6 v6' b b' bits bits' hb hb'
 have h1:=fZ v6 b bits hb
 have h1':=fZ v6' b' bits' hb'
 have h2:=jO v6 b bits
 have h2':=jO v6' b' bits'
 have h3:=iZ v6 b bits
 have h3':=iZ v6' b' bits'
 generalize NT v6 b bits=N at *
 generalize NT v6' b' bits'=N' at *
 generalize hnet:((v6 == v6')&&((b == b')&&(bits == bits')))=net at *
 have eo:(N++[.val (.float .f64 c)]:List AV).all dC=true:=by rw[List.all_append,h2];rfl
 have eo':(N'++[.val (.float .f64 c')]:List AV).all dC=true:=by rw[List.all_append,h2'];rfl
 have el:(N++[.val (.float .f64 c)]:List AV).length=19:=by simp[h1]
 have el':(N'++[.val (.float .f64 c')]:List AV).length=19:=by simp[h1']
 have et:(N++[.val (.float .f64 c)]:List AV).take 18=N:=by rw[← h1];simp
 have et':(N'++[.val (.float .f64 c')]:List AV).take 18=N':=by rw[← h1'];simp
 have eg:(N++[.val (.float .f64 c)]:List AV).getD 18 .top=.val (.float .f64 c):=by rw[← h1];simp
 have eg':(N'++[.val (.float .f64 c')]:List AV).getD 18 .top=.val (.float .f64 c'):=by rw[← h1'];simp
 generalize (N++[.val (.float .f64 c)]:List AV)=M at *
 generalize (N'++[.val (.float .f64 c')]:List AV)=M' at *
 simp only[str,PD] at *
 refine ke Tryz.func54 Tryz.ntmps54 Tryz.results54 #[4] ?_
 refine kx [2,3,4] (kI eo eo') ?_
 refine aC fun K hK=>?_
 have fin:∀ st (r:Bool),r=((k == k')&&((t == t')&&(decide (l=l')&&((pa == pa')&&(net&&(c == c'))))))→lk st.slots 4=.val (.bool r)→st.nt=47→K st:=by
  rintro⟨nt,sl,os⟩ r hr h4 hnt
  simp only at h4 hnt
  subst hnt
  refine hK _ ?_
  apply aE [4]
  simp only[aD,h4]
  apply aS
  simp only[seval,kT,kF]
  rw[hr]
 refine dW [] (by kernel_rfl) (by kernel_rfl) ?_
 by_cases q1:k=k'
 case neg=>
  have q1':(k == k')=false:=beq_eq_false_iff_ne.2 q1
  simp only[seval,kT,q1',el',el]
  refine fin _ false (by simp[q1']) rfl rfl
 have q1':(k == k')=true:=beq_iff_eq.2 q1
 by_cases q2:t=t'
 case neg=>
  have q2':(t == t')=false:=beq_eq_false_iff_ne.2 q2
  have q2i:(((t:Nat):Int) == ((t':Nat):Int))=false:=beq_eq_false_iff_ne.2 (by omega)
  simp only[seval,kT,q1',q2',el',el,q2i]
  refine fin _ false (by simp[q1',q2']) rfl rfl
 have q2':(t == t')=true:=beq_iff_eq.2 q2
 have q2i:(((t:Nat):Int) == ((t':Nat):Int))=true:=beq_iff_eq.2 (by omega)
 simp only[seval,kT,q1',q2',el',el,q2i]
 refine aV (by simp[aM,aH,hn,hn']) (cE _ _) rfl ?_
 by_cases q3:l=l'
 case neg=>
  have q3':decide (l=l')=false:=decide_eq_false q3
  simp only[seval,kT,q3']
  refine fin _ false (by simp[q1',q2',q3']) rfl rfl
 have q3':decide (l=l')=true:=decide_eq_true q3
 by_cases q4:pa=pa'
 case neg=>
  have q4':(pa == pa')=false:=beq_eq_false_iff_ne.2 q4
  simp only[seval,kT,q3',q4',el',el]
  refine fin _ false (by simp[q1',q2',q3',q4']) rfl rfl
 have q4':(pa == pa')=true:=beq_iff_eq.2 q4
 simp only[qq,q3',q4',Bool.true_and,aK,aF,bU,aB,Nat.reduceEqDiff,cav,Nat.reduceLT,dD,bT,Option.bind_some,aW,dQ,gok,aN,Tryz.underlying81,bD,ne_eq,reduceCtorEq,aY,apart,aO,Tryz.underlying9,aL,el',Nat.reduceAdd,List.getD_cons_succ,el,aP,gL,ByteArray.toList_mk,Tryz.underlying79,Nat.reduceLeDiff,et',et,aDW,tC,aGG,aDJ,hagg]
 refine⟨.inr ?_,?_⟩
 ·have hcmp':=hcmp
  unfold mC at hcmp'
  rw[Tryz.underlying79] at hcmp'
  simp only[Bool.and_eq_true] at hcmp'
  exact hcmp'.2
 have q5:net=true∨net=false:=by cases net<;>simp
 rcases q5 with rfl|rfl
 case inr=>
  simp only[seval,kT]
  refine fin _ false (by simp[q1',q2',q3',q4']) rfl rfl
 simp only[seval,kT,el,eg]
 refine iT (by simp[aM,aH]) cF ?_
 simp only[seval,kT,el',eg']
 refine iT (by simp[aM,aH]) cF' ?_
 simp only[seval,kT]
 have q6:(((c:Nat):Int) == ((c':Nat):Int))=(c == c'):=by
  rw[Bool.eq_iff_iff]
  simp only[beq_iff_eq]
  omega
 simp only[q6]
 refine fin _ (c == c') (by simp[q1',q2',q3',q4']) rfl rfl
structure PV where
 kind:Int
 time:Nat
 names:List (List UInt8)
 path:List UInt8
 v6:Bool
 addr:List UInt8
 bits:Int
 cost:Nat
def PA (p:PV) (q:Perm):List AV:=PD p.kind p.time p.names.length (dU p.names) q p.path (NT p.v6 p.addr p.bits++[.val (.float .f64 p.cost)])
def vB (k:Int):PV:=⟨k,0,[],[],false,Z 16,0,0⟩
def aFu (a b:PV):Bool:=(a.kind == b.kind)&&((a.time == b.time)&&(decide (a.names=b.names)&&((a.path == b.path)&&(((a.v6 == b.v6)&&((a.addr == b.addr)&&(a.bits == b.bits)))&&(a.cost == b.cost)))))
def sF (p:PV):Prop:=p.addr.length=16∧p.names.length≤200000∧(Lib.join p.names [44]).length≤200000∧p.path.length≤200000
theorem iE [Gv] (p:PV) (q:Perm) (h:p.addr.length=16):(PA p q).length=23:=by simp[PA,PD,NT,aX,h]
theorem lE [Gv] (p:PV) (q:Perm):(PA p q).all dC=true:=by
 simp[PA,PD,NT,eR,dC,Value.oneCell',str]
theorem sX [Gv] (p:PV) (q:Perm) (hq:fG q=true):aM (PA p q)=true:=by
 have:=dP p.names
 cases q<;>simp_all [PA,PD,NT,aM,aH,dK,Go.V.aJ,str,fG]
theorem nY [Gv] (p:PV) (q:Perm):(PA p q).getD 0 .top=.val (.int .i64 p.kind):=rfl
theorem aMa [Gv] (a b:PV) (q q':Perm) (hq:fG q=true) (hq':fG q'=true) (ha:sF a) (hb:sF b):ACalls Tryz.prog GP 54 [.agg (PA a q),.agg (PA b q')] [] (fun r os=>os=[]∧r=.val (.bool (aFu a b))):=
 aOS _ _ _ _ _ _ _ _ hq hq' _ _ _ _ _ _ _ _ _ _ ha.1 hb.1 ha.2.1 hb.2.1
theorem aGA [Gv] (k:Int):sF (vB k):=⟨rfl,by simp[vB],by simp[vB,Lib.join_nil],by simp[vB]⟩
def tX (w x:List UInt8) (s:Bool):List UInt8:=if x=[]∨512<(w++32::x).length∨s=false then [] else w++32::x
theorem aFG [Gv] (p p':PV) (q q':Perm) (hq:fG q=true) (hq':fG q'=true) (hp:sF p) (hp':sF p') (w x:List UInt8) (hw:w.length≤20) (hx:x.length≤300000)
  (hW:ACalls Tryz.prog GP 53 [.ptr 0 0] [.cells (PA p q)] (fun r os=>os=[.cells (PA p' q')]∧r=.tup [str w,str x])) :
  ACalls Tryz.prog GP 22 [.agg (PA p q)] [] (fun r os=>os=[]∧r=str (tX w x (aFu p' (vB p.kind)))):=by
 have cS:=aMa p' (vB p.kind) q' .full hq' rfl hp' (aGA _)
 have h1:=iE p q hp.1
 have h2:=lE p q
 have h3:=sX p q hq
 have h4:=nY p q
 have g1:=iE p' q' hp'.1
 have g2:=lE p' q'
 have g3:=sX p' q' hq'
 have gt:(PA p' q').take 23=PA p' q':=List.take_of_length_le (by omega)
 generalize hsm:aFu p' (vB p.kind)=sm at *
 generalize p.kind=k at *
 generalize PA p q=P at *
 generalize PA p' q'=P' at *
 simp only[str] at *
 refine ke Tryz.func22 Tryz.ntmps22 Tryz.results22 #[9] ?_
 refine kx [1,2] h2 ?_
 refine kx [1,2,3] (kI h1 h4) ?_
 refine kr [1000010] fun K hK=>?_
 have hr1:∀ o∈[AObj.cells P],fU (fun r=>decide (r<[AObj.cells P].length)) o=true:=fun o ho=>by
  simp only[List.mem_cons,List.not_mem_nil,or_false] at ho
  subst ho
  exact bM _ _ h3
 have hr2:∀ o∈[AObj.cells P'],fU (fun r=>decide (r<[AObj.cells P].length)) o=true:=fun o ho=>by
  simp only[List.mem_cons,List.not_mem_nil,or_false] at ho
  subst ho
  exact bM _ _ g3
 refine iU (objs:=[.cells P]) (rest:=[]) [129] hr1 rfl (by simp) hW rfl hr2 rfl ?_
 simp only[seval,kT]
 refine hK _ ?_
 clear hK K
 refine kp [1,2,3,4,5] ?_
 have hsz:∀ l:List UInt8,((⟨l.toArray⟩:ByteArray).size:Int)=(l.length:Int):=fun l=>by simp[ByteArray.size]
 have hcat:(⟨w.toArray⟩:ByteArray)++⟨#[32]⟩++⟨x.toArray⟩=⟨(w++32::x).toArray⟩:=by
  apply ByteArray.ext
  simp
 refine kr [] fun K hK=>?_
 have hsz2:((⟨w.toArray⟩:ByteArray)++⟨#[32]⟩).size=w.length+1:=by simp[ByteArray.size]
 rw[hsz2,hcat]
 refine⟨by omega,by omega,hK _ ?_⟩
 clear hK K
 refine kp [1,2,3,5,6] ?_
 have hlen:(w++32::x).length=w.length+(x.length+1):=by simp
 refine aC fun K1 hK1=>?_
 refine aC fun K hK=>?_
 have nope:∀ st,tX w x sm=[]→lk st.slots 30=.val (.bool true)→st.nt=32→st.objs=[.cells P']→K st:=by
  rintro⟨nt,sl,os⟩ hw h30 hnt hos
  simp only at h30 hnt hos
  subst hnt hos
  refine hK _ ?_
  refine bG h30 ?_
  apply aE []
  simp only[aD]
  refine ks [2] ?_
  refine aS ?_
  simp only[aI,bL]
  simp only[qq,bR,eU,bN,bO,dA,aB,aH]
  rw[hw]
 have yes:∀ st,tX w x sm=w++32::x→lk st.slots 30=.val (.bool false)→lk st.slots 6=.val (.string ⟨(w++32::x).toArray⟩)→st.nt=32→st.objs=[.cells P']→K st:=by
  rintro⟨nt,sl,os⟩ hw h30 h6 hnt hos
  simp only at h30 hnt hos h6
  subst hnt hos
  refine hK _ ?_
  refine aR h30 (bC (hK1 _ ?_))
  apply aE [6]
  simp only[aD,h6]
  refine ks [2] ?_
  refine aS ?_
  simp only[qq,bR,eU,bN,bO,dA,aB,aH]
  rw[hw]
 by_cases x0:x=[]
 ·have x0':(x == [])=true:=beq_iff_eq.2 x0
  refine ku [] x0' ?_
  exact nope _ (by simp[tX,x0]) rfl rfl rfl
 have x0':(x == [])=false:=beq_eq_false_iff_ne.2 x0
 by_cases hl:512<(w++32::x).length
 ·have hl':decide (((w++32::x).length:Int) > 512)=true:=decide_eq_true (by omega)
  refine ku [] (kI x0' hl') ?_
  exact nope _ (by unfold tX;rw[if_pos (.inr (.inl hl))]) rfl rfl rfl
 have hl':decide (((w++32::x).length:Int) > 512)=false:=decide_eq_false (by omega)
 have hz:∀ k,([.val (.int .i64 k),.val (.int .u64 0),.sl 0 [] .full,.val (.string ⟨#[]⟩),.val (.bool false),.val (.int .u8 0),.val (.int .u8 0),.val (.int .u8 0),.val (.int .u8 0),.val (.int .u8 0),.val (.int .u8 0),.val (.int .u8 0),.val (.int .u8 0),.val (.int .u8 0),.val (.int .u8 0),.val (.int .u8 0),.val (.int .u8 0),.val (.int .u8 0),.val (.int .u8 0),.val (.int .u8 0),.val (.int .u8 0),.val (.int .i64 0),.val (.float .f64 0)]:List AV)=PA (vB k) .full:=fun k=>rfl
 refine ku [] (kI (kI x0' hl') (kI g1 gt)) ?_
 rw[hz]
 refine aV g3 cS rfl ?_
 cases hs:sm with
 | false=>
  subst hs
  simp only[seval,kT]
  exact nope _ (by unfold tX;rw[if_pos (.inr (.inr rfl))]) rfl rfl rfl
 | true=>
  subst hs
  simp only[seval,kT]
  refine yes _ ?_ rfl rfl rfl rfl
  unfold tX
  rw[if_neg]
  simp only[x0,hl,false_or,Bool.true_eq_false,not_false_eq_true]
theorem aCW [Gv] (p:PV) (q:Perm) (hq:fG q=true) (hp:p.addr.length=16) (t:List UInt8) (hT:ACalls Tryz.prog GP 22 [.agg (PA p q)] [] (fun r os=>os=[]∧r=str t)) :
  ACalls Tryz.prog GP 31 [.agg (PA p q)] [] (fun r os=>os=[]∧r=.val (.bool (!(t == [])))):=by
 have h1:=iE p q hp
 have h2:=lE p q
 have h3:=sX p q hq
 have h5:(PA p q).take 23=PA p q:=List.take_of_length_le (by omega)
 generalize PA p q=P at *
 simp only[str] at *
 refine ke Tryz.func31 Tryz.ntmps31 Tryz.results31 #[4] ?_
 refine kx [1,2] h2 ?_
 refine kw [] (kI h1 h5) fun K hK=>?_
 refine aV h3 hT rfl ?_
 simp only[seval,kT]
 refine hK _ ?_
 refine kp [2] ?_
 refine aS ?_
 simp only[qq,bR,eU,bN,bO,dA,aB,aH]
def lP (v6:Bool) (b:List UInt8):Bool:=v6 || decide (b.drop 4=Z 12)
def AD (v6:Bool) (b:List UInt8):List AV:=.val (.bool v6)::Bs b
theorem yE [Gv] (v6:Bool) (b:List UInt8) (hb:b.length=16):ACalls Tryz.prog GP 225 [.agg (AD v6 b)] [] (fun r os=>os=[]∧r=.val (.bool (lP v6 b))):=by
 unfold AD
 have htk:(Bs b).take 16=Bs b:=List.take_of_length_le (by rw[aX];omega)
 have hlen:(Bs b).length=16:=by rw[aX];exact hb
 refine ke Tryz.func225 Tryz.ntmps225 Tryz.results225 #[4] ?_
 refine ks [1] ?_
 refine kx [1,3] (kI hlen htk) ?_
 have hz16:List.drop 16 (Z 16)=[]:=rfl
 have hz4:kZ [.int .u8 0] 4=Bs [0,0,0,0]:=jJ 4
 refine aC fun K hK=>aA [] ?_
 simp only[qq,hz16,gV,aF,eY,iR,Option.map_none,Option.map_some,aB,cav,Tryz.underlying24,Nat.reduceEqDiff,bD,eJ,Int.le_refl,dH,Int.reduceLE,Int.cast_ofNat_Int,ne_eq,reduceCtorEq,or_true,Int.toNat_zero,Nat.mul_one,Int.sub_zero,Int.reduceToNat,Nat.reduceLT,aOz,bI,aDa,Tryz.underlying54,spl,aG,aI,bS,hlen,Nat.reduceLeDiff,jJ,List.replicate_succ,List.replicate_zero,eR,aX,Nat.reduceAdd,eA]
 refine hK _ ?_
 clear hK K
 refine aE [1,3] ?_
 simp only[aD,aB,Nat.reduceEqDiff,if_true,if_false]
 refine aC fun K hK=>?_
 cases v6 with
 | true=>
  refine ko [] ?_
  refine⟨by omega,hK _ ?_⟩
  clear hK K
  refine kp [2] ?_
  refine aS ?_
  simp only[qq,bR,eU,bN,bO,dA,aB,aH]
  rfl
 | false=>
  have hcat:Bs [0,0,0,0]++Bs (b.drop 4)=Bs ([0,0,0,0]++b.drop 4):=by simp[Bs]
  rw[hcat]
  have hl16:([0,0,0,0]++b.drop 4:List UInt8).length=16:=by simp[hb]
  have heq:(([0,0,0,0]++b.drop 4:List UInt8) == Z 16)=decide (b.drop 4=Z 12):=by
   rw[Bool.eq_iff_iff,decide_eq_true_iff]
   simp[Z,List.replicate]
  have hall:=aDi (P:=Tryz.prog) (e:=5) Tryz.underlying5 ([0,0,0,0]++b.drop 4) (Z 16) (by rw[hl16];rfl)
  have hagg:=aAh ([0,0,0,0]++b.drop 4) (Z 16)
  have htk2:(Bs ([0,0,0,0]++b.drop 4)).take 16=Bs ([0,0,0,0]++b.drop 4):=List.take_of_length_le (by rw[aX,hl16];omega)
  have hbl:(Bs ([0,0,0,0]++b.drop 4)).length=16:=by rw[aX,hl16]
  generalize ([0,0,0,0]++b.drop 4:List UInt8)=c at *
  refine aA [] ?_
  simp only[qq,aF,aN,Tryz.underlying26,bD,aB,Nat.reduceEqDiff,ne_eq,reduceCtorEq,Nat.reduceLT,aY,apart,aO,Tryz.underlying4,aX,dD,bT,Option.bind_some,aW,Bool.not_false,dQ,gok,Tryz.underlying24,hbl,htk2,fA,bS,Nat.mul_one,jK,dO,eM,aL,bU,cav,aG,aI,aP,aDW,tC,aGG,hall,hagg]
  refine⟨by omega,hK _ ?_⟩
  clear hK K
  refine kp [2] ?_
  refine aS ?_
  simp only[qq,bR,eU,bN,bO,dA,aB,aH]
  rw[heq];rfl
theorem aMK [Gv] (v6:Bool) (b:List UInt8) (hb:b.length=16):ACalls Tryz.prog GP 257 [.agg (AD v6 b)] [] (fun r os=>os=[]∧r=.val (.int .i64 (if v6 then 128 else 32))):=by
 unfold AD
 have hlen:(Bs b).length=16:=by rw[aX];exact hb
 refine ke Tryz.func257 Tryz.ntmps257 Tryz.results257 #[3] ?_
 refine ks [1] ?_
 refine aC fun K hK=>?_
 refine aC fun K hK=>aA [] ?_
 simp only[qq,aF,aN,Tryz.underlying26,bD,aB,ne_eq,reduceCtorEq,Nat.reduceLT,aY,Nat.reduceEqDiff,apart,aO,Tryz.underlying4,aG,aI,aX]
 (repeat' apply And.intro)<;>try (first|exact True.intro|omega)
 refine hK _ ?_
 clear hK K
 cases v6 with
 | true=>
  refine bG rfl ?_
  refine ks [2] ?_
  refine aS ?_
  simp only[seval,kT]
  simp only[qq,bR,eU,bN,bO,dA,aB,aH]
 | false=>
  refine aR rfl ?_
  apply bC
  simp only[seval,kT]
  refine hK _ ?_
  clear hK K
  refine ks [2] ?_
  refine aS ?_
  simp only[qq,bR,eU,bN,bO,dA,aB,aH]
def aAF (bits:Int) (i:Nat):Nat:=(min (max (bits - 8*(i:Int)) 0) 8).toNat
def mkb (bits:Int) (i:Nat):UInt8:=UInt8.ofNat (65280/2^aAF bits i)
def kW (bits:Int):Nat→List UInt8→List UInt8
 | _,[]=>[]
 | i,x::xs=>(x &&& mkb bits i)::kW bits (i+1) xs
theorem kM [Gv] (bits:Int):∀ (i:Nat) (l:List UInt8),(kW bits i l).length=l.length
 | _,[]=>rfl
 | i,x::xs=>by simp[kW,kM bits (i+1) xs]
theorem aCp [Gv] (bits:Int):∀ (i:Nat) (l:List UInt8) (x:UInt8),kW bits i (l++[x])=kW bits i l++[x &&& mkb bits (i+l.length)]
 | i,[],x=>by simp[kW]
 | i,y::ys,x=>by
  simp only[List.cons_append,kW,aCp bits (i+1) ys x,List.length_cons]
  rw[show i+1+ys.length=i+(ys.length+1) by omega]
def nG (v6:Bool) (b:List UInt8) (bits:Int):Option (List UInt8):=
 if lP v6 b=true∧0≤bits∧bits≤(if v6 then 128 else 32) then some (kW bits 0 b) else none
def rW (v6:Bool) (b:List UInt8) (bits:Int):AV:=match nG v6 b bits with
 | some l=>.tup [.agg (NT v6 l bits),.val (.bool true)]
 | none=>.tup [.agg (NT false (Z 16) 0),.val (.bool false)]
theorem aMj [Gv] (a:AV) (L:List UInt8) (i:Nat) (x:UInt8) (h:i<L.length):spl (a::Bs L) (1+i) [B x]=a::Bs (L.set i x):=by
 unfold spl Bs
 rw[show 1+i=i+1 by omega]
 simp only[List.take_succ_cons,List.length_cons,List.length_nil,List.map_set,List.cons_append]
 rw[show i+1+(0+1)=(i+1)+1 by omega,List.drop_succ_cons,List.set_eq_take_append_cons_drop]
 simp[h]
theorem aFc [Gv] (v6:Bool) (b:List UInt8) (bits:Int) (hb:b.length=16) (h64:-9223372036854775808≤bits∧bits≤9223372036854775807):ACalls Tryz.prog GP 212 [.agg (AD v6 b),.val (.int .i64 bits)] [] (fun r os=>os=[]∧r=rW v6 b bits):=by
 have cC:=yE v6 b hb
 have cM:=aMK v6 b hb
 have hlen:(Bs b).length=16:=by rw[aX];exact hb
 have hAl:(AD v6 b).length=17:=by simp[AD,hlen]
 have hAn:aM (AD v6 b)=true:=by simp[AD,aM,aH,aJ]
 have hAt:(AD v6 b).take 17=AD v6 b:=List.take_of_length_le (by omega)
 have hAo:(AD v6 b).all dC=true:=by simp[AD,eR,dC,Value.oneCell']
 refine ke Tryz.func212 Tryz.ntmps212 Tryz.results212 #[79,4] ?_
 refine kx [1,2,4] hAo ?_
 refine aC fun K hK=>?_
 refine aC fun K2 hK2=>?_
 refine ku [] (kI hAl hAt) ?_
 refine aV hAn cC rfl ?_
 have stop:nG v6 b bits=none→∀ st,gE GP st ⟨45,[(20,.val (.bool true)),(4,.ptr 1 0)],[.cells (AD v6 b),.cells (NT false (Z 16) 0)]⟩→K2 st:=fun hn st hw=>by
  have hnv:rW v6 b bits=.tup [.agg (NT false (Z 16) 0),.val (.bool false)]:=by simp[rW,hn]
  have hNl:(NT false (Z 16) 0).length=18:=rfl
  have hNo:(NT false (Z 16) 0).all dC=true:=jO _ _ _
  have hNn:=iZ false (Z 16) 0
  have hz:([.val (.bool false),.val (.int .u8 0),.val (.int .u8 0),.val (.int .u8 0),.val (.int .u8 0),.val (.int .u8 0),.val (.int .u8 0),.val (.int .u8 0),.val (.int .u8 0),.val (.int .u8 0),.val (.int .u8 0),.val (.int .u8 0),.val (.int .u8 0),.val (.int .u8 0),.val (.int .u8 0),.val (.int .u8 0),.val (.int .u8 0),.val (.int .i64 0)]:List AV)=NT false (Z 16) 0:=rfl
  have hNt:(NT false (Z 16) 0).take 18=NT false (Z 16) 0:=rfl
  have hNd:(NT false (Z 16) 0).drop 18=[]:=rfl
  refine hK2 st (eX hw (bG rfl ?_))
  clear hK2 hw cC cM
  generalize NT false (Z 16) 0=N at *
  refine kw [] (kI (kI hz hNl) (kI hNo hNd)) fun K hK=>?_
  refine hK _ ?_
  clear hK
  refine kp [4,5] ?_
  refine aS ?_
  show Go.V.Fin Tryz.prog [79,4] [.cell 4 79,.tmp 5] (fun r os=>os=[]∧r=rW v6 b bits) .ret _
  simp only[seval,kT,kF,hnv,hNl,hNt,hNn]
 cases hv:lP v6 b with
 | false=>
  simp only[seval,kT]
  exact stop (by simp[nG,hv]) _ (.of_keep [20,4] rfl)
 | true=>
  obtain⟨m,hm,hm1⟩:∃ m:Int,(if v6=true then 128 else 32:Int)=m∧m≤128:=⟨_,rfl,by split<;>omega⟩
  rw[hm] at cM
  by_cases h0:bits<0
  ·have d0:decide (bits<0)=true:=decide_eq_true h0
   simp only[seval,kT,d0]
   exact stop (by unfold nG;rw[if_neg (by omega)]) _ (.of_keep [20,4] rfl)
  have d0:decide (bits<0)=false:=decide_eq_false h0
  by_cases h1:m<bits
  ·have d1:decide (bits > m)=true:=decide_eq_true h1
   simp only[seval,kT,d0,hAl,hAt]
   refine aV hAn cM rfl ?_
   simp only[seval,kT,d1]
   exact stop (by unfold nG;rw[if_neg (by rw[hm];omega)]) _ (.of_keep [20,4] rfl)
  have d1:decide (bits > m)=false:=decide_eq_false h1
  have hn:nG v6 b bits=some (kW bits 0 b):=by unfold nG;rw[if_pos ⟨hv,by omega,by rw[hm];omega⟩]
  have hnv:rW v6 b bits=.tup [.agg (NT v6 (kW bits 0 b) bits),.val (.bool true)]:=by simp[rW,hn]
  simp only[seval,kT,d0,hAl,hAt]
  refine aV hAn cM rfl ?_
  simp only[seval,kT,d1]
  clear stop cC cM
  have hz:([.val (.bool false),.val (.int .u8 0),.val (.int .u8 0),.val (.int .u8 0),.val (.int .u8 0),.val (.int .u8 0),.val (.int .u8 0),.val (.int .u8 0),.val (.int .u8 0),.val (.int .u8 0),.val (.int .u8 0),.val (.int .u8 0),.val (.int .u8 0),.val (.int .u8 0),.val (.int .u8 0),.val (.int .u8 0),.val (.int .u8 0),.val (.int .i64 0)]:List AV)=NT false (Z 16) 0:=rfl
  rw[hz]
  obtain⟨N0,hN0,hN0l⟩:∃ N0,NT false (Z 16) 0=N0∧N0.length=18:=⟨_,rfl,rfl⟩
  rw[hN0]
  refine hK2 _ ?_
  clear hK2 K2 hz
  refine aR rfl (bC ?_)
  simp only[seval,kT]
  refine hK _ ?_
  clear hK K
  refine kp [1,2,4] ?_
  refine aC fun K1 hK1=>?_
  refine ks [1,2,4,22] ?_
  apply bK
  refine bZ (fun i:Nat=>⟨45,[(1,.val (.int .i64 bits)),(2,.ptr 0 0),(4,.ptr 1 0),(22,.val (.int .i64 (i:Int)))],[.cells (AD v6 (kW bits 0 (b.take i)++b.drop i)),.cells N0]⟩) (fun i=>i≤16) (fun i=>16 - i) 0 (by omega) (.of_keep [1,2,4,22] rfl) ?_
  intro i hi
  obtain⟨L,hL⟩:∃ L,kW bits 0 (b.take i)++b.drop i=L:=⟨_,rfl⟩
  have hLl:L.length=16:=by rw[← hL];simp[kM,hb];omega
  rw[hL]
  refine aC fun K2 hK2=>?_
  by_cases hlt:i<16
  ·have d2:decide ((i:Int)<16)=true:=decide_eq_true (by omega)
   refine ku [] d2 ?_
   refine hK2 _ ?_
   clear hK2 K2
   apply bJ
   refine bG rfl (bC ?_)
   simp only[seval,kT]
   refine kp [1,2,4,22] ?_
   refine aC fun K2 hK2=>?_
   apply bK
   refine ks [1,2,4,22,6] ?_
   have h8:IntKind.i64.wrap (8*(i:Int))=8*(i:Int):=lY (by omega) (by omega)
   have hs:IntKind.i64.wrap (bits - 8*(i:Int))=bits - 8*(i:Int):=lY (by omega) (by omega)
   refine aC fun K hK=>aA [] ?_
   have hnb:(if 8<(if 0 > bits - 8*(i:Int) then 0 else bits - 8*(i:Int)) then 8 else if 0 > bits - 8*(i:Int) then 0 else bits - 8*(i:Int))=((aAF bits i:Nat):Int):=by
    unfold aAF
    repeat' split
    all_goals omega
   have hn8:aAF bits i≤8:=by unfold aAF;omega
   simp only[seval,kT,h8,hs,hnb]
   refine hK _ ?_
   clear hK K
   have hmk:(mkb bits i).toNat=65280/2^aAF bits i%256:=by unfold mkb;simp
   have hLi:L.getD i 0=b.getD i 0:=by
    rw[← hL,List.getD_eq_getElem?_getD,List.getElem?_append_right (by rw[kM,List.length_take];omega),kM,List.length_take,List.getElem?_drop,List.getD_eq_getElem?_getD]
    congr 2
    omega
   obtain⟨n,hn'⟩:∃ n,aAF bits i=n:=⟨_,rfl⟩
   rw[hn'] at hn8 hmk ⊢
   refine kp [1,2,4,22,6,7] ?_
   have hif:(if n≤16 then n else 16)=n:=if_pos (by omega)
   have hmsk:IntKind.u8.wrap (Int.fdiv 65280 (2^n))=((mkb bits i).toNat:Int):=by
    have:∀ n:Fin 9,IntKind.u8.wrap (Int.fdiv 65280 (2^n.val))=((65280/2^n.val%256:Nat):Int):=by decide
    rw[hmk]
    exact this ⟨n,by omega⟩
   have hAg:(AD v6 L).getD (1+i) .top=B (L.getD i 0):=by
    rw[show 1+i=i+1 by omega]
    simp only[AD,List.getD_cons_succ]
    exact kP (by omega)
   have hBx:∀ x y:UInt8,AV.val (.int .u8 (((x.toNat &&& y.toNat)%256:Nat):Int))=B (x &&& y):=fun x y=>by
    unfold B
    congr 3
    rw[UInt8.toNat_and]
    exact Nat.mod_eq_of_lt (Nat.lt_of_le_of_lt Nat.and_le_left x.toNat_lt)
   have hspl:List.take (1+i) (AD v6 L)++[.val (.int .u8 ((((L.getD i 0).toNat &&& (mkb bits i).toNat)%256:Nat):Int))]++List.drop (1+i+1) (AD v6 L)=AD v6 (L.set i (L.getD i 0 &&& mkb bits i)):=by
    rw[hBx]
    exact aMj _ _ _ _ (by omega)
   have hAl':(AD v6 L).length=17:=by simp[AD,aX,hLl]
   have hBu:∀ x:UInt8,B x=.val (.int .u8 (x.toNat:Int)):=fun _=>rfl
   refine dW [] (by kernel_rfl) (by kernel_rfl) ?_
   simp only[qq,aF,Nat.reduceLT,aB,Nat.reduceEqDiff,aN,Tryz.underlying26,bD,ne_eq,reduceCtorEq,dN,Tryz.underlying24,Int.toNat_natCast,aY,apart,aO,Tryz.underlying5,cav,aL,aP,bH,IntKind.bits,Nat.min_def,hif,eL,eG,bA,aH,fF,Tryz.underlying271,Option.isSome_some,hmsk,bQ,bX,bB,spl,aG,Int.cast_ofNat_Int,Nat.mul_one,hAl',hAg,B,aPc,List.all_cons,dC,Value.oneCell',List.all_nil,Nat.reduceLeDiff,hspl]
   (repeat' apply And.intro)<;>try (first|exact True.intro|omega)
   simp only[bL,aI]
   refine hK2 _ ?_
   clear hK2 K2
   refine kp [1,2,4,22] ?_
   have hw1:IntKind.i64.wrap ((i+1:Nat):Int)=((i+1:Nat):Int):=fD (by omega)
   refine ku [] (kI @gO hw1) ?_
   have hset:L.set i (L.getD i 0 &&& mkb bits i)=kW bits 0 (b.take (i+1))++b.drop (i+1):=by
    have hbi:b.drop i=b.getD i 0::b.drop (i+1):=by
     rw[List.drop_eq_getElem_cons (by omega),List.getD_eq_getElem?_getD,List.getElem?_eq_getElem (by omega)]
     rfl
    have htk:b.take (i+1)=b.take i++[b.getD i 0]:=by
     rw[List.take_add_one,List.getD_eq_getElem?_getD,List.getElem?_eq_getElem (by omega)]
     rfl
    rw[hLi,← hL,hbi,htk,aCp]
    have hml:(kW bits 0 (b.take i)).length=i:=by rw[kM,List.length_take];omega
    rw[List.set_append_right _ _ (by omega),hml]
    simp
    rw[Nat.min_eq_left (by omega)]
   refine⟨i+1,by omega,by omega,?_⟩
   rw[hset]
   exact .of_keep [1,2,4,22] rfl
  ·have d2:decide ((i:Int)<16)=false:=decide_eq_false (by omega)
   have hi16:i=16:=by omega
   subst hi16
   have hLe:L=kW bits 0 b:=by rw[← hL,List.take_of_length_le (by omega),List.drop_eq_nil_of_le (by omega),List.append_nil]
   subst hLe
   refine ko [] ?_
   refine hK2 _ ?_
   clear hK2 K2
   apply bJ
   refine aR rfl (dR ?_)
   simp only[seval,kT,kF]
   refine hK1 _ ?_
   clear hK1 K1
   refine kp [1,2,4] ?_
   have hMl:(AD v6 (kW bits 0 b)).length=17:=by simp[AD,aX,hLl]
   have hMt:(AD v6 (kW bits 0 b)).take 17=AD v6 (kW bits 0 b):=List.take_of_length_le (by omega)
   have hNT:AD v6 (kW bits 0 b)++[.val (.int .i64 bits)]=NT v6 (kW bits 0 b) bits:=by simp[AD,NT]
   have hNn:=iZ v6 (kW bits 0 b) bits
   have hNo:=jO v6 (kW bits 0 b) bits
   have hNl:(NT v6 (kW bits 0 b) bits).length=18:=fZ _ _ _ hLl
   have hNt:(NT v6 (kW bits 0 b) bits).take 18=NT v6 (kW bits 0 b) bits:=List.take_of_length_le (by omega)
   have hdr:N0.drop 18=[]:=List.drop_eq_nil_of_le (by omega)
   have hMo:(AD v6 (kW bits 0 b)).all dC=true:=by simp[AD,eR,dC,Value.oneCell']
   generalize NT v6 (kW bits 0 b) bits=N1 at *
   generalize AD v6 (kW bits 0 b)=M1 at *
   refine aC fun K hK=>aA [] ?_
   have ht17:∀ x,(M1++[x]).take 17=M1:=fun x=>by rw[List.take_append_of_le_length (by omega),List.take_of_length_le (by omega)]
   have hd18:∀ x,(M1++[x]).drop 18=[]:=fun x=>List.drop_eq_nil_of_le (by simp;omega)
   simp only[seval,kT,hMl,hMt,hN0l,ht17,hNT,hd18,hNo,hNl,hdr]
   refine⟨⟨hMo,by simp;omega⟩,hK _ ?_⟩
   clear hK K
   refine kp [4,5] ?_
   refine aS ?_
   show Go.V.Fin Tryz.prog [79,4] [.cell 4 79,.tmp 5] (fun r os=>os=[]∧r=rW v6 b bits) .ret _
   simp only[seval,kT,kF,hnv,hNl,hNt,hNn]
def yT (v6:Bool) (b:List UInt8) (bits:Int):Bool:=match nG v6 b bits with
 | some l=>l == b
 | none=>false
theorem xJ [Gv] {v6:Bool} {b:List UInt8} {bits:Int} {l:List UInt8} (h:nG v6 b bits=some l):l.length=b.length:=by
 unfold nG at h
 by_cases hc:lP v6 b=true∧0≤bits∧bits≤(if v6 then 128 else 32)
 ·rw[if_pos hc] at h
  injection h with h
  rw[← h,kM]
 ·rw[if_neg hc] at h
  cases h
theorem aOg [Gv] (v6:Bool) (b:List UInt8) (bits:Int) (hb:b.length=16):(NT v6 b bits).take 17=AD v6 b∧(NT v6 b bits).getD 17 .top=.val (.int .i64 bits):=by
 have hl:(AD v6 b).length=17:=by simp[AD,aX,hb]
 have e:NT v6 b bits=AD v6 b++[.val (.int .i64 bits)]:=by simp[AD,NT]
 refine⟨?_,?_⟩
 ·rw[e,List.take_append_of_le_length (by omega),List.take_of_length_le (by omega)]
 ·rw[e,List.getD_eq_getElem?_getD,List.getElem?_append_right (by omega),hl]
  rfl
theorem aKT [Gv] (v6:Bool) (b:List UInt8):aM (AD v6 b)=true:=by simp[AD,aM,aH,aJ]
theorem aCr [Gv] (v6:Bool) (b:List UInt8) (bits:Int) (hb:b.length=16) (h64:-9223372036854775808≤bits∧bits≤9223372036854775807):ACalls Tryz.prog GP 174 [.agg (NT v6 b bits)] [] (fun r os=>os=[]∧r=.val (.bool (yT v6 b bits))):=by
 have cO:=aFc v6 b bits hb h64
 have hNl:=fZ v6 b bits hb
 have hNo:=jO v6 b bits
 have hNn:=iZ v6 b bits
 have hNt:(NT v6 b bits).take 18=NT v6 b bits:=List.take_of_length_le (by omega)
 obtain⟨hAt,hBt⟩:=aOg v6 b bits hb
 have hAn:=aKT v6 b
 unfold yT
 unfold rW at cO
 cases hn:nG v6 b bits with
 | none=>
  rw[hn] at cO
  have hMl:=fZ false (Z 16) 0 rfl
  have hMo:=jO false (Z 16) 0
  have hMn:=iZ false (Z 16) 0
  simp only at cO
  generalize NT false (Z 16) 0=M at *
  refine ke Tryz.func174 Tryz.ntmps174 Tryz.results174 #[4] ?_
  refine kx [1] hNo ?_
  refine kw [] (kI hNl (kI hBt hAt)) fun K hK=>?_
  refine aV hAn cO (by simp[aH,aM,hMn]) ?_
  simp only[seval,kT,hMo,hMl]
  refine hK _ ?_
  clear hK K
  refine kp [1,3,4] ?_
  refine ks [2] ?_
  refine aS ?_
  simp only[qq,bR,eU,bN,bO,dA,aB,aH]
 | some l=>
  have hl:l.length=16:=(xJ hn).trans hb
  rw[hn] at cO
  have hMl:=fZ v6 l bits hl
  have hMo:=jO v6 l bits
  have hMn:=iZ v6 l bits
  have hMt:(NT v6 l bits).take 18=NT v6 l bits:=List.take_of_length_le (by omega)
  have c1:=aHL v6 v6 l b bits bits hl hb
  unfold mC at c1
  rw[Tryz.underlying79] at c1
  simp only[Bool.and_eq_true] at c1
  have c1:=c1.2
  have e1:iN (NT v6 l bits) (NT v6 b bits)=(l == b):=by rw[aAi v6 v6 l b bits bits hl hb];simp
  simp only at cO
  generalize NT v6 l bits=M at *
  generalize NT v6 b bits=N at *
  refine ke Tryz.func174 Tryz.ntmps174 Tryz.results174 #[4] ?_
  refine kx [1] hNo ?_
  refine kw [] (kI hNl (kI hBt hAt)) fun K hK=>?_
  refine aV hAn cO (by simp[aH,aM,hMn]) ?_
  simp only[seval,kT,hMo,hMl]
  refine hK _ ?_
  clear hK K
  refine kp [1,3,4] ?_
  refine aC fun K hK=>aA [] ?_
  simp only[qq,aF,Nat.reduceLT,aB,Nat.reduceEqDiff,dD,bT,Option.bind_some,aW,dQ,gok,aY,apart,aO,Tryz.underlying79,bD,hMl,hMt,hNl,hNt,aL,bU,cav,aG,aI,aP,aDW,tC,aGG,aDJ,c1,or_true,e1]
  refine hK _ ?_
  clear hK K
  refine aE [2] ?_
  simp only[aD,aB,Nat.reduceEqDiff,if_true,if_false]
  refine aS ?_
  simp only[qq,bR,eU,bN,bO,dA,aB,aH]
theorem xF [Gv] (c:Nat):ACalls Tryz.prog GP 177 [.val (.float .f64 c)] [] (fun r os=>os=[]∧r=.val (.bool (mI c))):=by
 have h:=aMR c
 refine ke Tryz.func177 Tryz.ntmps177 Tryz.results177 #[4] ?_
 refine ks [0] ?_
 refine kx [2] (kI @jU h) ?_
 apply aS
 simp only[seval,kT,kF]
theorem aGW [Gv] (c:Nat) (hc:c<18446744073709551616):ACalls Tryz.prog GP 230 [.val (.float .f64 c)] [] (fun r os=>os=[]∧r=.val (.float .f64 (dX c))):=by
 have h:=zG hc
 refine ke Tryz.func230 Tryz.ntmps230 Tryz.results230 #[27] ?_
 refine ks [0] ?_
 refine kr [] fun K hK=>?_
 refine iT trivial (nE c) ?_
 simp only[seval,kT,h]
 refine iT trivial (oT (c%9223372036854775808)) ?_
 simp only[seval,kT]
 refine hK _ ?_
 clear hK K
 refine kp [2] ?_
 apply aS
 simp only[seval,kT,kF]
 rfl
theorem xE [Gv] (c:Nat) (hc:c<18446744073709551616):ACalls Tryz.prog GP 179 [.val (.float .f64 c),.val (.int .i64 0)] [] (fun r os=>os=[]∧r=.val (.bool (decide (dX c=9218868437227405312)))):=by
 have cA:=aGW c hc
 have h:=aOM (aBL c)
 have hr:dX (dX c)=dX c:=Nat.mod_mod _ _
 rw[hr] at h
 refine ke Tryz.func179 Tryz.ntmps179 Tryz.results179 #[4] ?_
 refine ks [0,1] ?_
 refine aC fun K hK=>?_
 refine kq ?_
 apply bG rfl
 refine ko [] ?_
 refine kc (cA) (hK _ ?_)
 clear hK K
 refine kp [0] ?_
 refine kx [4] (kI @jU h) ?_
 apply aS
 simp only[seval,kT,kF]
theorem aHh [Gv] (c:Nat) (hc:c<18446744073709551616):ACalls Tryz.prog GP 228 [.val (.float .f64 c)] [] (fun r os=>os=[]∧r=.val (.bool (kV c))):=by
 have h:decide (IntKind.i64.wrap (c:Int)<0)=kV c:=by
  unfold kV
  rw[Bool.eq_iff_iff]
  simp[IntKind.wrap,IntKind.bits,IntKind.signed]
  omega
 refine ke Tryz.func228 Tryz.ntmps228 Tryz.results228 #[4] ?_
 refine ks [0] ?_
 refine kr [] fun K hK=>?_
 refine iT trivial (nE c) ?_
 simp only[seval,kT,h]
 refine hK _ ?_
 clear hK K
 refine kp [2] ?_
 apply aS
 simp only[seval,kT,kF]
theorem xK [Gv] (x:Nat) (h0:0<x) (h1:x<9218868437227405312):ACalls Tryz.prog GP 248 [.val (.float .f64 x)] [] (fun r os=>os=[]∧r=.tup [.val (.float .f64 (nrm x)),.val (.int .i64 (aAG x))]):=by
 have cA:=aGW x (by omega)
 rw[gD (by omega)] at cA
 have hs:=aON (x:=x) (by omega)
 have hm:=@aOE x h0
 unfold aAG
 refine ke Tryz.func248 Tryz.ntmps248 Tryz.results248 #[27,3] ?_
 refine ks [0] ?_
 refine aC fun K hK=>?_
 refine kr [] fun K2 hK2=>?_
 refine kv (cA) (kI @jU hs) (hK2 _ ?_)
 clear hK2 K2
 by_cases h:x<4503599627370496
 ·have hd:decide (x<4503599627370496)=true:=decide_eq_true h
  have hm:=hm h
  rw[hd]
  apply bG rfl
  refine kx [2,3] (kI @jU hm) ?_
  refine aS ?_
  simp only[seval,kT]
  simp only[seval,kT,kF]
  rw[if_pos h]
 ·have hd:decide (x<4503599627370496)=false:=decide_eq_false h
  rw[hd]
  refine aR rfl (bC ?_)
  simp only[seval,kT]
  refine hK _ ?_
  clear hK K
  refine kp [0] ?_
  refine ks [2,3] ?_
  refine aS ?_
  simp only[seval,kT,kF]
  rw[if_neg h]
  unfold nrm
  rw[if_neg h]
theorem aQp [Gv] (y:Nat) (h:y/4503599627370496<2048):bits .and .u64 ((y/2^52:Nat):Int) 2047=((y/4503599627370496:Nat):Int):=by
 rw[show (2047:Int)=((2047:Nat):Int) from rfl,(nM .u64 _ _ uV).1,aFi]
 congr 1
 have e:=Nat.and_two_pow_sub_one_eq_mod (y/4503599627370496) 11
 rw[show (2:Nat)^11 - 1=2047 from rfl,show (2:Nat)^11=2048 from rfl] at e
 rw[e,Nat.mod_eq_of_lt h]
 exact Nat.mod_eq_of_lt (by rw[show IntKind.u64.bits=64 from rfl,nH];omega)
theorem aJV [Gv] (x:Nat) (h0:0<x) (h1:x<9218868437227405312):ACalls Tryz.prog GP 268 [.val (.float .f64 x)] [] (fun r os=>os=[]∧r=.tup [.val (.float .f64 (1021*4503599627370496+sV x)),.val (.int .i64 (aAE x+53))]):=by
 have cI:=xE x (by omega)
 have cN:=xF x
 have cZ:=xK x h0 h1
 obtain⟨b1,b2,b3,b4,b5⟩:=aCv h0 h1
 obtain⟨m1,m2⟩:=rU h0
 have hfr:dX x=x:=gD (by omega)
 rw[hfr] at cI
 have hinf:decide (x=9218868437227405312)=false:=decide_eq_false (by omega)
 rw[hinf] at cI
 have hnan:mI x=false:=decide_eq_false (by rw[hfr];omega)
 rw[hnan] at cN
 have hz:=xL x
 rw[hfr,decide_eq_false (by omega)] at hz
 have hE:aAG x=-52∨aAG x=0:=by unfold aAG;split<;>simp
 generalize aAG x=E at *
 generalize nrm x=y at *
 refine ke Tryz.func268 Tryz.ntmps268 Tryz.results268 #[27,3] ?_
 refine ks [0] ?_
 refine aC fun K hK=>?_
 apply bK
 refine ky (kI @jU hz) ?_
 apply aR rfl
 refine kp [0] ?_
 refine kr [] fun K2 hK2=>?_
 refine kc (cI) ?_
 refine kc (cN) (hK2 _ ?_)
 clear hK2 K2
 refine aR rfl (bC ?_)
 simp only[seval,kT,kF]
 refine hK _ ?_
 clear hK K
 refine kp [0] ?_
 refine aC fun K hK=>aA [] ?_
 simp only[qq,Nat.reduceMul,aF,Nat.reduceLT,aB,aU,Nat.reduceAdd,reduceCtorEq,bF,aT,bA,aH]
 refine aV (by simp[aJ,aM,aH]) (cZ) (by simp[aH,aM,aJ,flat]) ?_
 simp only[qq,aK,aF,Nat.reduceLT,aB,Nat.reduceEqDiff,reduceCtorEq,gW,aG,aI]
 refine hK _ ?_
 clear hK K
 refine aE [0,3] ?_
 simp only[aD,aB,Nat.reduceEqDiff,if_true,if_false]
 refine aC fun K hK=>aA [] ?_
 simp only[qq,Nat.reduceMul,aF,Nat.reduceLT,aB,reduceCtorEq,aU,Nat.reduceAdd,Nat.reduceEqDiff,bF,aT,bA,aH]
 refine iT trivial (nE y) ?_
 simp only[qq,aK,aF,Nat.reduceLT,aB,Nat.reduceEqDiff,reduceCtorEq,aG,aI]
 refine hK _ ?_
 clear hK K
 refine aE [3,4] ?_
 simp only[aD,aB,Nat.reduceEqDiff,if_true,if_false]
 refine aC fun K hK=>aA [] ?_
 obtain⟨q,hqq,hq⟩:∃ q,y/4503599627370496=q∧bits .and .u64 ((y/2^52:Nat):Int) 2047=(q:Int):=⟨_,rfl,aQp y (by omega)⟩
 rw[hqq] at b4 b5
 have w1:IntKind.i64.wrap ((q:Nat):Int)=(q:Int):=fD (by omega)
 have w2:IntKind.i64.wrap ((q:Int) - 1023)=(q:Int) - 1023:=lY (by omega) (by omega)
 have w3:IntKind.i64.wrap ((q:Int) - 1023+1)=(q:Int) - 1023+1:=lY (by omega) (by omega)
 have w4:IntKind.i64.wrap (E+((q:Int) - 1023+1))=aAE x+53:=by
  rw[lY (by omega) (by omega)];omega
 simp only[qq,Nat.reduceMul,aF,Nat.reduceLT,aB,Nat.reduceEqDiff,cav,aL,aP,bH,Int.reduceLE,Int.reduceToNat,IntKind.bits,Nat.min_def,Nat.reduceLeDiff,rV,hq,eL,Tryz.underlying3,eG,bA,aH,fF,Tryz.underlying30,Option.isSome_some,w1,w2,w3,w4,aG,aI]
 refine hK _ ?_
 clear hK K
 refine aE [3,4] ?_
 simp only[aD,aB,Nat.reduceEqDiff,if_true,if_false]
 have ha:bits .andNot .u64 (y:Int) 9218868437227405312=((y%4503599627370496:Nat):Int):=aAq (by omega)
 refine aC fun K hK=>aA [] ?_
 simp only[qq,Nat.reduceMul,aF,Nat.reduceLT,aB,Nat.reduceEqDiff,cav,aL,aP,bH,ha,aG,aI]
 (repeat' apply And.intro)<;>try (first|exact True.intro|omega)
 refine hK _ ?_
 clear hK K
 refine aE [3,4] ?_
 simp only[aD,aB,Nat.reduceEqDiff,if_true,if_false]
 have ho:bits .or .u64 ((y%4503599627370496:Nat):Int) 4602678819172646912=((1021*4503599627370496+sV x:Nat):Int):=by
  have h1:=aHP 1022 (y%4503599627370496) (Nat.mod_lt _ (by decide)) (by omega)
  have e:((1022*4503599627370496:Nat):Int)=4602678819172646912:=by omega
  rw[e] at h1
  have e2:1022*4503599627370496+y%4503599627370496=1021*4503599627370496+sV x:=by omega
  rw[e2] at h1
  exact h1
 refine aC fun K hK=>aA [] ?_
 simp only[qq,Nat.reduceMul,aF,Nat.reduceLT,aB,Nat.reduceEqDiff,cav,aL,aP,bH,ho,aG,aI]
 (repeat' apply And.intro)<;>try (first|exact True.intro|omega)
 refine hK _ ?_
 clear hK K
 refine aE [3,4] ?_
 simp only[aD,aB,Nat.reduceEqDiff,if_true,if_false]
 refine aC fun K hK=>aA [] ?_
 simp only[qq,Nat.reduceMul,aF,Nat.reduceLT,aB,Nat.reduceEqDiff,aU,Nat.reduceAdd,bF,aT,bA,aH]
 refine iT trivial (oT _) ?_
 simp only[qq,aK,aF,Nat.reduceLT,aB,Nat.reduceEqDiff,aG,aI]
 refine hK _ ?_
 clear hK K
 refine aE [2,3] ?_
 simp only[aD,aB,Nat.reduceEqDiff,if_true,if_false]
 refine aS ?_
 simp only[qq,Nat.reduceMul,bR,eU,bN,bO,dA,aB,Nat.reduceEqDiff,aH]
theorem aLd [Gv] (x:Nat) (h0:0<x) (h1:x<9218868437227405312):ACalls Tryz.prog GP 229 [.val (.float .f64 x)] [] (fun r os=>os=[]∧r=.tup [.val (.float .f64 (1021*4503599627370496+sV x)),.val (.int .i64 (aAE x+53))]):=by
 have cF:=aJV x h0 h1
 generalize 1021*4503599627370496+sV x=m at *
 generalize aAE x+53=e at *
 refine ke Tryz.func229 Tryz.ntmps229 Tryz.results229 #[27,3] ?_
 refine ks [0] ?_
 refine aC fun K hK=>?_
 have hc:∀ (x y:Code) (st:St) (Q:Exit→St→Prop),awp Tryz.prog GP y st Q→awp Tryz.prog GP (.cond (.const (.bool false)) x y) st Q:=fun x y st Q h E a hr=>wp_cond_false rfl (h E a hr)
 refine hc _ _ _ _ (bC ?_)
 simp only[seval,kT]
 refine hK _ ?_
 clear hK K
 refine kr [] fun K hK=>?_
 refine kc (cF) (hK _ ?_)
 clear hK K
 refine aE [2,3] ?_
 simp only[aD,aB,Nat.reduceEqDiff,if_true,if_false]
 refine aS ?_
 simp only[seval,kT,kF]
theorem aBD [Gv] {b:Bool} {x y:Code} {st:St} {Q:Exit→St→Prop} (h:awp Tryz.prog GP (if b then x else y) st Q):awp Tryz.prog GP (.cond (.const (.bool b)) x y) st Q:=fun E a hr=>wp_cond rfl (h E a hr)
theorem aPN [Gv] (q:Nat) (h:q<2048):bits .and .i64 (q:Int) 2047=(q:Int):=by
 have e:=Nat.and_two_pow_sub_one_eq_mod q 11
 rw[show (2:Nat)^11 - 1=2047 from rfl,show (2:Nat)^11=2048 from rfl,Nat.mod_eq_of_lt h] at e
 rw[show (2047:Int)=((2047:Nat):Int) from rfl]
 simp only[bits,BitVec.ofInt_natCast,BitVec.toNat_and,BitVec.toNat_ofNat]
 have hb:IntKind.i64.bits=64:=rfl
 rw[hb,nH,Nat.mod_eq_of_lt (by omega:q<18446744073709551616),Nat.mod_eq_of_lt (by decide:2047<18446744073709551616),e]
 exact fD (by omega)
theorem aPV [Gv]:ACalls Tryz.prog GP 126 [.val (.int .i64 1)] [] (fun r os=>os=[]∧r=.val (.float .f64 9218868437227405312)):=by
 refine ke Tryz.func126 Tryz.ntmps126 Tryz.results126 #[27] ?_
 refine ks [0] ?_
 refine ks [0,3] ?_
 refine aC fun K hK=>?_
 refine ky @decide_true ?_
 refine bG rfl ?_
 refine ko [] ?_
 refine hK _ ?_
 clear hK K
 refine kp [3] ?_
 refine kr [] fun K hK=>?_
 refine iT trivial (oT 9218868437227405312) ?_
 simp only[seval,kT]
 refine hK _ ?_
 clear hK K
 refine kp [2] ?_
 refine aS ?_
 simp only[qq,bR,eU,bN,bO,dA,aB,aH]
theorem aDw [Gv] (y:Nat) (h:y<9223372036854775808):ACalls Tryz.prog GP 127 [.val (.float .f64 0),.val (.float .f64 y)] [] (fun r os=>os=[]∧r=.val (.float .f64 0)):=by
 have h1:bits .andNot .u64 0 9223372036854775808=0:=by
  have:=zG (a:=0) (by decide)
  simpa using this
 have h2:bits .and .u64 (y:Int) 9223372036854775808=0:=by
  rw[show (9223372036854775808:Int)=((2^63:Nat):Int) from rfl,(nM .u64 _ _ uV).1,aID (by rw[aMY];exact h)]
  rfl
 have h3:bits .or .u64 0 0=0:=by decide
 refine ke Tryz.func127 Tryz.ntmps127 Tryz.results127 #[27] ?_
 refine ks [0,1] ?_
 refine kr [] fun K hK=>?_
 refine iT trivial (nE 0) ?_
 simp only[seval,kT]
 refine iT trivial (nE y) ?_
 simp only[seval,kT,h1,h2,h3]
 refine iT trivial (oT 0) ?_
 simp only[seval,kT]
 refine hK _ ?_
 clear hK K
 refine aE [4] ?_
 simp only[aD,aB,Nat.reduceEqDiff,if_true,if_false]
 refine aS ?_
 simp only[qq,bR,eU,bN,bO,dA,aB,aH]
theorem aOr [Gv] (x:Nat) (h0:0<x) (h1:x<18446744073709551616):ACalls Tryz.prog GP 231 [.val (.int .u64 (x:Int))] [] (fun r os=>os=[]∧r=.val (.int .i64 ((Lib.ctz 64 x:Nat):Int))):=by
 obtain⟨hlow,hk⟩:=Lib.lowest_bit 64 x (by omega) h1
 obtain⟨hi,htab⟩:=Lib.deBruijn64_at _ hk
 have hkey:=Go.Proofs.tz64_key x _ h1 (by omega) hlow
 have hz:((x:Int) == 0)=false:=by simp;omega
 refine ke Tryz.func231 Tryz.ntmps231 Tryz.results231 #[3] ?_
 refine ks [0] ?_
 refine aC fun K hK=>?_
 refine ky hz ?_
 refine aR rfl (bC ?_)
 simp only[aI]
 refine hK _ ?_
 clear hK K
 refine kp [0] ?_
 obtain⟨I,hI⟩:∃ I,2^Lib.ctz 64 x*285870213051353865%18446744073709551616/288230376151711744=I:=⟨_,rfl⟩
 rw[hI] at hi htab hkey
 have hl:aHl.length=64:=rfl
 have hI64:I<64:=hi
 have hI2:0<64 - I:=by omega
 have hI3:I≤64:=by omega
 have hv:(IntKind.u64.wrap (bits BinOp.and IntKind.u64 (x:Int) (IntKind.u64.wrap (0 - (x:Int)))*285870213051353865)).fdiv (2^58)=(I:Int):=by
  rw[show (0:Int) - (x:Int)=-(x:Int) by omega,Int.fdiv_eq_ediv_of_nonneg _ (by decide)]
  exact hkey
 have htB:∀ j:Fin 64,aHl.getD j.val 0=((Lib.deBruijn64tab.getD j.val 0:Nat):Int):=by decide
 have htI:aHl.getD I 0=((Lib.ctz 64 x:Nat):Int):=by rw[htB ⟨I,hI64⟩];exact congrArg _ htab
 have hw:IntKind.i64.wrap ((Lib.ctz 64 x:Nat):Int)=((Lib.ctz 64 x:Nat):Int):=fD (by omega)
 refine aC fun K hK=>aA [] ?_
 simp only[qq,aF,Nat.reduceLT,aB,reduceCtorEq,aun,Nat.reduceEqDiff,aL,cav,dN,Tryz.underlying336,gp2,bD,Int.cast_ofNat_Int,Nat.mul_one,dZ,hl,mS,aY,apart,aO,Tryz.underlying5,eL,Tryz.underlying3,eG,bA,bW,fF,Option.isSome_some,aG,aI,aP,bH,Int.reduceLE,Int.reduceToNat,IntKind.bits,Nat.min_def,Nat.reduceLeDiff,hv,Int.toNat_natCast,hI3,List.length_drop,hI2,aTv,fL,htI,aQL,hw]
 refine⟨⟨Int.natCast_nonneg _,Int.ofNat_lt.2 hI64⟩,hK _ ?_⟩
 clear hK K
 refine kp [2] ?_
 refine aS ?_
 simp only[qq,bR,eU,bN,bO,dA,aB,aH]
def qU (y:Nat) (ex:Int):Nat:=
 if ex < -1075 then 0 else if 1023<ex then 9218868437227405312
 else if ex < -1022 then (Ieee.double.mul 4368491638549381120 ((ex+1076).toNat*4503599627370496+y%4503599627370496)).getD 0
 else (ex+1023).toNat*4503599627370496+y%4503599627370496
def vW (x:Nat) (e:Int):Int:=IntKind.i64.wrap (IntKind.i64.wrap (e+aAG x)+(((nrm x/4503599627370496:Nat):Int) - 1023))
theorem aIa [Gv] (n:Nat) (h:n≤2047):IntKind.u64.wrap ((n:Int)*2^52)=((n*4503599627370496:Nat):Int):=by
 have:(n:Int)*2^52=((n*4503599627370496:Nat):Int):=by omega
 rw[this]
 exact uV _ (by rw[show IntKind.u64.bits=64 from rfl,nH];omega)
theorem aJZ [Gv] (x:Nat) (h0:0<x) (h1:x<9218868437227405312) (e:Int):ACalls Tryz.prog GP 195 [.val (.float .f64 x),.val (.int .i64 e)] [] (fun r os=>os=[]∧r=.val (.float .f64 (qU (nrm x) (vW x e)))):=by
 have cI:=xE x (by omega)
 have cN:=xF x
 have cZ:=xK x h0 h1
 obtain⟨b1,b2,b3,b4,b5⟩:=aCv h0 h1
 have hfr:dX x=x:=gD (by omega)
 rw[hfr] at cI
 have hinf:decide (x=9218868437227405312)=false:=decide_eq_false (by omega)
 rw[hinf] at cI
 have hnan:mI x=false:=decide_eq_false (by rw[hfr];omega)
 rw[hnan] at cN
 have hz:=xL x
 rw[hfr,decide_eq_false (by omega)] at hz
 unfold vW
 generalize aAG x=E at *
 generalize nrm x=y at *
 refine ke Tryz.func195 Tryz.ntmps195 Tryz.results195 #[27] ?_
 refine ks [0,1] ?_
 refine aC fun K hK=>?_
 apply bK
 refine ky (kI @jU hz) ?_
 apply aR rfl
 refine kp [0,1] ?_
 refine kr [] fun K2 hK2=>?_
 refine aV (by simp[aJ,aM,aH,eC,fC]) (cI) (by simp[aH,aM,aJ,flat,eC,fC]) ?_
 simp only[seval,kT]
 refine aV (by simp[aJ,aM,aH,eC,fC]) (cN) (by simp[aH,aM,aJ,flat,eC,fC]) ?_
 simp only[seval,kT]
 refine hK2 _ ?_
 clear hK2 K2
 refine aR rfl (bC ?_)
 simp only[seval,kT,kF]
 refine hK _ ?_
 clear hK K
 refine kp [0,1] ?_
 refine kr [] fun K hK=>?_
 refine aV (by simp[aJ,aM,aH,eC,fC]) (cZ) (by simp[aH,aM,aJ,flat,eC,fC]) ?_
 simp only[seval,kT]
 refine hK _ ?_
 clear hK K
 refine kp [0,1,5] ?_
 refine ks [0,1] ?_
 refine kr [] fun K hK=>?_
 refine iT trivial (nE y) ?_
 simp only[seval,kT]
 refine hK _ ?_
 clear hK K
 refine aE [0,1,6] ?_
 simp only[aD,aB,Nat.reduceEqDiff,if_true,if_false]
 obtain⟨q,hqq⟩:∃ q,y/4503599627370496=q:=⟨_,rfl⟩
 have w0:IntKind.i64.wrap ((y/2^52:Nat):Int)=(q:Int):=by
  rw[aFi,hqq];exact fD (by omega)
 have hq:bits .and .i64 (q:Int) 2047=(q:Int):=aPN q (by omega)
 have w2:IntKind.i64.wrap ((q:Int) - 1023)=(q:Int) - 1023:=lY (by omega) (by omega)
 rw[hqq]
 refine aC fun K hK=>aA [] ?_
 simp only[qq,aF,Nat.reduceLT,aB,reduceCtorEq,Nat.reduceEqDiff,cav,aL,aP,bH,Int.reduceLE,Int.reduceToNat,IntKind.bits,Nat.min_def,Nat.reduceLeDiff,rV,eL,Tryz.underlying3,eG,bA,aH,fF,Tryz.underlying30,Option.isSome_some,w0,hq,w2,aG,aI]
 (repeat' apply And.intro)<;>try (first|exact True.intro|omega)
 refine hK _ ?_
 clear hK K
 generalize IntKind.i64.wrap (IntKind.i64.wrap (e+E)+((q:Int) - 1023))=ex at *
 refine aE [0,1,6] ?_
 simp only[aD,aB,Nat.reduceEqDiff,if_true,if_false]
 refine aC fun K hK=>?_
 by_cases c1:ex < -1075
 ·have d1:decide (ex < -1075)=true:=decide_eq_true c1
  have cC:=aDw y (by omega)
  have hr:qU y ex=0:=by unfold qU;rw[if_pos c1]
  refine aC fun K hK=>aA [] ?_
  simp only[qq,aF,Nat.reduceLT,aB,reduceCtorEq,Nat.reduceEqDiff,cav,aL,aP,bH,d1,aG,aI]
  (repeat' apply And.intro)<;>try (first|exact True.intro|omega)
  refine hK _ ?_
  clear hK K
  refine bG rfl ?_
  refine kp [0] ?_
  refine kr [] fun K2 hK2=>?_
  refine aV (by simp[aJ,aM,aH,eC,fC]) (cC) (by simp[aH,aM,aJ,flat,eC,fC]) ?_
  simp only[seval,kT]
  refine hK2 _ ?_
  clear hK2 K2
  refine aE [4] ?_
  simp only[aD,aB,Nat.reduceEqDiff,if_true,if_false]
  refine aS ?_
  simp only[aI]
  simp only[qq,bR,eU,bN,bO,dA,aB,aH]
  rw[hr]
 have d1:decide (ex < -1075)=false:=decide_eq_false c1
 refine aC fun K hK=>aA [] ?_
 simp only[qq,aF,Nat.reduceLT,aB,reduceCtorEq,Nat.reduceEqDiff,cav,aL,aP,bH,d1,aG,aI]
 (repeat' apply And.intro)<;>try (first|exact True.intro|omega)
 refine hK _ ?_
 clear hK K
 refine aR rfl (bC ?_)
 simp only[aI]
 refine hK _ ?_
 clear hK K
 refine aE [0,1,6] ?_
 simp only[aD,aB,Nat.reduceEqDiff,if_true,if_false]
 refine aC fun K hK=>?_
 by_cases c2:1023<ex
 ·have d2:decide (ex > 1023)=true:=decide_eq_true c2
  have hr:qU y ex=9218868437227405312:=by unfold qU;rw[if_neg c1,if_pos c2]
  refine ky d2 ?_
  refine bG rfl ?_
  refine kp [0] ?_
  have hlt:(Ieee.double.order y 0 == some .lt)=false:=by
   rw[aHR]
   have:¬ (gX y<gX 0):=by
    have h0:gX 0=0:=by decide
    rw[h0]
    unfold gX
    rw[mJ (x:=y) (by omega)]
    simp only[sE,Bool.false_eq_true,if_false]
    omega
   unfold vU
   rw[decide_eq_false this,Bool.and_false]
  refine aC fun K2 hK2=>?_
  refine ky (kI @jU hlt) ?_
  refine aR rfl (bC ?_)
  simp only[aI]
  refine hK2 _ ?_
  clear hK2 K2
  refine kr [] fun K2 hK2=>?_
  refine aV (by simp[aJ,aM,aH,eC,fC]) (aPV) (by simp[aH,aM,aJ,flat,eC,fC]) ?_
  simp only[seval,kT]
  refine hK2 _ ?_
  clear hK2 K2
  refine aE [4] ?_
  simp only[aD,aB,Nat.reduceEqDiff,if_true,if_false]
  refine aS ?_
  simp only[aI]
  simp only[qq,bR,eU,bN,bO,dA,aB,aH]
  rw[hr]
 have d2:decide (ex > 1023)=false:=decide_eq_false c2
 refine ky d2 ?_
 refine aR rfl (bC ?_)
 simp only[aI]
 refine hK _ ?_
 clear hK K
 refine aE [0,1,6] ?_
 simp only[aD,aB,Nat.reduceEqDiff,if_true,if_false]
 refine ks [1,6,7] ?_
 refine aC fun K hK=>?_
 have ha:bits .andNot .u64 (y:Int) 9218868437227405312=((y%4503599627370496:Nat):Int):=aAq (by omega)
 have hmod:y%4503599627370496<4503599627370496:=Nat.mod_lt _ (by decide)
 by_cases c3:ex < -1022
 ·have d3:decide (ex < -1022)=true:=decide_eq_true c3
  have w5:IntKind.i64.wrap (ex+53)=ex+53:=lY (by omega) (by omega)
  refine ky d3 ?_
  refine bG rfl ?_
  refine kx [1,6] w5 ?_
  refine ko [] ?_
  refine hK _ ?_
  clear hK K
  refine kp [1,6,7] ?_
  refine aC fun K hK=>aA [] ?_
  simp only[qq,aF,Nat.reduceLT,aB,Nat.reduceEqDiff,cav,aL,aP,bH,ha,aG,aI]
  (repeat' apply And.intro)<;>try (first|exact True.intro|omega)
  refine hK _ ?_
  clear hK K
  refine aE [1,6,7] ?_
  simp only[aD,aB,Nat.reduceEqDiff,if_true,if_false]
  obtain⟨n,hn,hn2⟩:∃ n:Nat,ex+1076=(n:Int)∧n≤54:=⟨(ex+1076).toNat,by omega,by omega⟩
  have w6:IntKind.i64.wrap (ex+53+1023)=(n:Int):=by rw[lY (by omega) (by omega)];omega
  have w7:IntKind.u64.wrap (n:Int)=(n:Int):=uV _ (by rw[show IntKind.u64.bits=64 from rfl,nH];omega)
  have w8:=aIa n (by omega)
  have ho:=aHP n (y%4503599627370496) hmod (by omega)
  have hr:qU y ex=(Ieee.double.mul 4368491638549381120 (n*4503599627370496+y%4503599627370496)).getD 0:=by
   unfold qU
   rw[if_neg c1,if_neg c2,if_pos c3,hn,Int.toNat_natCast]
  refine aC fun K hK=>aA [] ?_
  simp only[qq,aF,Nat.reduceLT,aB,Nat.reduceEqDiff,cav,aL,aP,bH,w6,eL,Tryz.underlying30,eG,bA,aH,fF,Tryz.underlying3,Option.isSome_some,w7,Int.reduceLE,Int.reduceToNat,IntKind.bits,Nat.min_def,Nat.reduceLeDiff,w8,ho,aG,aI]
  (repeat' apply And.intro)<;>try (first|exact True.intro|omega)
  refine hK _ ?_
  clear hK K
  refine aE [6,7] ?_
  simp only[aD,aB,Nat.reduceEqDiff,if_true,if_false]
  refine aC fun K hK=>aA [] ?_
  simp only[qq,aF,Nat.reduceLT,aB,Nat.reduceEqDiff,aU,Nat.reduceAdd,bF,aT,bA,aH]
  refine iT trivial (oT _) ?_
  simp only[qq,aK,aF,aB,Nat.reduceEqDiff,aL,aP,rH,jU,Nat.reduceLT,aG,aI]
  refine⟨?_,hK _ ?_⟩
  ·rw[aEJ _ _ (by decide) (by rw[gD (x:=n*4503599627370496+y%4503599627370496) (by omega)];omega)]
   rfl
  clear hK K
  refine aE [4] ?_
  simp only[aD,aB,Nat.reduceEqDiff,if_true,if_false]
  refine aS ?_
  simp only[qq,bR,eU,bN,bO,dA,aB,aH]
  rw[hr]
 ·have d3:decide (ex < -1022)=false:=decide_eq_false c3
  refine ky d3 ?_
  refine aR rfl (bC ?_)
  simp only[aI]
  refine hK _ ?_
  clear hK K
  refine kp [1,6,7] ?_
  refine aC fun K hK=>aA [] ?_
  simp only[qq,aF,Nat.reduceLT,aB,Nat.reduceEqDiff,cav,aL,aP,bH,ha,aG,aI]
  (repeat' apply And.intro)<;>try (first|exact True.intro|omega)
  refine hK _ ?_
  clear hK K
  refine aE [1,6,7] ?_
  simp only[aD,aB,Nat.reduceEqDiff,if_true,if_false]
  obtain⟨n,hn,hn2,hn3⟩:∃ n:Nat,ex+1023=(n:Int)∧n≤2046∧1≤n:=⟨(ex+1023).toNat,by omega,by omega,by omega⟩
  have w6:IntKind.i64.wrap (ex+1023)=(n:Int):=by rw[lY (by omega) (by omega)];omega
  have w7:IntKind.u64.wrap (n:Int)=(n:Int):=uV _ (by rw[show IntKind.u64.bits=64 from rfl,nH];omega)
  have w8:=aIa n (by omega)
  have ho:=aHP n (y%4503599627370496) hmod (by omega)
  have hr:qU y ex=n*4503599627370496+y%4503599627370496:=by
   unfold qU
   rw[if_neg c1,if_neg c2,if_neg c3,hn,Int.toNat_natCast]
  have hm:=mul_one (y:=n*4503599627370496+y%4503599627370496) (by omega) (by omega)
  refine aC fun K hK=>aA [] ?_
  simp only[qq,aF,Nat.reduceLT,aB,Nat.reduceEqDiff,cav,aL,aP,bH,w6,eL,Tryz.underlying30,eG,bA,aH,fF,Tryz.underlying3,Option.isSome_some,w7,Int.reduceLE,Int.reduceToNat,IntKind.bits,Nat.min_def,Nat.reduceLeDiff,w8,ho,aG,aI]
  (repeat' apply And.intro)<;>try (first|exact True.intro|omega)
  refine hK _ ?_
  clear hK K
  refine aE [6,7] ?_
  simp only[aD,aB,Nat.reduceEqDiff,if_true,if_false]
  refine aC fun K hK=>aA [] ?_
  simp only[qq,aF,Nat.reduceLT,aB,Nat.reduceEqDiff,aU,Nat.reduceAdd,bF,aT,bA,aH]
  refine iT trivial (oT _) ?_
  simp only[qq,aK,aF,aB,Nat.reduceEqDiff,aL,aP,rH,jU,hm,Option.isSome_some,Option.getD_some,Nat.reduceLT,aG,aI]
  refine hK _ ?_
  clear hK K
  refine aE [4] ?_
  simp only[aD,aB,Nat.reduceEqDiff,if_true,if_false]
  refine aS ?_
  simp only[qq,bR,eU,bN,bO,dA,aB,aH]
  rw[hr]
theorem aOY [Gv] {M:Nat} (h1:4503599627370496≤M) (h2:M<9007199254740992):(FloatKind.f64.decode (1074*4503599627370496+M)).toInt .zero=some (M:Int):=by
 obtain⟨e1,e2⟩:=xQ (k:=1074) h1 h2
 have hs:1074*4503599627370496+M<9223372036854775808:=by omega
 have hr:FloatKind.f64.decode (1074*4503599627370496+M)=Ieee.double.read (1074*4503599627370496+M):=rfl
 rw[hr,nI (by rw[gD hs];omega),gD hs,mJ hs,e1,e2]
 have hc:=yL Ieee.Toward.zero false M 0 (.inr rfl)
 simp only[Nat.pow_zero,Nat.mul_one] at hc
 unfold Ieee.Datum.toInt Ieee.Datum.integral
 have z0:(-1074+((1074:Nat):Int))=0:=rfl
 rw[z0]
 simp only[seval,Int.neg_zero,Nat.shiftLeft_zero,Int.toNat_zero]
 rw[yZ,hc]
 simp[sE]
theorem aLu [Gv] (x:Nat) (h0:0<x) (h1:x<9218868437227405312) (e:Int):ACalls Tryz.prog GP 125 [.val (.float .f64 x),.val (.int .i64 e)] [] (fun r os=>os=[]∧r=.val (.float .f64 (qU (nrm x) (vW x e)))):=by
 have cL:=aJZ x h0 h1 e
 generalize qU (nrm x) (vW x e)=y at *
 refine ke Tryz.func125 Tryz.ntmps125 Tryz.results125 #[27] ?_
 refine ks [0,1] ?_
 refine aC fun K hK=>?_
 refine aBD (bC ?_)
 simp only[seval,kT]
 refine hK _ ?_
 clear hK K
 refine kr [] fun K hK=>?_
 refine kc (cL) (hK _ ?_)
 clear hK K
 refine kp [4] ?_
 apply aS
 simp only[seval,kT,kF]
theorem aNx [Gv] {M:Nat} (h1:4503599627370496≤M) (h2:M<9007199254740992):qU (nrm (1021*4503599627370496+M)) (vW (1021*4503599627370496+M) 53)=1074*4503599627370496+M:=by
 have hn:nrm (1021*4503599627370496+M)=1021*4503599627370496+M:=by unfold nrm;rw[if_neg (by omega)]
 have he:aAG (1021*4503599627370496+M)=0:=by unfold aAG;rw[if_neg (by omega)]
 have hd:(1021*4503599627370496+M)/4503599627370496=1022:=by omega
 have hm:(1021*4503599627370496+M)%4503599627370496=M - 4503599627370496:=by omega
 have hE:vW (1021*4503599627370496+M) 53=52:=by
  unfold vW
  rw[he,hn,hd]
  decide
 rw[hE,hn]
 unfold qU
 rw[if_neg (by decide),if_neg (by decide),if_neg (by decide),hm]
 have:((52:Int)+1023).toNat=1075:=by decide
 rw[this]
 omega
def kH (x:Nat):Nat:=if dX x=0∨9218868437227405312≤dX x then 0 else sV (dX x)/2^Lib.ctz 64 (sV (dX x))
def jR (x:Nat):Int:=if dX x=0∨9218868437227405312≤dX x then 0 else aAE (dX x)+(Lib.ctz 64 (sV (dX x)):Nat)
def rL (x:Nat):Bool:=!mI x&&kV x
theorem aBR [Gv] {r:Nat} (h0:0<r) (h1:r<9218868437227405312):-1126≤aAE r∧aAE r≤971:=by
 unfold aAE
 split
 ·have:=(pP h0 (by omega)).1
  omega
 ·omega
theorem aMU [Gv] (x:Nat) (hx:x<18446744073709551616):ACalls Tryz.prog GP 178 [.val (.float .f64 x)] [] (fun r os=>os=[]∧r=.tup [.val (.bool (rL x)),.val (.int .u64 ((kH x:Nat):Int)),.val (.int .i64 (jR x))]):=by
 have cN:=xF x
 have cS:=aHh x hx
 have cI:=xE x hx
 have cA:=aGW x hx
 have hz:=xL x
 refine ke Tryz.func178 Tryz.ntmps178 Tryz.results178 #[4,30,3] ?_
 refine ks [0,2,3,4] ?_
 refine aC fun K hK=>?_
 refine kr [] fun K2 hK2=>?_
 refine kc (cN) (hK2 _ ?_)
 clear hK2 K2
 by_cases c1:9218868437227405312<dX x
 ·have e1:mI x=true:=decide_eq_true c1
  have r1:rL x=false:=by unfold rL;rw[e1];rfl
  have r2:kH x=0:=if_pos (.inr (by omega))
  have r3:jR x=0:=if_pos (.inr (by omega))
  rw[e1]
  apply bG rfl
  refine kp [0] ?_
  refine kq ?_
  apply aS
  simp only[seval,kT]
  simp only[seval,kT,kF]
  rw[r1,r2,r3]
  rfl
 have e1:mI x=false:=decide_eq_false c1
 have r1:rL x=kV x:=by unfold rL;rw[e1];rfl
 rw[e1]
 refine aR rfl (bC ?_)
 simp only[seval,kT]
 refine hK _ ?_
 clear hK K
 refine kp [0,2,3,4] ?_
 refine kr [] fun K hK=>?_
 refine kc (cS) (hK _ ?_)
 clear hK K
 refine kp [0,2,3,4] ?_
 refine aC fun K hK=>?_
 by_cases c2:dX x=0
 ·have r2:kH x=0:=if_pos (.inl c2)
  have r3:jR x=0:=if_pos (.inl c2)
  rw[c2] at hz
  refine ky (kI @jU (kI hz @decide_true)) ?_
  apply bG rfl
  refine kp [2] ?_
  refine kq ?_
  apply aS
  simp only[seval,kT]
  simp only[seval,kT,kF]
  rw[r1,r2,r3]
  rfl
 have e2:decide (dX x=0)=false:=decide_eq_false c2
 rw[e2] at hz
 refine kw [] (kI @jU hz) fun K2 hK2=>?_
 refine kc (cI) (hK2 _ ?_)
 clear hK2 K2
 by_cases c3:dX x=9218868437227405312
 ·have r2:kH x=0:=if_pos (.inr (by omega))
  have r3:jR x=0:=if_pos (.inr (by omega))
  have e3:decide (dX x=9218868437227405312)=true:=decide_eq_true c3
  rw[e3]
  apply bG rfl
  refine kp [2] ?_
  refine kq ?_
  apply aS
  simp only[seval,kT]
  simp only[seval,kT,kF]
  rw[r1,r2,r3]
  rfl
 have e3:decide (dX x=9218868437227405312)=false:=decide_eq_false c3
 rw[e3]
 refine aR rfl (bC ?_)
 simp only[seval,kT]
 refine hK _ ?_
 clear hK K
 have p0:0<dX x:=by omega
 have p1:dX x<9218868437227405312:=by omega
 have cF:=aLd (dX x) p0 p1
 obtain⟨m1,m2⟩:=rU p0
 obtain⟨x1,x2⟩:=aBR p0 p1
 have r2:kH x=sV (dX x)/2^Lib.ctz 64 (sV (dX x)):=if_neg (by omega)
 have r3:jR x=aAE (dX x)+(Lib.ctz 64 (sV (dX x)):Nat):=if_neg (by omega)
 rw[r1,r2,r3]
 generalize sV (dX x)=M at *
 generalize aAE (dX x)=E at *
 have cL:=aLu (1021*4503599627370496+M) (by omega) (by omega) 53
 rw[aNx m1 m2] at cL
 have cT:=aOr M (by omega) (by omega)
 have hk:Lib.ctz 64 M<64:=(Lib.lowest_bit 64 M (by omega) (by omega)).2
 have cv:=aOY m1 m2
 refine kp [0,2,3,4] ?_
 refine kr [] fun K hK=>?_
 refine kc (cA) ?_
 refine kc (cF) (hK _ ?_)
 clear hK K
 refine kp [2,3,4,5,6] ?_
 have w1:IntKind.i64.wrap (IntKind.i64.wrap (E+53 - 52) - 1)=E:=by
  rw[lY (n:=E+53 - 52) (by omega) (by omega),lY (by omega) (by omega)]
  omega
 refine kr [] fun K hK=>?_
 refine kv (cL) cv ?_
 refine⟨⟨_,rfl,by have:IntKind.u64.min=0:=rfl;omega,by have:IntKind.u64.max=18446744073709551615:=rfl;omega⟩,?_⟩
 simp only[w1]
 refine hK _ ?_
 clear hK K
 refine kp [2,3,4] ?_
 refine kr [] fun K hK=>?_
 refine kc (cT) (hK _ ?_)
 clear hK K
 refine kp [2,3,4,7] ?_
 have hf:(M:Int).fdiv (2^Lib.ctz 64 M)=((M/2^Lib.ctz 64 M:Nat):Int):=by
  rw[Int.fdiv_eq_ediv_of_nonneg _ (Int.pow_nonneg (by decide)),Int.natCast_ediv,Int.natCast_pow]
  rfl
 have w2:IntKind.i64.wrap (E+((Lib.ctz 64 M:Nat):Int))=E+((Lib.ctz 64 M:Nat):Int):=lY (by omega) (by omega)
 refine aC fun K hK=>?_
 refine kde [] (kI @Int.natCast_nonneg w2) ?_
 refine hK _ ?_
 clear hK K
 refine kp [2,3,4] ?_
 apply aS
 simp only[seval,kT,kF]
 rw[if_pos (by omega:Lib.ctz 64 M≤64),hf]
end Go.Proofs.YtefdnmeopbkflaaGreatDoor
namespace Go.Proofs.YtefdnmeopbkflaaGreatDoor
open Go Go.V
open Go.RowKit (Below)
open Go.Sort (Holds putRow putCells)
set_option linter.unusedSimpArgs false
set_option linter.unusedVariables false
set_option maxRecDepth 20000
theorem aNX [Gv] {E:Env} {l:List UInt8} {vs:List Value} (h:bY E (Bs l) vs):vs=l.map fun b=>Value.int .u8 (b.toNat:Int):=by
 induction l generalizing vs with
 | nil=>simpa[Bs,bY] using h
 | cons c l ih=>
  simp only[Bs,List.map_cons,bY] at h ih ⊢
  obtain⟨v,vs',rfl,h1,h2⟩:=h
  simp only[B,bE] at h1
  rw[h1,ih h2]
theorem aQq [Gv] {w:World} {g o:Nat} {vs:Array Value} {t:TypeId} {fz:Nat×Nat} (h:w.heap[g]? = some (.cells vs t fz)) (hf:aGN vs fz) (ho:o<vs.size):w.frozen? ⟨g,o,none⟩=false:=by
 simp only[World.frozen?,h]
 unfold aGN at hf
 simp
 omega
theorem aBJ [Gv] (l:List UInt8) (off u:Nat) (cap:Option Nat) (h1:off+Lib.nDigits u≤l.length) (hnd:0<Lib.nDigits u) (hu64:u<18446744073709551616) (hl4:l.length≤4096) :
  ACalls Tryz.prog GP 220 [.osl 0 off (Lib.nDigits u) cap,.val (.int .u64 (u:Int))] [.cells (Bs l)] (fun r os=>os=[.cells (Bs (l.take off++Lib.decDigits u++l.drop (off+Lib.nDigits u)))]∧r=.tup []):=by
 refine⟨⟨_,Tryz.func220,rfl,rfl⟩,fun E vs0 hl ho hG=>?_⟩
 simp only[bY,bE] at hl
 obtain⟨_,_,rfl,⟨hk,A,c,rfl,hnc,_,hA⟩,_,_,rfl,rfl,rfl⟩:=hl
 obtain⟨g,hg,rfl⟩:=hA (by omega)
 have hobj:=ho.2.1 0 (.cells (Bs l)) rfl
 have hne:Bs l≠[]:=by
  intro e
  have:=congrArg List.length e
  simp[Bs] at this
  simp[this] at h1
  omega
 obtain h|⟨g',vs,t,fz,e,hh,hfz,hlim,hlen,hrep⟩:=hobj
 ·exact absurd h hne
 rw[hg] at e
 injection e with e
 injection e with e
 injection e with e
 subst e
 have hbl:(Bs l).length=l.length:=by simp[Bs]
 rw[hbl] at hlen hrep
 have hvals:=aNX hrep
 have hcell:∀ i (hi:i<l.length),vs[i]? = some (Value.int .u8 (l[i].toNat:Int)):=fun i hi=>by
  have:=congrArg (fun x=>x[i]?) hvals
  simp only[List.getElem?_take,hi,if_true,List.getElem?_map,List.getElem?_eq_getElem hi,Option.map_some] at this
  simpa using this
 obtain⟨nd,hnd'⟩:∃ nd,Lib.nDigits u=nd:=⟨_,rfl⟩
 have hds:((l.drop off).take nd).toArray.size=nd:=by simp;omega
 have hH:Holds (fun (b:UInt8)=>Value.int .u8 (b.toNat:Int)) E.w g off ((l.drop off).take nd).toArray:=fun j hj=>by
  rw[hds] at hj
  refine⟨?_,aQq hh hfz (by omega)⟩
  rw[World.cell?,hh]
  have:=hcell (off+j) (by omega)
  simp only[this]
  rw[getElem!_pos _ j (by omega)]
  simp
 have hc:=Tryz.internal_strconv_formatBase10 g off c u ((l.drop off).take nd).toArray E.w hH (by rw[hds,← hnd'];exact Lib.lt_pow_nDigits u) hu64 (by omega)
 rw[hds,← hnd'] at hc
 refine hc.mono ?_
 rintro e w' ⟨rfl,n,v',dk,rfl,hF⟩
 have hdk:dk.size=Lib.nDigits u:=hF.size
 have hD:dk.toList=Lib.decDigits u:=by
  apply List.ext_getElem
  ·rw[Lib.decDigits_length];simpa using hdk
  ·intro i hi1 hi2
   rw[Lib.row_is_numeral hF i hi2,getElem!_pos dk i (by simpa using hi1)]
   simp
 have hdl:(Lib.decDigits u).length=Lib.nDigits u:=Lib.decDigits_length u
 have hL:(l.take off++Lib.decDigits u++l.drop (off+Lib.nDigits u)).length=l.length:=by simp[hdl];omega
 obtain⟨L,hLL⟩:∃ L,l.take off++Lib.decDigits u++l.drop (off+Lib.nDigits u)=L:=⟨_,rfl⟩
 rw[hLL] at hL
 have hLi:∀ i (hi:i<l.length),L[i]? = if off≤i∧i<off+dk.size then some dk[i - off]! else l[i]?:=fun i hi=>by
  rw[← hLL,← hD]
  have hdk':dk.toList.length=Lib.nDigits u:=by simpa using hdk
  by_cases c1:i<off
  ·rw[if_neg (by omega),List.append_assoc,List.getElem?_append_left (by simp;omega),List.getElem?_take,if_pos c1]
  ·by_cases c2:i<off+dk.size
   ·rw[if_pos ⟨by omega,c2⟩,List.getElem?_append_left (by simp;omega),List.getElem?_append_right (by simp;omega),List.length_take,Nat.min_eq_left (by omega)]
    rw[List.getElem?_eq_getElem (by simp;omega),getElem!_pos dk _ (by omega)]
    simp
   ·rw[if_neg (by omega),List.getElem?_append_right (by simp;omega),List.getElem?_drop]
    congr 1
    simp
    omega
 have hnew:(putCells (fun (b:UInt8)=>Value.int .u8 (b.toNat:Int)) off dk vs).toList.take L.length=L.map fun b=>Value.int .u8 (b.toNat:Int):=by
  apply List.ext_getElem?
  intro i
  rw[List.getElem?_take]
  by_cases hi:i<L.length
  ·have hi':i<l.length:=by omega
   rw[if_pos hi]
   have e1:(putCells (fun (b:UInt8)=>Value.int .u8 (b.toNat:Int)) off dk vs)[i]? = (vs[i]?).map fun x=>if off≤i∧i<off+dk.size then Value.int .u8 (dk[i - off]!.toNat:Int) else x:=by
    simp only[putCells,Array.getElem?_mapIdx]
   rw[List.getElem?_map,Array.getElem?_toList,e1,hcell i hi',hLi i hi']
   split
   ·rfl
   ·rw[List.getElem?_eq_getElem hi'];rfl
  ·rw[if_neg hi,List.getElem?_eq_none (by simp;omega)]
 have hw:=aDL (E:=E) ho (r:=0) (g:=g) (cs:=Bs l) (cs':=Bs L) rfl hne hg (w':=(putRow (fun (b:UInt8)=>Value.int .u8 (b.toNat:Int)) E.w g off dk).drewN n)
  (cur':=putCells (fun (b:UInt8)=>Value.int .u8 (b.toNat:Int)) off dk vs) (t:=t) (fz:=fz) (by simp) rfl rfl rfl
  (fun j hj=>by simp[putRow,Go.Sort.mapBlock,Array.getElem?_modify,Ne.symm hj])
  (by simp[putRow,Go.Sort.mapBlock,Array.getElem?_modify,hh,Go.Sort.onCells])
  (by unfold aGN at hfz ⊢;simpa[putCells] using hfz) hlim (by simp[putCells,Bs];omega)
  (by intro e;have:=congrArg List.length e;simp[Bs] at this;simp[this] at hL;omega)
  (by
   have:(Bs L).length=L.length:=by simp[Bs]
   rw[this,hnew]
   exact oN _ L)
 refine⟨{ E with w:=(putRow (fun (b:UInt8)=>Value.int .u8 (b.toNat:Int)) E.w g off dk).drewN n },_,.tup [],[.cells (Bs L)],rfl,rfl,⟨by rw[hLL],rfl⟩,⟨[],rfl,rfl⟩,?_,?_⟩
 ·exact hw.1
 ·exact hw.2
section
open Go.Shelf Go.RowKit Go.Sort Go.Lib
set_option maxHeartbeats 6400000 in
set_option maxRecDepth 100000 in
theorem aMN [Gv] {P:Program} {ρ:Ren} (L:LaysM.n284 P ρ) (u:Nat) (h1:1≤u) (h2:u<18446744073709551616) (w:World) (hc:∀ i,i<20→w.cell? ⟨ρ.g 17,i,none⟩=some (.int .u64 ((10^i:Nat):Int))) :
  Calls P (ρ.f 284) #[.int .u64 u] w fun e w'=>e=.returned (.int .i64 (Lib.nDigits u))∧w'=w:=by
 have mixed:=L.mixed
 have t53:=L.t53;have a53:=L.a53;have z53:=L.z53;have v53:=L.v53
 have t3:=L.t3;have a3:=L.a3;have z3:=L.z3;have v3:=L.v3
 have t212:=L.t212;have a212:=L.a212;have z212:=L.z212;have v212:=L.v212
 have t0:=L.t0;have a0:=L.a0;have z0:=L.z0;have v0:=L.v0
 have t4:=L.t4;have a4:=L.a4;have z4:=L.z4;have v4:=L.v4
 have e129:∀ args w,(callFunc (ρ.f 129) args).run P w=.ok (.enter (ρ.f 129) args) w:=enters_of L.f129 (by kernel_rfl) rfl
 have e317:∀ args w,(callFunc (ρ.f 317) args).run P w=.ok (.enter (ρ.f 317) args) w:=enters_of L.f317 (by kernel_rfl) rfl
 have e318:∀ args w,(callFunc (ρ.f 318) args).run P w=.ok (.enter (ρ.f 318) args) w:=enters_of L.f318 (by kernel_rfl) rfl
 obtain⟨hnd,h19⟩:=Lib.numDigits_eq u h1 h2
 have hL:Lib.bitLen u≤64:=Lib.bitLen_le u 64 (Nat.le_refl _) h2
 have hcell:=hc (Lib.l10 (Lib.bitLen u)) (by omega)
 have hto:((u:Int)).toNat=u:=by omega
 generalize hq:Lib.l10 (Lib.bitLen u)=q at hnd h19 hcell
 generalize hT:10^q=T at hnd hcell
 have h20:q<20:=by omega
 have Hnd:=Lib.hid hnd
 clear hnd hc
 go_enter L.f284,Body.n284_ntmps ρ
 go_wp2_with (first
  | (go_at_fn (ρ.f 129);refine(Any.bits_Len64 { L with } _ _ (by omega) (by omega)).mono ?_;rintro e w' ⟨rfl,rfl⟩)
  | (go_at_fn (ρ.f 317);refine(Any.internal_strconv_log10Pow2 { L with } _ (by first|exact hL|(rw[hto];exact hL)) _).mono ?_;rintro e w' ⟨rfl,rfl⟩)
  | (go_at_fn (ρ.f 318);refine(Any.internal_strconv_bool2_int { L with } _ _).mono ?_;rintro e w' ⟨rfl,rfl⟩))
 all_goals go_ret
 all_goals (
  refine⟨?_,rfl⟩
  have hnd:=Hnd.out
  congr 2
  split at hnd<;>simp_all<;>omega)
end
theorem aIS [Gv] (u:Nat) (h1:1≤u) (h2:u<18446744073709551616):ACalls Tryz.prog GP 219 [.val (.int .u64 (u:Int))] [] (fun r os=>os=[]∧r=.val (.int .i64 ((Lib.nDigits u:Nat):Int))):=by
 refine jA ⟨_,Tryz.func219,rfl,rfl⟩ fun E vs hl hG=>?_
 simp only[bY,bE] at hl
 obtain⟨_,_,rfl,rfl,rfl⟩:=hl
 have ht:∀ i:Fin 20,aHm.getD i.val 0=((10^i.val:Nat):Int):=by decide
 refine(aMN Tryz.laysM284 u h1 h2 E.w fun i hi=>?_).mono ?_
 ·obtain⟨_,_,hr,_⟩:=hG 1 (Is .u64 aHm) (by simp[GP])
  obtain⟨v,hv,hx⟩:=hr.cell i (.val (.int .u64 (aHm.getD i 0))) (by rw[Is,List.getElem?_map,List.getD_eq_getElem?_getD,List.getElem?_eq_getElem (show i<aHm.length from hi)];rfl)
  simp only[bE] at hx
  rw[ht ⟨i,hi⟩] at hx
  rw[← hx]
  rw[Nat.zero_add] at hv
  exact hv
 ·rintro e w' ⟨rfl,rfl⟩
  exact⟨rfl,Below.refl _ _⟩
theorem aDH [Gv] (i:Nat) (h:i<100):ACalls Tryz.prog GP 218 [.val (.int .i64 (i:Int))] [] (fun r os=>os=[]∧r=str (Lib.decDigits i)):=by
 refine jA ⟨_,Tryz.func218,rfl,rfl⟩ fun E vs hl hG=>?_
 simp only[bY,bE] at hl
 obtain⟨_,_,rfl,rfl,rfl⟩:=hl
 refine(Tryz.internal_strconv_small i h E.w).mono ?_
 rintro e w' ⟨rfl,rfl⟩
 exact⟨rfl,Below.refl _ _⟩
end Go.Proofs.YtefdnmeopbkflaaGreatDoor
namespace Go.Proofs.YtefdnmeopbkflaaGreatDoor
open Go Go.V
set_option linter.unusedSimpArgs false
set_option linter.unusedVariables false
set_option maxRecDepth 100000
theorem pX [Gv] {u:Nat} (h1:1≤u) (h:u<18446744073709551616):0<Lib.nDigits u∧Lib.nDigits u≤20:=by
 have:=Lib.numDigits_eq u h1 h
 refine⟨?_,by split at this<;>omega⟩
 rw[← Lib.decDigits_length]
 cases hd:Lib.decDigits u with
 | nil=>
  have:=Lib.lt_pow_nDigits u
  rw[← Lib.decDigits_length,hd] at this
  simp at this
  omega
 | cons=>simp
theorem aJT [Gv] (u:Nat) (h:u<18446744073709551616):ACalls Tryz.prog GP 172 [.val (.int .u64 (u:Int)),.val (.int .i64 10)] [] (fun r os=>os=[]∧r=str (Lib.decDigits u)):=by
 refine ke Tryz.func172 Tryz.ntmps172 Tryz.results172 #[9] ?_
 refine ks [0,1] ?_
 refine aC fun K hK=>?_
 refine kq ?_
 apply bG rfl
 refine kp [0,4] ?_
 refine aC fun K2 hK2=>?_
 by_cases hs:u<100
 ·have d:decide ((u:Int)<100)=true:=decide_eq_true (by omega)
  have w1:IntKind.i64.wrap (u:Int)=(u:Int):=fD (by omega)
  have cS:=aDH u hs
  simp only[str] at cS
  refine ky d ?_
  apply bG rfl
  refine kw [] w1 fun K3 hK3=>?_
  refine kv (cS) @str.eq_1 (hK3 _ ?_)
  clear hK3 K3
  refine kp [4] ?_
  apply aS
  simp only[seval,kT]
  simp only[seval,kT,kF,str]
 have d:decide ((u:Int)<100)=false:=decide_eq_false (by omega)
 refine ky d ?_
 refine aR rfl (bC ?_)
 simp only[seval,kT]
 refine hK2 _ ?_
 clear hK2 K2
 refine kp [0,4] ?_
 refine kq ?_
 have cN:=aIS u (by omega) h
 obtain⟨n1,n2⟩:=pX (u:=u) (by omega) h
 refine kp [0,5] ?_
 refine kr [] fun K2 hK2=>?_
 refine kc (cN) (hK2 _ ?_)
 clear hK2 K2
 refine kp [0,5,6] ?_
 have cF:=aBJ (List.replicate 24 0) 0 u (some 24) (by simp;omega) n1 h (by simp)
 obtain⟨L,hL⟩:∃ L,List.take 0 (List.replicate 24 0)++Lib.decDigits u++List.drop (0+Lib.nDigits u) (List.replicate 24 0)=L:=⟨_,rfl⟩
 have hdl:(Lib.decDigits u).length=Lib.nDigits u:=Lib.decDigits_length u
 have hLl:L.length=24:=by rw[← hL];simp[hdl];omega
 have hLt:L.take (Lib.nDigits u)=Lib.decDigits u:=by rw[← hL];simp[← hdl]
 rw[hL] at cF
 clear hL
 generalize Lib.nDigits u=nd at *
 generalize Lib.decDigits u=D at *
 refine kr [1000021] fun K2 hK2=>?_
 refine⟨⟨Int.natCast_nonneg _,by omega⟩,gF [0] false [54,30] ⟨by decide,by simp,by simp[fU,bM _ _ (aJ _)]⟩ rfl (by simp[aH]) (by simp only[GHd,List.map_cons,List.map_nil,List.getD_cons_zero,gJ,cY _ _ (aJ _)];exact cF) ⟨by simp,by simp[fU,bM _ _ (aJ _)],by simp[eV,ref],fun h=>by cases h⟩ ?_⟩
 simp only[seval,kT,ren,gH,jD,gG,gJ,cY _ _ (aJ L)]
 refine hK2 _ ?_
 clear hK2 K2
 refine kp [5,6] ?_
 have hbl:(Bs L).length=24:=by simp[Bs,hLl]
 refine kw [24] (kI hbl hLt) fun K2 hK2=>?_
 refine⟨⟨Int.natCast_nonneg _,by omega⟩,⟨by omega,hdl⟩,hK2 _ ?_⟩
 clear hK2 K2
 refine kp [4] ?_
 apply aS
 simp only[seval,kT]
 simp only[seval,kT,kF,str]
theorem aEA [Gv] (u:Nat) (h:u<18446744073709551616):ACalls Tryz.prog GP 108 [.val (.int .u64 (u:Int)),.val (.int .i64 10)] [] (fun r os=>os=[]∧r=str (Lib.decDigits u)):=by
 have cU:=aJT u h
 simp only[str] at cU
 generalize Lib.decDigits u=D at *
 refine ke Tryz.func108 Tryz.ntmps108 Tryz.results108 #[9] ?_
 refine ks [0,1] ?_
 refine kr [] fun K hK=>?_
 refine kc (cU) (hK _ ?_)
 clear hK K
 refine kp [4] ?_
 apply aS
 simp only[seval,kT,kF]
 rfl
theorem aNl [Gv] (n:Int) (h0:-9223372036854775808≤n) (h1:n≤9223372036854775807):ACalls Tryz.prog GP 266 [.val (.int .i64 n),.val (.int .i64 10)] [] (fun r os=>os=[]∧r=str (Lib.itoa n)):=by
 obtain⟨T,hT⟩:∃ T,Lib.itoa n=T:=⟨_,rfl⟩
 rw[hT]
 refine ke Tryz.func266 Tryz.ntmps266 Tryz.results266 #[9] ?_
 refine ks [0,1] ?_
 refine aC fun K hK=>?_
 refine kq ?_
 apply bG rfl
 refine kp [0] ?_
 refine aC fun K2 hK2=>?_
 by_cases hs:0≤n∧n<100
 ·have d1:decide (0≤n)=true:=decide_eq_true hs.1
  have d2:decide (n<100)=true:=decide_eq_true hs.2
  obtain⟨i,rfl⟩:∃ i:Nat,n=i:=⟨n.toNat,by omega⟩
  have cS:=aDH i (by omega)
  have hi:Lib.decDigits i=T:=(Lib.itoa_nonneg i).symm.trans hT
  rw[hi] at cS
  simp only[str] at cS
  refine ky (kI d1 d2) ?_
  apply bG rfl
  refine kr [] fun K3 hK3=>?_
  refine kv (cS) @str.eq_1 (hK3 _ ?_)
  clear hK3 K3
  refine kp [4] ?_
  apply aS
  simp only[seval,kT]
  simp only[seval,kT,kF,str]
 obtain⟨u,hneg,h,hu,hun⟩:∃ u:Nat,(n<0∧n=-(u:Int)∨0≤n∧n=(u:Int))∧u<18446744073709551616∧1≤u∧u≤9223372036854775808:=by
  rcases Int.lt_or_le n 0 with hn|hn
  ·exact⟨(-n).toNat,.inl ⟨hn,by omega⟩,by omega,by omega,by omega⟩
  ·exact⟨n.toNat,.inr ⟨hn,by omega⟩,by omega,by omega,by omega⟩
 have cN:=aIS u hu h
 obtain⟨n1,n2⟩:=pX hu h
 rcases hneg with⟨hn,rfl⟩|⟨hn,rfl⟩
 ·have hi:45::Lib.decDigits u=T:=(Lib.itoa_neg u hu).symm.trans hT
  subst hi
  obtain⟨n,hnn⟩:∃ n,-(u:Int)=n:=⟨_,rfl⟩
  rw[hnn] at hn ⊢
  have d1:decide (0≤n)=false:=decide_eq_false (by omega)
  have d3:decide (n<0)=true:=decide_eq_true hn
  have w1:IntKind.u64.wrap (0 - IntKind.u64.wrap n)=(u:Int):=by rw[← hnn,IntKind.wrap_u64,IntKind.wrap_u64];omega
  refine ky d1 ?_
  refine aR rfl (bC ?_)
  simp only[seval,kT]
  refine hK2 _ ?_
  clear hK2 K2
  refine kp [0] ?_
  refine kq ?_
  refine ks [0,5,6] ?_
  refine aC fun K2 hK2=>?_
  refine ky d3 ?_
  apply bG rfl
  refine ku [] w1 ?_
  refine hK2 _ ?_
  clear hK2 K2
  refine kp [0,5,6] ?_
  refine kr [] fun K2 hK2=>?_
  refine kc (cN) (hK2 _ ?_)
  clear hK2 K2
  refine kp [0,5,6,7] ?_
  have cF:=aBJ (List.replicate 24 0) 1 u (some 23) (by simp;omega) n1 h (by simp)
  obtain⟨L,hL⟩:∃ L,List.take 1 (List.replicate 24 0)++Lib.decDigits u++List.drop (1+Lib.nDigits u) (List.replicate 24 0)=L:=⟨_,rfl⟩
  have hdl:(Lib.decDigits u).length=Lib.nDigits u:=Lib.decDigits_length u
  have hLl:L.length=24:=by rw[← hL];simp[hdl];omega
  have hLt:(L.drop 1).take (Lib.nDigits u)=Lib.decDigits u:=by rw[← hL];simp[← hdl]
  have hLs:(Bs L).length=24:=by simp[Bs,hLl]
  rw[hL] at cF
  clear hL
  generalize Lib.nDigits u=nd at *
  generalize Lib.decDigits u=D at *
  have w9:IntKind.i64.wrap (1+(nd:Int))=1+(nd:Int):=lY (by omega) (by omega)
  have hto:(1+(nd:Int) - 1).toNat=nd:=by omega
  have h24:((24:Int) - 1).toNat=23:=rfl
  refine kw [1000032] (kI w9 (kI hto h24)) fun K2 hK2=>?_
  refine⟨⟨by omega,by omega⟩,gF [0] false [54,30] ⟨by decide,by simp,by simp[fU,bM _ _ (aJ _)]⟩ rfl (by simp[aH]) (by simp only[GHd,List.map_cons,List.map_nil,List.getD_cons_zero,gJ,cY _ _ (aJ _)];exact cF) ⟨by simp,by simp[fU,bM _ _ (aJ _)],by simp[eV,ref],fun h=>by cases h⟩ ?_⟩
  simp only[seval,kT,ren,gH,jD,gG,gJ,cY _ _ (aJ L)]
  refine hK2 _ ?_
  clear hK2 K2
  refine kp [0,5,7] ?_
  refine aC fun K2 hK2=>?_
  refine ky d3 ?_
  apply bG rfl
  refine aC fun K hK=>aA [] ?_
  simp only[qq,aF,dN,aB,cav,Tryz.underlying293,Nat.reduceEqDiff,reduceCtorEq,bD,Int.le_refl,Int.cast_ofNat_Int,Int.reduceLT,Int.toNat_zero,Nat.mul_one,Nat.reduceLT,bQ,bX,bB,List.all_cons,dC,Value.oneCell',List.all_nil,spl,aG,aI,aX,eA]
  (repeat' apply And.intro)<;>try (first|exact True.intro|omega)
  refine hK _ ?_
  clear hK K
  refine aE [5,7] ?_
  simp only[aD,aB,Nat.reduceEqDiff,if_true,if_false]
  have hB:AV.val (Value.int .u8 45)::Bs (List.drop 1 L)=Bs (45::L.drop 1):=rfl
  rw[hB]
  obtain⟨L2,hL2⟩:∃ L2,45::L.drop 1=L2:=⟨_,rfl⟩
  have hLt2:L2.take (1+nd)=45::D:=by rw[← hL2,Nat.add_comm,List.take_succ_cons,hLt]
  have hLl2:L2.length=24:=by rw[← hL2];simp;omega
  have hLs2:(Bs L2).length=24:=by simp[Bs,hLl2]
  have hto2:(1+(nd:Int)).toNat=1+nd:=by omega
  rw[hL2]
  clear hL2 hB
  refine kw [39] (kI (kI w9 hto2) (kI hLs2 hLt2)) fun K2 hK2=>?_
  refine⟨⟨by omega,by omega⟩,⟨by omega,by omega⟩,hK2 _ ?_⟩
  clear hK2 K2
  refine kp [4] ?_
  apply aS
  simp only[seval,kT]
  simp only[seval,kT,kF,str]
 ·have hi:Lib.decDigits u=T:=(Lib.itoa_nonneg u).symm.trans hT
  subst hi
  have d1:decide (0≤(u:Int))=true:=decide_eq_true hn
  have d2:decide ((u:Int)<100)=false:=decide_eq_false (by omega)
  have d3:decide ((u:Int)<0)=false:=decide_eq_false (by omega)
  have w1:IntKind.u64.wrap (u:Int)=(u:Int):=uV _ (by rw[show IntKind.u64.bits=64 from rfl,nH];exact h)
  refine ky (kI d1 d2) ?_
  refine aR rfl (bC ?_)
  simp only[seval,kT]
  refine hK2 _ ?_
  clear hK2 K2
  refine kp [0] ?_
  refine kq ?_
  refine kx [0,5,6] w1 ?_
  refine aC fun K2 hK2=>?_
  refine ky d3 ?_
  refine aR rfl (bC ?_)
  simp only[seval,kT]
  refine hK2 _ ?_
  clear hK2 K2
  refine kp [0,5,6] ?_
  refine kr [] fun K2 hK2=>?_
  refine kc (cN) (hK2 _ ?_)
  clear hK2 K2
  refine kp [0,5,6,7] ?_
  have cF:=aBJ (List.replicate 24 0) 1 u (some 23) (by simp;omega) n1 h (by simp)
  obtain⟨L,hL⟩:∃ L,List.take 1 (List.replicate 24 0)++Lib.decDigits u++List.drop (1+Lib.nDigits u) (List.replicate 24 0)=L:=⟨_,rfl⟩
  have hdl:(Lib.decDigits u).length=Lib.nDigits u:=Lib.decDigits_length u
  have hLl:L.length=24:=by rw[← hL];simp[hdl];omega
  have hLt:(L.drop 1).take (Lib.nDigits u)=Lib.decDigits u:=by rw[← hL];simp[← hdl]
  have hLs:(Bs L).length=24:=by simp[Bs,hLl]
  rw[hL] at cF
  clear hL
  generalize Lib.nDigits u=nd at *
  generalize Lib.decDigits u=D at *
  have w9:IntKind.i64.wrap (1+(nd:Int))=1+(nd:Int):=lY (by omega) (by omega)
  have hto:(1+(nd:Int) - 1).toNat=nd:=by omega
  have h24:((24:Int) - 1).toNat=23:=rfl
  refine kw [1000032] (kI w9 (kI hto h24)) fun K2 hK2=>?_
  refine⟨⟨by omega,by omega⟩,gF [0] false [54,30] ⟨by decide,by simp,by simp[fU,bM _ _ (aJ _)]⟩ rfl (by simp[aH]) (by simp only[GHd,List.map_cons,List.map_nil,List.getD_cons_zero,gJ,cY _ _ (aJ _)];exact cF) ⟨by simp,by simp[fU,bM _ _ (aJ _)],by simp[eV,ref],fun h=>by cases h⟩ ?_⟩
  simp only[seval,kT,ren,gH,jD,gG,gJ,cY _ _ (aJ L)]
  refine hK2 _ ?_
  clear hK2 K2
  refine kp [0,5,7] ?_
  refine aC fun K2 hK2=>?_
  refine ky d3 ?_
  refine aR rfl (bC ?_)
  simp only[seval,kT]
  refine hK2 _ ?_
  clear hK2 K2
  refine kp [5,7] ?_
  refine kw [43] (kI (kI w9 hto) (kI h24 (kI hLs hLt))) fun K2 hK2=>?_
  refine⟨⟨by omega,by omega⟩,⟨by omega,hdl⟩,hK2 _ ?_⟩
  clear hK2 K2
  refine kp [4] ?_
  apply aS
  simp only[seval,kT]
  simp only[seval,kT,kF,str]
theorem aLq [Gv] (n:Int) (h0:-9223372036854775808≤n) (h1:n≤9223372036854775807):ACalls Tryz.prog GP 227 [.val (.int .i64 n)] [] (fun r os=>os=[]∧r=str (Lib.itoa n)):=by
 have c:=aNl n h0 h1
 simp only[str] at c
 generalize Lib.itoa n=T at *
 refine ke Tryz.func227 Tryz.ntmps227 Tryz.results227 #[9] ?_
 refine ks [0] ?_
 refine kr [] fun K hK=>?_
 refine kc (c) (hK _ ?_)
 clear hK K
 refine kp [2] ?_
 apply aS
 simp only[seval,kT,kF]
 rfl
theorem aEG [Gv] (n:Int) (h0:-9223372036854775808≤n) (h1:n≤9223372036854775807):ACalls Tryz.prog GP 176 [.val (.int .i64 n)] [] (fun r os=>os=[]∧r=str (Lib.itoa n)):=by
 have c:=aLq n h0 h1
 simp only[str] at c
 generalize Lib.itoa n=T at *
 refine ke Tryz.func176 Tryz.ntmps176 Tryz.results176 #[9] ?_
 refine ks [0] ?_
 refine kr [] fun K hK=>?_
 refine kc (c) (hK _ ?_)
 clear hK K
 refine kp [2] ?_
 apply aS
 simp only[seval,kT,kF]
 rfl
def aED (d:Nat):UInt8:=if d<10 then UInt8.ofNat (48+d) else UInt8.ofNat (87+d)
def pD (v:Nat):List UInt8:=if h:v<16 then [aED v] else pD (v/16)++[aED (v%16)]
termination_by v
decreasing_by omega
theorem aEC [Gv] {v:Nat} (h:v<16):pD v=[aED v]:=by rw[pD,dif_pos h]
theorem aIJ [Gv] {v:Nat} (h:¬ v<16):pD v=pD (v/16)++[aED (v%16)]:=by rw[pD,dif_neg h]
def aJO:List UInt8:=[48,49,50,51,52,53,54,55,56,57,97,98,99,100,101,102,103,104,105,106,107,108,109,110,111,112,113,114,115,116,117,118,119,120,121,122]
theorem aIG [Gv] {d:Nat} (h:d<16):aJO.getD d 0=aED d:=by
 have:∀ d:Fin 16,aJO.getD d.val 0=aED d.val:=by decide
 exact this ⟨d,h⟩
theorem aOi [Gv] (v:Nat) (h:v<18446744073709551616):bits .and .u64 (v:Int) 15=((v%16:Nat):Int):=by
 have e:=Nat.and_two_pow_sub_one_eq_mod v 4
 rw[show (2:Nat)^4 - 1=15 from rfl,show (2:Nat)^4=16 from rfl] at e
 rw[show (15:Int)=((15:Nat):Int) from rfl]
 simp only[bits,BitVec.ofInt_natCast,BitVec.toNat_and,BitVec.toNat_ofNat]
 have hb:IntKind.u64.bits=64:=rfl
 rw[hb,nH,Nat.mod_eq_of_lt h,Nat.mod_eq_of_lt (by decide:15<18446744073709551616),e]
 exact uV _ (by rw[hb,nH];omega)
theorem aOO [Gv]:ACalls Tryz.prog GP 262 [.val (.int .i64 16)] [] (fun r os=>os=[]∧r=.val (.bool true)):=by
 refine ke Tryz.func262 Tryz.ntmps262 Tryz.results262 #[4] ?_
 refine ks [0] ?_
 have h1:IntKind.i64.wrap (16 - 1)=15:=by decide
 have h2:bits .and .i64 16 15=0:=by decide
 refine aC fun K hK=>aA [] ?_
 simp only[qq,aF,Nat.reduceLT,aB,reduceCtorEq,Nat.reduceEqDiff,cav,aL,aP,bH,h1,h2,beq_self_eq_true,aG,aI]
 refine hK _ ?_
 clear hK K
 refine aE [2] ?_
 simp only[aD,aB,Nat.reduceEqDiff,if_true,if_false]
 refine aS ?_
 simp only[qq,bR,eU,bN,bO,dA,aB,aH]
theorem aQi [Gv]:ACalls Tryz.prog GP 263 [.val (.int .u64 16)] [] (fun r os=>os=[]∧r=.val (.int .i64 4)):=by
 have c:=aOr 16 (by decide) (by decide)
 have e:Lib.ctz 64 16=4:=by decide
 rw[e] at c
 refine ke Tryz.func263 Tryz.ntmps263 Tryz.results263 #[3] ?_
 refine ks [0] ?_
 refine aC fun K hK=>?_
 refine aBD (bC ?_)
 simp only[seval,kT]
 refine hK _ ?_
 clear hK K
 refine kr [] fun K hK=>?_
 refine kc (c) (hK _ ?_)
 clear hK K
 refine kp [2] ?_
 refine aS ?_
 simp only[qq,bR,eU,bN,bO,dA,aB,aH]
theorem aLb [Gv] (u:Nat) (h:u<18446744073709551616):ACalls Tryz.prog GP 221 [.sl 0 [] .full,.val (.int .u64 (u:Int)),.val (.int .i64 16),.val (.bool false),.val (.bool false)] [] (fun r os=>os=[]∧r=.tup [.sl 0 [] .full,str (pD u)]):=by
 refine ke Tryz.func221 Tryz.ntmps221 Tryz.results221 #[54,9] ?_
 refine ks [1,2,3,4,10] ?_
 refine aC fun K hK=>?_
 refine ky @decide_false ?_
 refine aR rfl (bC ?_)
 simp only[seval,kT]
 refine hK _ ?_
 clear hK K
 refine kp [1,2,3,4,10] ?_
 refine kq ?_
 refine ks [1,2,3,4,10,12,13] ?_
 refine aC fun K hK=>?_
 refine kq ?_
 refine aR rfl (bC ?_)
 simp only[seval,kT]
 refine hK _ ?_
 clear hK K
 refine kp [1,2,3,4,10,12,13] ?_
 refine aC fun K0 hK0=>?_
 refine kr [] fun K2 hK2=>?_
 refine kc (aOO) (hK2 _ ?_)
 clear hK2 K2
 apply bG rfl
 refine kp [1,2,3,4,10,12,13] ?_
 refine kr [] fun K2 hK2=>?_
 refine kc (aQi) (hK2 _ ?_)
 clear hK2 K2
 have w16:IntKind.u64.wrap 16=16:=by decide
 have w15:IntKind.u64.wrap (16 - 1)=15:=by decide
 have w4:IntKind.u64.wrap 4=4:=by decide
 refine kp [1,2,3,4,10,12,13,14] ?_
 rw[w4]
 refine ky w16 ?_
 refine kx [1,3,4,10,12,13,14,15,16] (kI w16 w15) ?_
 refine aC fun K2 hK2=>bK ?_
 refine bZ (fun p:Nat×List UInt8=>⟨102,[(1,.val (.int .u64 (p.1:Int))),(3,.val (.bool false)),(4,.val (.bool false)),(10,.sl 0 [] .full),(12,.ptr 0 0),(13,.val (.int .i64 ((65 - p.2.length:Nat):Int))),(14,.val (.int .u64 4)),(15,.val (.int .u64 16)),(16,.val (.int .u64 15))],[.cells (Bs (List.replicate (65 - p.2.length) 0++p.2))]⟩)
  (fun p=>pD p.1++p.2=pD u∧p.1*16^p.2.length≤u∧p.2.length≤16) (fun p=>p.1) (u,[]) ⟨by simp,by simp,by simp⟩ (by simp only[List.length_nil,Nat.sub_zero,List.append_nil];exact .of_keep [1,3,4,10,12,13,14,15,16] rfl) ?_
 rintro⟨v,acc⟩ ⟨i1,i2,i3⟩
 simp only at i1 i2 i3 ⊢
 refine aC fun K hK=>?_
 have hv:v<18446744073709551616:=by
  refine Nat.lt_of_le_of_lt (Nat.le_trans ?_ i2) h
  exact Nat.le_mul_of_pos_right _ (Nat.pow_pos (by decide))
 obtain⟨k,hk⟩:∃ k,65 - acc.length=k+1:=⟨64 - acc.length,by omega⟩
 have hk64:k≤64:=by omega
 obtain⟨L,hL⟩:∃ L,List.replicate (k+1) (0:UInt8)++acc=L:=⟨_,rfl⟩
 have hLl:L.length=65:=by rw[← hL];simp;omega
 have hLt:L.take k=List.replicate k 0:=by rw[← hL];simp[List.take_append]
 have hLd:L.drop (k+1)=acc:=by rw[← hL];simp
 have hbl:(Bs L).length=65:=by rw[Bs,List.length_map,hLl]
 have w1:IntKind.i64.wrap (((k+1:Nat):Int) - 1)=(k:Int):=by rw[lY (by omega) (by omega)];omega
 have hnew:∀ x:UInt8,Bs (List.replicate k 0)++[AV.val (.int .u8 (x.toNat:Int))]++Bs acc=Bs (List.replicate k 0++x::acc):=fun x=>by simp[Bs,B]
 rw[hk,hL]
 clear hL
 by_cases hlt:v<16
 ·have d:decide ((v:Int)≥16)=false:=decide_eq_false (by omega)
  refine ky d ?_
  apply aR rfl
  apply dR
  simp only[seval,kT,kF]
  refine hK2 _ ?_
  clear hK2 K2 hK K
  refine kp [1,3,4,10,12,13] ?_
  refine kx [1,3,4,10,12,13] w1 ?_
  have hd:=aIG hlt
  unfold aJO at hd
  refine aA [] ?_
  simp only[qq,aF,Nat.reduceLT,aB,Nat.reduceEqDiff,uU,Tryz.underlying9,cav,dJ,Nat.reduceAdd,Int.cast_ofNat_Int,B,Int.toNat_natCast,hd,dN,Tryz.underlying331,bD,Nat.mul_one,bQ,bX,bB,spl,aG,aI,hbl,eS,hLt,eA,List.all_cons,dC,Value.oneCell',List.all_nil,Nat.reduceLeDiff,hLd,hnew]
  refine⟨⟨by omega,by omega⟩,⟨by omega,by omega⟩,by omega,hK0 _ ?_⟩
  clear hK0 K0
  rw[aEC hlt] at i1
  simp only[List.cons_append,List.nil_append] at i1
  have hl2:(aED v::acc).length=65 - k:=by simp;omega
  rw[i1] at hl2 ⊢
  obtain⟨M,hM⟩:∃ M,List.replicate k (0:UInt8)++pD u=M:=⟨_,rfl⟩
  have hMl:M.length=65:=by rw[← hM];simp;omega
  have hMd:M.drop k=pD u:=by rw[← hM];simp
  have hMb:(Bs M).length=65:=by rw[Bs,List.length_map,hMl]
  have hMt:(pD u).take (65 - k)=pD u:=List.take_of_length_le (by omega)
  rw[hM]
  clear hM
  generalize pD u=T at *
  refine kp [3,4,10,12,13] ?_
  refine aC fun K hK=>?_
  refine kq ?_
  refine aR rfl (bC ?_)
  simp only[seval,kT]
  refine hK _ ?_
  clear hK K
  refine kp [4,10,12,13] ?_
  refine aC fun K hK=>?_
  refine kq ?_
  refine aR rfl (bC ?_)
  simp only[seval,kT]
  refine hK _ ?_
  clear hK K
  refine kp [10,12,13] ?_
  have hto:((65:Int) - (k:Int)).toNat=65 - k:=by omega
  refine kw [101] (kI (kI hto hMb) (kI hMd hMt)) fun K hK=>?_
  refine⟨⟨by omega,by omega⟩,⟨by omega,by omega⟩,hK _ ?_⟩
  clear hK K
  refine kp [10,11] ?_
  refine aS ?_
  simp only[seval,kT,kF]
  rfl
 have d:decide ((v:Int)≥16)=true:=decide_eq_true (by omega)
 refine ky d ?_
 refine bG rfl (bC ?_)
 simp only[seval,kT]
 refine hK _ ?_
 clear hK K
 refine kp [1,3,4,10,12,13,14,15,16] ?_
 apply bK
 refine kx [1,3,4,10,12,13,14,15,16] w1 ?_
 have hd:=aIG (d:=v%16) (by omega)
 unfold aJO at hd
 have ha:=aOi v hv
 refine aC fun K hK=>aA [] ?_
 simp only[qq,aF,Nat.reduceLT,aB,Nat.reduceEqDiff,aL,aP,bH,ha,uU,Tryz.underlying9,cav,dJ,Nat.reduceAdd,Int.cast_ofNat_Int,B,Int.toNat_natCast,hd,dN,Tryz.underlying331,bD,Nat.mul_one,bQ,bX,bB,spl,aG,aI,hbl,eS,hLt,eA,List.all_cons,dC,Value.oneCell',List.all_nil,Nat.reduceLeDiff,hLd,hnew]
 refine⟨⟨by omega,by omega⟩,⟨by omega,by omega⟩,by omega,hK _ ?_⟩
 clear hK K
 refine kp [1,3,4,10,12,13,14,15,16] ?_
 have hsh:(v:Int).fdiv (2^4)=((v/16:Nat):Int):=by
  rw[Int.fdiv_eq_ediv_of_nonneg _ (by decide)]
  omega
 refine aA [] ?_
 simp only[qq,aF,Nat.reduceLT,aB,Nat.reduceEqDiff,aL,aP,bH,Int.reduceLE,Int.reduceToNat,IntKind.bits,Nat.min_def,Nat.reduceLeDiff,hsh,aG]
 refine⟨(v/16,aED (v%16)::acc),⟨?_,?_,?_⟩,by omega,?_⟩
 ·rw[← i1,aIJ (v:=v) hlt]
  simp
 ·simp only[List.length_cons,Nat.pow_succ]
  refine Nat.le_trans ?_ i2
  rw[Nat.mul_comm (16^acc.length),← Nat.mul_assoc]
  exact Nat.mul_le_mul_right _ (Nat.div_mul_le_self v 16)
 ·simp only[List.length_cons]
  rcases Nat.lt_or_ge acc.length 15 with hq|hq
  ·omega
  ·exfalso
   have p15:16^15≤16^acc.length:=Nat.pow_le_pow_right (by decide) hq
   have:16*16^15≤v*16^acc.length:=Nat.mul_le_mul (by omega) p15
   have e:16*16^15=18446744073709551616:=by decide
   omega
 ·have e1:65 - (aED (v%16)::acc).length=k:=by simp;omega
  simp only[e1]
  exact .of_keep [1,3,4,10,12,13,14,15,16] rfl
theorem aGy [Gv] (u:Nat) (h:u<18446744073709551616):ACalls Tryz.prog GP 172 [.val (.int .u64 (u:Int)),.val (.int .i64 16)] [] (fun r os=>os=[]∧r=str (pD u)):=by
 have c:=aLb u h
 simp only[str] at c
 generalize pD u=T at *
 refine ke Tryz.func172 Tryz.ntmps172 Tryz.results172 #[9] ?_
 refine ks [0,1] ?_
 refine aC fun K hK=>?_
 refine kq ?_
 refine aR rfl (bC ?_)
 simp only[seval,kT]
 refine hK _ ?_
 clear hK K
 refine kp [0,1] ?_
 refine kr [] fun K hK=>?_
 refine kc (c) (hK _ ?_)
 clear hK K
 refine kp [8] ?_
 refine ks [4] ?_
 refine aS ?_
 simp only[qq,bR,eU,bN,bO,dA,aB,aH]
 rfl
theorem aJU [Gv] (u:Nat) (h:u<18446744073709551616):ACalls Tryz.prog GP 108 [.val (.int .u64 (u:Int)),.val (.int .i64 16)] [] (fun r os=>os=[]∧r=str (pD u)):=by
 have c:=aGy u h
 simp only[str] at c
 generalize pD u=T at *
 refine ke Tryz.func108 Tryz.ntmps108 Tryz.results108 #[9] ?_
 refine ks [0,1] ?_
 refine kr [] fun K hK=>?_
 refine kc (c) (hK _ ?_)
 clear hK K
 refine kp [4] ?_
 refine aS ?_
 simp only[qq,bR,eU,bN,bO,dA,aB,aH]
 rfl
def nV (x:Nat):List UInt8:=if kV x then [45] else []
def wX (x:Nat):List UInt8:=
 if mI x then [] else if dX x=9218868437227405312 then nV x++[105,110,102] else if dX x=0 then nV x++[48]
 else nV x++Lib.decDigits (kH x)++[112]++Lib.itoa (jR x)
theorem vT [Gv] (x:Nat):kH x<18446744073709551616:=by
 unfold kH
 split
 ·decide
 ·have:=(rU (x:=dX x) (by omega)).2
  exact Nat.lt_of_le_of_lt (Nat.div_le_self _ _) (by omega)
theorem uX [Gv] (x:Nat):-2000≤jR x∧jR x≤2000:=by
 unfold jR
 split
 ·decide
 ·obtain⟨m1,m2⟩:=rU (x:=dX x) (by omega)
  obtain⟨x1,x2⟩:=aBR (r:=dX x) (by omega) (by omega)
  have hk:=(Lib.lowest_bit 64 (sV (dX x)) (by omega) (by omega)).2
  omega
theorem aBE [Gv] (u:Nat) (h:u<18446744073709551616):(Lib.decDigits u).length≤20:=by
 rw[Lib.decDigits_length]
 by_cases h1:1≤u
 ·exact(pX h1 h).2
 ·rw[Lib.nDigits_small (by omega)];decide
theorem tJ [Gv] (n:Int) (h0:-9223372036854775808≤n) (h1:n≤9223372036854775807):(Lib.itoa n).length≤21:=by
 rcases Int.lt_or_le n 0 with hn|hn
 ·obtain⟨u,rfl⟩:∃ u:Nat,n=-(u:Int):=⟨(-n).toNat,by omega⟩
  rw[Lib.itoa_neg u (by omega),List.length_cons]
  have:=aBE u (by omega)
  omega
 ·obtain⟨u,rfl⟩:∃ u:Nat,n=(u:Int):=⟨n.toNat,by omega⟩
  rw[Lib.itoa_nonneg u]
  have:=aBE u (by omega)
  omega
theorem aPK [Gv] (a b:Array UInt8):(⟨a⟩:ByteArray)++⟨b⟩=⟨a++b⟩:=by
 apply ByteArray.ext
 simp
theorem oB [Gv] (a b:List UInt8):(⟨a.toArray⟩:ByteArray)++⟨b.toArray⟩=⟨(a++b).toArray⟩:=by
 rw[aPK]
 simp
theorem aNe [Gv] (x:Nat) (hx:x<18446744073709551616):ACalls Tryz.prog GP 111 [.val (.float .f64 x)] [] (fun r os=>os=[]∧r=str (wX x)):=by
 have cN:=xF x
 have cP:=aMU x hx
 have cI:=xE x hx
 have hz:=xL x
 have cU:=aEA (kH x) (vT x)
 obtain⟨p1,p2⟩:=uX x
 have cW:=aEG (jR x) (by omega) (by omega)
 simp only[str] at cU cW
 refine ke Tryz.func111 Tryz.ntmps111 Tryz.results111 #[9] ?_
 refine ks [0,2] ?_
 refine aC fun K hK=>?_
 refine kr [] fun K2 hK2=>?_
 refine kc (cN) (hK2 _ ?_)
 clear hK2 K2
 by_cases c1:mI x=true
 ·have hr:wX x=[]:=if_pos c1
  rw[c1]
  apply bG rfl
  refine kp [0] ?_
  refine kq ?_
  refine aS ?_
  simp only[seval,kT]
  simp only[seval,kT,kF]
  rw[hr]
  rfl
 have e1:mI x=false:=by simpa using c1
 have hn:rL x=kV x:=by unfold rL;rw[e1];rfl
 rw[e1]
 refine aR rfl (bC ?_)
 simp only[seval,kT]
 refine hK _ ?_
 clear hK K
 refine kp [0] ?_
 refine kr [] fun K hK=>?_
 refine kv (cP) hn (hK _ ?_)
 clear hK K
 refine kp [0,3,4,5] ?_
 refine ks [0,3,4,5,6] ?_
 refine aC fun K hK=>?_
 have next:∀ s,gE GP s ⟨34,[(0,.val (.float .f64 x)),(4,.val (.int .u64 ((kH x:Nat):Int))),(5,.val (.int .i64 (jR x))),(6,.val (.string ⟨(nV x).toArray⟩))],[]⟩→K s:=by
  intro s hw
  refine hK s (eX hw ?_)
  clear hw hK K
  have hU:wX x=if dX x=9218868437227405312 then nV x++[105,110,102] else if dX x=0 then nV x++[48]
    else nV x++Lib.decDigits (kH x)++[112]++Lib.itoa (jR x):=if_neg c1
  have s1:(nV x).length≤1:=by unfold nV;split<;>simp
  have s2:=aBE (kH x) (vT x)
  have s3:=tJ (jR x) (by omega) (by omega)
  generalize nV x=sg at *
  generalize kH x=odd at *
  generalize jR x=pw at *
  generalize Lib.decDigits odd=D1 at *
  generalize Lib.itoa pw=D2 at *
  refine aC fun K hK=>?_
  apply bK
  refine kr [] fun K2 hK2=>?_
  refine kc (cI) (hK2 _ ?_)
  clear hK2 K2
  by_cases c2:dX x=9218868437227405312
  ·have e2:decide (dX x=9218868437227405312)=true:=decide_eq_true c2
   rw[e2]
   apply bG rfl
   refine kp [6] ?_
   refine kr [] fun K hK=>?_
   refine⟨by omega,hK _ ?_⟩
   rw[oB _ [105,110,102]]
   refine kp [2] ?_
   refine aS ?_
   simp only[aI,bL]
   simp only[qq,bR,eU,bN,bO,dA,aB,aH]
   rw[hU,if_pos c2]
   rfl
  have e2:decide (dX x=9218868437227405312)=false:=decide_eq_false c2
  rw[e2]
  apply aR rfl
  refine kp [0,4,5,6] ?_
  by_cases c3:dX x=0
  ·rw[c3] at hz
   refine ky (kI @jU (kI hz @decide_true)) ?_
   apply bG rfl
   refine kp [6] ?_
   refine kr [] fun K hK=>?_
   refine⟨by omega,hK _ ?_⟩
   rw[oB _ [48]]
   refine kp [2] ?_
   refine aS ?_
   simp only[aI,bL]
   simp only[qq,bR,eU,bN,bO,dA,aB,aH]
   rw[hU,if_neg c2,if_pos c3]
   rfl
  have e3:decide (dX x=0)=false:=decide_eq_false c3
  rw[e3] at hz
  refine ky (kI @jU hz) ?_
  refine aR rfl (bC ?_)
  simp only[aI,bL]
  refine hK _ ?_
  clear hK K
  refine kp [4,5,6] ?_
  refine kr [] fun K hK=>?_
  refine kb (cU) ?_
  simp only[seval,kT,oB,List.length_append,oB _ [112]]
  refine⟨by omega,by omega,?_⟩
  refine kv (cW) (kI @List.length_append.{0} @oB) ?_
  refine⟨by omega,hK _ ?_⟩
  clear hK K
  refine kp [2] ?_
  refine aS ?_
  simp only[qq,bR,eU,bN,bO,dA,aB,aH]
  rw[hU,if_neg c2,if_neg c3]
  rfl
 refine kp [0,3,4,5,6] ?_
 refine kq ?_
 cases hf:kV x
 ·refine aR rfl (bC ?_)
  simp only[seval,kT]
  refine next _ ?_
  have:nV x=[]:=by unfold nV;rw[hf];rfl
  rw[this]
  exact .of_keep [0,4,5,6] rfl
 ·apply bG rfl
  refine ko [] ?_
  refine next _ ?_
  have:nV x=[45]:=by unfold nV;rw[hf];rfl
  rw[this]
  exact .of_keep [0,4,5,6] rfl
def oY (l:List (List UInt8)) (k:Nat):Nat:=if h:k<l.length then (if l.getD k []=[48] then oY l (k+1) else k) else k
termination_by l.length - k
theorem aFq [Gv] (l:List (List UInt8)) (k:Nat):k≤oY l k:=by
 fun_induction oY l k<;>omega
theorem aFr [Gv] (l:List (List UInt8)) (k:Nat) (hk:k≤l.length):oY l k≤l.length:=by
 fun_induction oY l k<;>omega
def aAQ (l:List (List UInt8)) (r:Nat×Nat) (i:Nat):Nat×Nat:=
 if 2≤oY l i - i∧r.2 - r.1<oY l i - i then (i,oY l i) else r
def rX (l:List (List UInt8)) (n:Nat):Nat×Nat:=(List.range n).foldl (aAQ l) (0,0)
theorem aCu [Gv] (l:List (List UInt8)) (n:Nat):rX l (n+1)=aAQ l (rX l n) n:=by
 simp[rX,List.range_succ]
theorem aEL [Gv] (l:List (List UInt8)) (n:Nat) (h:n≤l.length):(rX l n).1≤(rX l n).2∧(rX l n).2≤l.length:=by
 induction n with
 | zero=>simp[rX]
 | succ n ih=>
  rw[aCu]
  unfold aAQ
  have:=aFq l n
  have:=aFr l n (by omega)
  have:=ih (by omega)
  split
  ·exact⟨by simpa,by simpa⟩
  ·exact this
theorem aPj [Gv] (l:List (List UInt8)) (p:Perm) (hl:l.length≤1000):ACalls Tryz.prog GP 226 [.sl l.length (dU l) p] [] (fun r os=>os=[]∧r=.tup [.val (.int .i64 (((rX l l.length).1:Nat):Int)),.val (.int .i64 (((rX l l.length).2:Nat):Int))]):=by
 have hsl:=dY l
 refine ke Tryz.func226 Tryz.ntmps226 Tryz.results226 #[3,3] ?_
 refine ks [0,2,3] ?_
 refine aC fun K0 hK0=>?_
 refine ks [0,2,3,4] ?_
 refine bK ?_
 refine bZ (fun i:Nat=>⟨43,[(0,.sl l.length (dU l) p),(2,.val (.int .i64 (((rX l i).1:Nat):Int))),(3,.val (.int .i64 (((rX l i).2:Nat):Int))),(4,.val (.int .i64 (i:Int)))],[]⟩)
  (fun i=>i≤l.length) (fun i=>l.length - i) 0 (by omega) (.of_keep [0,2,3,4] rfl) ?_
 intro i hi
 refine aC fun K hK=>?_
 refine aC fun K hK=>aA [] ?_
 simp only[qq,aF,Nat.reduceLT,aB,reduceCtorEq,Nat.reduceEqDiff,bI,bV,eN,Tryz.underlying43,aL,aG,aI,aP,bH,jM]
 (repeat' apply And.intro)<;>try (first|exact True.intro|omega)
 refine hK _ ?_
 clear hK K
 by_cases hlt:i<l.length
 ·have d:decide (i<l.length)=true:=decide_eq_true hlt
  refine bG (by simp[lk,d]) (bC ?_)
  simp only[seval,kT]
  refine hK _ ?_
  clear hK K
  refine kp [0,2,3,4] ?_
  obtain⟨n1,n2⟩:=aEL l i hi
  have n3:=aCu l i
  unfold aAQ at n3
  generalize rX l i=F at *
  refine aC fun K hK=>bK ?_
  refine ks [0,2,3,4,5] ?_
  refine aC fun K2 hK2=>?_
  have next:∀ s,gE GP s ⟨43,[(0,.sl l.length (dU l) p),(2,.val (.int .i64 (F.1:Int))),(3,.val (.int .i64 (F.2:Int))),(4,.val (.int .i64 (i:Int))),(5,.val (.int .i64 ((oY l i:Nat):Int)))],[]⟩→K2 s:=by
   intro s hw
   refine hK2 s (eX hw ?_)
   clear hw hK2 K2
   have r1:=aFq l i
   have r2:=aFr l i hi
   generalize oY l i=k at *
   have w1:IntKind.i64.wrap ((k:Int) - (i:Int))=((k - i:Nat):Int):=by rw[lY (by omega) (by omega)];omega
   have w2:IntKind.i64.wrap ((F.2:Int) - (F.1:Int))=((F.2 - F.1:Nat):Int):=by rw[lY (by omega) (by omega)];omega
   have fin:∀ s G,G=rX l (i+1)→gE GP s ⟨43,[(0,.sl l.length (dU l) p),(2,.val (.int .i64 (G.1:Int))),(3,.val (.int .i64 (G.2:Int))),(4,.val (.int .i64 (i:Int)))],[]⟩→K s:=by
    intro s G hG hw
    refine hK s (eX hw ?_)
    clear hw hK K
    have w3:IntKind.i64.wrap ((i+1:Nat):Int)=((i+1:Nat):Int):=fD (by omega)
    refine ku [] (kI @gO w3) ?_
    refine⟨i+1,by omega,by omega,?_⟩
    rw[← hG]
    exact .of_keep [0,2,3,4] rfl
   by_cases c1:2≤k - i
   ·have d1:decide (((k - i:Nat):Int)≥2)=true:=decide_eq_true (by omega)
    by_cases c2:F.2 - F.1<k - i
    ·have d2:decide (((k - i:Nat):Int) > ((F.2 - F.1:Nat):Int))=true:=decide_eq_true (by omega)
     refine ky (kI (kI w1 d1) (kI w2 d2)) ?_
     apply bG rfl
     refine kp [0,2,3,4,5] ?_
     refine ko [] ?_
     refine fin _ (i,k) (by rw[n3,if_pos ⟨c1,c2⟩]) ?_
     exact .of_keep [0,2,3,4] rfl
    have d2:decide (((k - i:Nat):Int) > ((F.2 - F.1:Nat):Int))=false:=decide_eq_false (by omega)
    refine ky (kI (kI w1 d1) (kI w2 d2)) ?_
    refine aR rfl (bC ?_)
    simp only[seval,kT,kF]
    refine fin _ F (by rw[n3,if_neg (by omega)]) ?_
    exact .of_keep [0,2,3,4] rfl
   have d1:decide (((k - i:Nat):Int)≥2)=false:=decide_eq_false (by omega)
   refine ky (kI w1 d1) ?_
   refine aR rfl (bC ?_)
   simp only[seval,kT,kF]
   refine fin _ F (by rw[n3,if_neg (by omega)]) ?_
   exact .of_keep [0,2,3,4] rfl
  refine bK ?_
  refine bZ (fun k:Nat=>⟨43,[(0,.sl l.length (dU l) p),(2,.val (.int .i64 (F.1:Int))),(3,.val (.int .i64 (F.2:Int))),(4,.val (.int .i64 (i:Int))),(5,.val (.int .i64 (k:Int)))],[]⟩)
   (fun k=>i≤k∧k≤l.length∧oY l k=oY l i) (fun k=>l.length - k) i (by simp;omega) (.of_keep [0,2,3,4,5] rfl) ?_
  rintro k ⟨k1,k2,k3⟩
  refine aC fun K3 hK3=>?_
  by_cases hkl:k<l.length
  ·have d1:decide (k<l.length)=true:=decide_eq_true hkl
   have hgd:=mR hkl
   refine aC fun K4 hK4=>aA [] ?_
   simp only[qq,aF,Nat.reduceLT,aB,reduceCtorEq,Nat.reduceEqDiff,bI,bV,eN,Tryz.underlying43,aL,aP,bH,jM,d1,dD,bT,Option.bind_some,aW,dQ,gok,dN,bD,hsl,Nat.mul_one,Int.toNat_natCast,aY,apart,aO,Tryz.underlying9,cav,bU,aG,aI,List.length_drop,fL,hgd,str,gL,ByteArray.toList_mk]
   refine⟨⟨by omega,by omega⟩,by omega,hK4 _ ?_⟩
   clear hK4 K4
   by_cases hz:l.getD k []=[48]
   ·have e:(l.getD k [] == [48])=true:=by rw[hz];rfl
    rw[e]
    refine bG rfl (bC ?_)
    simp only[seval,kT]
    refine hK3 _ ?_
    clear hK3 K3
    refine kp [0,2,3,4,5] ?_
    have w3:IntKind.i64.wrap ((k+1:Nat):Int)=((k+1:Nat):Int):=fD (by omega)
    refine bK ?_
    refine ku [] (kI @gO w3) ?_
    refine⟨k+1,⟨by omega,by omega,?_⟩,by omega,.of_keep [0,2,3,4,5] rfl⟩
    rw[← k3]
    conv=>rhs;rw[oY,dif_pos hkl,if_pos hz]
   have e:(l.getD k [] == [48])=false:=by simpa using hz
   rw[e]
   refine aR rfl ?_
   refine dR ?_
   simp only[aI,bL,if_true]
   refine next _ ?_
   rw[← k3,oY,dif_pos hkl,if_neg hz]
   exact .of_keep [0,2,3,4,5] rfl
  have d1:decide (k<l.length)=false:=decide_eq_false hkl
  refine aC fun K4 hK4=>aA [] ?_
  simp only[qq,aF,Nat.reduceLT,aB,reduceCtorEq,Nat.reduceEqDiff,bI,bV,eN,Tryz.underlying43,aL,aP,bH,jM,d1,dD,bT,Option.bind_some,aW,Bool.not_true,eW,gok,bU,cav,aG,aI]
  refine hK4 _ ?_
  clear hK4 K4
  refine aR rfl ?_
  refine dR ?_
  simp only[aI,bL,if_true]
  refine next _ ?_
  rw[← k3,oY,dif_neg hkl]
  exact .of_keep [0,2,3,4,5] rfl
 have d:decide (i<l.length)=false:=decide_eq_false hlt
 have he:i=l.length:=by omega
 subst he
 refine aR (by simp[lk,d]) ?_
 refine dR ?_
 simp only[aI,bL,if_true]
 refine hK0 _ ?_
 clear hK0 K0 hK K
 refine kp [2,3] ?_
 refine ks [2,3] ?_
 apply aS
 simp only[seval,kT,kF]
theorem aAO [Gv] (sep:List UInt8) (m:Nat):∀ l:List (List UInt8),(∀ x∈l,x.length≤m)→(Lib.join l sep).length≤l.length*(m+sep.length)
 | [],_=>by simp[Lib.join_nil]
 | x::r,h=>by
  have h1:=h x (by simp)
  have h2:(Lib.joinTail sep r).length≤r.length*(m+sep.length):=by
   clear h1
   induction r with
   | nil=>simp[Lib.joinTail]
   | cons y r ih=>
    have:=ih (fun z hz=>h z (by simp at hz ⊢;rcases hz with hz|hz<;>simp[hz]))
    have h3:=h y (by simp)
    simp only[Lib.joinTail,List.map_cons,List.flatten_cons,List.length_append,List.length_cons,Nat.add_mul,Nat.one_mul] at this ⊢
    omega
  rw[Lib.join_cons,List.length_append,List.length_cons,Nat.add_mul,Nat.one_mul]
  omega
def jN (b:List UInt8):List (List UInt8):=(b.take 4).map fun x=>Lib.itoa (x.toNat:Int)
def aEB (b:List UInt8) (i:Nat):Nat:=(b.getD (2*i) 0).toNat*256+(b.getD (2*i+1) 0).toNat
def aTo (b:List UInt8):List (List UInt8):=(List.range 8).map fun i=>pD (aEB b i)
def aDv (l:List (List UInt8)):List UInt8:=
 if (rX l l.length).2=0 then Lib.join l [58] else Lib.join (l.take (rX l l.length).1) [58]++[58,58]++Lib.join (l.drop (rX l l.length).2) [58]
def tB (v6:Bool) (b:List UInt8):List UInt8:=if lP v6 b then (if v6 then aDv (aTo b) else Lib.join (jN b) [46]) else []
theorem aFH [Gv] (b:List UInt8):∀ x∈jN b,x.length≤21:=by
 intro x hx
 obtain⟨y,_,rfl⟩:=List.mem_map.1 hx
 have:=y.toNat_lt
 exact tJ _ (by omega) (by omega)
theorem aNg [Gv] {b:List UInt8} {i:Nat} (hi:i<4) (hb:b.length=16):(jN b).take (i+1)=(jN b).take i++[Lib.itoa ((b.getD i 0).toNat:Int)]:=by
 have hl:i<(jN b).length:=by simp[jN];omega
 rw[List.take_add_one,List.getElem?_eq_getElem hl]
 simp only[Option.toList_some]
 congr 2
 simp[jN,List.getD_eq_getElem?_getD,List.getElem?_eq_getElem (show i<b.length by omega)]
def sN (T:List (List UInt8)) (r i:Nat):AV:=if i=0 then .sl 0 [] .full else .sl i (dU (T.take i)) (.tok r)
def uZ (i:Nat):List AObj:=if i=0 then [] else [.tok 1 i]
theorem aIu [Gv] (b:List UInt8) (hb:b.length=16):ACalls Tryz.prog GP 175 [.agg (AD false b)] [] (fun r os=>os=[]∧r=str (tB false b)):=by
 have cA:=yE false b hb
 obtain⟨T,hT⟩:∃ T,tB false b=T:=⟨_,rfl⟩
 rw[hT]
 unfold tB at hT
 unfold AD at *
 have htk:(Bs b).take 16=Bs b:=List.take_of_length_le (by rw[aX];omega)
 have hlen:(Bs b).length=16:=by rw[aX];exact hb
 refine ke Tryz.func175 Tryz.ntmps175 Tryz.results175 #[9] ?_
 refine ks [1] ?_
 refine aC fun K hK=>?_
 refine kw [] (kI hlen htk) fun K2 hK2=>?_
 refine kc (cA) (hK2 _ ?_)
 clear hK2 K2
 cases hf:lP false b with
 | false=>
  rw[hf] at hT
  refine bG rfl ?_
  refine ks [2] ?_
  apply aS
  simp only[aI]
  simp only[seval,kT,kF]
  rw[← hT];rfl
 | true=>
 rw[hf] at hT
 simp only[if_true,Bool.false_eq_true,if_false] at hT
 refine aR rfl (bC ?_)
 simp only[aI]
 refine hK _ ?_
 clear hK K
 refine kp [1] ?_
 refine ks [1,3] ?_
 refine aC fun K hK=>?_
 refine aC fun K hK=>aA [] ?_
 simp only[qq,aF,aN,Tryz.underlying26,bD,aB,Nat.reduceEqDiff,ne_eq,reduceCtorEq,Nat.reduceLT,aY,apart,aO,Tryz.underlying4,aun,aG,aI,aX,Bool.not_false]
 (repeat' apply And.intro)<;>try (first|exact True.intro|omega)
 refine hK _ ?_
 clear hK K
 refine bG rfl ?_
 refine aE [1,3] ?_
 simp only[aD,aB,Nat.reduceEqDiff,if_true,if_false]
 have hdl:(jN b).length=4:=by simp[jN];omega
 have h1:=aFH b
 have h2:=fun i (hi:i<4)=>aNg (b:=b) hi hb
 refine aC fun K2 hK2=>?_
 refine aC fun K hK=>aA [] ?_
 simp only[qq,aF,aN,Tryz.underlying26,bD,aB,Nat.reduceEqDiff,ne_eq,reduceCtorEq,Nat.reduceLT,eY,iR,Option.map_none,Option.map_some,cav,Tryz.underlying24,eJ,Int.le_refl,dH,Int.reduceLE,true_or,Int.sub_zero,Int.reduceToNat,Int.toNat_zero,Nat.zero_mul,iC,or_true,Int.toNat_natCast,bI,bV,Tryz.underlying54,eN,aG,aI,Int.cast_ofNat_Int]
 (repeat' apply And.intro)<;>try (first|exact True.intro|omega)
 refine hK _ ?_
 clear hK K
 refine aE [1,3,16,17,18] ?_
 simp only[aD,aB,Nat.reduceEqDiff,if_true,if_false]
 refine bK ?_
 refine bZ (fun i:Nat=>⟨71,[(1,.ptr 0 0),(3,sN (jN b) 1 i),(16,.osl 0 1 4 (some 16)),(17,.val (.int .i64 4)),(18,.val (.int .i64 (i:Int)))],.cells (.val (.bool false)::Bs b)::uZ i⟩)
  (fun i=>i≤4) (fun i=>4 - i) 0 (by omega) (.of_keep [1,3,16,17,18] rfl) ?_
 intro i hi
 refine ky @aCB ?_
 by_cases hlt:i<4
 ·have d:decide (i<4)=true:=decide_eq_true hlt
  rw[d]
  refine bJ ?_
  refine bG rfl (bC ?_)
  simp only[aI]
  refine aC fun K3 hK3=>bK ?_
  have hgd:(AV.val (.bool false)::Bs b).getD (1+i) .top=.val (.int .u8 ((b.getD i 0).toNat:Int)):=by
   rw[Nat.add_comm,List.getD_cons_succ,kP (by omega)];rfl
  have cI:=aEG ((b.getD i 0).toNat:Int) (by omega) (by have:=(b.getD i 0).toNat_lt;omega)
  have wc:IntKind.i64.wrap ((b.getD i 0).toNat:Int)=((b.getD i 0).toNat:Int):=fD (by have:=(b.getD i 0).toNat_lt;omega)
  have h2i:=h2 i hlt
  simp only[str] at cI
  generalize Lib.itoa ((b.getD i 0).toNat:Int)=D at *
  have w3:IntKind.i64.wrap ((i+1:Nat):Int)=((i+1:Nat):Int):=fD (by omega)
  have step:∀ s,gE GP s ⟨71,[(1,.ptr 0 0),(3,.sl (i+1) (dU ((jN b).take i)++[str D]) (.tok 1)),(16,.osl 0 1 4 (some 16)),(17,.val (.int .i64 4)),(18,.val (.int .i64 (i:Int)))],[.cells (.val (.bool false)::Bs b),.tok 1 (i+1)]⟩→K3 s:=by
   intro s hw
   refine hK3 s (eX hw ?_)
   clear hw hK3 K3
   refine aA [] ?_
   simp only[qq,aF,aB,Nat.reduceEqDiff,cav,aL,aP,bH,gO,w3,Nat.reduceLT,aG,aI]
   refine⟨i+1,by omega,by omega,?_⟩
   have e3:dU ((jN b).take i)++[str D]=dU ((jN b).take (i+1)):=by rw[h2i];simp[dU]
   rw[e3]
   simp only[sN,uZ,Nat.add_one_ne_zero,if_false]
   exact .of_keep [1,3,16,17,18] rfl
  refine aC fun K hK=>aA [] ?_
  simp only[qq,aF,dN,aB,Nat.reduceEqDiff,Tryz.underlying54,bD,Int.cast_ofNat_Int,Int.toNat_natCast,Nat.mul_one,Nat.reduceLT,aY,apart,aO,Tryz.underlying5,aG,aI,hlen,Nat.reduceAdd,hgd]
  (repeat' apply And.intro)<;>try (first|exact True.intro|omega)
  refine hK _ ?_
  clear hK K
  have hz:List.drop 1 (kZ [Value.string ⟨#[]⟩] 1)=[]:=rfl
  by_cases h0:i=0
  ·subst h0
   have g1:sN (jN b) 1 0=.sl 0 [] .full:=rfl
   have g2:uZ 0=[]:=rfl
   rw[g1,g2]
   refine aA [] ?_
   simp only[qq,Int.cast_ofNat_Int,Nat.reduceSub,aF,Nat.reduceLT,aB,Nat.reduceEqDiff,eL,Tryz.underlying3,eG,bA,aH,fF,Tryz.underlying5,Option.isSome_some,wc,aU,Nat.reduceAdd,bF,aT]
   refine aV (by simp[aJ,aM,aH]) (cI) (by simp[aH,aM,aJ,flat]) ?_
   simp only[qq,aK,aF,dV,Tryz.underlying43,bD,bS,Nat.mul_one,dO,aB,Nat.reduceEqDiff,eM,spl,bB,hz,List.all_cons,dC,Value.oneCell',List.all_nil,Nat.reduceLeDiff,dL,Nat.reduceLT,bI,fP,lX,gC,eQ,Nat.reduceMul,aG]
   refine⟨Nat.le_refl _,step _ ?_⟩
   exact .of_keep [1,3,16,17,18] rfl
  have hsl:(dU ((jN b).take i)).length=i:=by rw[dY];simp;omega
  have g1:sN (jN b) 1 i=.sl i (dU ((jN b).take i)) (.tok 1):=if_neg h0
  have g2:uZ i=[.tok 1 i]:=if_neg h0
  rw[g1,g2]
  refine ku [] wc ?_
  refine kv (cI) (kI hz hsl) ?_
  refine⟨Nat.le_refl _,⟨by omega,by omega⟩,step _ ?_⟩
  exact .of_keep [1,3,16,17,18] rfl
 have d:decide (i<4)=false:=decide_eq_false hlt
 have he:i=4:=by omega
 subst he
 rw[d]
 refine bJ ?_
 apply aR rfl
 apply dR
 simp only[seval,kT,kF]
 refine hK2 _ ?_
 clear hK2 K2
 have g1:sN (jN b) 1 4=.sl 4 (dU (jN b)) (.tok 1):=by
  unfold sN;rw[if_neg (by decide),List.take_of_length_le (by omega)]
 have g2:uZ 4=[.tok 1 4]:=rfl
 rw[g1,g2]
 refine kp [3] ?_
 have hj:=aAO [46] 21 (jN b) h1
 rw[hdl] at hj
 have cJ:=uJ (jN b) [46] .no (by omega) (Nat.le_trans hj (by decide))
 rw[hdl,hT] at cJ
 generalize jN b=L at *
 simp only[str] at cJ
 refine kr [] fun K2 hK2=>?_
 refine aV (by simp[dP,aM,aH]) cJ rfl ?_
 simp only[seval,kT]
 refine hK2 _ ?_
 clear hK2 K2
 refine kp [2] ?_
 apply aS
 simp only[aI]
 simp only[seval,kT,kF,str]
theorem aQc [Gv] (a b:Nat) (ha:a<256) (hb:b<256):bits .or .u64 ((a*256:Nat):Int) (b:Int)=((a*256+b:Nat):Int):=by
 have e:a*256 ||| b=a*256+b:=by
  have:=Nat.shiftLeft_add_eq_or_of_lt (i:=8) (b:=b) hb a
  rw[Nat.shiftLeft_eq] at this
  exact this.symm
 rw[(nM .u64 _ _ uV).2.1,e,Nat.mod_eq_of_lt (by rw[show IntKind.u64.bits=64 from rfl,nH];omega)]
theorem aFS [Gv]:∀ (k u:Nat),u<16^(k+1)→(pD u).length≤k+1
 | 0,u,h=>by rw[aEC (by simpa using h)];simp
 | k+1,u,h=>by
  by_cases hu:u<16
  ·rw[aEC hu];simp
  ·have:=aFS k (u/16) (by rw[Nat.div_lt_iff_lt_mul (by decide),← Nat.pow_succ];exact h)
   rw[aIJ hu,List.length_append]
   simp only[List.length_cons,List.length_nil]
   omega
theorem aNo [Gv] (b:List UInt8) (i:Nat):aEB b i<65536:=by
 unfold aEB
 have:=(b.getD (2*i) 0).toNat_lt
 have:=(b.getD (2*i+1) 0).toNat_lt
 omega
theorem aFQ [Gv] (b:List UInt8):∀ x∈aTo b,x.length≤16:=by
 intro x hx
 obtain⟨i,_,rfl⟩:=List.mem_map.1 hx
 have:=aFS 3 (aEB b i) (aNo b i)
 omega
theorem aNp [Gv] {b:List UInt8} {i:Nat} (hi:i<8):(aTo b).take (i+1)=(aTo b).take i++[pD (aEB b i)]:=by
 have hl:i<(aTo b).length:=by simp[aTo];omega
 rw[List.take_add_one,List.getElem?_eq_getElem hl]
 simp[aTo]
theorem aIv [Gv] (b:List UInt8) (hb:b.length=16):ACalls Tryz.prog GP 175 [.agg (AD true b)] [] (fun r os=>os=[]∧r=str (tB true b)):=by
 have cA:=yE true b hb
 obtain⟨T,hT⟩:∃ T,tB true b=T:=⟨_,rfl⟩
 rw[hT]
 unfold tB at hT
 have hf:lP true b=true:=rfl
 rw[hf] at hT cA
 simp only[if_true] at hT
 unfold AD at *
 have htk:(Bs b).take 16=Bs b:=List.take_of_length_le (by rw[aX];omega)
 have hlen:(Bs b).length=16:=by rw[aX];exact hb
 refine ke Tryz.func175 Tryz.ntmps175 Tryz.results175 #[9] ?_
 refine ks [1] ?_
 refine aC fun K hK=>?_
 refine kw [] (kI hlen htk) fun K2 hK2=>?_
 refine kc (cA) (hK2 _ ?_)
 clear hK2 K2
 refine aR rfl (bC ?_)
 simp only[aI]
 refine hK _ ?_
 clear hK K
 refine kp [1] ?_
 refine ks [1,3] ?_
 refine aC fun K hK=>?_
 refine aC fun K hK=>aA [] ?_
 simp only[qq,aF,aN,Tryz.underlying26,bD,aB,Nat.reduceEqDiff,ne_eq,reduceCtorEq,Nat.reduceLT,aY,apart,aO,Tryz.underlying4,aun,aG,aI,aX,Bool.not_true]
 (repeat' apply And.intro)<;>try (first|exact True.intro|omega)
 refine hK _ ?_
 clear hK K
 refine aR rfl (bC ?_)
 simp only[aI]
 refine hK _ ?_
 clear hK K
 refine aE [1,3] ?_
 simp only[aD,aB,Nat.reduceEqDiff,if_true,if_false]
 have hdl:(aTo b).length=8:=by simp[aTo]
 have h1:=aFQ b
 have h2:=fun i (hi:i<8)=>aNp (b:=b) hi
 refine aC fun K2 hK2=>?_
 refine ks [1,3,6] ?_
 refine bK ?_
 refine bZ (fun i:Nat=>⟨71,[(1,.ptr 0 0),(3,sN (aTo b) 1 i),(6,.val (.int .i64 ((2*i:Nat):Int)))],.cells (.val (.bool true)::Bs b)::uZ i⟩)
  (fun i=>i≤8) (fun i=>8 - i) 0 (by omega) (.of_keep [1,3,6] rfl) ?_
 intro i hi
 by_cases hlt:i<8
 ·have d:decide (2*i<16)=true:=decide_eq_true (by omega)
  refine aC fun K3 hK3=>?_
  refine ky (kI @aCB d) ?_
  refine bG rfl (bC ?_)
  simp only[aI]
  refine hK3 _ ?_
  clear hK3 K3
  refine kp [1,3,6] ?_
  have b1:=(b.getD (2*i) 0).toNat_lt
  have b2:=(b.getD (2*i+1) 0).toNat_lt
  have g1:(AV.val (.bool true)::Bs b).getD (1+2*i) .top=.val (.int .u8 ((b.getD (2*i) 0).toNat:Int)):=by
   rw[Nat.add_comm,List.getD_cons_succ,kP (by omega)];rfl
  have g2:(AV.val (.bool true)::Bs b).getD (1+(2*i+1)) .top=.val (.int .u8 ((b.getD (2*i+1) 0).toNat:Int)):=by
   rw[Nat.add_comm,List.getD_cons_succ,kP (by omega)];rfl
  have hN:aEB b i=(b.getD (2*i) 0).toNat*256+(b.getD (2*i+1) 0).toNat:=rfl
  have h2i:=h2 i hlt
  have cI:=aJU (aEB b i) (by rw[hN];omega)
  have ho:=aQc _ _ b1 b2
  rw[← hN] at ho
  have wi:IntKind.i64.wrap ((2*i+1:Nat):Int)=((2*i+1:Nat):Int):=fD (by omega)
  have w1:IntKind.u64.wrap ((b.getD (2*i) 0).toNat:Int)=((b.getD (2*i) 0).toNat:Int):=uV _ (by rw[show IntKind.u64.bits=64 from rfl,nH];omega)
  have w2:IntKind.u64.wrap ((b.getD (2*i+1) 0).toNat:Int)=((b.getD (2*i+1) 0).toNat:Int):=uV _ (by rw[show IntKind.u64.bits=64 from rfl,nH];omega)
  have w4:(b.getD (2*i) 0).toNat*2^8%18446744073709551616=(b.getD (2*i) 0).toNat*256:=by
   rw[show (2:Nat)^8=256 from rfl];omega
  simp only[str] at cI
  generalize pD (aEB b i)=D at *
  generalize aEB b i=g at *
  have w3:IntKind.i64.wrap ((2*i+2:Nat):Int)=((2*i+2:Nat):Int):=fD (by omega)
  have hz:List.drop 1 (kZ [Value.string ⟨#[]⟩] 1)=[]:=rfl
  refine aC fun K3 hK3=>bK ?_
  have step:∀ s,gE GP s ⟨71,[(1,.ptr 0 0),(3,.sl (i+1) (dU ((aTo b).take i)++[str D]) (.tok 1)),(6,.val (.int .i64 ((2*i:Nat):Int)))],[.cells (.val (.bool true)::Bs b),.tok 1 (i+1)]⟩→K3 s:=by
   intro s hw
   refine hK3 s (eX hw ?_)
   clear hw hK3 K3
   refine aA [] ?_
   simp only[qq,aF,Nat.reduceLT,aB,Nat.reduceEqDiff,cav,aL,aP,bH,gO,w3,aG,aI]
   refine⟨i+1,by omega,by omega,?_⟩
   have e3:dU ((aTo b).take i)++[str D]=dU ((aTo b).take (i+1)):=by rw[h2i];simp[dU]
   rw[e3,show 2*(i+1)=2*i+2 by omega]
   simp only[sN,uZ,Nat.add_one_ne_zero,if_false]
   exact .of_keep [1,3,6] rfl
  by_cases h0:i=0
  ·have e1:sN (aTo b) 1 i=.sl 0 [] .full:=if_pos h0
   have e2:uZ i=[]:=if_pos h0
   rw[e1,e2]
   refine dW [49] (by kernel_rfl) (by kernel_rfl) ?_
   simp only[qq,aF,Nat.reduceLT,aB,Nat.reduceEqDiff,aN,Tryz.underlying26,bD,ne_eq,reduceCtorEq,dN,Tryz.underlying24,Int.toNat_natCast,aY,List.contains_cons,Nat.reduceBEq,apart,aO,Tryz.underlying5,eL,Tryz.underlying30,eG,bA,bW,fF,Option.isSome_some,cav,aL,aP,bH,gO,wi,aU,Nat.reduceAdd,bF,beq_self_eq_true,aT,List.headD_cons,aH,Int.cast_ofNat_Int,Nat.mul_one,hlen,g1,w1,Int.reduceLE,Int.reduceToNat,IntKind.bits,Nat.min_def,Nat.reduceLeDiff,aCq,tN,w4,g2,w2,ho]
   refine⟨⟨by omega,by omega⟩,by omega,⟨by omega,by omega⟩,by omega,?_⟩
   refine aV (by simp[aJ,aM,aH]) (cI) (by simp[aH,aM,aJ,flat]) ?_
   simp only[qq,aK,aF,List.contains_cons,Nat.reduceBEq,dV,Tryz.underlying43,bD,bS,Nat.mul_one,dO,aB,Nat.reduceEqDiff,eM,spl,bB,hz,List.all_cons,dC,Value.oneCell',List.all_nil,Nat.reduceLeDiff,dL,Nat.reduceLT,bI,fP,lX,gC,eQ,Nat.reduceMul,aG]
   subst h0
   refine⟨Nat.le_refl _,step _ ?_⟩
   exact .of_keep [1,3,6] rfl
  have hsl:(dU ((aTo b).take i)).length=i:=by rw[dY];simp;omega
  have e1:sN (aTo b) 1 i=.sl i (dU ((aTo b).take i)) (.tok 1):=if_neg h0
  have e2:uZ i=[.tok 1 i]:=if_neg h0
  rw[e1,e2]
  refine dW [49] (by kernel_rfl) (by kernel_rfl) ?_
  simp only[qq,aF,Nat.reduceLT,aB,Nat.reduceEqDiff,aN,Tryz.underlying26,bD,ne_eq,reduceCtorEq,dN,Tryz.underlying24,Int.toNat_natCast,aY,List.contains_cons,Nat.reduceBEq,apart,aO,Tryz.underlying5,eL,Tryz.underlying30,eG,bA,bW,fF,Option.isSome_some,cav,aL,aP,bH,gO,wi,aU,Nat.reduceAdd,bF,beq_self_eq_true,aT,List.headD_cons,aH,Int.cast_ofNat_Int,Nat.mul_one,hlen,g1,w1,Int.reduceLE,Int.reduceToNat,IntKind.bits,Nat.min_def,Nat.reduceLeDiff,aCq,tN,w4,g2,w2,ho]
  refine⟨⟨by omega,by omega⟩,by omega,⟨by omega,by omega⟩,by omega,?_⟩
  refine aV (by simp[aJ,aM,aH]) (cI) (by simp[aH,aM,aJ,flat]) ?_
  simp only[qq,aK,aF,List.contains_cons,Nat.reduceBEq,dV,Tryz.underlying43,bD,bS,Nat.mul_one,dO,aB,Nat.reduceEqDiff,eM,spl,bB,hz,List.all_cons,dC,Value.oneCell',List.all_nil,Nat.reduceLeDiff,Nat.reduceAdd,dL,Nat.reduceLT,bI,fP,lX,gC,eQ,hsl,aG]
  refine⟨Nat.le_refl _,⟨by omega,by omega⟩,step _ ?_⟩
  exact .of_keep [1,3,6] rfl
 have d:decide (2*i<16)=false:=decide_eq_false (by omega)
 have he:i=8:=by omega
 subst he
 refine aC fun K3 hK3=>?_
 refine kq ?_
 apply aR rfl
 apply dR
 simp only[seval,kT,kF]
 refine hK2 _ ?_
 clear hK2 K2 hK3 K3
 have g1:sN (aTo b) 1 8=.sl 8 (dU (aTo b)) (.tok 1):=by
  unfold sN;rw[if_neg (by decide),List.take_of_length_le (by omega)]
 have g2:uZ 8=[.tok 1 8]:=rfl
 rw[g1,g2]
 refine kp [3] ?_
 unfold aDv at hT
 have cO:=aPj (aTo b) .no (by omega)
 have jj:=fun (l:List (List UInt8)) (h:∀ x∈l,x.length≤16)=>aAO [58] 16 l h
 rw[hdl] at hT cO
 obtain⟨n1,n2⟩:=aEL (aTo b) 8 (by omega)
 have n3:(rX (aTo b) 8).2≤8:=by omega
 generalize aTo b=L at *
 generalize rX L 8=F at *
 refine kr [] fun K2 hK2=>?_
 refine aV (by simp[dP,aM,aH]) cO rfl ?_
 simp only[seval,kT]
 refine hK2 _ ?_
 clear hK2 K2
 refine kp [3,7,8] ?_
 refine aC fun K2 hK2=>?_
 by_cases hz:F.2=0
 ·rw[if_pos hz] at hT
  have d:((F.2:Int) == 0)=true:=by rw[hz];rfl
  have hj:=jj L h1
  have cJ:=uJ L [58] .no (by omega) (Nat.le_trans hj (by rw[hdl];decide))
  rw[hdl,hT] at cJ
  refine ky d ?_
  refine bG rfl ?_
  refine kp [3] ?_
  simp only[str] at cJ
  refine kr [] fun K3 hK3=>?_
  refine aV (by simp[dP,aM,aH]) cJ rfl ?_
  simp only[seval,kT]
  refine hK3 _ ?_
  clear hK3 K3
  refine kp [2] ?_
  apply aS
  simp only[aI]
  simp only[seval,kT,kF,str]
 rw[if_neg hz] at hT
 have d:((F.2:Int) == 0)=false:=by rw[beq_eq_false_iff_ne];omega
 refine ky d ?_
 refine aR rfl (bC ?_)
 simp only[aI]
 refine hK2 _ ?_
 clear hK2 K2
 refine kp [3,7,8] ?_
 refine aC fun K2 hK2=>?_
 have st:∀ n,(dU L).take n=dU (L.take n):=fun n=>by simp[dU]
 have sd:∀ n,(dU L).drop n=dU (L.drop n):=fun n=>by simp[dU]
 have l1:(L.take F.1).length=F.1:=by simp;omega
 have l2:(L.drop F.2).length=8 - F.2:=by simp[hdl]
 have j1:=jj (L.take F.1) (fun x hx=>h1 x (List.mem_of_mem_take hx))
 have j2:=jj (L.drop F.2) (fun x hx=>h1 x (List.mem_of_mem_drop hx))
 rw[l1] at j1
 rw[l2] at j2
 have k1:F.1*(16+[(58:UInt8)].length)≤8*17:=Nat.mul_le_mul (by omega) (Nat.le_refl _)
 have k2:(8 - F.2)*(16+[(58:UInt8)].length)≤8*17:=Nat.mul_le_mul (by omega) (Nat.le_refl _)
 have c1:=uJ (L.take F.1) [58] .no (by omega) (by omega)
 have c2:=uJ (L.drop F.2) [58] .no (by omega) (by omega)
 rw[l1] at c1
 rw[l2] at c2
 have hto:((8:Int) - (F.2:Int)).toNat=8 - F.2:=by omega
 have hts:((dU (L.drop F.2)).take (8 - F.2))=dU (L.drop F.2):=List.take_of_length_le (by rw[dY];omega)
 generalize Lib.join (L.take F.1) [58]=D1 at *
 generalize Lib.join (L.drop F.2) [58]=D2 at *
 simp only[str] at c1 c2
 refine kde [64,69] (kI (kI @dY hdl) (kI st @dP)) ?_
 refine⟨by omega,?_⟩
 refine aV (by simp[dP,aM,aH]) c1 rfl ?_
 simp only[seval,kT,oB _ [58,58],dY,hdl,hto,sd,hts]
 refine⟨by omega,by omega,?_⟩
 refine aV (by simp[dP,aM,aH]) c2 rfl ?_
 simp only[seval,kT,List.length_append,oB]
 refine⟨by omega,hK2 _ ?_⟩
 clear hK2 K2
 refine kp [2] ?_
 apply aS
 simp only[seval,kT,kF]
 rw[← hT];rfl
theorem aKx [Gv] (v6:Bool) (b:List UInt8) (hb:b.length=16):ACalls Tryz.prog GP 175 [.agg (AD v6 b)] [] (fun r os=>os=[]∧r=str (tB v6 b)):=by
 cases v6
 ·exact aIu b hb
 ·exact aIv b hb
def aEK (v6:Bool) (b:List UInt8) (bits:Int):List UInt8:=if yT v6 b bits then tB v6 b++[47]++Lib.itoa bits else []
theorem aGu [Gv] (l:List (List UInt8)) (h:l.length=8) (h1:∀ x∈l,x.length≤16):(aDv l).length≤300:=by
 have jj:=fun (l:List (List UInt8)) (h:∀ x∈l,x.length≤16)=>aAO [58] 16 l h
 obtain⟨n1,n2⟩:=aEL l l.length (by omega)
 unfold aDv
 split
 ·have:=jj l h1
  rw[h] at this
  exact Nat.le_trans this (by decide)
 ·generalize rX l l.length=F at *
  have j1:=jj (l.take F.1) (fun x hx=>h1 x (List.mem_of_mem_take hx))
  have j2:=jj (l.drop F.2) (fun x hx=>h1 x (List.mem_of_mem_drop hx))
  have l1:(l.take F.1).length≤8:=by simp;omega
  have l2:(l.drop F.2).length≤8:=by simp;omega
  have k1:(l.take F.1).length*(16+[(58:UInt8)].length)≤8*17:=Nat.mul_le_mul l1 (Nat.le_refl _)
  have k2:(l.drop F.2).length*(16+[(58:UInt8)].length)≤8*17:=Nat.mul_le_mul l2 (Nat.le_refl _)
  simp only[List.length_append,List.length_cons,List.length_nil] at *
  omega
theorem aCM [Gv] (v6:Bool) (b:List UInt8):(tB v6 b).length≤300:=by
 unfold tB
 split
 ·split
  ·exact aGu _ (by simp[aTo]) (aFQ b)
  ·have:=aAO [46] 21 (jN b) (aFH b)
   have l1:(jN b).length≤4:=by simp[jN];omega
   have k1:(jN b).length*(21+[(46:UInt8)].length)≤4*22:=Nat.mul_le_mul l1 (Nat.le_refl _)
   omega
 ·simp
theorem aJi [Gv] {v6:Bool} {b:List UInt8} {bits:Int} (h:yT v6 b bits=true):0≤bits∧bits≤128∧lP v6 b=true:=by
 unfold yT at h
 cases hn:nG v6 b bits with
 | none=>rw[hn] at h;cases h
 | some l=>
  unfold nG at hn
  by_cases hc:lP v6 b=true∧0≤bits∧bits≤(if v6 then 128 else 32)
  ·refine⟨hc.2.1,?_,hc.1⟩
   have:=hc.2.2
   split at this<;>omega
  ·rw[if_neg hc] at hn;cases hn
theorem aMM [Gv] (v6:Bool) (b:List UInt8) (bits:Int) (hb:b.length=16) (h64:-9223372036854775808≤bits∧bits≤9223372036854775807) :
  ACalls Tryz.prog GP 110 [.agg (NT v6 b bits)] [] (fun r os=>os=[]∧r=str (aEK v6 b bits)):=by
 have cC:=aCr v6 b bits hb h64
 have cA:=aKx v6 b hb
 have cI:=aEG bits h64.1 h64.2
 have la:=aCM v6 b
 have li:=tJ bits h64.1 h64.2
 have hNl:=fZ v6 b bits hb
 have hNo:=jO v6 b bits
 have hNn:=iZ v6 b bits
 have hNt:(NT v6 b bits).take 18=NT v6 b bits:=List.take_of_length_le (by omega)
 have hN0:(NT v6 b bits).take 17=AD v6 b:=by
  have:(Bs b).length=16:=by rw[aX];exact hb
  simp[NT,AD,List.take_append,this]
 have hN17:(NT v6 b bits).getD 17 .top=.val (.int .i64 bits):=by
  have:(Bs b).length=16:=by rw[aX];exact hb
  simp[NT,List.getD_eq_getElem?_getD,List.getElem?_append_right,this]
 have hAn:aM (AD v6 b)=true:=by simp[AD,aM,aH,Go.V.aJ]
 unfold aEK
 generalize tB v6 b=D1 at *
 generalize Lib.itoa bits=D2 at *
 generalize AD v6 b=AV1 at *
 generalize NT v6 b bits=N0 at *
 simp only[str] at *
 cases hf:yT v6 b bits with
 | false=>
  rw[hf] at cC
  refine ke Tryz.func110 Tryz.ntmps110 Tryz.results110 #[9] ?_
  refine kx [1] hNo ?_
  refine aC fun K hK=>?_
  refine kw [] (kI hNl hNt) fun K2 hK2=>?_
  refine aV hNn cC rfl ?_
  simp only[seval,kT]
  refine hK2 _ ?_
  clear hK2 K2
  apply bG rfl
  refine ks [2] ?_
  apply aS
  simp only[seval,kT]
  simp only[seval,kT,kF]
 | true=>
  rw[hf] at cC
  refine ke Tryz.func110 Tryz.ntmps110 Tryz.results110 #[9] ?_
  refine kx [1] hNo ?_
  refine aC fun K hK=>?_
  refine kw [] (kI hNl hNt) fun K2 hK2=>?_
  refine aV hNn cC rfl ?_
  simp only[seval,kT]
  refine hK2 _ ?_
  clear hK2 K2
  refine aR rfl (bC ?_)
  simp only[seval,kT]
  refine hK _ ?_
  clear hK K
  refine kp [1] ?_
  refine aC fun K hK=>?_
  refine kde [8,12] (kI hNl hN0) ?_
  refine aV hAn cA rfl ?_
  simp only[seval,kT,oB _ [47],hNl,hN17]
  refine⟨by omega,?_⟩
  refine kv (cI) (kI @List.length_append.{0} @oB) ?_
  refine⟨by omega,hK _ ?_⟩
  clear hK K
  refine kp [2] ?_
  apply aS
  simp only[seval,kT,kF]
end Go.Proofs.YtefdnmeopbkflaaGreatDoor
