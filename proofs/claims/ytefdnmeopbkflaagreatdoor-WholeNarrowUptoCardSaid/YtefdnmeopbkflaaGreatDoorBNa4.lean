/-
  Texts of one proof, merged: Gj, Ka, Kb, Gk, Kc, Kd, Ke, Kf, Ta, Kg, Sh, Na, La, Nb, Lb, Nc, Lc, Ld, Nd, Ne, Nf, Le, Lf, Lg.
-/
import Derived.Test.YtefdnmeopbkflaaGreatDoorBNa3
import Derived.Shelf.Strings.Builder1
import Derived.Shelf.Strings.Builder2
import Derived.Shelf.Strings.OnBuilder
import Derived.Shelf.Small.Utf8
import Derived.Shelf.Small.Strs
import Derived.Shelf.Small.Wraps
import Derived.Shelf.Utf8.RuneCount
import Derived.Shelf.Strconv.Atoi
import Derived.Shelf.Strconv.Itoa0
import Derived.Shelf.Strconv.Itoa1
import Derived.Shelf.LaysM
import Derived.Shelf.Strconv.Itoa2
import Derived.Shelf.Strconv.Itoa3
import Derived.Shelf.Strconv.AtoiErrFast
import Derived.Shelf.Strconv.ParseIntEmpty
import Derived.Shelf.Strconv.AtoiFail
import Derived.Shelf.Strconv.Clone
import Derived.Shelf.Strconv.SyntaxError
import Derived.Shelf.LaysC
import Derived.Shelf.Strconv.ToError
import Derived.Shelf.Strconv.Lower
import Derived.Shelf.Strconv.ParseUint10
import Derived.Shelf.Strconv.ParseUint10Empty
import Derived.Shelf.Strconv.ParseUint10Any
import Derived.Shelf.Strconv.ParseInt10
import Derived.Shelf.Strconv.AtoiLong
import Derived.Shelf.Strconv.AtoiInnerAll
import Derived.Shelf.Strconv.RangeError
import Derived.Shelf.Strconv.ToErrorRange
import Derived.Shelf.Strconv.AtoiAll
import Derived.Shelf.Strconv.ErrVarAll
import Derived.Ground.MpProg
import Derived.Shelf.Pu.ParseUintPublic10
import Derived.Shelf.Pu.ErrVarParseUint
import Derived.Shelf.Strings.Search1
import Derived.Shelf.Strings.Search2
import Derived.Shelf.Strings.Search3
import Derived.Shelf.Strings.Cut
import Derived.Shelf.Strings.Count
import Derived.Shelf.Strings.Shaped
import Derived.Shelf.GgClosure.StringsIndexFunc
import Derived.Ground.GgwProg
import Derived.Shelf.GgClosure.StringsIndexFuncTop
import Derived.Shelf.GgClosure.StringsRunes
import Derived.Shelf.Strings.Prefix
import Derived.Shelf.Strings.Split
import Derived.Shelf.Strings.SplitShaped
import Derived.Shelf.Unicode.Decode
import Derived.Shelf.Strings.Runes
import Derived.Shelf.Strings.RuneCount
import Derived.Shelf.Strings.Explode
import Derived.Shelf.Unicode.DecodeSlow
import Derived.Shelf.Unicode.DecodeAny
import Derived.Shelf.Strings.FuncGrows
import Derived.Shelf.Slices.Turned
import Derived.Shelf.Slices.Equal
import Derived.Shelf.Slices.Empties2
import Derived.Test.YtefdnmeopbkflaaGreatDoorProg
import Derived.Shelf.Spec.TrailingZeros
set_option linter.unusedSimpArgs false
set_option linter.unusedVariables false
namespace Go.Proofs.YtefdnmeopbkflaaGreatDoor
open Go Go.V
set_option linter.unusedSimpArgs false
set_option linter.unusedVariables false
set_option maxRecDepth 20000
theorem oL [Gv]:([.val (.int .u64 0),.val (.string ⟨#[]⟩),.sl 0 [] .full,.val (.bool false),.val (.int .u8 0),.val (.int .u8 0),.val (.int .u8 0),.val (.int .u8 0),.val (.int .u8 0),.val (.int .u8 0),.val (.int .u8 0),.val (.int .u8 0),.val (.int .u8 0),.val (.int .u8 0),.val (.int .u8 0),.val (.int .u8 0),.val (.int .u8 0),.val (.int .u8 0),.val (.int .u8 0),.val (.int .u8 0),.val (.int .u8 0),.val (.int .u8 0),.val (.int .u8 0),.val (.int .u8 0),.val (.int .u8 0),.val (.int .u8 0),.val (.int .u8 0),.val (.int .u8 0),.val (.int .u8 0),.val (.int .u8 0),.val (.int .u8 0),.val (.int .u8 0),.val (.int .u8 0),.val (.int .u8 0),.val (.int .u8 0),.val (.int .u8 0),.sl 0 [] .full]:List AV)=BA fK .full:=rfl
theorem aAx [Gv] (t:TokV) (ts:List (List UInt8)) (hs:small t) (hpl:wC t ts) (hok:okT t=true) (hb:t.bound=false) (hl:(gM t).length≤65536) :
  ACalls Tryz.prog G0 43 [.sl (gM t).length (Bs (gM t)) .no] [] (fun r os=>os=[]∧r=.tup [.agg (BA t .no),.val (.int .i64 0)]):=by
 have cA:=aII (gM t) (by omega)
 have hle:(oS t).length+1≤(gM t).length:=by simp[gM,V.join,fby]
 have hal:mB (gM t)=some [(16,oS t)]:=vJ [(16,oS t)] (by simp[kK];omega)
 rw[hal] at cA
 simp only[seval,aNV,Fs,FA,List.flatMap_cons,List.flatMap_nil,List.append_nil,List.cons_append,List.nil_append,B,Int.cast_ofNat_Int,List.length_cons,List.length_nil] at cA
 have cD:=aHU t ts hs hpl hok (by omega)
 have cK:=uF t .no hs rfl hb
 rw[hok,if_pos rfl] at cK
 have hlT:=eP t .no hs.2.2.2.1
 have hoT:=gP t .no
 have hnT:=fQ t .no rfl
 have hTt:(TA t .no).take 36=TA t .no:=List.take_of_length_le (by omega)
 have hTd:(TA t .no).drop 36=[]:=List.drop_eq_nil_of_le (by omega)
 have hB:BA t .no=TA t .no++[.sl 0 [] .full]:=rfl
 have hlB:=fV t .no hs.2.2.2.1
 have hoB:=kG t .no
 have hnB:=iF t .no rfl
 have hBt:(BA t .no).take 37=BA t .no:=List.take_of_length_le (by omega)
 have hBd:(BA t .no).drop 37=[]:=List.drop_eq_nil_of_le (by omega)
 have hz0:=oL
 have hlz:=fV fK .full (by simp[fK])
 have hzd:(BA fK .full).drop 36=[.sl 0 [] .full]:=rfl
 have hzd7:(BA fK .full).drop 37=[]:=rfl
 have hz36:(TA fK .full).length=36:=rfl
 generalize BA t .no=Bd at *
 generalize TA t .no=T at *
 generalize BA fK .full=B0 at *
 generalize hEB:gM t=eB at *
 generalize oS t=eT at *
 refine aQ Tryz.func43 rfl rfl Tryz.ntmps43 (rts:=#[70,37]) rfl Tryz.results43 (by simp) ?_
 simp only[seval,aZ]
 refine aC fun K hK=>aA [] ?_
 simp only[seval,kZs,dF,bS,cav,aI]
 and_intros<;>try first|exact⟨⟩|omega
 refine hK _ ?_
 clear hK K
 rw[hz0]
 refine aC fun K1 hK1=>?_
 refine aC fun K hK=>aA [] ?_
 simp only[seval,kZs,bI,bV,eN,Tryz.underlying54,cav,aL,aI,aP,bH,yM]
 and_intros<;>try first|exact⟨⟩|omega
 refine hK _ ?_
 clear hK K
 refine aR (by simp only[aB,lk];simp;omega) (bC (hK1 _ ?_))
 clear hK1 K1
 refine aE [0,2,3] ?_
 simp only[seval,kZq]
 refine aC fun K hK=>aA [] ?_
 simp only[seval,kZs,aU,bF,aT,bA,aJ,bW]
 refine aV (by simp[aJ]) cA (by simp[aH,aM]) ?_
 simp only[seval,kZs,aK,gW,aI]
 refine hK _ ?_
 clear hK K
 refine aE [2,3,4,5] ?_
 simp only[seval,kZq]
 refine aC fun K1 hK1=>?_
 refine aC fun K hK=>aA [] ?_
 simp only[seval,kZs,aun,Bool.not_true,dD,bT,Option.bind_some,aW,Bool.not_false,dQ,gok,bI,bV,eN,Tryz.underlying186,Int.cast_ofNat_Int,cav,aL,bU,aI,aP,bH]
 and_intros<;>try first|exact⟨⟩|omega
 refine hK _ ?_
 clear hK K
 refine aR rfl (bC (hK1 _ ?_))
 clear hK1 K1
 refine aE [2,3,4] ?_
 simp only[seval,kZq]
 refine aC fun K hK=>aA [] ?_
 simp only[seval,kZs,dF,bS,cav,aI]
 and_intros<;>try first|exact⟨⟩|omega
 refine hK _ ?_
 clear hK K
 rw[hz0]
 refine aE [2,3,4,6] ?_
 simp only[seval,kZq]
 refine aC fun K1 hK1=>?_
 refine aC fun K hK=>aA [] ?_
 simp only[seval,kZs,bI,bV,eN,Tryz.underlying186,Int.cast_ofNat_Int,cav,aI]
 and_intros<;>try first|exact⟨⟩|omega
 refine hK _ ?_
 clear hK K
 refine aE [2,3,6,28,29,30] ?_
 simp only[seval,kZq]
 refine bK ?_
 obtain⟨FS,hFS⟩:∃ FS:List AV,FS=[.val (.int .u8 16),.val (.string ⟨eT.toArray⟩)]:=⟨_,rfl⟩
 refine bZ (fun b:Bool=>⟨81,[(2,.ptr 0 0),(3,.val (.int .i64 0)),(6,.ptr 1 0),(28,.sl 1 [.val (.int .u8 16),.val (.string ⟨eT.toArray⟩)] .no),(29,.val (.int .i64 1)),(30,.val (.int .i64 (if b then 1 else 0)))],if b then [.cells B0,.cells Bd,.dead,.dead] else [.cells B0,.cells B0]⟩)
  (fun _=>True) (fun b=>if b then 0 else 1) false trivial (.of_keep [2,3,6,28,29,30] (by exact rfl)) ?_
 intro b _
 cases b with
 | true=>
  refine aC fun K hK=>aA [] ?_
  simp only[seval,kZs,aL,aP,bH,Int.lt_irrefl,decide_false,aI]
  and_intros<;>try first|exact⟨⟩|omega
  refine hK _ ?_
  clear hK K
  refine bJ ?_
  refine aR rfl ?_
  refine dR ?_
  simp only[aI,bL,if_true]
  refine hK1 _ ?_
  clear hK1 K1
  refine aE [2,6] ?_
  simp only[seval,kZq]
  refine aC fun K1 hK1=>?_
  refine aC fun K hK=>aA [] ?_
  simp only[seval,kZs,aY,apart,aO,Tryz.underlying70,bD,hlB,hBt,aU,bF,aT,bA,bW,List.headD_cons,aH]
  refine aV hnB cK rfl ?_
  simp only[seval,kZs,aK,cav,aL,aP,bH,aI]
  refine hK _ ?_
  clear hK K
  refine aR rfl (bC (hK1 _ ?_))
  clear hK1 K1
  refine aE [2,6] ?_
  simp only[seval,kZq]
  refine aC fun K hK=>aA [] ?_
  simp only[seval,kZs,aY,apart,aO,Tryz.underlying70,bD,hlB,hBt,bQ,bX,bB,hlz,spl,cav,aI,hoB,hzd7]
  refine hK _ ?_
  clear hK K
  refine aE [2,3] ?_
  simp only[seval,kZq]
  refine aS ?_
  simp only[seval,qq,bR,cQ,bN,bO,aY,aB,apart,aO,Tryz.underlying70,bD,hlB,hBt,dA,aH,hnB]
 | false=>
  refine aC fun K hK=>aA [] ?_
  simp only[seval,kZs,aL,aP,bH,decide_true,aI]
  and_intros<;>try first|exact⟨⟩|omega
  refine hK _ ?_
  clear hK K
  refine bJ ?_
  refine bG rfl (bC ?_)
  simp only[aI]
  refine aE [2,3,6,28,29,30] ?_
  simp only[seval,kZq]
  refine bJ ?_
  refine bK ?_
  refine aC fun K hK=>aA [] ?_
  simp only[seval,kZs,dN,Tryz.underlying186,bD,Int.le_refl,Int.cast_ofNat_Int,Int.toNat_zero,Nat.zero_mul,aY,apart,aO,Tryz.underlying124,dF,bS,cav,bQ,bX,bB,spl,aI,List.take_nil,List.all_cons,dC,Value.oneCell',List.all_nil,List.drop_nil]
  and_intros<;>try first|exact⟨⟩|omega
  refine hK _ ?_
  clear hK K
  refine aE [2,3,6,7,8,28,29,30] ?_
  simp only[seval,kZq]
  refine aC fun K hK=>aA [] ?_
  simp only[seval,kZs,aN,Tryz.underlying124,bD,ne_eq,aY,apart,aO,Tryz.underlying9,eL,Tryz.underlying54,mG,Tryz.underlying5,aU,bF,aT,bA,bW,List.headD_cons,List.getD_cons_succ,dJ,aJ]
  refine aV (by simp[aJ]) cD (by simp[aH,aM,hnT]) ?_
  simp only[seval,kZs,aK,gW,dF,bS,cav,bQ,bX,bD,bB,spl,aI,hoT,hlT,List.drop_nil]
  refine hK _ ?_
  clear hK K
  refine aE [2,3,6,7,8,9,10,28,29,30] ?_
  simp only[seval,kZq]
  refine bK ?_
  refine bJ ?_
  refine aA [] ?_
  simp only[seval,kZs,cav,aL,aP,bH,dD,bT,Option.bind_some,aW,Bool.not_false,dQ,gok,beq_self_eq_true,aN,Tryz.underlying124,bD,ne_eq,aY,apart,aO,Tryz.underlying5,bU,Nat.zero_lt_succ,Int.lt_irrefl,decide_false,Bool.not_true,eW,aI]
  refine aR rfl ?_
  refine aE [2,3,6,7,8,9,10,28,29,30] ?_
  simp only[seval,kZq]
  refine bJ ?_
  refine aA [] ?_
  simp only[seval,kZs,cav,aL,aP,bH,beq_self_eq_true,aI]
  refine bG rfl ?_
  refine aE [2,3,6,9,28,29,30] ?_
  simp only[seval,kZq]
  refine aA [] ?_
  simp only[seval,kZs,aY,apart,aO,Tryz.underlying67,bD,hlT,hTt,aN,Tryz.underlying70,ne_eq,bQ,bX,bB,spl,hlz,hoT,hzd]
  rw[← hB]
  simp only[bL,aI]
  refine lT 2 ?_
  refine lT 3 ?_
  refine aE [2,3,6,28,29,30] ?_
  simp only[seval,kZq]
  refine aA [] ?_
  simp only[seval,kZs,cav,aL,aP,bH,aI]
  exact⟨true,by decide,.of_keep [2,3,6,28,29,30] rfl⟩
def KO (most last:Nat) (m:Nat):AObj:=.cells [.val (.int .i64 (most:Int)),.val (.int .u64 (last:Int)),.mref m]
def KY (tag:List UInt8) (u:Nat):List AV:=.val (.int .i64 1)::(Bs tag++[.val (.int .u64 (u:Int)),.val (.bool false)])
theorem aCG [Gv] (tag:List UInt8) (u:Nat) (h:tag.length=32):(KY tag u).length=35:=by simp[KY,aX,h]
theorem aIA [Gv] (tag:List UInt8) (u:Nat):(KY tag u).all dC=true:=by
 simp only[KY,List.all_cons,List.all_append,List.all_nil,dC,Value.oneCell',Bool.and_true,Bool.true_and]
 rw[List.all_eq_true]
 intro x hx
 obtain⟨z,_,rfl⟩:=List.mem_map.1 hx
 rfl
theorem oJ [Gv] (tag:List UInt8) (u:Nat):aM (KY tag u)=true:=by simp[KY,aM,aH,dK,aJ]
theorem aNw [Gv] (most:Nat) (h:most≤1024):ACalls Tryz.prog GP 35 [.val (.int .i64 (most:Int))] [] (fun r os=>os=[KO most 0 1,.map []]∧r=.ptr 0 0):=by
 have h1:(if (0:Int) > (most:Int) then 0 else (most:Int))=most:=by split<;>omega
 have h2:(if (1024:Int)<(most:Int) then 1024 else (most:Int))=most:=by split<;>omega
 refine dB Tryz.func35 rfl rfl Tryz.ntmps35 (rts:=#[103]) rfl Tryz.results35 (by simp) ?_
 simp only[seval,aZ]
 refine aC fun K hK=>aA [] ?_
 simp only[seval,kZs,cav,aI]
 and_intros<;>try first|exact⟨⟩|omega
 refine hK _ ?_
 clear hK K
 refine aC fun K hK=>aA [] ?_
 simp only[seval,kZs,bI,cav,wP,h1,vG,tE,fA,bS,Tryz.underlying164,kO,dO,eM,spl,bB,eF,fN,aI,List.all_cons,dC,List.all_nil,h2,Value.oneCell',List.drop_nil]
 refine hK _ ?_
 clear hK K
 refine aE [2] ?_
 simp only[seval,kZq]
 refine aS ?_
 refine nW [1,0] ⟨by simp,by simp,by decide,by simp,by simp[fU,eV,ref]⟩ ?_
 exact⟨⟨trivial,trivial⟩,rfl,rfl,rfl⟩
theorem aNy [Gv] (tag:List UInt8) (ht:tag.length=32) (u c:Nat):ACalls Tryz.prog GP 104 [.agg (KY tag u),.val (.int .u64 (c:Int))] [] (fun r os=>os=[]∧r=.val (.bool (decide (c<u)))):=by
 have hl:=aCG tag u ht
 have ho:=aIA tag u
 have g33:(KY tag u).getD 33 .top=.val (.int .u64 (u:Int)):=by
  rw[KY,List.getD_cons_succ,List.getD_eq_getElem?_getD,List.getElem?_append_right (by rw[aX];omega),aX,ht];rfl
 have g34:(KY tag u).getD 34 .top=.val (.bool false):=by
  rw[KY,List.getD_cons_succ,List.getD_eq_getElem?_getD,List.getElem?_append_right (by rw[aX];omega),aX,ht];rfl
 generalize KY tag u=T at *
 refine aQ Tryz.func104 rfl rfl Tryz.ntmps104 (rts:=#[4]) rfl Tryz.results104 (by simp) ?_
 simp only[seval,aZ]
 refine aC fun K hK=>aA [] ?_
 simp only[seval,kZs,eF,bB,ho,fN,cav,aI]
 and_intros<;>try first|exact⟨⟩|omega
 refine hK _ ?_
 clear hK K
 refine aE [1,2] ?_
 simp only[seval,kZq]
 refine aC fun K hK=>aA [] ?_
 simp only[seval,kZs,aN,Tryz.underlying191,bD,ne_eq,aY,apart,aO,Tryz.underlying4,aun,hl,g34,Bool.not_false,dD,bT,Option.bind_some,aW,dQ,gok,Tryz.underlying30,aL,bU,cav,aI,g33,aP,bH,jM]
 refine hK _ ?_
 clear hK K
 refine aE [4] ?_
 simp only[seval,kZq]
 refine aS ?_
 simp only[qq,bR,cQ,bN,bO,dA,aB,aH]
theorem aLs [Gv] (most:Nat) (h:0<most) (tag:List UInt8) (ht:tag.length=32) (u:Nat) :
  ACalls Tryz.prog GP 97 [.ptr 0 0,.val (.int .i64 1),.agg (Bs tag),.val (.int .u64 (u:Int))] [KO most 0 1,.map []]
   (fun r os=>os=[KO most 1 1,.map [(.int .u64 1,.agg (KY tag u))]]∧r=.tup [.val (.int .u64 1),.val (.int .i64 0)]):=by
 have hbl:(Bs tag).length=32:=by rw[aX];omega
 have htt:tag.take 32=tag:=List.take_of_length_le (by omega)
 have hbo:(Bs tag).all dC=true:=by
  rw[List.all_eq_true]
  intro x hx
  obtain⟨z,_,rfl⟩:=List.mem_map.1 hx
  rfl
 have hT1:∀ r:List AV,(Bs tag++r).take 32=Bs tag:=fun r=>List.take_left' hbl
 have hD1:∀ a b:AV,(Bs tag++[a,b]).drop 33=[b]:=fun a b=>by
  rw[show Bs tag++[a,b]=(Bs tag++[a])++[b] by simp,List.drop_left' (by simp[hbl])]
 have hL1:∀ a b:AV,33≤(Bs tag++[a,b]).length:=fun a b=>by simp[hbl]
 have hw:IntKind.u64.wrap (0+1)=1:=by decide
 have hKY:KY tag u=.val (.int .i64 1)::(Bs tag++[.val (.int .u64 (u:Int)),.val (.bool false)]):=rfl
 simp only[KO]
 refine dB Tryz.func97 rfl rfl Tryz.ntmps97 (rts:=#[30,37]) rfl Tryz.results97 (by simp) ?_
 simp only[seval,aZ]
 refine aC fun K hK=>aA [] ?_
 simp only[seval,kZs,Int.cast_ofNat_Int,eF,bB,hbo,fN,cav,aI]
 and_intros<;>try first|exact⟨⟩|omega
 refine hK _ ?_
 clear hK K
 refine aE [0,1,3,6] ?_
 simp only[seval,kZq]
 refine aC fun K1 hK1=>?_
 refine bK ?_
 refine bJ ?_
 refine aA [] ?_
 simp only[seval,kZs,Int.cast_ofNat_Int,cav,aL,aP,bH,dD,bT,Option.bind_some,aW,Bool.not_true,eW,gok,bU,aI]
 refine aR rfl ?_
 refine aE [0,1,3,6] ?_
 simp only[seval,kZq]
 refine bJ ?_
 refine dW [22] (by kernel_rfl) (by kernel_rfl) ?_
 simp only[seval,kZs,fY,aN,Tryz.underlying164,bD,ne_eq,aY,List.contains_cons,apart,aO,Tryz.underlying162,bI,beq_self_eq_true,bV,eN,Tryz.underlying3,aL,aI,List.getD_cons_succ,Int.cast_ofNat_Int,Nat.zero_lt_succ,aP,bH,aLQ]
 refine aR (by simp only[aB,lk];simp;omega) (bC ?_)
 simp only[bL,aI]
 refine hK1 _ ?_
 clear hK1 K1
 refine aE [0,1,3,6] ?_
 simp only[seval,kZq]
 refine aC fun K hK=>aA [] ?_
 simp only[seval,kZs,Int.cast_ofNat_Int,fY,aN,Tryz.underlying164,bD,ne_eq,aY,apart,aO,Tryz.underlying30,cav,aL,bQ,bX,bB,spl,aI,List.getD_cons_succ,aP,bH,hw,List.all_cons,dC,Value.oneCell',List.all_nil]
 and_intros<;>try first|exact⟨⟩|omega
 refine hK _ ?_
 clear hK K
 refine aE [0,1,3,6] ?_
 simp only[seval,kZq]
 refine aC fun K hK=>?_
 refine dW [] (by kernel_rfl) (by kernel_rfl) ?_
 simp only[seval,kZs,Int.cast_ofNat_Int,fY,aN,Tryz.underlying164,bD,ne_eq,aY,apart,aO,Tryz.underlying162,Tryz.underlying30,Tryz.underlying23,hbl,eS,htt,fA,bS,Tryz.underlying191,kO,cav,dO,eM,spl,bB,List.all_cons,dC,Value.oneCell',List.all_nil,aKd,uD,MapKept.IsKey,aI,hbo,hL1,hT1,hD1,List.getD_cons_succ,zU]
 refine hK _ ?_
 clear hK K
 refine aE [0] ?_
 simp only[seval,kZq]
 refine aC fun K hK=>aA [] ?_
 simp only[seval,kZs,Int.cast_ofNat_Int,fY,aN,Tryz.underlying164,bD,ne_eq,aY,apart,aO,Tryz.underlying30,cav,aI,List.getD_cons_succ]
 and_intros<;>try first|exact⟨⟩|omega
 refine hK _ ?_
 clear hK K
 refine aE [8,9] ?_
 simp only[seval,kZq]
 simp only[List.append_assoc,List.cons_append,List.nil_append]
 rw[← hKY]
 refine aS ?_
 refine fE (by simp) (by simp[fU,eV,ref,bM _ _ (oJ tag u)]) ?_
 exact⟨⟨trivial,trivial,trivial⟩,rfl,rfl,rfl⟩
def KM (tag:List UInt8) (u:Nat):AObj:=.map [(.int .u64 1,.agg (KY tag u))]
theorem aFW [Gv] (most:Nat) (tag:List UInt8) (ht:tag.length=32) (u c:Nat) :
  ACalls Tryz.prog GP 44 [.ptr 0 0,.val (.int .i64 1),.val (.int .u64 1),.val (.int .u64 (c:Int))] [KO most 1 1,KM tag u]
   (fun r os=>os=[KO most 1 1,KM tag u]∧r=if c<u then .tup [.agg (Bs tag),.val (.int .i64 0)] else .tup [.agg (Bs (Z 32)),.val (.int .i64 4)]):=by
 have cL:=aNy tag ht u c
 have hl:=aCG tag u ht
 have ho:=aIA tag u
 have hn:=oJ tag u
 have g0:(KY tag u).getD 0 .top=.val (.int .i64 1):=rfl
 have g34:(KY tag u).getD 34 .top=.val (.bool false):=by
  rw[KY,List.getD_cons_succ,List.getD_eq_getElem?_getD,List.getElem?_append_right (by rw[aX];omega),aX,ht];rfl
 have g1:((KY tag u).drop 1).take 32=Bs tag:=by
  rw[KY,List.drop_succ_cons,List.drop_zero,List.take_left' (by rw[aX];omega)]
 have htk:(KY tag u).take 35=KY tag u:=List.take_of_length_le (by omega)
 have htd:(KY tag u).drop 35=[]:=List.drop_eq_nil_of_le (by omega)
 have hbl:(Bs tag).length=32:=by rw[aX];omega
 have htt:tag.take 32=tag:=List.take_of_length_le (by omega)
 have hbo:(Bs tag).all dC=true:=by
  rw[List.all_eq_true]
  intro x hx
  obtain⟨z,_,rfl⟩:=List.mem_map.1 hx
  rfl
 have hz:(Z 32).drop 32=[]:=List.drop_eq_nil_of_le (by rw[eZ];exact Nat.le_refl _)
 simp only[KO,KM]
 generalize KY tag u=T at *
 refine dB Tryz.func44 rfl rfl Tryz.ntmps44 (rts:=#[23,38]) rfl Tryz.results44 (by simp) ?_
 simp only[seval,aZ]
 refine aC fun K hK=>aA [] ?_
 simp only[seval,kZs,Int.cast_ofNat_Int,dF,bS,jK,cav,aI]
 and_intros<;>try first|exact⟨⟩|omega
 refine hK _ ?_
 clear hK K
 refine aE [0,1,2,3,8] ?_
 simp only[seval,kZq]
 refine aC fun K hK=>aA [] ?_
 simp only[seval,kZs,Int.cast_ofNat_Int,fY,aN,Tryz.underlying164,bD,ne_eq,aY,apart,aO,Tryz.underlying162,vG,pI,MapKept.IsKey,gW,dF,bS,cav,bQ,bX,bB,spl,aI,List.getD_cons_succ,Tryz.underlying30,zU,Instr.sameNow,beq_self_eq_true,ho,hl,List.drop_nil]
 refine hK _ ?_
 clear hK K
 refine aE [0,1,2,3,8,10,11] ?_
 simp only[seval,kZq]
 refine aC fun K1 hK1=>?_
 refine bK ?_
 refine bJ ?_
 refine aA [] ?_
 simp only[seval,kZs,Int.cast_ofNat_Int,aun,Bool.not_true,dD,bT,Option.bind_some,aW,Bool.not_false,dQ,gok,aN,Tryz.underlying191,bD,ne_eq,aY,apart,aO,Tryz.underlying3,aL,bU,cav,aI,hl,Nat.zero_lt_succ,g0,aP,bH]
 refine aR rfl ?_
 refine aE [0,3,8,10] ?_
 simp only[seval,kZq]
 refine bJ ?_
 refine aA [] ?_
 simp only[seval,kZs,aN,Tryz.underlying191,bD,ne_eq,aY,apart,aO,Tryz.underlying4,aI,hl,g34]
 refine aR rfl ?_
 refine aE [0,3,8,10] ?_
 simp only[seval,kZq]
 refine bJ ?_
 refine aA [] ?_
 simp only[seval,kZs,aY,apart,aO,Tryz.underlying191,bD,hl,htk,aU,bF,aT,bA,bW,List.headD_cons,aH]
 refine aV (by simp[hn]) cL rfl ?_
 simp only[seval,kZs,aK,aun,aI]
 rcases Nat.lt_or_ge c u with hcu|hcu
 ·refine aR (by simp only[aB,lk];simp;omega) (bC ?_)
  simp only[bL,aI]
  refine hK1 _ ?_
  clear hK1 K1
  refine aE [8,10] ?_
  simp only[seval,kZq]
  refine aC fun K hK=>aA [] ?_
  simp only[seval,kZs,Int.cast_ofNat_Int,aN,Tryz.underlying191,bD,ne_eq,aY,apart,aO,Tryz.underlying23,bQ,bX,bB,aX,eZ,spl,eA,cav,aI,hl,g1,hbo,hbl,hz,gV]
  refine hK _ ?_
  clear hK K
  refine aE [8,9] ?_
  simp only[seval,kZq]
  refine aS ?_
  refine fE (by simp) (by simp[fU,eV,ref,bM _ _ hn]) ?_
  simp only[seval,qq,gS,gB,fJ,fR,aY,aB,apart,aO,Tryz.underlying23,bD,hbl,eS,htt,Int.cast_ofNat_Int]
  exact⟨by simp[ref,eV,bM _ _ (aJ tag)],(if_pos hcu).symm⟩
 ·refine bG (by simp only[aB,lk];simp;omega) ?_
  refine aE [8] ?_
  simp only[seval,kZq]
  refine aC fun K hK=>aA [] ?_
  simp only[seval,kZs,fA,bS,Tryz.underlying23,bD,Nat.mul_one,jK,dO,eM,bQ,bX,bB,aX,eZ,spl,eA,cav,aI,eR,hz,gV]
  refine hK _ ?_
  clear hK K
  refine aE [8,9] ?_
  simp only[seval,kZq]
  refine aS ?_
  simp only[bL,aI]
  refine fE (by simp) (by simp[fU,eV,ref,bM _ _ hn]) ?_
  have hzt:(Z 32).take 32=Z 32:=List.take_of_length_le (by rw[eZ];exact Nat.le_refl _)
  simp only[seval,qq,gS,gB,fJ,fR,aY,aB,apart,aO,Tryz.underlying23,bD,aX,eZ,eS,hzt]
  exact⟨by simp[ref,eV,bM _ _ (aJ (Z 32))],(if_neg (by omega)).symm⟩
structure OutV where
 bytes:List UInt8
 whole:Bool
 pub:Bool
def OA (o:OutV):List AV:=[str o.bytes,.val (.bool o.whole),.val (.bool o.pub)]
def OS (l:List OutV):List AV:=l.flatMap OA
theorem uB [Gv] (l:List OutV):(OS l).length=l.length*3:=by
 induction l with
 | nil=>rfl
 | cons c l ih=>rw[show OS (c::l)=OA c++OS l from rfl,List.length_append,ih];simp[OA];omega
theorem yV [Gv] (c:OutV):aM (OA c)=true:=rfl
theorem gA [Gv] (l:List OutV):aM (OS l)=true:=by
 induction l with
 | nil=>rfl
 | cons c l ih=>rw[show OS (c::l)=OA c++OS l from rfl,dK,ih,yV];rfl
theorem aAJ [Gv] (c:OutV):(OA c).all dC=true:=rfl
theorem aAK [Gv] (l:List OutV):(OS l).all dC=true:=by
 rw[List.all_eq_true]
 intro x hx
 obtain⟨c,_,hc⟩:=List.mem_flatMap.1 hx
 exact List.all_eq_true.1 (aAJ c) x hc
theorem aKh [Gv] {l:List OutV} {i:Nat} (h:i<l.length):((OS l).drop (i*3)).take 3=OA l[i]:=by
 induction l generalizing i with
 | nil=>simp at h
 | cons c l ih=>
  rw[show OS (c::l)=OA c++OS l from rfl]
  cases i with
  | zero=>rfl
  | succ i=>
   rw[show (i+1)*3=(OA c).length+i*3 by simp[OA];omega,← List.drop_drop,List.drop_left]
   simpa using ih (by simpa using h)
theorem aIm [Gv] (a b:List OutV):OS (a++b)=OS a++OS b:=List.flatMap_append
theorem aPC [Gv] (c:OutV):OS [c]=OA c:=by simp[OS]
def SO (l:List OutV) (k:Nat):AObj:=.cells [.sl l.length (OS l) (.tok k)]
theorem aOV [Gv]:ACalls Tryz.prog GP 36 [] [] (fun r os=>os=[SO [] 1,.tok 3 0]∧r=.ptr 0 0):=by
 refine dB Tryz.func36 rfl rfl Tryz.ntmps36 (rts:=#[50]) rfl Tryz.results36 (by simp) ?_
 simp only[seval,aZ]
 refine aC fun K hK=>aA [] ?_
 simp only[seval,kZs,cav,aI]
 and_intros<;>try first|exact⟨⟩|omega
 refine hK _ ?_
 clear hK K
 refine aC fun K hK=>aA [] ?_
 simp only[seval,kZs,fA,bS,Tryz.underlying113,kO,cav,dO,eM,eF,bB,fN,aI,List.all_cons,dC,List.all_nil]
 and_intros<;>try first|exact⟨⟩|omega
 refine hK _ ?_
 clear hK K
 refine aLE 3 0 rfl ?_
 refine aE [0] ?_
 simp only[seval,kZq]
 refine aS ?_
 refine nW [0,1] ⟨by simp,by simp,by decide,by simp,by simp[fU,eV,ref,jH]⟩ ?_
 exact⟨⟨trivial,trivial⟩,rfl,rfl,rfl⟩
theorem aOW [Gv] (l:List OutV) (hl:l.length≤1000000) (o:OutV):ACalls Tryz.prog GP 94 [.ptr 0 0,.agg (OA o)] [SO l 1,.tok 3 l.length] (fun r os=>os=[SO (l++[o]) 1,.tok 3 (l.length+1)]∧r=.val (.int .i64 (l.length:Int))):=by
 have hOl:=uB l
 have hOo:=aAK l
 have hao:=aAJ o
 have hal:(OA o).length=3:=rfl
 have hat:(OA o).take 3=OA o:=rfl
 have hE:OS (l++[o])=OS l++OA o:=by rw[aIm,aPC]
 have hnO:=gA (l++[o])
 simp only[SO,List.length_append,List.length_cons,List.length_nil,Nat.zero_add]
 rw[hE] at *
 generalize OA o=oa at *
 refine dB Tryz.func94 rfl rfl Tryz.ntmps94 (rts:=#[3]) rfl Tryz.results94 (by simp) ?_
 simp only[seval,aZ]
 refine aC fun K hK=>aA [] ?_
 simp only[seval,kZs,eF,bB,hao,fN,cav,aI]
 and_intros<;>try first|exact⟨⟩|omega
 refine hK _ ?_
 clear hK K
 refine aE [0,3] ?_
 simp only[seval,kZq]
 refine aC fun K hK=>?_
 refine dW [] (by kernel_rfl) (by kernel_rfl) ?_
 simp only[seval,kZs,fY,aN,Tryz.underlying113,bD,ne_eq,aY,apart,aO,Tryz.underlying111,Tryz.underlying48,hal,hat,dV,bS,qC,cav,dO,eM,spl,Nat.zero_mul,bB,dL,bI,fP,lX,gC,eQ,bQ,bX,aI,hao,List.drop_nil,hOl,List.all_cons,dC,List.all_nil]
 refine⟨⟨by omega,by omega⟩,hK _ ?_⟩
 clear hK K
 have h1:IntKind.i64.wrap (((l.length+1:Nat):Int) - 1)=(l.length:Int):=by
  rw[show ((l.length+1:Nat):Int) - 1=((l.length:Nat):Int) by omega]
  exact fD (by omega)
 refine aE [0] ?_
 simp only[seval,kZq]
 refine aC fun K hK=>aA [] ?_
 simp only[seval,kZs,fY,aN,Tryz.underlying113,bD,ne_eq,aY,apart,aO,Tryz.underlying111,bI,bV,eN,cav,aL,aI,aP,bH,h1]
 refine hK _ ?_
 clear hK K
 refine aE [4] ?_
 simp only[seval,kZq]
 refine aS ?_
 refine fE (by simp) (by simp[fU,eV,ref,jH,bM _ _ hnO]) ?_
 exact⟨⟨trivial,trivial⟩,rfl,rfl,rfl⟩
theorem aOU [Gv] (l:List OutV) (hl:l.length≤1000000) (i:Nat) (hi:i<l.length):ACalls Tryz.prog GP 13 [.ptr 0 0,.val (.int .i64 (i:Int))] [SO l 1,.tok 3 l.length] (fun r os=>os=[SO l 1,.tok 3 l.length]∧r=.tup [.agg (OA l[i]),.val (.bool true)]):=by
 have hOl:=uB l
 have hOo:=aAK l
 have hnO:=gA l
 have hget:=aKh hi
 generalize l[i]=o at *
 have hao:=aAJ o
 have hno:=yV o
 have hal:(OA o).length=3:=rfl
 have hat:(OA o).take 3=OA o:=rfl
 have had:(OA o).drop 3=[]:=rfl
 generalize OA o=oa at *
 simp only[SO]
 have d1:decide ((i:Int)<0)=false:=by simp
 have d2:decide ((i:Int)≥(l.length:Int))=false:=by simp;omega
 refine dB Tryz.func13 rfl rfl Tryz.ntmps13 (rts:=#[48,4]) rfl Tryz.results13 (by simp) ?_
 simp only[seval,aZ]
 refine aC fun K hK=>aA [] ?_
 simp only[seval,kZs,dF,bS,cav,aI]
 and_intros<;>try first|exact⟨⟩|omega
 refine hK _ ?_
 clear hK K
 refine aE [0,1,4] ?_
 simp only[seval,kZq]
 refine aC fun K1 hK1=>?_
 refine aC fun K hK=>aA [] ?_
 simp only[seval,kZs,cav,aL,aP,bH,d1,dD,bT,Option.bind_some,aW,Bool.not_false,dQ,gok,fY,aN,Tryz.underlying113,bD,ne_eq,aY,apart,aO,Tryz.underlying111,bI,bV,eN,bU,aI,d2]
 refine hK _ ?_
 clear hK K
 refine aR rfl (bC (hK1 _ ?_))
 clear hK1 K1
 refine aE [0,1,4] ?_
 simp only[seval,kZq]
 refine aC fun K hK=>aA [] ?_
 simp only[seval,kZs,fY,aN,Tryz.underlying113,bD,ne_eq,aY,apart,aO,Tryz.underlying111,dN,Int.toNat_natCast,Tryz.underlying48,bQ,bX,bB,spl,cav,aI,hOl,List.length_drop,hget,hao,hal,List.drop_nil]
 refine⟨⟨by omega,by omega⟩,by omega,hK _ ?_⟩
 clear hK K
 refine aE [4,5] ?_
 simp only[seval,kZq]
 refine aS ?_
 refine fE (by simp) (by simp[fU,eV,ref,jH,bM _ _ hnO]) ?_
 simp only[seval,qq,gS,gB,fJ,fR,aY,aB,apart,aO,Tryz.underlying48,bD,hal,hat]
 simp[ref,eV,bM _ _ hno]
theorem aHi [Gv] (l:List OutV) (p:Perm) (hp:fG p=true) (hl:l.length≤1000000):ACalls Tryz.prog GP 101 [.sl l.length (OS l) p] [] (fun r os=>os=[.tok 3 l.length]∧r=.sl l.length (OS l) (.tok 0)):=by
 have hCl:=uB l
 have hnC:=gA l
 have hoc:=aAK l
 have hnil:OS l=[]→l=[]:=fun h=>by rw[h] at hCl;simp only[List.length_nil] at hCl;exact List.length_eq_zero_iff.1 (by omega)
 refine gQ Tryz.func101 rfl rfl Tryz.ntmps101 (rts:=#[111]) rfl Tryz.results101 (by simp) ?_
 simp only[seval,aZ]
 refine aC fun K hK=>aA [] ?_
 simp only[seval,kZs,cav,aI]
 and_intros<;>try first|exact⟨⟩|omega
 refine hK _ ?_
 clear hK K
 refine aC fun K1 hK1=>?_
 refine aC fun K hK=>?_
 refine aCS (ht:=Tryz.underlying111) (hs:=rfl) (by omega) (by omega) fun b hb=>hK _ ?_
 clear hK K
 cases b with
 | true=>
  refine bG rfl ?_
  have h0:=hnil (hb rfl)
  subst h0
  refine aE [0] ?_
  simp only[seval,kZq]
  refine aC fun K hK=>aA [] ?_
  simp only[seval,kZs,cav,aI]
  and_intros<;>try first|exact⟨⟩|omega
  refine hK _ ?_
  clear hK K
  refine aE [2] ?_
  simp only[seval,kZq]
  refine oA 3 2 rfl ?_
  refine aS ?_
  exact oM 2 0 3 rfl rfl rfl ⟨rfl,rfl⟩
 | false=>
  refine aR rfl (bC (hK1 _ ?_))
  clear hK1 K1
  refine aE [0] ?_
  simp only[seval,kZq]
  refine aC fun K hK=>aA [] ?_
  simp only[seval,kZs,dV,Tryz.underlying111,bD,bS,aHu,dO,eM,Nat.zero_mul,dL,bI,fP,lX,gC,eQ,hCl,hoc,aI]
  refine⟨⟨by omega,by omega⟩,hK _ ?_⟩
  clear hK K
  refine aE [2] ?_
  simp only[seval,kZq]
  refine aS ?_
  exact oM 2 0 3 rfl rfl (gA _) ⟨rfl,rfl⟩
theorem aHf [Gv] (l:List OutV) (hl:l.length≤1000000):ACalls Tryz.prog GP 42 [.ptr 0 0] [SO l 1,.tok 3 l.length] (fun r os=>os=[SO l 1,.tok 3 l.length,SO l 3,.tok 3 l.length]∧r=.ptr 2 0):=by
 have cC:=aHi l .no rfl hl
 have hnC:=gA l
 simp only[SO]
 refine dB Tryz.func42 rfl rfl Tryz.ntmps42 (rts:=#[50]) rfl Tryz.results42 (by simp) ?_
 simp only[seval,aZ]
 refine aC fun K hK=>aA [] ?_
 simp only[seval,kZs,cav,aI]
 and_intros<;>try first|exact⟨⟩|omega
 refine hK _ ?_
 clear hK K
 refine aE [0] ?_
 simp only[seval,kZq]
 refine aC fun K hK=>aA [1000007] ?_
 simp only[seval,kZs,fY,aN,Tryz.underlying113,bD,ne_eq,aY,List.contains_cons,apart,aO,Tryz.underlying111,aU,beq_self_eq_true,bF,aT,bA,bW,List.headD_cons]
 refine oO (by simp[fH,iV,aH,aM,aJ,bW,gA]) cC (gA _) ?_
 simp only[seval,kZs,dE,fA,bS,Tryz.underlying113,kO,cav,dO,eM,spl,bB,List.drop_nil,List.all_cons,dC,List.all_nil,List.contains_cons,eF,fN,aI]
 refine hK _ ?_
 clear hK K
 refine aE [2] ?_
 simp only[seval,kZq]
 refine aS ?_
 refine nW [0,1,3,2] ⟨by simp,fun i hi=>?_,by decide,by simp,by simp[fU,eV,ref,jH,bM _ _ hnC]⟩ ?_
 ·simp only[List.length_cons,List.length_nil] at hi
  rcases i with _|_|i
  ·rfl
  ·rfl
  ·omega
 ·exact⟨⟨trivial,trivial⟩,rfl,by simp[GHd,gJ,gH,ren,rB,cY _ _ hnC]<;>decide,rfl⟩
def isB (o:OutV) (t:TokV) (ts:List (List UInt8)):Prop:=o.whole=true∧o.bytes=gM t∧small t∧wC t ts∧okT t=true∧t.bound=false∧(gM t).length≤65536
theorem aMk [Gv] (l:List OutV) (hl:l.length≤1000000) (i:Nat) (hi:i<l.length) (t:TokV) (ts:List (List UInt8)) (ho:isB l[i] t ts) :
  ACalls Tryz.prog GP 46 [.ptr 0 0,.val (.int .i64 (i:Int)),.val (.bool true),.val (.func (.func 43) #[] #[])] [SO l 1,.tok 3 l.length] (fun r os=>os=[SO l 1,.tok 3 l.length]∧r=.tup [.agg (BA t .no),.val (.int .i64 0)]):=by
 have cG:=aOU l hl i hi
 obtain⟨o1,o2,hs,hpl,hok,hb,hlen⟩:=ho
 have cD:=(aAx t ts hs hpl hok hb hlen).g (G:=GP)
 have hOA:OA l[i]=[.val (.string ⟨(gM t).toArray⟩),.val (.bool true),.val (.bool l[i].pub)]:=by rw[OA,o1,o2];rfl
 rw[hOA] at cG
 have hnC:=gA l
 have hlB:=fV t .no hs.2.2.2.1
 have hoB:=kG t .no
 have hnB:=iF t .no rfl
 have hBt:(BA t .no).take 37=BA t .no:=List.take_of_length_le (by omega)
 have hBd:(BA t .no).drop 37=[]:=List.drop_eq_nil_of_le (by omega)
 have hz0:=oL
 have hlz:=fV fK .full (by simp[fK])
 have hzd7:(BA fK .full).drop 37=[]:=rfl
 generalize BA fK .full=B0 at *
 generalize BA t .no=Bd at *
 generalize gM t=eB at *
 generalize l[i].pub=pub at *
 simp only[SO] at *
 refine dB Tryz.func46 rfl rfl Tryz.ntmps46 (rts:=#[70,37]) rfl Tryz.results46 (by simp) ?_
 simp only[seval,aZ]
 refine aC fun K hK=>aA [] ?_
 simp only[seval,kZs,dF,bS,cav,aI]
 and_intros<;>try first|exact⟨⟩|omega
 refine hK _ ?_
 clear hK K
 rw[hz0]
 refine aE [0,1,2,3,8] ?_
 simp only[seval,kZq]
 refine aC fun K hK=>aA [1000016] ?_
 simp only[seval,kZs,aU,List.contains_cons,beq_self_eq_true,bF,aT,bA,aH]
 refine gF [0,1] false [50,3] ⟨by decide,by simp,by simp[fU,eV,ref,jH,bM _ _ hnC]⟩ rfl (by simp[aH]) (by simp only[GHd,List.map_cons,List.map_nil,List.getD_cons_zero,List.getD_cons_succ,gJ,gH,ren,rB,cY _ _ hnC];exact cG) ⟨by simp,by simp[fU,eV,ref,jH,bM _ _ hnC],by simp[eV,ref],fun h=>by cases h⟩ ?_
 simp only[seval,kZs,ren,gH,jD,gG,gJ,cY _ _ hnC,rB,σn,List.getD_cons_succ,List.headD_cons,List.tail_cons,List.drop_nil,dE,gW,dF,bS,cav,bQ,bX,bD,bB,spl,aI,List.all_cons,dC,Value.oneCell',List.all_nil]
 refine hK _ ?_
 clear hK K
 refine aE [0,2,3,8,10,11] ?_
 simp only[seval,kZq]
 refine aC fun K1 hK1=>?_
 refine aC fun K hK=>aA [] ?_
 simp only[seval,kZs,aun,Bool.not_true,dD,bT,Option.bind_some,aW,Bool.not_false,dQ,gok,aN,Tryz.underlying48,bD,ne_eq,aY,apart,aO,Tryz.underlying4,aL,bU,cav,aI,List.getD_cons_succ,aP,aAc,beq_self_eq_true]
 and_intros<;>try first|exact⟨⟩|omega
 refine hK _ ?_
 clear hK K
 refine aR rfl (bC (hK1 _ ?_))
 clear hK1 K1
 refine aE [0,3,8,10] ?_
 simp only[seval,kZq]
 refine aC fun K hK=>aA [] ?_
 simp only[seval,kZs,aN,Tryz.underlying48,bD,ne_eq,aY,apart,aO,Tryz.underlying9,eL,Tryz.underlying54,mG,Tryz.underlying5,aU,bF,aT,bA,bW,List.headD_cons,dJ,aJ]
 refine aV (by simp[aJ]) cD (by simp[aH,aM,hnB]) ?_
 simp only[seval,kZs,aK,gW,bQ,bX,bD,bB,hlz,spl,aI,hoB,hlB,hzd7]
 refine hK _ ?_
 clear hK K
 refine aE [8,9] ?_
 simp only[seval,kZq]
 refine aS ?_
 refine fE (by simp) (by simp[fU,eV,ref,jH,bM _ _ hnC]) ?_
 simp only[seval,qq,gS,gB,fJ,fR,aY,aB,apart,aO,Tryz.underlying70,bD,hlB,hBt]
 simp[ref,eV,bM _ _ hnB]
theorem aHe [Gv] (l:List OutV) (hl:l.length≤1000000) (i:Nat) (hi:i<l.length) (t:TokV) (ts:List (List UInt8)) (ho:isB l[i] t ts) :
  ACalls Tryz.prog GP 16 [.ptr 0 0,.val (.int .i64 (i:Int))] [SO l 1,.tok 3 l.length] (fun r os=>os=[SO l 1,.tok 3 l.length]∧r=.tup [.agg (BA t .no),.val (.int .i64 0)]):=by
 have cR:=aMk l hl i hi t ts ho
 obtain⟨o1,o2,hs,hpl,hok,hb,hlen⟩:=ho
 have hnC:=gA l
 have hlB:=fV t .no hs.2.2.2.1
 have hoB:=kG t .no
 have hnB:=iF t .no rfl
 have hBt:(BA t .no).take 37=BA t .no:=List.take_of_length_le (by omega)
 have hBd:(BA t .no).drop 37=[]:=List.drop_eq_nil_of_le (by omega)
 have hz0:=oL
 have hlz:=fV fK .full (by simp[fK])
 have hzd7:(BA fK .full).drop 37=[]:=rfl
 generalize BA fK .full=B0 at *
 generalize BA t .no=Bd at *
 simp only[SO] at *
 refine dB Tryz.func16 rfl rfl Tryz.ntmps16 (rts:=#[70,37]) rfl Tryz.results16 (by simp) ?_
 simp only[seval,aZ]
 refine aC fun K hK=>aA [] ?_
 simp only[seval,kZs,dF,bS,cav,aI]
 and_intros<;>try first|exact⟨⟩|omega
 refine hK _ ?_
 clear hK K
 rw[hz0]
 refine aE [0,1,4] ?_
 simp only[seval,kZq]
 refine aC fun K hK=>aA [1000008] ?_
 simp only[seval,kZs,aU,List.contains_cons,beq_self_eq_true,cav,bF,aT,bA,aH]
 refine gF [0,1] false [50,3,4,114] ⟨by decide,by simp,by simp[fU,eV,ref,jH,bM _ _ hnC]⟩ rfl (by simp[aH]) (by simp only[GHd,List.map_cons,List.map_nil,List.getD_cons_zero,List.getD_cons_succ,gJ,gH,ren,rB,cY _ _ hnC];exact cR) ⟨by simp,by simp[fU,eV,ref,jH,bM _ _ hnC],by simp[eV,ref,bM _ _ hnB],fun h=>by cases h⟩ ?_
 simp only[seval,kZs,ren,gH,cY _ _ hnB,jD,gG,gJ,cY _ _ hnC,rB,σn,List.getD_cons_succ,List.headD_cons,List.tail_cons,List.drop_nil,dE,gW,bQ,bX,bD,bB,hlz,spl,aI,hoB,hlB,hzd7]
 refine hK _ ?_
 clear hK K
 refine aE [4,5] ?_
 simp only[seval,kZq]
 refine aS ?_
 refine fE (by simp) (by simp[fU,eV,ref,jH,bM _ _ hnC]) ?_
 simp only[seval,qq,gS,gB,fJ,fR,aY,aB,apart,aO,Tryz.underlying70,bD,hlB,hBt]
 simp[ref,eV,bM _ _ hnB]
theorem aLl [Gv] (x:AV) (hx:aH x=true) (p:Perm):ACalls Tryz.prog G0 159 [.sl 0 [] p,x] [] (fun r os=>os=[]∧r=.val (.int .i64 (-1))):=by
 refine aQ Tryz.func159 rfl rfl Tryz.ntmps159 (rts:=#[3]) rfl Tryz.results159 (by simp) ?_
 simp only[seval,aZ]
 refine aC fun K hK=>aA [] ?_
 simp only[seval,kZs,cav,aI]
 and_intros<;>try first|exact⟨⟩|omega
 refine hK _ ?_
 clear hK K
 refine aE [0] ?_
 simp only[seval,kZq]
 refine aC fun K1 hK1=>?_
 refine aC fun K hK=>aA [] ?_
 simp only[seval,kZs,bI,bV,eN,Tryz.underlying68,Int.cast_ofNat_Int,cav,aI]
 and_intros<;>try first|exact⟨⟩|omega
 refine hK _ ?_
 clear hK K
 refine aE [6,7,8] ?_
 simp only[seval,kZq]
 refine bK ?_
 refine bZ (fun _:Unit=>_) (fun _=>True) (fun _=>0) () trivial (.refl _) ?_
 intro _ _
 refine aC fun K hK=>aA [] ?_
 simp only[seval,kZs,aL,aP,bH,Int.lt_irrefl,decide_false,aI]
 and_intros<;>try first|exact⟨⟩|omega
 refine hK _ ?_
 clear hK K
 refine bJ ?_
 refine aR rfl ?_
 refine dR ?_
 simp only[aI,bL,if_true]
 refine hK1 _ ?_
 clear hK1 K1
 refine aE [6] ?_
 simp only[seval,kZq]
 refine aC fun K hK=>aA [] ?_
 simp only[seval,kZs,cav,aI]
 and_intros<;>try first|exact⟨⟩|omega
 refine hK _ ?_
 clear hK K
 refine aE [4] ?_
 simp only[seval,kZq]
 refine aS ?_
 simp only[qq,bR,cQ,bN,bO,dA,aB,aH]
theorem aLh [Gv] (v:Value) (p:Perm):ACalls Tryz.prog G0 89 [.sl 0 [] p,.val v] [] (fun r os=>os=[]∧r=.val (.bool false)):=by
 have cI:=aLl (.val v) rfl (bW p)
 refine aQ Tryz.func89 rfl rfl Tryz.ntmps89 (rts:=#[4]) rfl Tryz.results89 (by simp) ?_
 simp only[seval,aZ]
 refine aC fun K hK=>aA [] ?_
 simp only[seval,kZs,cav,aI]
 and_intros<;>try first|exact⟨⟩|omega
 refine hK _ ?_
 clear hK K
 refine aE [0,1] ?_
 simp only[seval,kZq]
 refine aC fun K hK=>aA [] ?_
 simp only[seval,kZs,aU,bF,aT,bA,aM,bW,aH]
 refine aV (by simp[aM]) cI rfl ?_
 simp only[seval,kZs,aK,cav,aL,aP,bH,decide_false,aI]
 refine hK _ ?_
 clear hK K
 refine aE [4] ?_
 simp only[seval,kZq]
 refine aS ?_
 simp only[qq,bR,cQ,bN,bO,dA,aB,aH]
theorem aOb [Gv] {C:List Nat→List UInt8→List Nat} (hC:COk C) (t:TokV) (p:Perm) (hs:small t) (hp:fG p=true) (hb:t.bound=false) (hok:okT t=true) (text:List UInt8) (ht:text.length≤200000)
  (hs':small (gK C t (eO text))) (hok':okT (gK C t (eO text))=true) (hl:(gM (gK C t (eO text))).length≤65536)
  (PR:List AV) (hPl:PR.length=23) (hPo:PR.all dC=true) (hPn:aM PR=true) (hP:ACalls Tryz.prog GP 24 [str text] [] (fun r os=>os=[]∧r=.tup [.agg PR,.val (.bool true)])) :
  ACalls Tryz.prog GP 88 [.agg (BA t p),str text] [] (fun r os=>os=[]∧r=.tup [.agg (BA (gK C t (eO text)) .no),.val (.int .i64 0)]):=by
 have hoc:=kG t p
 have hlen:=fV t p hs.2.2.2.1
 have hnB:=iF t p hp
 have hBt:(BA t p).take 37=BA t p:=List.take_of_length_le (by omega)
 have g36:=aHx t p hs.2.2.2.1
 have htk:=aDN t p hs.2.2.2.1
 have hnT:=fQ t p (by cases p<;>simp_all [fG])
 have cK:=(uF t p hs hp hb).g (G:=GP)
 rw[hok,if_pos rfl] at cK
 have cH:=(aLh (.func (.func 157) #[] #[]) .full).g (G:=GP)
 have cA:=aNa hC t p hs hp hb text ht hs' PR hPl hPo hPn hP
 rw[hok',if_pos rfl] at cA
 have hb':(gK C t (eO text)).bound=false:=hb
 have cO:=fun q=>(aLH (gK C t (eO text)) .no q hs' rfl).g (G:=GP)
 have cE:=(aAy (gK C t (eO text)) .no hs' rfl hb' hok' hl).g (G:=GP)
 have hl6:=eP (gK C t (eO text)) .no hs'.2.2.2.1
 have ho6:=gP (gK C t (eO text)) .no
 have hn6:=fQ (gK C t (eO text)) .no rfl
 have ht6:(TA (gK C t (eO text)) .no).take 36=TA (gK C t (eO text)) .no:=List.take_of_length_le (by omega)
 have hd6:(TA (gK C t (eO text)) .no).drop 36=[]:=List.drop_eq_nil_of_le (by omega)
 have hl7:=fV (gK C t (eO text)) .no hs'.2.2.2.1
 have ho7:=kG (gK C t (eO text)) .no
 have hn7:=iF (gK C t (eO text)) .no rfl
 have ht7:(BA (gK C t (eO text)) .no).take 37=BA (gK C t (eO text)) .no:=List.take_of_length_le (by omega)
 have hd7:(BA (gK C t (eO text)) .no).drop 37=[]:=List.drop_eq_nil_of_le (by omega)
 have hz0:=oL
 have hlz:=fV fK .full (by simp[fK])
 have hzd7:(BA fK .full).drop 37=[]:=rfl
 generalize BA fK .full=B0 at *
 generalize gM (gK C t (eO text))=eB at *
 generalize BA (gK C t (eO text)) .no=B7 at *
 generalize TA (gK C t (eO text)) .no=T6 at *
 generalize BA t p=Bd at *
 generalize TA t p=T at *
 simp only[str] at *
 refine aQ Tryz.func88 rfl rfl Tryz.ntmps88 (rts:=#[70,37]) rfl Tryz.results88 (by simp) ?_
 simp only[seval,aZ]
 refine aC fun K hK=>aA [] ?_
 simp only[seval,kZs,eF,bB,hoc,fN,dF,bS,cav,aI]
 and_intros<;>try first|exact⟨⟩|omega
 refine hK _ ?_
 clear hK K
 rw[hz0]
 refine aE [1,2,4,5] ?_
 simp only[seval,kZq]
 refine aC fun K1 hK1=>?_
 refine aC fun K hK=>aA [] ?_
 simp only[seval,kZs,aY,apart,aO,Tryz.underlying70,bD,hlen,hBt,aU,bF,aT,bA,bW,List.headD_cons,aH]
 refine aV hnB cK rfl ?_
 simp only[seval,kZs,aK,aI]
 refine hK _ ?_
 clear hK K
 refine aE [1,2,4,5,6] ?_
 simp only[seval,kZq]
 refine aC fun K hK=>aA [] ?_
 simp only[seval,kZs,cav,aL,aP,bH,aI]
 and_intros<;>try first|exact⟨⟩|omega
 refine hK _ ?_
 clear hK K
 refine aR rfl (bC (hK1 _ ?_))
 clear hK1 K1
 refine aE [1,2,4,5] ?_
 simp only[seval,kZq]
 refine aC fun K1 hK1=>?_
 refine aC fun K hK=>aA [] ?_
 simp only[seval,kZs,aN,Tryz.underlying70,bD,ne_eq,aY,apart,aO,Tryz.underlying68,aU,bF,aT,bA,bW,List.headD_cons,aH,hlen,g36,aM]
 refine aV (by simp[aM]) cH rfl ?_
 simp only[aK,aG,aI]
 refine hK _ ?_
 clear hK K
 refine aR rfl (bC (hK1 _ ?_))
 clear hK1 K1
 refine aE [1,2,4,5] ?_
 simp only[seval,kZq]
 refine aC fun K hK=>aA [] ?_
 simp only[seval,kZs,aN,Tryz.underlying70,bD,ne_eq,aY,apart,aO,Tryz.underlying67,aU,bF,aT,bA,bW,List.headD_cons,aH,hlen,htk]
 refine aV hnT cA (by simp[aH,aM,hn6]) ?_
 simp only[seval,kZs,aK,gW,dF,bS,cav,bQ,bX,bD,bB,spl,aI,ho6,hl6,List.drop_nil]
 refine hK _ ?_
 clear hK K
 refine aE [2,4,5,7,8] ?_
 simp only[seval,kZq]
 refine aC fun K1 hK1=>?_
 refine aC fun K hK=>aA [] ?_
 simp only[seval,kZs,cav,aL,aP,bH,aI]
 and_intros<;>try first|exact⟨⟩|omega
 refine hK _ ?_
 clear hK K
 refine aR rfl (bC (hK1 _ ?_))
 clear hK1 K1
 refine aE [2,4,5,7] ?_
 simp only[seval,kZq]
 refine aC fun K hK=>aA [] ?_
 simp only[seval,kZs,aY,apart,aO,Tryz.underlying67,bD,hl6,ht6,aN,Tryz.underlying70,ne_eq,Tryz.underlying68,aU,bF,aT,bA,bW,List.headD_cons,List.tail_cons,hlen,g36,aM,aH]
 refine aV (by simp[aM,aH,hn6]) (cO _) (by simp[aH,aM,hn7]) ?_
 simp only[seval,kZs,aK,dF,bS,cav,bQ,bX,bD,bB,ho7,hl7,spl,aI,List.drop_nil]
 refine hK _ ?_
 clear hK K
 refine aE [4,5,9] ?_
 simp only[seval,kZq]
 refine aC fun K1 hK1=>?_
 refine aC fun K hK=>aA [] ?_
 simp only[seval,kZs,aY,apart,aO,Tryz.underlying70,bD,hl7,ht7,aU,bF,aT,bA,bW,List.headD_cons,aH]
 refine aV hn7 cE (by simp[aH,aM,aJ]) ?_
 simp only[seval,kZs,aK,gW,aI]
 refine hK _ ?_
 clear hK K
 refine aE [4,5,9,11] ?_
 simp only[seval,kZq]
 refine aC fun K hK=>aA [] ?_
 simp only[seval,kZs,cav,aL,aP,bH,aI]
 and_intros<;>try first|exact⟨⟩|omega
 refine hK _ ?_
 clear hK K
 refine aR rfl (bC (hK1 _ ?_))
 clear hK1 K1
 refine aE [4,9] ?_
 simp only[seval,kZq]
 refine aC fun K hK=>aA [] ?_
 simp only[seval,kZs,aY,apart,aO,Tryz.underlying70,bD,hl7,ht7,bQ,bX,bB,hlz,spl,cav,aI,ho7,hzd7]
 refine hK _ ?_
 clear hK K
 refine aE [4,5] ?_
 simp only[seval,kZq]
 refine aS ?_
 simp only[seval,qq,bR,cQ,bN,bO,aY,aB,apart,aO,Tryz.underlying70,bD,hl7,ht7,dA,aH,hn7]
theorem aLk [Gv] (v:Value) (p:Perm):ACalls Tryz.prog G0 146 [.sl 0 [] p,.val v] [] (fun r os=>os=[]∧r=.val (.int .i64 (-1))):=by
 refine aQ Tryz.func146 rfl rfl Tryz.ntmps146 (rts:=#[3]) rfl Tryz.results146 (by simp) ?_
 simp only[seval,aZ]
 refine aC fun K hK=>aA [] ?_
 simp only[seval,kZs,cav,aI]
 and_intros<;>try first|exact⟨⟩|omega
 refine hK _ ?_
 clear hK K
 refine aE [0] ?_
 simp only[seval,kZq]
 refine aC fun K1 hK1=>?_
 refine aC fun K hK=>aA [] ?_
 simp only[seval,kZs,bI,bV,eN,Tryz.underlying147,Int.cast_ofNat_Int,cav,aI]
 and_intros<;>try first|exact⟨⟩|omega
 refine hK _ ?_
 clear hK K
 refine aE [6,7,8] ?_
 simp only[seval,kZq]
 refine bK ?_
 refine bZ (fun _:Unit=>_) (fun _=>True) (fun _=>0) () trivial (.refl _) ?_
 intro _ _
 refine aC fun K hK=>aA [] ?_
 simp only[seval,kZs,aL,aP,bH,Int.lt_irrefl,decide_false,aI]
 and_intros<;>try first|exact⟨⟩|omega
 refine hK _ ?_
 clear hK K
 refine bJ ?_
 refine aR rfl ?_
 refine dR ?_
 simp only[aI,bL,if_true]
 refine hK1 _ ?_
 clear hK1 K1
 refine aE [6] ?_
 simp only[seval,kZq]
 refine aC fun K hK=>aA [] ?_
 simp only[seval,kZs,cav,aI]
 and_intros<;>try first|exact⟨⟩|omega
 refine hK _ ?_
 clear hK K
 refine aE [4] ?_
 simp only[seval,kZq]
 refine aS ?_
 simp only[qq,bR,cQ,bN,bO,dA,aB,aH]
theorem aLg [Gv] (v:Value) (p:Perm):ACalls Tryz.prog G0 76 [.sl 0 [] p,.val v] [] (fun r os=>os=[]∧r=.val (.bool false)):=by
 have cI:=aLk v (bW p)
 refine aQ Tryz.func76 rfl rfl Tryz.ntmps76 (rts:=#[4]) rfl Tryz.results76 (by simp) ?_
 simp only[seval,aZ]
 refine aC fun K hK=>aA [] ?_
 simp only[seval,kZs,cav,aI]
 and_intros<;>try first|exact⟨⟩|omega
 refine hK _ ?_
 clear hK K
 refine aE [0,1] ?_
 simp only[seval,kZq]
 refine aC fun K hK=>aA [] ?_
 simp only[seval,kZs,aU,bF,aT,bA,aM,bW,aH]
 refine aV (by simp[aM]) cI rfl ?_
 simp only[seval,kZs,aK,cav,aL,aP,bH,decide_false,aI]
 refine hK _ ?_
 clear hK K
 refine aE [4] ?_
 simp only[seval,kZq]
 refine aS ?_
 simp only[qq,bR,cQ,bN,bO,dA,aB,aH]
def aAM (C:List Nat→List UInt8→List Nat) (key:List UInt8) (t:TokV):Prop:=t.tag=pU C (lL C key t.key t.id) t.cavs
theorem aKJ [Gv] {C:List Nat→List UInt8→List Nat} (hC:COk C) (key:List UInt8) (hk:key.length=32) (t:TokV) (ts:List (List UInt8)) (p:Perm) (hp:fG p=true) (hs:small t) (hpl:wC t ts) (hb:t.bound=false) (hok:okT t=true) (htag:aAM C key t)
  (RQ:List AV) (hRl:RQ.length=20) (hRo:RQ.all dC=true) (hRn:aM RQ=true) (clock:Nat) (g:List UInt8→Bool)
  (hG:∀ s∈ts,ACalls Tryz.prog GP 75 [str s,.agg RQ,.val (.int .u64 (clock:Int))] [] (fun r os=>os=[]∧r=.val (.bool (g s)))) :
  ACalls Tryz.prog GP 28 [.agg (Bs key),.agg (BA t p),.agg RQ,.val (.int .u64 (clock:Int))] [] (fun r os=>os=[]∧r=.val (.int .i64 (if ts.all g then 0 else 7))):=by
 have hoc:=kG t p
 have hlen:=fV t p hs.2.2.2.1
 have hnB:=iF t p hp
 have hBt:(BA t p).take 37=BA t p:=List.take_of_length_le (by omega)
 have g2:=aNA t p
 have g36:=aHx t p hs.2.2.2.1
 have g4:=aOv t p hs.2.2.2.1
 have htk:=aDN t p hs.2.2.2.1
 have hnT:=fQ t p (by cases p<;>simp_all [fG])
 have hlT:=eP t p hs.2.2.2.1
 have hoT:=gP t p
 have gT2:=(sZ t p).2.2.1
 have cK:=(uF t p hs hp hb).g (G:=GP)
 rw[hok,if_pos rfl] at cK
 have cT:=aLP hC key hk t p hs (by cases p<;>simp_all [fG])
 have hsl:(lL C key t.key t.id).length=32:=fO hC _ _ _
 have hlast:=aBj hC (lL C key t.key t.id) hsl t.cavs t.cavs.length
 have htl:=lW hC (lL C key t.key t.id) hsl t.cavs t.cavs.length
 rw[List.take_length,← htag] at hlast
 generalize pV C (lL C key t.key t.id) t.cavs t.cavs.length=tg at *
 have ht32:=hs.2.2.2.1
 have hcl:t.cavs.length=ts.length:=by rw[hpl,List.length_map]
 have cE:=(aLX t.tag t.tag .no .no (by omega)).g (G:=GP)
 have hkt:key.take 32=key:=List.take_of_length_le (by omega)
 generalize BA t p=Bd at *
 generalize TA t p=T at *
 refine aQ Tryz.func28 rfl rfl Tryz.ntmps28 (rts:=#[38]) rfl Tryz.results28 (by simp) ?_
 simp only[seval,aZ]
 refine aC fun K hK=>aA [] ?_
 simp only[seval,kZs,eF,bB,eR,fN,hoc,hRo,cav,aI]
 and_intros<;>try first|exact⟨⟩|omega
 refine hK _ ?_
 clear hK K
 refine aE [3,4,5,6,8] ?_
 simp only[seval,kZq]
 refine aC fun K1 hK1=>?_
 refine aC fun K hK=>aA [] ?_
 simp only[seval,kZs,aY,apart,aO,Tryz.underlying70,bD,hlen,hBt,aU,bF,aT,bA,bW,List.headD_cons,aH]
 refine aV hnB cK rfl ?_
 simp only[seval,kZs,aK,cav,aL,aP,bH,aI]
 refine hK _ ?_
 clear hK K
 refine aR rfl (bC (hK1 _ ?_))
 clear hK1 K1
 refine aE [3,4,5,6] ?_
 simp only[seval,kZq]
 refine aC fun K hK=>?_
 refine dW [] (by kernel_rfl) (by kernel_rfl) ?_
 simp only[seval,kZs,aY,apart,aO,Tryz.underlying70,bD,hlen,hBt,aN,ne_eq,Tryz.underlying68,bI,bV,eN,aCO,Tryz.underlying147,Tryz.underlying67,Tryz.underlying23,aU,bF,aT,bA,bW,List.headD_cons,List.tail_cons,g36,Int.cast_ofNat_Int,lX,bS,Int.le_refl,Int.mul_zero,Int.toNat_zero,aHu,htk,aX,hk,eS,hkt,aH,aJ]
 refine aV (by simp[aM,aH,aJ,hnT]) cT (by simp[aH,aJ]) ?_
 have hT36:∀ r:List AV,(T++r).take 36=T:=fun r=>List.take_left' hlT
 have hTd:∀ x:AV,(T++[x]).drop 37=[]:=fun x=>List.drop_eq_nil_of_le (by simp[hlT])
 have hB37:∀ r:List AV,(Bd++r).take 37=Bd:=fun r=>List.take_left' hlen
 have hB38:∀ x y:AV,(Bd++[x,y]).drop 38=[y]:=fun x y=>by
  rw[show Bd++[x,y]=(Bd++[x])++[y] by simp,List.drop_left' (by simp[hlen])]
 have hB38t:∀ x y:AV,(Bd++[x]++[y]).take 38=Bd++[x]:=fun x y=>List.take_left' (by simp[hlen])
 have hB39:∀ x y:AV,(Bd++[x]++[y]).drop 39=[]:=fun x y=>List.drop_eq_nil_of_le (by simp[hlen])
 simp only[seval,kZs,aK,fA,bS,Tryz.underlying151,kO,cav,dO,eM,spl,bB,hlT,hT36,hTd,List.length_append,List.all_cons,dC,List.all_nil,hoT,dV,Tryz.underlying152,bD,qC,Nat.zero_mul,List.length_drop,dL,Tryz.underlying154,hlen,hB37,hB38,hB38t,hB39,hoc,eF,fN,aI,List.all_append,List.drop_nil]
 refine hK _ ?_
 clear hK K
 refine aE [3,5,6,9] ?_
 simp only[seval,kZq]
 obtain⟨TK,hTK⟩:∃ TK:List AV,TK=T++[.sl (t.cavs.length+1) (Bs tg) .no]:=⟨_,rfl⟩
 rw[← hTK]
 have hKl:TK.length=37:=by rw[hTK];simp[hlT]
 have hKo:TK.all dC=true:=by rw[hTK,List.all_append,hoT];rfl
 have hK2:TK.getD 2 .top=.sl t.cavs.length (CS t.cavs) p:=by
  rw[hTK,List.getD_eq_getElem?_getD,List.getElem?_append_left (by omega),← List.getD_eq_getElem?_getD,gT2]
 have hK36:TK.getD 36 .top=.sl (t.cavs.length+1) (Bs tg) .no:=by
  rw[hTK,List.getD_eq_getElem?_getD,List.getElem?_append_right (by omega),hlT];rfl
 have hKt:TK.take 37=TK:=List.take_of_length_le (by omega)
 have hKd:TK.drop 37=[]:=List.drop_eq_nil_of_le (by omega)
 clear hTK
 have hWl:∀ a x:AV,(Bd++[a]++[x]).length=39:=fun a x=>by simp[hlen]
 have hW37:∀ a x:AV,(Bd++[a]++[x]).getD 37 .top=a:=fun a x=>by
  rw[List.getD_eq_getElem?_getD,List.append_assoc,List.getElem?_append_right (by omega),hlen];rfl
 have hW38:∀ a x:AV,(Bd++[a]++[x]).getD 38 .top=x:=fun a x=>by
  rw[List.getD_eq_getElem?_getD,List.append_assoc,List.getElem?_append_right (by omega),hlen];rfl
 have hbt:(Bs t.tag).length=32:=by rw[aX];omega
 have hbo:(Bs t.tag).all dC=true:=by
  rw[List.all_eq_true]
  intro x hx
  obtain⟨z,_,rfl⟩:=List.mem_map.1 hx
  rfl
 have htt:t.tag.take 32=t.tag:=List.take_of_length_le (by omega)
 have hz:(Z 32).drop 32=[]:=List.drop_eq_nil_of_le (by rw[eZ];exact Nat.le_refl _)
 have hmx:=hs.2.1
 refine aC fun K1 hK1=>?_
 refine aC fun K hK=>?_
 refine dW [] (by kernel_rfl) (by kernel_rfl) ?_
 simp only[seval,kZs,fY,aN,Tryz.underlying154,bD,ne_eq,aY,apart,aO,Tryz.underlying152,dN,cav,Int.le_refl,Int.toNat_zero,Nat.zero_mul,Tryz.underlying151,Tryz.underlying148,Tryz.underlying70,Tryz.underlying67,Tryz.underlying65,bI,bV,eN,Tryz.underlying23,dF,bS,jK,bQ,bX,bB,spl,aI,hlen,g2,Int.toNat_natCast,aX,eZ,eA,hWl,hW38,hKl,Int.cast_ofNat_Int,List.length_drop,fL,hK36,htl,hlast,hbt,eS,htt,hbo,hz,gV]
 refine⟨⟨by omega,by omega⟩,hK _ ?_⟩
 clear hK K
 refine aE [3,5,6,9,10] ?_
 simp only[seval,kZq]
 have g4':(Bd.drop 4).take 32=Bs t.tag:=g4
 rw[ht32] at cE
 refine aC fun K hK=>?_
 refine dW [] (by kernel_rfl) (by kernel_rfl) ?_
 simp only[seval,kZs,eY,iR,Option.map_none,Tryz.underlying23,bD,eJ,Int.le_refl,dH,Int.cast_ofNat_Int,ne_eq,not_true_eq_false,or_false,Int.toNat_zero,Nat.mul_one,Int.sub_zero,aN,Tryz.underlying70,Tryz.underlying67,Int.toNat_natCast,Nat.zero_mul,iC,aU,bF,aT,bA,bW,List.headD_cons,Tryz.underlying54,List.tail_cons,hlen,g4',aJ,hbt,eS,htt]
 refine aV trivial cE (by simp[flat]) ?_
 simp only[seval,kZs,aK,aun,aI]
 refine hK _ ?_
 clear hK K
 refine aR (by simp only[aB,lk];simp) (bC (hK1 _ ?_))
 clear hK1 K1
 refine lT 4 ?_
 refine aE [3,5,6,9] ?_
 simp only[seval,kZq]
 simp only[List.set_cons_succ,List.set_cons_zero]
 refine aC fun K1 hK1=>?_
 refine bK ?_
 refine bZ (fun b:Bool=>⟨108,[(3,.val (.int .u64 (clock:Int))),(5,.ptr 1 0),(6,.ptr 2 0),(9,.ptr 3 0)],if b then .cells (Bs key)::.cells Bd::.cells RQ::.cells (Bd++[.sl 0 [] .no]++[.sl 0 [] .full])::.dead::.dead::dd ts.length else [.cells (Bs key),.cells Bd,.cells RQ,.cells (Bd++[.sl 0 [] .no]++[.sl 1 TK .full]),.dead]⟩)
  (fun b=>b=true→ts.all g=true) (fun b=>if b then 0 else 1) false (by simp) (.of_keep [3,5,6,9] rfl) ?_
 intro b hbI
 cases b with
 | true=>
  have hall:=hbI rfl
  refine bJ ?_
  refine bJ ?_
  refine aA [] ?_
  simp only[seval,kZs,fY,aN,Tryz.underlying154,bD,ne_eq,aY,apart,aO,Tryz.underlying152,bI,bV,eN,cav,aL,aI,hWl,hW38,Int.cast_ofNat_Int,aP,bH,Int.lt_irrefl,decide_false]
  refine aR rfl ?_
  refine dR ?_
  simp only[aI,bL,if_true]
  refine hK1 _ ?_
  clear hK1 K1
  refine aE [9] ?_
  simp only[seval,kZq]
  refine aC fun K1 hK1=>?_
  refine aC fun K hK=>aA [] ?_
  simp only[seval,kZs,fY,aN,Tryz.underlying154,bD,ne_eq,aY,apart,aO,Tryz.underlying147,aU,cav,bF,aT,bA,bW,List.headD_cons,aH,hWl,hW37,aM]
  refine aV (by simp[aM]) (aLg (.bool false) .no).g rfl ?_
  simp only[aK,aG,aI]
  refine hK _ ?_
  clear hK K
  refine aR rfl (bC (hK1 _ ?_))
  clear hK1 K1
  refine aE [9] ?_
  simp only[seval,kZq]
  refine aC fun K hK=>aA [] ?_
  simp only[seval,kZs,cav,aI]
  and_intros<;>try first|exact⟨⟩|omega
  refine hK _ ?_
  clear hK K
  refine aE [8] ?_
  simp only[seval,kZq]
  refine aS ?_
  exact⟨_,_,rfl,⟨rfl,trivial⟩,rfl,by rw[hall];rfl⟩
 | false=>
  clear hbI
  refine bJ ?_
  refine bJ ?_
  refine aA [] ?_
  simp only[seval,kZs,fY,aN,Tryz.underlying154,bD,ne_eq,aY,apart,aO,Tryz.underlying152,bI,bV,eN,cav,aL,aI,hWl,hW38,Int.cast_ofNat_Int,aP,bH,decide_true]
  refine bG rfl (bC ?_)
  simp only[aI]
  refine aE [3,5,6,9] ?_
  simp only[seval,kZq]
  refine bK ?_
  refine aC fun K hK=>aA [] ?_
  simp only[seval,kZs,fY,aN,Tryz.underlying154,bD,ne_eq,aY,apart,aO,Tryz.underlying152,dN,cav,Int.le_refl,Int.toNat_zero,Nat.zero_mul,Tryz.underlying151,dF,bS,bQ,bX,bB,spl,aI,hWl,hW38,hKl,Int.cast_ofNat_Int,Nat.zero_lt_succ,hKt,hKo,List.drop_nil]
  refine hK _ ?_
  clear hK K
  refine aE [3,5,6,9,11] ?_
  simp only[seval,kZq]
  refine aC fun K hK=>aA [] ?_
  have h11:((1:Int) - 1).toNat=0:=rfl
  simp only[seval,kZs,fY,aN,Tryz.underlying154,bD,ne_eq,aY,apart,aO,Tryz.underlying152,eY,iR,Option.map_some,cav,Option.map_none,eJ,dH,Int.le_refl,not_true_eq_false,or_false,iC,Int.toNat_natCast,bQ,bX,bB,spl,aI,hWl,hB38t,hW38,hKl,Int.cast_ofNat_Int,h11,Nat.zero_mul,hKd,List.take_nil,List.all_cons,dC,List.all_nil,Nat.zero_lt_succ,hB39]
  refine hK _ ?_
  clear hK K
  refine aE [3,5,6,9,11] ?_
  simp only[seval,kZq]
  have hCl:=mD t.cavs
  refine aC fun K hK=>aA [] ?_
  simp only[seval,kZs,aN,Tryz.underlying151,bD,ne_eq,Tryz.underlying67,aY,apart,aO,Tryz.underlying65,bI,bV,eN,cav,aI,hKl,hK2]
  and_intros<;>try first|exact⟨⟩|omega
  refine hK _ ?_
  clear hK K
  refine aE [3,5,6,9,11,74,75,76] ?_
  simp only[seval,kZq]
  refine bK ?_
  refine bZ (fun i:Nat=>⟨108,[(3,.val (.int .u64 (clock:Int))),(5,.ptr 1 0),(6,.ptr 2 0),(9,.ptr 3 0),(11,.ptr 5 0),(74,.sl t.cavs.length (CS t.cavs) p),(75,.val (.int .i64 (t.cavs.length:Int))),(76,.val (.int .i64 (i:Int)))],.cells (Bs key)::.cells Bd::.cells RQ::.cells (Bd++[.sl 0 [] .no]++[.sl 0 [] .full])::.dead::.cells TK::dd i⟩)
   (fun i=>i≤ts.length∧(ts.take i).all g=true) (fun i=>ts.length - i) 0 (by simp) (.of_keep [3,5,6,9,11,74,75,76] rfl) ?_
  rintro i ⟨hi,hga⟩
  refine aC fun K hK=>aA [] ?_
  simp only[seval,kZs,aL,aP,bH,jM,aI]
  and_intros<;>try first|exact⟨⟩|omega
  refine hK _ ?_
  clear hK K
  refine bJ ?_
  refine fB rfl rfl (fun hq=>?_) (fun hq=>?_)
  ·have hlt:i<t.cavs.length:=of_decide_eq_true hq
   have hlt':i<ts.length:=by omega
   refine bC ?_
   simp only[aI]
   refine aE [3,5,6,9,11,74,75,76] ?_
   simp only[seval,kZq]
   have hget:=aDO hlt (t.cavs[i])
   rw[List.getD_eq_getElem?_getD,List.getElem?_eq_getElem hlt] at hget
   simp only[Option.getD_some] at hget
   have hci:t.cavs[i]=eO ts[i]:=by
    have:t.cavs[i]? = (ts.map eO)[i]?:=by rw[hpl]
    rw[List.getElem?_eq_getElem hlt,List.getElem?_map,List.getElem?_eq_getElem hlt'] at this
    simpa using this
   rw[hci] at hget
   have cG:=hG ts[i] (List.getElem_mem hlt')
   have htk1:(ts.take (i+1)).all g=((ts.take i).all g&&g ts[i]):=by
    rw[List.take_add_one,List.getElem?_eq_getElem hlt',List.all_append]
    simp
   have hany:g ts[i]=false→ts.all g=false:=fun h=>by
    rw[Bool.eq_false_iff]
    intro hh
    rw[List.all_eq_true] at hh
    rw[hh _ (List.getElem_mem hlt')] at h
    cases h
   generalize ts[i]=s at *
   rw[show CA (eO s)=[.val (.bool false),.val (.string ⟨s.toArray⟩),.val (.int .u64 0),.val (.string ⟨#[]⟩),.val (.string ⟨#[]⟩)] from rfl] at hget
   simp only[str] at cG
   refine bJ ?_
   refine bK ?_
   refine aC fun K hK=>aA [] ?_
   simp only[seval,kZs,dN,Tryz.underlying65,bD,hCl,Int.toNat_natCast,aY,apart,aO,Tryz.underlying74,dF,bS,iS,cav,bQ,bX,bB,spl,aI,oR,lU,List.length_drop,hget,List.all_cons,dC,Value.oneCell',List.all_nil,List.drop_nil]
   refine⟨⟨by omega,by omega⟩,by omega,hK _ ?_⟩
   clear hK K
   have hRt:RQ.take 20=RQ:=List.take_of_length_le (by omega)
   refine aE [3,5,6,9,11,13,74,75,76] ?_
   simp only[seval,kZq]
   refine aC fun K hK=>aA [] ?_
   simp only[seval,kZs,cav,aI]
   and_intros<;>try first|exact⟨⟩|omega
   refine hK _ ?_
   clear hK K
   refine aE [3,5,6,9,11,13,14,74,75,76] ?_
   simp only[seval,kZq]
   refine aC fun K2 hK2=>?_
   refine bK ?_
   refine bJ ?_
   refine aA [] ?_
   simp only[seval,kZs,aN,Tryz.underlying74,bD,ne_eq,aY,apart,aO,Tryz.underlying4,aI,oR]
   refine aR rfl ?_
   refine bJ ?_
   refine aA [] ?_
   simp only[seval,kZs,aN,Tryz.underlying74,bD,ne_eq,aY,apart,aO,Tryz.underlying9,Tryz.underlying29,hRl,hRt,aU,bF,aT,bA,bW,List.headD_cons,List.tail_cons,aH,oR,List.getD_cons_succ]
   refine aV (by simp[aM,aH,hRn]) cG rfl ?_
   simp only[seval,kZs,aK,aun,aI]
   cases hgs:g s with
   | false=>
    refine bG (by simp only[aB,lk];simp[hgs]) ?_
    refine aE [3,5,6,9,11,13,74,75,76] ?_
    simp only[seval,kZq]
    refine aA [] ?_
    simp only[seval,kZs,cav]
    simp only[bL,aI]
    refine hK2 _ ?_
    clear hK2 K2
    refine aE [14] ?_
    simp only[seval,kZq]
    refine bJ ?_
    refine aA [] ?_
    simp only[seval,kZs,cav,aL,aP,bH,aI]
    refine bG rfl ?_
    refine aE [14] ?_
    simp only[seval,kZq]
    refine aC fun K hK=>aA [] ?_
    simp only[seval,kZs,aI]
    and_intros<;>try first|exact⟨⟩|omega
    refine hK _ ?_
    clear hK K
    refine aE [8] ?_
    simp only[seval,kZq]
    refine aS ?_
    simp only[bL,aI]
    exact⟨_,_,rfl,⟨rfl,trivial⟩,rfl,by rw[hany hgs];rfl⟩
   | true=>
    refine aR (by simp only[aB,lk];simp[hgs]) ?_
    refine bC ?_
    simp only[bL,aI]
    refine hK2 _ ?_
    clear hK2 K2
    refine aE [3,5,6,9,11,13,14,74,75,76] ?_
    simp only[seval,kZq]
    refine bJ ?_
    refine aA [] ?_
    simp only[seval,kZs,cav,aL,aP,bH,aI]
    refine aR rfl ?_
    refine bC ?_
    simp only[bL,aI]
    refine lT (i+6) ?_
    simp only[List.set_cons_succ,lU,rN]
    refine aE [3,5,6,9,11,74,75,76] ?_
    simp only[seval,kZq]
    have h6:IntKind.i64.wrap ((i+1:Nat):Int)=((i+1:Nat):Int):=fD (by have:=hs.2.1;omega)
    refine aA [] ?_
    simp only[seval,kZs,cav,aL,aP,bH,gO,h6,aI]
    exact⟨i+1,⟨by omega,by rw[htk1,hga,hgs];rfl⟩,by omega,.of_keep [3,5,6,9,11,74,75,76] rfl⟩
  ·have he:i=ts.length:=by have:=of_decide_eq_false hq;omega
   subst he
   refine dR ?_
   simp only[aI,bL,if_true]
   rw[List.take_length] at hga
   exact⟨true,fun _=>hga,by decide,.trans (.dead 5) (.of_keep [3,5,6,9] (by exact rfl))⟩
def SV (clock most last:Nat) (m:AObj) (l:List OutV):List AObj:=[.cells [.val (.int .u64 (clock:Int)),.ptr 1 0,.ptr 3 0],KO most last 2,m,SO l 4,.tok 3 l.length]
theorem xI [Gv]:ACalls Tryz.prog GP 85 [.val (.int .i64 0)] [] (fun r os=>os=[]∧r=.tup []):=by
 refine aQ Tryz.func85 rfl rfl Tryz.ntmps85 (rts:=#[]) rfl Tryz.results85 (by simp) ?_
 simp only[seval,aZ]
 refine aC fun K hK=>aA [] ?_
 simp only[seval,kZs,cav,aL,aP,bH,aI]
 and_intros<;>try first|exact⟨⟩|omega
 refine hK _ ?_
 clear hK K
 refine aR rfl (bC ?_)
 exact⟨_,_,rfl,trivial,rfl,rfl⟩
theorem aBe [Gv] (most:Nat) (h:most≤1024):ACalls Tryz.prog GP 10 [.val (.int .i64 (most:Int))] [] (fun r os=>os=SV 0 most 0 (.map []) []∧r=.ptr 0 0):=by
 have cK:=aNw most h
 have cS:=aOV
 simp only[KO,SO,List.length_nil,show OS []=[] from rfl] at *
 refine dB Tryz.func10 rfl rfl Tryz.ntmps10 (rts:=#[35]) rfl Tryz.results10 (by simp) ?_
 simp only[seval,aZ]
 refine aC fun K hK=>aA [] ?_
 simp only[seval,kZs,cav,aI]
 and_intros<;>try first|exact⟨⟩|omega
 refine hK _ ?_
 clear hK K
 refine aE [0] ?_
 simp only[seval,kZq]
 refine aC fun K hK=>aA [1000004,1000005] ?_
 simp only[seval,kZs,aU,List.contains_cons,beq_self_eq_true,bF,aT,bA,aH]
 refine gF [] false [3] ⟨by decide,by simp,by simp⟩ rfl (by simp[aH]) (by simpa[GHd] using cK) ⟨by simp,by simp[fU,eV,ref,jH],by simp[eV,ref],fun h=>by cases h⟩ ?_
 simp only[seval,qq,ren,σn,jD,gG,gJ,gH,dE,aU,List.contains_cons,beq_self_eq_true,Bool.false_or,aB,bF,aT]
 refine gF [] false [] ⟨by decide,by simp,by simp⟩ rfl (by simp[aH]) (by simpa[GHd] using cS) ⟨by simp,by simp[fU,eV,ref,jH,OS],by simp[eV,ref],fun h=>by cases h⟩ ?_
 simp only[seval,kZs,ren,σn,jD,gG,gJ,gH,rB,dE,fA,bS,Tryz.underlying106,kO,cav,dO,eM,spl,bB,List.drop_nil,List.all_cons,dC,List.all_nil,List.contains_cons,eF,fN,aI,Value.oneCell']
 refine hK _ ?_
 clear hK K
 refine aE [2] ?_
 simp only[seval,kZq]
 refine aS ?_
 refine nW [4,0,1,2,3] ⟨by simp,by simp,by decide,by simp,by simp[fU,eV,ref,jH]⟩ ?_
 exact⟨⟨trivial,trivial⟩,rfl,rfl,rfl⟩
structure OpF (O:List AV) (kind key «until» ticks out:Nat) (draw text:List UInt8) (pub:Bool):Prop where
 len:O.length=129
 ones:O.all dC=true
 nor:aM O=true
 fkind:O.getD 0 .top=.val (.int .i64 (kind:Int))
 fkey:O.getD 1 .top=.val (.int .u64 (key:Int))
 funtil:O.getD 2 .top=.val (.int .u64 («until»:Int))
 fticks:O.getD 4 .top=.val (.int .u64 (ticks:Int))
 fdraw:(O.drop 5).take 32=Bs draw
 ldraw:draw.length=32
 ftext:O.getD 101 .top=.val (.string ⟨text.toArray⟩)
 fout:O.getD 104 .top=.val (.int .i64 (out:Int))
 fpub:O.getD 128 .top=.val (.bool pub)
theorem jX [Gv] (clock most last:Nat) (m:AObj) (hm:eH m=true) (l:List OutV):∀ o∈SV clock most last m l,fU (fun r=>decide (r<5)) o=true:=by
 intro o ho
 simp only[SV,List.mem_cons,List.not_mem_nil,or_false] at ho
 rcases ho with rfl|rfl|rfl|rfl|rfl
 ·rfl
 ·rfl
 ·exact aBa _ _ hm
 ·simp[SO,fU,eV,ref,jH,bM _ _ (gA l)]
 ·rfl
def AN (e r n:Nat) (out:Int):List AV:=[.val (.int .i64 (e:Int)),.val (.int .i64 (r:Int)),.val (.int .u64 (n:Int)),.val (.int .i64 out)]
theorem aGD [Gv] (clock most last:Nat) (m:AObj) (hm:eH m=true) (l:List OutV) (hl:l.length≤1000000) (t:TokV) (p:Perm) (hp:fG p=true) (hs:small t) (hok:okT t=true) (hb:t.bound=false) (hlen:(gM t).length≤65536)
  (O:List AV) {kind key un ticks out:Nat} {draw text:List UInt8} {pub:Bool} (hO:OpF O kind key un ticks out draw text pub) :
  ACalls Tryz.prog GP 86 [.ptr 0 0,.agg (BA t p),.agg O] (SV clock most last m l) (fun r os=>os=SV clock most last m (l++[⟨gM t,true,pub⟩])∧r=.agg (AN 0 0 0 (l.length:Int))):=by
 have cE:=(aAy t p hs hp hb hok hlen).g (G:=GP)
 have cP:=aOW l hl ⟨gM t,true,pub⟩
 have hOA:OA ⟨gM t,true,pub⟩=[.val (.string ⟨(gM t).toArray⟩),.val (.bool true),.val (.bool pub)]:=rfl
 rw[hOA] at cP
 have hnl:=gA l
 have hnl2:=gA (l++[⟨gM t,true,pub⟩])
 have hlB:=fV t p hs.2.2.2.1
 have hoB:=kG t p
 have hnB:=iF t p hp
 have hBt:(BA t p).take 37=BA t p:=List.take_of_length_le (by omega)
 have hrf:=jX clock most last m hm
 generalize (⟨gM t,true,pub⟩:OutV)=ov at *
 generalize gM t=eB at *
 generalize BA t p=Bd at *
 have hOl:=hO.len
 have hOo:=hO.ones
 have hOp:=hO.fpub
 have hOt:O.take 129=O:=List.take_of_length_le (by omega)
 simp only[SV,KO,SO] at *
 refine dB Tryz.func86 rfl rfl Tryz.ntmps86 (rts:=#[40]) rfl Tryz.results86 (by simp) ?_
 simp only[seval,aZ]
 refine aC fun K hK=>aA [] ?_
 simp only[seval,kZs,eF,bB,hoB,fN,hOo,dF,bS,cav,aI]
 and_intros<;>try first|exact⟨⟩|omega
 refine hK _ ?_
 clear hK K
 refine aE [0,4,5,6] ?_
 simp only[seval,kZq]
 refine aC fun K hK=>aA [] ?_
 simp only[seval,kZs,aY,apart,aO,Tryz.underlying70,bD,hlB,hBt,aU,bF,aT,bA,bW,List.headD_cons,aH]
 refine aV hnB cE (by simp[aH,aM,aJ]) ?_
 simp only[seval,kZs,aK,gW,aI]
 refine hK _ ?_
 clear hK K
 refine aE [0,5,6,7,8] ?_
 simp only[seval,kZq]
 refine aC fun K hK=>aA [] ?_
 simp only[seval,kZs,aU,bF,aT,bA,aH]
 refine aV trivial xI (by simp[aH,aM]) ?_
 simp only[aK,aG,aI]
 refine hK _ ?_
 clear hK K
 refine aE [0,5,6,7] ?_
 simp only[seval,kZq]
 refine aC fun K hK=>?_
 refine dW [1000025] (by kernel_rfl) (by kernel_rfl) ?_
 simp only[seval,kZs,fY,aN,Tryz.underlying106,bD,ne_eq,aY,List.contains_cons,apart,aO,Tryz.underlying50,eL,Tryz.underlying9,eG,bA,aJ,bW,fF,Tryz.underlying54,Tryz.underlying5,aX,jG,kJ,Tryz.underlying46,Tryz.underlying4,fA,bS,Tryz.underlying48,kO,cav,dO,eM,spl,bB,List.all_cons,dC,Value.oneCell',List.all_nil,aU,beq_self_eq_true,bF,aT,List.headD_cons,List.tail_cons,hOl,hOp,List.drop_nil,List.getD_cons_succ]
 refine gF [3,4] false [50,48] ⟨by decide,by simp,by simp[fU,eV,ref,jH,bM _ _ hnl]⟩ rfl (by simp[aH]) (by simp only[GHd,List.map_cons,List.map_nil,List.getD_cons_zero,List.getD_cons_succ,gJ,gH,ren,rB,cY _ _ hnl];exact cP) ⟨by simp,by simp[fU,eV,ref,jH,bM _ _ hnl2],by simp[eV,ref],fun h=>by cases h⟩ ?_
 simp only[seval,kZs,ren,jD,gG,gJ,gH,cY _ _ hnl2,rB,σn,List.getD_cons_succ,List.headD_cons,List.tail_cons,List.drop_nil,dE,fA,bS,Tryz.underlying40,kO,cav,dO,eM,spl,bB,List.all_cons,dC,Value.oneCell',List.all_nil,bQ,bX,bD,aI]
 refine hK _ ?_
 clear hK K
 refine aE [6] ?_
 simp only[seval,kZq]
 refine aS ?_
 have hr:=hrf (l++[ov])
 simp only[List.length_append,List.length_cons,List.length_nil,Nat.zero_add] at hr ⊢
 refine fE (by simp) hr ?_
 simp only[seval,qq,gS,gB,fJ,fR,aY,aB,apart,aO,Tryz.underlying40,bD,List.take_nil]
 exact⟨rfl,rfl⟩
theorem gY [Gv] (tag:List UInt8) (u:Nat):eH (KM tag u)=true:=by simp[KM,eH,aM,aH,oJ]
theorem aNk [Gv] (clock most:Nat) (tag:List UInt8) (ht:tag.length=32) (u:Nat) (hlive:clock<u) (l:List OutV) :
  ACalls Tryz.prog GP 84 [.ptr 0 0,.val (.int .i64 1),.val (.int .u64 1)] (SV clock most 1 (KM tag u) l) (fun r os=>os=SV clock most 1 (KM tag u) l∧r=.agg (Bs tag)):=by
 have cF:=aFW most tag ht u clock
 rw[if_pos hlive] at cF
 have hnY:=oJ tag u
 have hrf:=jX clock most 1 (KM tag u) (gY tag u) l
 have hbl:(Bs tag).length=32:=by rw[aX];omega
 have htt:tag.take 32=tag:=List.take_of_length_le (by omega)
 have hbo:(Bs tag).all dC=true:=by
  rw[List.all_eq_true]
  intro x hx
  obtain⟨z,_,rfl⟩:=List.mem_map.1 hx
  rfl
 have hz:(Z 32).drop 32=[]:=List.drop_eq_nil_of_le (by rw[eZ];exact Nat.le_refl _)
 simp only[SV,KO,KM] at *
 refine dB Tryz.func84 rfl rfl Tryz.ntmps84 (rts:=#[23]) rfl Tryz.results84 (by simp) ?_
 simp only[seval,aZ]
 refine aC fun K hK=>aA [] ?_
 simp only[seval,kZs,Int.cast_ofNat_Int,dF,bS,jK,aI]
 and_intros<;>try first|exact⟨⟩|omega
 refine hK _ ?_
 clear hK K
 refine aE [0,1,2,6] ?_
 simp only[seval,kZq]
 refine aC fun K hK=>?_
 refine dW [2000020] (by kernel_rfl) (by kernel_rfl) ?_
 simp only[seval,kZs,Int.cast_ofNat_Int,fY,aN,Tryz.underlying106,bD,ne_eq,aY,List.contains_cons,apart,aO,Tryz.underlying103,Tryz.underlying30,aU,bF,beq_self_eq_true,aT,bA,bW,List.headD_cons,aH,List.tail_cons,List.getD_cons_succ]
 refine gF [1,2] false [103,3,30,30] ⟨by decide,by simp,by simp[fU,eV,ref,jH,bM _ _ hnY]⟩ rfl (by simp[aH]) (by simp only[GHd,List.map_cons,List.map_nil,List.getD_cons_zero,List.getD_cons_succ,gJ,gH,ren,rB,cY _ _ hnY];exact cF) ⟨by simp,by simp[fU,eV,ref,jH,bM _ _ hnY],by simp[eV,ref,bM _ _ (aJ tag)],fun h=>by cases h⟩ ?_
 simp only[seval,kZs,ren,gH,cY _ _ (aJ tag),jD,gG,Int.cast_ofNat_Int,gJ,σn,List.getD_cons_succ,cY _ _ hnY,List.headD_cons,List.tail_cons,List.drop_nil,uC,gW,dF,bS,jK,bQ,bX,bD,bB,spl,aI,aX,eZ,eA,hbo,hbl,hz,gV]
 refine hK _ ?_
 clear hK K
 refine aE [6,7,8] ?_
 simp only[seval,kZq]
 refine aC fun K1 hK1=>?_
 refine aC fun K hK=>aA [] ?_
 simp only[seval,kZs,Int.cast_ofNat_Int,cav,aL,aP,bH,aI]
 and_intros<;>try first|exact⟨⟩|omega
 refine hK _ ?_
 clear hK K
 refine aR rfl (bC (hK1 _ ?_))
 clear hK1 K1
 refine aE [6,7] ?_
 simp only[seval,kZq]
 refine aC fun K hK=>aA [] ?_
 simp only[seval,kZs,Int.cast_ofNat_Int,aY,apart,aO,Tryz.underlying23,bD,hbl,eS,htt,bQ,bX,bB,aX,eZ,spl,eA,aI,hbo,hz,gV]
 refine hK _ ?_
 clear hK K
 refine aE [6] ?_
 simp only[seval,kZq]
 refine aS ?_
 refine fE (by simp) hrf ?_
 simp only[seval,qq,gS,gB,fJ,fR,aY,aB,apart,aO,Tryz.underlying23,bD,hbl,eS,htt,Int.cast_ofNat_Int]
 simp[ref,bM _ _ (aJ tag)]
theorem aGC [Gv] (clock most last:Nat) (m:AObj) (hm:eH m=true) (l:List OutV) (hl:l.length≤1000000) (i:Nat) (hi:i<l.length) (t:TokV) (ts:List (List UInt8)) (ho:isB l[i] t ts) :
  ACalls Tryz.prog GP 87 [.ptr 0 0,.val (.int .i64 (i:Int))] (SV clock most last m l) (fun r os=>os=SV clock most last m l∧r=.agg (BA t .no)):=by
 have cR:=aHe l hl i hi t ts ho
 obtain⟨o1,o2,hs,hpl,hok,hb,hlen⟩:=ho
 have hnC:=gA l
 have hlB:=fV t .no hs.2.2.2.1
 have hoB:=kG t .no
 have hnB:=iF t .no rfl
 have hBt:(BA t .no).take 37=BA t .no:=List.take_of_length_le (by omega)
 have hBd:(BA t .no).drop 37=[]:=List.drop_eq_nil_of_le (by omega)
 have hz0:=oL
 have hlz:=fV fK .full (by simp[fK])
 have hzd7:(BA fK .full).drop 37=[]:=rfl
 have hrf:=jX clock most last m hm l
 generalize BA fK .full=B0 at *
 generalize BA t .no=Bd at *
 simp only[SV,KO,SO] at *
 refine dB Tryz.func87 rfl rfl Tryz.ntmps87 (rts:=#[70]) rfl Tryz.results87 (by simp) ?_
 simp only[seval,aZ]
 refine aC fun K hK=>aA [] ?_
 simp only[seval,kZs,dF,bS,cav,aI]
 and_intros<;>try first|exact⟨⟩|omega
 refine hK _ ?_
 clear hK K
 rw[hz0]
 refine aE [0,1,4] ?_
 simp only[seval,kZq]
 refine aC fun K hK=>aA [1000013] ?_
 simp only[seval,kZs,fY,aN,Tryz.underlying106,bD,ne_eq,aY,List.contains_cons,apart,aO,Tryz.underlying50,aU,beq_self_eq_true,bF,aT,bA,bW,List.headD_cons,aH,List.getD_cons_succ]
 refine gF [3,4] false [50,3] ⟨by decide,by simp,by simp[fU,eV,ref,jH,bM _ _ hnC]⟩ rfl (by simp[aH]) (by simp only[GHd,List.map_cons,List.map_nil,List.getD_cons_zero,List.getD_cons_succ,gJ,gH,ren,rB,cY _ _ hnC];exact cR) ⟨by simp,by simp[fU,eV,ref,jH,bM _ _ hnC],by simp[eV,ref,bM _ _ hnB],fun h=>by cases h⟩ ?_
 simp only[seval,kZs,ren,gH,cY _ _ hnB,jD,gG,gJ,cY _ _ hnC,rB,σn,List.getD_cons_succ,List.headD_cons,List.tail_cons,List.drop_nil,dE,gW,dF,bS,cav,bQ,bX,bD,bB,spl,aI,hoB,hlB]
 refine hK _ ?_
 clear hK K
 refine aE [4,5,6] ?_
 simp only[seval,kZq]
 refine aC fun K hK=>aA [] ?_
 simp only[seval,kZs,aU,bF,aT,bA,aH]
 refine aV trivial xI (by simp[aH,aM]) ?_
 simp only[aK,aG,aI]
 refine hK _ ?_
 clear hK K
 refine aE [4,5] ?_
 simp only[seval,kZq]
 refine aC fun K hK=>aA [] ?_
 simp only[seval,kZs,aY,apart,aO,Tryz.underlying70,bD,hlB,hBt,bQ,bX,bB,hlz,spl,aI,hoB,hzd7]
 refine hK _ ?_
 clear hK K
 refine aE [4] ?_
 simp only[seval,kZq]
 refine aS ?_
 refine fE (by simp) hrf ?_
 simp only[seval,qq,gS,gB,fJ,fR,aY,aB,apart,aO,Tryz.underlying70,bD,hlB,hBt]
 simp[ref,eV,bM _ _ hnB]
theorem aFn [Gv] {C:List Nat→List UInt8→List Nat} (hC:COk C) (clock most:Nat) (tag:List UInt8) (ht:tag.length=32) (u:Nat) (hlive:clock<u) (l:List OutV) (hl:l.length≤1000000)
  (O:List AV) {un ticks out:Nat} {draw text:List UInt8} {pub:Bool} (hO:OpF O 7 1 un ticks out draw text pub) (hi:text.length≤200000) (hok:okT (gN C tag 1 text)=true) (hlen:(gM (gN C tag 1 text)).length≤65536) :
  ACalls Tryz.prog GP 38 [.ptr 0 0,.agg O] (SV clock most 1 (KM tag u) l) (fun r os=>os=SV clock most 1 (KM tag u) (l++[⟨gM (gN C tag 1 text),true,pub⟩])∧r=.agg (AN 0 0 0 (l.length:Int))):=by
 have cF:=aNk clock most tag ht u hlive l
 have cM:=aLM hC tag ht 1 (by omega) text hi
 rw[hok,if_pos rfl] at cM
 have hsm:=tU hC tag 1 (by omega) text hi
 have cO:=fun q=>(aLH (gN C tag 1 text) .full q hsm rfl).g (G:=GP)
 have cP:=aGD clock most 1 (KM tag u) (gY tag u) l hl (gN C tag 1 text) .no rfl hsm hok rfl hlen O hO
 have hlT:=eP (gN C tag 1 text) .full hsm.2.2.2.1
 have hoT:=gP (gN C tag 1 text) .full
 have hnT:=fQ (gN C tag 1 text) .full rfl
 have hTt:(TA (gN C tag 1 text) .full).take 36=TA (gN C tag 1 text) .full:=List.take_of_length_le (by omega)
 have hTd:(TA (gN C tag 1 text) .full).drop 36=[]:=List.drop_eq_nil_of_le (by omega)
 have hnB:=iF (gN C tag 1 text) .no rfl
 have hrf:=jX clock most 1 (KM tag u) (gY tag u)
 have hSl:∀ l,(SV clock most 1 (KM tag u) l).length=5:=fun l=>rfl
 generalize gM (gN C tag 1 text)=eB at *
 generalize TA (gN C tag 1 text) .full=T at *
 generalize BA (gN C tag 1 text) .no=Bd at *
 have hOl:=hO.len
 have hOo:=hO.ones
 have hOt:O.take 129=O:=List.take_of_length_le (by omega)
 have hk:=hO.fkind
 have hkey:=hO.fkey
 have htx:=hO.ftext
 have hOn:=hO.nor
 simp only[str] at cM
 show ACalls Tryz.prog GP 38 _ [.cells [.val (.int .u64 (clock:Int)),.ptr 1 0,.ptr 3 0],KO most 1 2,KM tag u,SO l 4,.tok 3 l.length] _
 refine dB Tryz.func38 rfl rfl Tryz.ntmps38 (rts:=#[40]) rfl Tryz.results38 (by simp) ?_
 simp only[seval,aZ]
 refine aC fun K hK=>aA [] ?_
 simp only[seval,kZs,eF,bB,hOo,fN,dF,bS,cav,aI]
 and_intros<;>try first|exact⟨⟩|omega
 refine hK _ ?_
 clear hK K
 refine iH 3 5 O rfl rfl (by omega) hOn ?_
 simp only[List.set_cons_succ,List.set_cons_zero]
 refine aE [0,3,4] ?_
 simp only[seval,kZq]
 refine aC fun K1 hK1=>?_
 refine aC fun K hK=>aA [] ?_
 simp only[seval,kZs,aN,Tryz.underlying46,bD,ne_eq,hOl,aY,apart,aO,Tryz.underlying3,cav,aL,aI,Nat.zero_lt_succ,hk,Int.cast_ofNat_Int,aP,bH,beq_self_eq_true]
 and_intros<;>try first|exact⟨⟩|omega
 refine hK _ ?_
 clear hK K
 refine bG rfl ?_
 refine aE [0,3,4] ?_
 simp only[seval,kZq]
 refine aC fun K hK=>?_
 refine dW [2000020,19,22,24] (by kernel_rfl) (by kernel_rfl) ?_
 simp only[seval,kZs,aN,Tryz.underlying46,bD,ne_eq,hOl,aY,List.contains_cons,beq_self_eq_true,Bool.false_or,apart,aO,Tryz.underlying30,aU,cav,bF,aT,bA,aH,bW,List.tail_cons,List.headD_cons,List.length_drop,fL,hkey,Int.cast_ofNat_Int]
 refine iU (objs:=SV clock most 1 (KM tag u) l) [35,3,30] (hrf l) rfl (by simp[aH]) cF rfl (hrf l) (by simp[ref,bM _ _ (aJ tag)]) ?_
 simp only[seval,kZs,uC,aN,Tryz.underlying46,bD,ne_eq,hOl,aY,List.contains_cons,beq_self_eq_true,Bool.false_or,apart,aO,Tryz.underlying30,Tryz.underlying9,aU,bF,aT,bA,aH,aJ,bW,List.tail_cons,List.headD_cons,List.length_drop,fL,htx,hkey,Int.cast_ofNat_Int]
 refine⟨rfl,?_⟩
 refine aV (by simp[aH,aM,aJ]) cM (by simp[aH,aM,hnT]) ?_
 simp only[seval,kZs,SV,aK,gW,dF,bS,cav,bQ,bX,bD,bB,spl,aI,hoT,hlT,List.drop_nil]
 refine hK _ ?_
 clear hK K
 refine aE [0,3,4,5,6] ?_
 simp only[seval,kZq]
 refine aC fun K hK=>aA [] ?_
 simp only[seval,kZs,aU,bF,aT,bA,aH]
 refine aV trivial xI (by simp[aH,aM]) ?_
 simp only[aK,aG,aI]
 refine hK _ ?_
 clear hK K
 refine aE [0,3,4,5] ?_
 simp only[seval,kZq]
 refine aC fun K hK=>?_
 refine dW [1000034,33] (by kernel_rfl) (by kernel_rfl) ?_
 simp only[seval,kZs,aY,List.contains_cons,apart,aO,Tryz.underlying67,bD,hlT,hTt,aU,cav,bF,aT,bA,bW,List.headD_cons,aM,aH]
 refine aV (by simp[aH,aM,hnT]) (cO _) (by simp[aH,aM,hnB]) ?_
 simp only[seval,kZs,aK,aY,apart,aO,Tryz.underlying46,bD,hOl,hOt,aU,List.contains_cons,beq_self_eq_true,bF,aT,bA,aH,bW,List.tail_cons,List.headD_cons]
 have hvw:∀ rest,gT Tryz.prog (SV clock most 1 (KM tag u) l++rest) (List.range (SV clock most 1 (KM tag u) l).length) [35,70,46] [.ptr 0 0,.agg Bd,.agg O]=some (True∧True∧True∧True,false,[.ptr 0 0,.agg Bd,.agg O]):=fun rest=>by
  simp only[gT,nR,bM _ _ hnB,bM _ _ hOn,cY _ _ hnB,cY _ _ hOn]
  rfl
 refine iU (objs:=SV clock most 1 (KM tag u) l) [35,70,46] (hrf l) (hvw _) ⟨trivial,trivial,trivial,trivial⟩ cP rfl (hrf _) rfl ?_
 simp only[seval,qq,SV,AN,Int.cast_ofNat_Int,dE,bQ,bX,aB,bD,bB,List.all_cons,dC,Value.oneCell',List.all_nil,spl,List.drop_nil,aG,aI]
 refine hK _ ?_
 clear hK K
 refine aE [4] ?_
 simp only[seval,kZq]
 refine aS ?_
 simp only[bL,aI]
 refine fE (by simp) (hrf _) ?_
 simp only[seval,qq,gS,gB,fJ,fR,aY,aB,apart,aO,Tryz.underlying40,bD,List.take_nil,AN,Int.cast_ofNat_Int]
 exact⟨rfl,rfl⟩
theorem aHa [Gv] {C:List Nat→List UInt8→List Nat} (hC:COk C) (clock most last:Nat) (m:AObj) (hm:eH m=true) (l:List OutV) (hl:l.length≤1000000)
  (O:List AV) {key un ticks out:Nat} {draw text:List UInt8} {pub:Bool} (hO:OpF O 8 key un ticks out draw text pub) (hi:out<l.length) (t:TokV) (ts:List (List UInt8)) (ho:isB l[out] t ts) (htx:text.length≤200000)
  (hs':small (gK C t (eO text))) (hok':okT (gK C t (eO text))=true) (hl':(gM (gK C t (eO text))).length≤65536)
  (PR:List AV) (hPl:PR.length=23) (hPo:PR.all dC=true) (hPn:aM PR=true) (hP:ACalls Tryz.prog GP 24 [str text] [] (fun r os=>os=[]∧r=.tup [.agg PR,.val (.bool true)])) :
  ACalls Tryz.prog GP 38 [.ptr 0 0,.agg O] (SV clock most last m l) (fun r os=>os=SV clock most last m (l++[⟨gM (gK C t (eO text)),true,pub⟩])∧r=.agg (AN 0 0 0 (l.length:Int))):=by
 have cB:=aGC clock most last m hm l hl out hi t ts ho
 obtain⟨o1,o2,hs,hpl,hok,hb,hlen⟩:=ho
 have cA:=aOb hC t .no hs rfl hb hok text htx hs' hok' hl' PR hPl hPo hPn hP
 have hb':(gK C t (eO text)).bound=false:=hb
 have cP:=aGD clock most last m hm l hl (gK C t (eO text)) .no rfl hs' hok' hb' hl' O hO
 have hlB:=fV t .no hs.2.2.2.1
 have hoB:=kG t .no
 have hnB:=iF t .no rfl
 have hBt:(BA t .no).take 37=BA t .no:=List.take_of_length_le (by omega)
 have hBd:(BA t .no).drop 37=[]:=List.drop_eq_nil_of_le (by omega)
 have hl7:=fV (gK C t (eO text)) .no hs'.2.2.2.1
 have ho7:=kG (gK C t (eO text)) .no
 have hn7:=iF (gK C t (eO text)) .no rfl
 have ht7:(BA (gK C t (eO text)) .no).take 37=BA (gK C t (eO text)) .no:=List.take_of_length_le (by omega)
 have hd7:(BA (gK C t (eO text)) .no).drop 37=[]:=List.drop_eq_nil_of_le (by omega)
 have hrf:=jX clock most last m hm
 generalize gM (gK C t (eO text))=eB at *
 generalize BA (gK C t (eO text)) .no=B7 at *
 generalize BA t .no=Bd at *
 have hOl:=hO.len
 have hOo:=hO.ones
 have hOt:O.take 129=O:=List.take_of_length_le (by omega)
 have hk:=hO.fkind
 have hout:=hO.fout
 have hxt:=hO.ftext
 have hOn:=hO.nor
 simp only[str] at cA
 show ACalls Tryz.prog GP 38 _ [.cells [.val (.int .u64 (clock:Int)),.ptr 1 0,.ptr 3 0],KO most last 2,m,SO l 4,.tok 3 l.length] _
 refine dB Tryz.func38 rfl rfl Tryz.ntmps38 (rts:=#[40]) rfl Tryz.results38 (by simp) ?_
 simp only[seval,aZ]
 refine aC fun K hK=>aA [] ?_
 simp only[seval,kZs,eF,bB,hOo,fN,dF,bS,cav,aI]
 and_intros<;>try first|exact⟨⟩|omega
 refine hK _ ?_
 clear hK K
 refine iH 3 5 O rfl rfl (by omega) hOn ?_
 simp only[List.set_cons_succ,List.set_cons_zero]
 refine aE [0,3,4] ?_
 simp only[seval,kZq]
 refine aC fun K1 hK1=>?_
 refine aC fun K hK=>aA [] ?_
 simp only[seval,kZs,aN,Tryz.underlying46,bD,ne_eq,hOl,aY,apart,aO,Tryz.underlying3,cav,aL,aI,Nat.zero_lt_succ,hk,Int.cast_ofNat_Int,aP,bH]
 and_intros<;>try first|exact⟨⟩|omega
 refine hK _ ?_
 clear hK K
 refine aR rfl (bC (hK1 _ ?_))
 clear hK1 K1
 refine aE [0,3,4] ?_
 simp only[seval,kZq]
 refine aC fun K hK=>aA [1000038,37] ?_
 simp only[seval,kZs,aN,Tryz.underlying46,bD,ne_eq,hOl,aY,List.contains_cons,beq_self_eq_true,Bool.false_or,apart,aO,Tryz.underlying3,aU,bF,aT,bA,bW,List.tail_cons,List.headD_cons,List.length_drop,fL,hout]
 refine iU (objs:=SV clock most last m l) [35,3] (hrf l) rfl (by simp[aH]) cB rfl (hrf l) (by simp[ref,bM _ _ hnB]) ?_
 simp only[seval,kZs,SV,dE,dF,bS,cav,bQ,bX,bD,bB,hoB,hlB,spl,aI,List.drop_nil]
 refine hK _ ?_
 clear hK K
 refine aE [0,3,4,7] ?_
 simp only[seval,kZq]
 refine aC fun K1 hK1=>?_
 refine aC fun K hK=>aA [] ?_
 simp only[seval,kZs,aN,Tryz.underlying46,bD,ne_eq,hOl,aY,apart,aO,Tryz.underlying3,cav,aL,aI,Nat.zero_lt_succ,hk,Int.cast_ofNat_Int,aP,bH,beq_self_eq_true]
 and_intros<;>try first|exact⟨⟩|omega
 refine hK _ ?_
 clear hK K
 refine bG rfl ?_
 refine aE [0,3,4,7] ?_
 simp only[seval,kZq]
 refine aC fun K hK=>aA [45] ?_
 simp only[seval,kZs,aY,List.contains_cons,apart,aO,Tryz.underlying70,bD,hlB,hBt,aN,Tryz.underlying46,ne_eq,hOl,beq_self_eq_true,Tryz.underlying9,aU,bF,aT,bA,bW,List.headD_cons,List.tail_cons,List.length_drop,fL,hxt,aH]
 refine aV (by simp[aH,aM,hnB]) cA (by simp[aH,aM,hn7]) ?_
 simp only[seval,kZs,aK,gW,dF,bS,cav,bQ,bX,bD,bB,spl,aI,ho7,hl7,List.drop_nil]
 refine hK _ ?_
 clear hK K
 refine aE [0,3,4,8,9] ?_
 simp only[seval,kZq]
 refine aC fun K hK=>aA [] ?_
 simp only[seval,kZs,aU,bF,aT,bA,aH]
 refine aV trivial xI (by simp[aH,aM]) ?_
 simp only[aK,aG,aI]
 refine hK _ ?_
 clear hK K
 refine aE [0,3,4,8] ?_
 simp only[seval,kZq]
 refine aC fun K hK=>aA [1000054,53] ?_
 simp only[seval,kZs,aY,List.contains_cons,apart,aO,Tryz.underlying70,bD,hl7,ht7,Tryz.underlying46,hOl,hOt,aU,beq_self_eq_true,bF,aT,bA,bW,List.tail_cons,List.headD_cons]
 have hvw:∀ rest,gT Tryz.prog (SV clock most last m l++rest) (List.range (SV clock most last m l).length) [35,70,46] [.ptr 0 0,.agg B7,.agg O]=some (True∧True∧True∧True,false,[.ptr 0 0,.agg B7,.agg O]):=fun rest=>by
  simp only[gT,nR,bM _ _ hn7,bM _ _ hOn,cY _ _ hn7,cY _ _ hOn]
  rfl
 refine iU (objs:=SV clock most last m l) [35,70,46] (hrf l) (hvw _) ⟨trivial,trivial,trivial,trivial⟩ cP rfl (hrf _) rfl ?_
 simp only[seval,qq,SV,AN,Int.cast_ofNat_Int,dE,bQ,bX,aB,bD,bB,List.all_cons,dC,Value.oneCell',List.all_nil,spl,List.drop_nil,aG,aI]
 refine hK _ ?_
 clear hK K
 refine aE [4] ?_
 simp only[seval,kZq]
 refine aS ?_
 simp only[bL,aI]
 refine fE (by simp) (hrf _) ?_
 simp only[seval,qq,gS,gB,fJ,fR,aY,aB,apart,aO,Tryz.underlying40,bD,List.take_nil,AN,Int.cast_ofNat_Int]
 exact⟨rfl,rfl⟩
theorem aEP [Gv] (clock most:Nat) (hm:0<most) (l:List OutV) (O:List AV) {key un ticks out:Nat} {draw text:List UInt8} {pub:Bool} (hO:OpF O 2 key un ticks out draw text pub) :
  ACalls Tryz.prog GP 41 [.ptr 0 0,.agg O,.agg (AN 0 0 0 (-1))] (SV clock most 0 (.map []) l) (fun r os=>os=SV clock most 1 (KM draw un) l∧r=.agg (AN 0 0 1 (-1))):=by
 have cM:=aLs most hm draw hO.ldraw un
 have hnl:=gA l
 have hnY:=oJ draw un
 have hrf:=jX clock most 1 (KM draw un) (gY draw un) l
 have hOl:=hO.len
 have hOo:=hO.ones
 have hk:=hO.fkind
 have hun:=hO.funtil
 have hdr:=hO.fdraw
 have hdl:=hO.ldraw
 have hdt:draw.take 32=draw:=List.take_of_length_le (by omega)
 have hOn:=hO.nor
 show ACalls Tryz.prog GP 41 _ [.cells [.val (.int .u64 (clock:Int)),.ptr 1 0,.ptr 3 0],KO most 0 2,.map [],SO l 4,.tok 3 l.length] _
 simp only[KO,KM] at *
 refine dB Tryz.func41 rfl rfl Tryz.ntmps41 (rts:=#[40]) rfl Tryz.results41 (by simp) ?_
 simp only[seval,aZ]
 refine aC fun K hK=>aA [] ?_
 simp only[seval,kZs,AN,Int.cast_ofNat_Int,eF,bB,hOo,fN,List.all_cons,dC,Value.oneCell',List.all_nil,dF,bS,cav,aI]
 and_intros<;>try first|exact⟨⟩|omega
 refine hK _ ?_
 clear hK K
 refine iH 4 5 O rfl rfl (by omega) hOn ?_
 simp only[List.set_cons_succ,List.set_cons_zero]
 refine aE [0,4,5,6] ?_
 simp only[seval,kZq]
 refine aC fun K hK=>aA [] ?_
 simp only[seval,kZs,Int.cast_ofNat_Int,cav,aI]
 and_intros<;>try first|exact⟨⟩|omega
 refine hK _ ?_
 clear hK K
 refine aE [0,4,5,6,7] ?_
 simp only[seval,kZq]
 refine aC fun K1 hK1=>?_
 refine bJ ?_
 refine aA [] ?_
 simp only[seval,kZs,Int.cast_ofNat_Int,aN,Tryz.underlying46,bD,ne_eq,hOl,aY,apart,aO,Tryz.underlying3,aI,hk]
 refine bK ?_
 refine bJ ?_
 refine aA [] ?_
 simp only[seval,kZs,cav,aL,aP,bH,aI]
 refine aR rfl ?_
 refine bJ ?_
 refine aA [] ?_
 simp only[seval,kZs,cav,aL,aP,bH,beq_self_eq_true,aI]
 refine bG rfl ?_
 refine aE [0,4,5,6,7] ?_
 simp only[seval,kZq]
 refine dW [1000044,41,43] (by kernel_rfl) (by kernel_rfl) ?_
 simp only[seval,kZs,fY,aN,Tryz.underlying106,bD,ne_eq,aY,List.contains_cons,apart,aO,Tryz.underlying103,Tryz.underlying46,hOl,dN,cav,Tryz.underlying42,Int.le_refl,Int.toNat_zero,Nat.zero_mul,beq_self_eq_true,Bool.false_or,Tryz.underlying23,Tryz.underlying30,aU,bF,aT,bA,bW,List.headD_cons,aH,List.tail_cons,List.length_drop,fL,hun,Int.cast_ofNat_Int,hdr,List.getD_cons_succ]
 refine gF [1,2] false [103,3,23,30] ⟨by decide,by simp,by simp[fU,eV,ref,jH]⟩ (C:=True∧True∧True∧True∧True) (as':=[.ptr 0 0,.val (.int .i64 1),.agg (Bs draw),.val (.int .u64 (un:Int))]) (by simp[gT,nR,aH,bM _ _ (aJ draw),cY _ _ (aJ draw)]) ⟨trivial,trivial,trivial,trivial,trivial⟩ (by simp only[GHd,List.map_cons,List.map_nil,List.getD_cons_zero,List.getD_cons_succ,gJ,gH,ren,rB];exact cM) ⟨by simp,by simp[fU,eV,ref,jH,bM _ _ hnY],by simp[eV,ref],fun h=>by cases h⟩ ?_
 simp only[seval,kZs,ren,gH,jD,gG,Int.cast_ofNat_Int,gJ,σn,List.getD_cons_succ,cY _ _ hnY,List.headD_cons,List.tail_cons,List.drop_nil,dE,gW,aN,Tryz.underlying40,bD,ne_eq,bQ,bX,bB,spl,List.all_cons,dC,Value.oneCell',List.all_nil]
 simp only[bL,aI]
 refine hK1 _ ?_
 clear hK1 K1
 refine aE [0,5,6,7] ?_
 simp only[seval,kZq]
 refine aC fun K hK=>aA [] ?_
 simp only[seval,kZs,Int.cast_ofNat_Int,aU,bF,aT,bA,aH]
 refine aV trivial xI (by simp[aH,aM]) ?_
 simp only[aK,aG,aI]
 refine hK _ ?_
 clear hK K
 refine aE [5,6] ?_
 simp only[seval,kZq]
 refine aC fun K hK=>aA [] ?_
 simp only[seval,kZs,Int.cast_ofNat_Int,aY,apart,aO,Tryz.underlying40,bD,List.take_nil,bQ,bX,bB,spl,aI,List.all_cons,dC,Value.oneCell',List.all_nil,List.drop_nil]
 refine hK _ ?_
 clear hK K
 refine aE [6] ?_
 simp only[seval,kZq]
 refine aS ?_
 refine fE (by simp) hrf ?_
 simp only[seval,qq,gS,gB,fJ,fR,aY,aB,apart,aO,Tryz.underlying40,bD,List.take_nil,Int.cast_ofNat_Int,AN]
 exact⟨rfl,rfl⟩
theorem aLr [Gv] {C:List Nat→List UInt8→List Nat} (hC:COk C) (clock most:Nat) (tag:List UInt8) (ht:tag.length=32) (u:Nat) (l:List OutV) (t:TokV) (ts:List (List UInt8)) (hs:small t) (hpl:wC t ts) (hb:t.bound=false) (hok:okT t=true) (hlen:(gM t).length≤65536)
  (hkey:t.key=1) (htag:aAM C tag t) (RQ:List AV) (hRl:RQ.length=20) (hRo:RQ.all dC=true) (hRn:aM RQ=true) (g:List UInt8→Bool)
  (hG:∀ s∈ts,ACalls Tryz.prog GP 75 [str s,.agg RQ,.val (.int .u64 (clock:Int))] [] (fun r os=>os=[]∧r=.val (.bool (g s)))) :
  ACalls Tryz.prog GP 14 [.ptr 0 0,.sl (gM t).length (Bs (gM t)) .no,.agg RQ] (SV clock most 1 (KM tag u) l) (fun r os=>os=SV clock most 1 (KM tag u) l∧r=.val (.int .i64 (if clock<u then if ts.all g then 0 else 7 else 4))):=by
 have cD:=(aAx t ts hs hpl hok hb hlen).g (G:=GP)
 have cF:=aFW most tag ht u clock
 have cV:=aKJ hC tag ht t ts .no rfl hs hpl hb hok htag RQ hRl hRo hRn clock g hG
 have hrf:=jX clock most 1 (KM tag u) (gY tag u) l
 have hnY:=oJ tag u
 have hlB:=fV t .no hs.2.2.2.1
 have hoB:=kG t .no
 have hnB:=iF t .no rfl
 have g0:=aOu t .no
 rw[hkey] at g0
 have hBt:(BA t .no).take 37=BA t .no:=List.take_of_length_le (by omega)
 have hBd:(BA t .no).drop 37=[]:=List.drop_eq_nil_of_le (by omega)
 have hz0:=oL
 have hlz:=fV fK .full (by simp[fK])
 have hzd7:(BA fK .full).drop 37=[]:=rfl
 have hRt:RQ.take 20=RQ:=List.take_of_length_le (by omega)
 have hz:(Z 32).drop 32=[]:=List.drop_eq_nil_of_le (by rw[eZ];exact Nat.le_refl _)
 generalize BA fK .full=B0 at *
 generalize BA t .no=Bd at *
 generalize gM t=eB at *
 generalize (if ts.all g=true then 0 else 7:Int)=ans at *
 obtain⟨kt,kr,hkt,hkr,cF'⟩:∃ (kt:List UInt8) (kr:Int),kt.length=32∧(clock<u→kt=tag∧kr=0)∧(¬ clock<u→kr=4)∧ACalls Tryz.prog GP 44 [.ptr 0 0,.val (.int .i64 1),.val (.int .u64 1),.val (.int .u64 (clock:Int))] [KO most 1 1,KM tag u] (fun r os=>os=[KO most 1 1,KM tag u]∧r=.tup [.agg (Bs kt),.val (.int .i64 kr)]):=by
  by_cases h:clock<u
  ·rw[if_pos h] at cF;exact⟨tag,0,ht,fun _=>⟨rfl,rfl⟩,fun h'=>absurd h h',cF⟩
  ·rw[if_neg h] at cF;exact⟨Z 32,4,eZ 32,fun h'=>absurd h' h,fun _=>rfl,cF⟩
 obtain⟨hkr4,cF'⟩:=cF'
 clear cF
 have hbl:(Bs kt).length=32:=by rw[aX];omega
 have htt:kt.take 32=kt:=List.take_of_length_le (by omega)
 have hbo:(Bs kt).all dC=true:=by
  rw[List.all_eq_true]
  intro x hx
  obtain⟨z,_,rfl⟩:=List.mem_map.1 hx
  rfl
 show ACalls Tryz.prog GP 14 _ [.cells [.val (.int .u64 (clock:Int)),.ptr 1 0,.ptr 3 0],KO most 1 2,KM tag u,SO l 4,.tok 3 l.length] _
 simp only[KO,KM] at *
 refine dB Tryz.func14 rfl rfl Tryz.ntmps14 (rts:=#[38]) rfl Tryz.results14 (by simp) ?_
 simp only[seval,aZ]
 refine aC fun K hK=>aA [] ?_
 simp only[seval,kZs,Int.cast_ofNat_Int,eF,bB,hRo,fN,cav,aI]
 and_intros<;>try first|exact⟨⟩|omega
 refine hK _ ?_
 clear hK K
 refine aE [0,1,5] ?_
 simp only[seval,kZq]
 refine aC fun K hK=>aA [] ?_
 simp only[seval,kZs,Int.cast_ofNat_Int,aU,bF,aT,bA,aJ,bW]
 refine aV (by simp[aJ]) cD (by simp[aH,aM,hnB]) ?_
 simp only[seval,kZs,aK,gW,dF,bS,cav,bQ,bX,bD,bB,spl,aI,hoB,hlB,List.drop_nil]
 refine hK _ ?_
 clear hK K
 refine aE [0,5,7,8] ?_
 simp only[seval,kZq]
 refine aC fun K1 hK1=>?_
 refine aC fun K hK=>aA [] ?_
 simp only[seval,kZs,Int.cast_ofNat_Int,aI]
 and_intros<;>try first|exact⟨⟩|omega
 refine hK _ ?_
 clear hK K
 refine bK ?_
 refine bJ ?_
 refine aA [] ?_
 simp only[seval,kZs,Int.cast_ofNat_Int,cav,aL,aP,bH,beq_self_eq_true,aI]
 refine bG rfl ?_
 refine bC ?_
 simp only[bL,aI]
 refine hK1 _ ?_
 clear hK1 K1
 refine aE [0,5,7] ?_
 simp only[seval,kZq]
 refine aC fun K hK=>?_
 refine dW [2000033] (by kernel_rfl) (by kernel_rfl) ?_
 simp only[seval,kZs,Int.cast_ofNat_Int,fY,aN,Tryz.underlying106,bD,ne_eq,aY,List.contains_cons,apart,aO,Tryz.underlying103,Tryz.underlying70,Tryz.underlying67,Tryz.underlying30,aU,cav,bF,beq_self_eq_true,aT,bA,bW,List.headD_cons,aH,List.tail_cons,hlB,g0,List.getD_cons_succ]
 refine gF [1,2] false [103,3,30,30] ⟨by decide,by simp,by simp[fU,eV,ref,jH,bM _ _ hnY]⟩ rfl (by simp[aH]) (by simp only[GHd,List.map_cons,List.map_nil,List.getD_cons_zero,List.getD_cons_succ,gJ,gH,ren,rB,cY _ _ hnY];exact cF') ⟨by simp,by simp[fU,eV,ref,jH,bM _ _ hnY],by simp[eV,ref,bM _ _ (aJ kt)],fun h=>by cases h⟩ ?_
 simp only[seval,kZs,ren,gH,cY _ _ (aJ kt),jD,gG,Int.cast_ofNat_Int,gJ,σn,List.getD_cons_succ,cY _ _ hnY,List.headD_cons,List.tail_cons,List.drop_nil,uC,gW,dF,bS,jK,bQ,bX,bD,bB,spl,aI,aX,eZ,eA,hbo,hbl,hz,gV]
 refine hK _ ?_
 clear hK K
 refine aE [0,5,7,9,10] ?_
 simp only[seval,kZq]
 refine aC fun K1 hK1=>?_
 refine aC fun K hK=>aA [] ?_
 simp only[seval,kZs,Int.cast_ofNat_Int,cav,aL,aP,bH,aI]
 and_intros<;>try first|exact⟨⟩|omega
 refine hK _ ?_
 clear hK K
 by_cases hlive:clock<u
 ·obtain⟨rfl,rfl⟩:=hkr hlive
  refine aR rfl (bC (hK1 _ ?_))
  clear hK1 K1
  refine aE [0,5,7,9] ?_
  simp only[seval,kZq]
  refine aC fun K hK=>?_
  refine dW [] (by kernel_rfl) (by kernel_rfl) ?_
  simp only[seval,kZs,Int.cast_ofNat_Int,aY,apart,aO,Tryz.underlying23,bD,hbl,eS,htt,Tryz.underlying70,hlB,hBt,Tryz.underlying29,hRl,hRt,fY,aN,Tryz.underlying106,ne_eq,Tryz.underlying30,aU,bF,aT,bA,bW,List.headD_cons,List.tail_cons,aH,aJ]
  refine aV (by simp[aM,aH,aJ,hnB,hRn]) cV rfl ?_
  simp only[seval,kZs,aK,aI]
  refine hK _ ?_
  clear hK K
  refine aE [6] ?_
  simp only[seval,kZq]
  refine aS ?_
  refine fE (by simp) hrf ?_
  simp only[seval,qq,gS,gB,fJ,fR,aB,Int.cast_ofNat_Int]
  refine⟨rfl,rfl,?_⟩
  rw[if_pos hlive]
 ·have h4:=hkr4 hlive
  subst h4
  refine bG rfl ?_
  refine aE [10] ?_
  simp only[seval,kZq]
  refine aC fun K hK=>aA [] ?_
  simp only[seval,kZs,Int.cast_ofNat_Int,aI]
  refine hK _ ?_
  clear hK K
  refine aE [6] ?_
  simp only[seval,kZq]
  refine aS ?_
  simp only[bL,aI]
  refine fE (by simp) hrf ?_
  simp only[seval,qq,gS,gB,fJ,fR,aB,Int.cast_ofNat_Int]
  refine⟨rfl,rfl,?_⟩
  rw[if_neg hlive]
theorem aOq {w:World} (d:TypeId) (v:Value):Sem.run Tryz.prog (binOp .neq 20 .nilIface .nilIface) w=.ok (.bool false) w∧Sem.run Tryz.prog (binOp .neq 20 (.iface d v) .nilIface) w=.ok (.bool true) w:=by
 have h:=nO (P:=Tryz.prog) (w:=w) (t:=20) Tryz.underlying20 d v
 constructor
 ·simp[binOp,h.2]
 ·simp[binOp,h.1]
theorem aLj:aOy Tryz.prog 37:=by
 refine⟨⟨_,Tryz.func37,rfl,rfl⟩,fun cap w _=>?_⟩
 refine callsD_of_wpS Tryz.func37 rfl fun c₀ cs hm=>?_
 have hrec:recoverD (c₀::cs)=none:=by simp[recoverD,hm]
 have hn:Tryz.f37.ntmps=20:=Tryz.ntmps37
 rw[hn]
 have hc:({ c₀ with mode:=.returning }:Frame)=c₀:=by rw[← hm]
 refine wpS_seq (wpS_region ?_)
 simp[wpOpsS,Region.wanted,execOp,resolve,Deferred.ofValue,invoke,builtin,hrec,Act.put,Act.eval,List.range,List.range.loop,Oper.upon,Exit.thenS]
 refine wpS_seq (wpS_region ?_)
 simp[wpOpsS,Region.wanted,execOp,Act.put,Act.eval,List.range,List.range.loop,Oper.upon,Exit.thenS,(aOq 0 .nilIface).1]
 refine wpS_cond (t:=false) (by simp[Act.eval]) ?_
 refine wpS_of_wp (wp_skip ?_)
 refine⟨rfl,.returning,by rw[hc],.tuple #[],?_,⟨_,rfl⟩,rfl,rfl⟩
 simp[jY,sQ]
theorem _root_.Go.V.ACalls.defer [Gv] {P:Program} {G:Gl} {f:FuncId} {args:List AV} {outs:List AObj} {Q:AV→List AObj→Prop} (h:ACalls P G f args outs Q) (ds:List Deferred):ACalls P ⟨G.tab,ds⟩ f args outs Q:=
 ⟨h.1,fun E vs h1 h2 h3=>h.2 E vs h1 h2 h3⟩
theorem wI [Gv] {P:Program} {G:Gl} {g:FuncId} {cap:AV} {ts:List TypeId} {rvs:List ResultVar} {n0:Nat} {Q:AV→List AObj→Prop} {st:St} (h:aBt P ts rvs n0 Q .ret st):aQH P G g cap ts rvs n0 Q .ret st:=h
theorem aGv [Gv] (clock most last:Nat) (m:AObj) (hm:eH m=true) (l:List OutV) (clock' last':Nat) (m':AObj) (hm':eH m'=true) (l':List OutV) (O:List AV) {kind key un ticks out:Nat} {draw text:List UInt8} {pub:Bool} (hO:OpF O kind key un ticks out draw text pub)
  (hkind:kind<7) {e r n:Nat} {no:Int} (cP:ACalls Tryz.prog GP 41 [.ptr 0 0,.agg O,.agg (AN 0 0 0 (-1))] (SV clock most last m l) (fun r' os=>os=SV clock' most last' m' l'∧r'=.agg (AN e r n no))) :
  ACalls Tryz.prog GP 11 [.ptr 0 0,.agg O] (SV clock most last m l) (fun r' os=>os=SV clock' most last' m' l'∧r'=.agg (AN e r n no)):=by
 have hrf0:=jX clock most last m hm l
 have hrf:=jX clock' most last' m' hm' l'
 have hOl:=hO.len
 have hOo:=hO.ones
 have hOt:O.take 129=O:=List.take_of_length_le (by omega)
 have hk:=hO.fkind
 have hOn:=hO.nor
 have d7:(kind == 7)=false:=beq_eq_false_iff_ne.2 (by omega)
 have d8:(kind == 8)=false:=beq_eq_false_iff_ne.2 (by omega)
 have d9:(kind == 9)=false:=beq_eq_false_iff_ne.2 (by omega)
 have d10:(kind == 10)=false:=beq_eq_false_iff_ne.2 (by omega)
 have d11:(kind == 11)=false:=beq_eq_false_iff_ne.2 (by omega)
 show ACalls Tryz.prog GP 11 _ [.cells [.val (.int .u64 (clock:Int)),.ptr 1 0,.ptr 3 0],KO most last 2,m,SO l 4,.tok 3 l.length] _
 refine jP Tryz.func11 rfl rfl Tryz.ntmps11 (rts:=#[40]) rfl Tryz.results11 (by simp) aLj rfl ?_
 simp only[seval,aZ]
 refine aA [] ?_
 simp only[seval,kZs,eF,bB,hOo,fN,dF,bS,cav]
 refine⟨6,0,rfl,fun d=>?_⟩
 refine iH 3 5 O rfl rfl (by omega) hOn ?_
 simp only[List.set_cons_succ,List.set_cons_zero]
 refine aE [0,3,4] ?_
 simp only[seval,kZq]
 refine aC fun K1 hK1=>?_
 refine bJ ?_
 refine aA [] ?_
 simp only[seval,kZs,aN,Tryz.underlying46,bD,ne_eq,hOl,aY,apart,aO,Tryz.underlying3,aI,hk]
 refine bK ?_
 refine aC fun K2 hK2=>?_
 refine bJ ?_
 refine aA [] ?_
 simp only[seval,kZs,cav,aL,aP,bH,wY,d7,aI]
 refine aR rfl ?_
 refine bJ ?_
 refine aA [] ?_
 simp only[seval,kZs,cav,aL,aP,bH,wY,d8,aI]
 refine aR rfl ?_
 refine aA [] ?_
 simp only[seval,kZs,cav,aL,aP,bH,wY,d9,aI]
 refine hK2 _ ?_
 clear hK2 K2
 refine aR rfl ?_
 refine bJ ?_
 refine aA [] ?_
 simp only[seval,kZs,cav,aL,aP,bH,wY,d10,aI]
 refine aR rfl ?_
 refine bJ ?_
 refine aA [] ?_
 simp only[seval,kZs,cav,aL,aP,bH,wY,d11,aI]
 refine aR rfl (bC ?_)
 simp only[bL,aI]
 refine hK1 _ ?_
 clear hK1 K1
 refine aE [0,3,4] ?_
 simp only[seval,kZq]
 refine aC fun K hK=>aA [] ?_
 simp only[seval,kZs,aN,Tryz.underlying40,bD,ne_eq,bQ,bX,bB,cav,List.all_cons,dC,Value.oneCell',List.all_nil,spl,aI,List.drop_nil]
 refine hK _ ?_
 clear hK K
 refine aE [0,3,4] ?_
 simp only[seval,kZq]
 refine aC fun K hK=>aA [1000029] ?_
 simp only[seval,kZs,aY,apart,aO,Tryz.underlying46,bD,hOl,hOt,List.contains_cons,Tryz.underlying40,List.take_nil,aU,beq_self_eq_true,bF,aT,bA,bW,List.tail_cons,List.headD_cons]
 have hvw:∀ rest,gT Tryz.prog (SV clock most last m l++rest) (List.range (SV clock most last m l).length) [35,46,40] [.ptr 0 0,.agg O,.agg (AN 0 0 0 (-1))]=some (True∧True∧True∧True,false,[.ptr 0 0,.agg O,.agg (AN 0 0 0 (-1))]):=fun rest=>by
  simp only[gT,nR,bM _ _ hOn,cY _ _ hOn]
  rfl
 refine iU (objs:=SV clock most last m l) [35,46,40] (hrf0) (hvw _) ⟨trivial,trivial,trivial,trivial⟩ (cP.defer [d]) rfl (hrf) rfl ?_
 simp only[seval,qq,SV,AN,dE,bQ,bX,aB,bD,bB,List.all_cons,dC,Value.oneCell',List.all_nil,spl,List.drop_nil,aG,aI]
 refine hK _ ?_
 clear hK K
 refine aE [4] ?_
 simp only[seval,kZq]
 refine aS ?_
 refine wI (fE (by simp) hrf ?_)
 simp only[seval,qq,gS,gB,fJ,fR,aY,aB,apart,aO,Tryz.underlying40,bD,List.take_nil,AN]
 exact⟨rfl,rfl⟩
theorem aCb [Gv] (clock most last:Nat) (m:AObj) (hm:eH m=true) (l:List OutV) (clock' last':Nat) (m':AObj) (hm':eH m'=true) (l':List OutV) (O:List AV) {kind key un ticks out:Nat} {draw text:List UInt8} {pub:Bool} (hO:OpF O kind key un ticks out draw text pub)
  (hkind:kind=7∨kind=8) {e r n:Nat} {no:Int} (cP:ACalls Tryz.prog GP 38 [.ptr 0 0,.agg O] (SV clock most last m l) (fun r' os=>os=SV clock' most last' m' l'∧r'=.agg (AN e r n no))) :
  ACalls Tryz.prog GP 11 [.ptr 0 0,.agg O] (SV clock most last m l) (fun r' os=>os=SV clock' most last' m' l'∧r'=.agg (AN e r n no)):=by
 have hrf0:=jX clock most last m hm l
 have hrf:=jX clock' most last' m' hm' l'
 have hOl:=hO.len
 have hOo:=hO.ones
 have hOt:O.take 129=O:=List.take_of_length_le (by omega)
 have hk:=hO.fkind
 have hOn:=hO.nor
 show ACalls Tryz.prog GP 11 _ [.cells [.val (.int .u64 (clock:Int)),.ptr 1 0,.ptr 3 0],KO most last 2,m,SO l 4,.tok 3 l.length] _
 refine jP Tryz.func11 rfl rfl Tryz.ntmps11 (rts:=#[40]) rfl Tryz.results11 (by simp) aLj rfl ?_
 simp only[seval,aZ]
 refine aA [] ?_
 simp only[seval,kZs,eF,bB,hOo,fN,dF,bS,cav]
 refine⟨6,0,rfl,fun d=>?_⟩
 refine iH 3 5 O rfl rfl (by omega) hOn ?_
 simp only[List.set_cons_succ,List.set_cons_zero]
 refine aE [0,3,4] ?_
 simp only[seval,kZq]
 refine aC fun K1 hK1=>?_
 refine bJ ?_
 refine aA [] ?_
 simp only[seval,kZs,aN,Tryz.underlying46,bD,ne_eq,hOl,aY,apart,aO,Tryz.underlying3,aI,hk]
 refine bK ?_
 refine aC fun K2 hK2=>?_
 refine bJ ?_
 refine aA [] ?_
 simp only[seval,kZs,cav,aL,aP,bH,wY,aI]
 have goon:∀ s,lk s.slots 8=.val (.bool true)→aAD [0,3,4] s.slots=[(0,.ptr 0 0),(3,.cptr O),(4,.ptr 6 0)]→s.nt=30→s.objs=[.cells [.val (.int .u64 (clock:Int)),.ptr 1 0,.ptr 3 0],KO most last 2,m,SO l 4,.tok 3 l.length,.dead,.cells [.val (.int .i64 0),.val (.int .i64 0),.val (.int .u64 0),.val (.int .i64 0)]]→K2 s:=by
  rintro⟨nt,sl,os⟩ h8 hkp hnt hos
  simp only at h8 hkp hnt hos
  subst hnt hos
  refine hK2 _ ?_
  refine bG h8 ?_
  refine aE [0,3,4] ?_
  rw[hkp]
  refine aC fun K hK=>aA [1000014] ?_
  simp only[seval,kZs,aY,apart,aO,Tryz.underlying46,bD,hOl,hOt,aU,List.contains_cons,beq_self_eq_true,bF,aT,bA,bW,List.tail_cons,List.headD_cons]
  have hvw:∀ rest,gT Tryz.prog (SV clock most last m l++rest) (List.range (SV clock most last m l).length) [35,46] [.ptr 0 0,.agg O]=some (True∧True∧True,false,[.ptr 0 0,.agg O]):=fun rest=>by
   simp only[gT,nR,bM _ _ hOn,cY _ _ hOn]
   rfl
  refine iU (objs:=SV clock most last m l) [35,46] (hrf0) (hvw _) ⟨trivial,trivial,trivial⟩ (cP.defer [d]) rfl (hrf) rfl ?_
  simp only[seval,qq,SV,AN,dE,bQ,bX,aB,bD,bB,List.all_cons,dC,Value.oneCell',List.all_nil,spl,List.drop_nil,aG,aI]
  refine hK _ ?_
  clear hK K
  refine aE [4] ?_
  simp only[seval,kZq]
  refine aS ?_
  simp only[bL,aI]
  refine wI (fE (by simp) hrf ?_)
  simp only[seval,qq,gS,gB,fJ,fR,aY,aB,apart,aO,Tryz.underlying40,bD,List.take_nil,AN]
  exact⟨rfl,rfl⟩
 clear hK2
 rcases hkind with rfl|rfl
 ·refine bG rfl (bC ?_)
  exact goon _ rfl rfl rfl rfl
 ·refine aR rfl ?_
  refine bJ ?_
  refine aA [] ?_
  simp only[seval,kZs,Int.cast_ofNat_Int,cav,aL,aP,bH,beq_self_eq_true,aI]
  refine bG rfl (bC ?_)
  exact goon _ rfl rfl rfl rfl
end Go.Proofs.YtefdnmeopbkflaaGreatDoor
namespace Go.Proofs
open Go.Shelf
open Go.RowKit in
open Go.RowKit in
open Go.RowKit in
open Go.RowKit in
open Go.RowKit in
def Tryz.lays156_ren:Go.Shelf.Ren:=⟨fun|156=>173|165=>222|166=>223|169=>224|240=>264|241=>265|276=>285|277=>286|n=>n,fun|31=>43|9=>9|3=>3|4=>4|0=>0|20=>20|72=>299|76=>215|70=>297|37=>54|75=>206|127=>334|164=>352|5=>5|80=>301|n=>n,fun|n=>n⟩
theorem Tryz.lays156:Go.Proofs.Lays.n156 Tryz.prog Tryz.lays156_ren:={
 mixed:=by kernel_rfl
 f156:=Tryz.func173.trans (congrArg some (by kernel_rfl))
 f165:=Tryz.func222.trans (congrArg some (by kernel_rfl))
 f166:=Tryz.func223.trans (congrArg some (by kernel_rfl))
 f169:=Tryz.func224.trans (congrArg some (by kernel_rfl))
 f240:=Tryz.func264.trans (congrArg some (by kernel_rfl))
 f241:=Tryz.func265.trans (congrArg some (by kernel_rfl))
 f276:=Tryz.func285.trans (congrArg some (by kernel_rfl))
 f277:=Tryz.func286.trans (congrArg some (by kernel_rfl))
 t0:=Tryz.underlying0
 a0:=Tryz.isAgg0
 z0:=Tryz.sizeOf0
 v0:=Tryz.zeroValue0
 t3:=Tryz.underlying3
 a3:=Tryz.isAgg3
 z3:=Tryz.sizeOf3
 v3:=Tryz.zeroValue3
 t4:=Tryz.underlying4
 a4:=Tryz.isAgg4
 z4:=Tryz.sizeOf4
 v4:=Tryz.zeroValue4
 t9:=Tryz.underlying9
 a9:=Tryz.isAgg9
 z9:=Tryz.sizeOf9
 v9:=Tryz.zeroValue9
 t20:=Tryz.underlying20
 a20:=Tryz.isAgg20
 z20:=Tryz.sizeOf20
 v20:=Tryz.zeroValue20
 t31:=Tryz.underlying43
 a31:=Tryz.isAgg43
 z31:=Tryz.sizeOf43
 v31:=Tryz.zeroValue43
 t37:=Tryz.underlying54
 a37:=Tryz.isAgg54
 z37:=Tryz.sizeOf54
 v37:=Tryz.zeroValue54
 t70:=Tryz.underlying297
 a70:=Tryz.isAgg297
 z70:=Tryz.sizeOf297
 v70:=Tryz.zeroValue297
 t72:=Tryz.underlying299
 a72:=Tryz.isAgg299
 z72:=Tryz.sizeOf299
 v72:=Tryz.zeroValue299
 t75:=Tryz.underlying206
 a75:=Tryz.isAgg206
 z75:=Tryz.sizeOf206
 v75:=Tryz.zeroValue206
 t76:=Tryz.underlying215
 a76:=Tryz.isAgg215
 z76:=Tryz.sizeOf215
 v76:=Tryz.zeroValue215
 t127:=Tryz.underlying334
 a127:=Tryz.isAgg334
 z127:=Tryz.sizeOf334
 v127:=Tryz.zeroValue334
 t164:=Tryz.underlying352
 a164:=Tryz.isAgg352
 z164:=Tryz.sizeOf352
 v164:=Tryz.zeroValue352 }
theorem Tryz.Builder_Extra_156:Builder.Extra Tryz.prog Tryz.lays156_ren:={
 sizeBuilder:=by kernel_rfl
 liesBuilder:=by kernel_rfl
 t5:=Tryz.underlying5
 a5:=Tryz.isAgg5
 z5:=Tryz.sizeOf5
 v5:=Tryz.zeroValue5
 infoByte:=by kernel_rfl
 cellsByte:=by kernel_rfl
 sizeByte:=by kernel_rfl
 neB5:=by decide }
open Go.RowKit in
theorem Tryz.strings_Join_none (a:Option Addr) (c:Nat) (sep:ByteArray) (w:World) :
  Calls Tryz.prog 173 #[.slice a 0 c,.string sep] w fun e w'=>e=.returned (.string ⟨#[]⟩)∧w'=w:=Any.strings_Join_none Tryz.lays156 Tryz.Builder_Extra_156 a c sep w
open Go.RowKit in
theorem Tryz.strings_Join (bk o c:Nat) (xs:List ByteArray) (sep:ByteArray) (w:World) (hcells:∀ (j:Nat) x,xs[j]? = some x→w.cell? ⟨bk,o+j,none⟩=some (.string x)) (hbk:bk<w.heap.size) (hN:xs.length≤140737488355328) (hcap:xs.length≤c) (hlen:(Lib.join (xs.map (·.data.toList)) sep.data.toList).length≤140737488355328) :
  Calls Tryz.prog 173 #[.slice (some ⟨bk,o,none⟩) xs.length c,.string sep] w fun e w'=>e=.returned (.string ⟨(Lib.join (xs.map (·.data.toList)) sep.data.toList).toArray⟩)∧Below w.heap.size w w':=Any.strings_Join Tryz.lays156 Tryz.Builder_Extra_156 bk o c xs sep w hcells hbk hN hcap hlen
def Tryz.lays119_ren:Go.Shelf.Ren:=⟨fun|119=>296|n=>n,fun|21=>21|4=>4|n=>n,fun|n=>n⟩
theorem Tryz.lays119:Go.Proofs.Lays.n119 Tryz.prog Tryz.lays119_ren:={
 mixed:=by kernel_rfl
 f119:=Tryz.func296.trans (congrArg some (by kernel_rfl))
 t4:=Tryz.underlying4
 a4:=Tryz.isAgg4
 z4:=Tryz.sizeOf4
 v4:=Tryz.zeroValue4
 t21:=Tryz.underlying21
 a21:=Tryz.isAgg21
 z21:=Tryz.sizeOf21
 v21:=Tryz.zeroValue21 }
theorem Tryz.utf8_ValidRune (r:Int) (w:World) :
  Calls Tryz.prog 296 #[.int .i32 r] w fun e w'=>e=.returned (.bool (Lib.validRune r))∧w'=w:=Any.utf8_ValidRune Tryz.lays119 r w
def Tryz.lays137_ren:Go.Shelf.Ren:=⟨fun|137=>295|217=>276|266=>289|n=>n,fun|9=>9|5=>5|3=>3|n=>n,fun|n=>n⟩
theorem Tryz.lays137:Go.Proofs.Lays.n137 Tryz.prog Tryz.lays137_ren:={
 mixed:=by kernel_rfl
 f137:=Tryz.func295.trans (congrArg some (by kernel_rfl))
 f217:=Tryz.func276.trans (congrArg some (by kernel_rfl))
 f266:=Tryz.func289.trans (congrArg some (by kernel_rfl))
 t3:=Tryz.underlying3
 a3:=Tryz.isAgg3
 z3:=Tryz.sizeOf3
 v3:=Tryz.zeroValue3
 t5:=Tryz.underlying5
 a5:=Tryz.isAgg5
 z5:=Tryz.sizeOf5
 v5:=Tryz.zeroValue5
 t9:=Tryz.underlying9
 a9:=Tryz.isAgg9
 z9:=Tryz.sizeOf9
 v9:=Tryz.zeroValue9 }
open Go.RowKit in
theorem Tryz.strings_IndexByte (s:ByteArray) (c:Int) (w:World) :
  Calls Tryz.prog 295 #[.string s,.int .u8 c] w fun e w'=>e=.returned (.int .i64 (Lib.indexByte s.data.toList c.toNat.toUInt8))∧w'=w:=Any.strings_IndexByte Tryz.lays137 s c w
open Go.RowKit in
def Tryz.lays103_ren:Go.Shelf.Ren:=⟨fun|103=>124|210=>193|206=>247|n=>n,fun|9=>9|4=>4|24=>209|3=>3|n=>n,fun|n=>n⟩
theorem Tryz.lays103:Go.Proofs.Lays.n103 Tryz.prog Tryz.lays103_ren:={
 mixed:=by kernel_rfl
 f103:=Tryz.func124.trans (congrArg some (by kernel_rfl))
 f206:=Tryz.func247.trans (congrArg some (by kernel_rfl))
 f210:=Tryz.func193.trans (congrArg some (by kernel_rfl))
 t3:=Tryz.underlying3
 a3:=Tryz.isAgg3
 z3:=Tryz.sizeOf3
 v3:=Tryz.zeroValue3
 t4:=Tryz.underlying4
 a4:=Tryz.isAgg4
 z4:=Tryz.sizeOf4
 v4:=Tryz.zeroValue4
 t9:=Tryz.underlying9
 a9:=Tryz.isAgg9
 z9:=Tryz.sizeOf9
 v9:=Tryz.zeroValue9
 t24:=Tryz.underlying209
 a24:=Tryz.isAgg209
 z24:=Tryz.sizeOf209
 v24:=Tryz.zeroValue209 }
open Go.RowKit in
theorem Tryz.strings_CutPrefix (s p:ByteArray) (w:World) :
  Calls Tryz.prog 124 #[.string s,.string p] w fun e w'=>e=.returned (.tuple #[.string ⟨(Lib.trimPrefix s.data.toList p.data.toList).toArray⟩,.bool (Lib.hasPrefix s.data.toList p.data.toList)])∧w'=w:=Any.strings_CutPrefix Tryz.lays103 s p w
open Go.RowKit in
open Go.RowKit in
open Go.RowKit in
def Tryz.lays129_ren:Go.Shelf.Ren:=⟨fun|129=>260|n=>n,fun|53=>30|3=>3|4=>4|46=>160|5=>5|9=>9|n=>n,fun|n=>n⟩
theorem Tryz.lays129:Go.Proofs.Lays.n129 Tryz.prog Tryz.lays129_ren:={
 mixed:=by kernel_rfl
 f129:=Tryz.func260.trans (congrArg some (by kernel_rfl))
 t3:=Tryz.underlying3
 a3:=Tryz.isAgg3
 z3:=Tryz.sizeOf3
 v3:=Tryz.zeroValue3
 t4:=Tryz.underlying4
 a4:=Tryz.isAgg4
 z4:=Tryz.sizeOf4
 v4:=Tryz.zeroValue4
 t5:=Tryz.underlying5
 a5:=Tryz.isAgg5
 z5:=Tryz.sizeOf5
 v5:=Tryz.zeroValue5
 t9:=Tryz.underlying9
 a9:=Tryz.isAgg9
 z9:=Tryz.sizeOf9
 v9:=Tryz.zeroValue9
 t46:=Tryz.underlying160
 a46:=Tryz.isAgg160
 z46:=Tryz.sizeOf160
 v46:=Tryz.zeroValue160
 t53:=Tryz.underlying30
 a53:=Tryz.isAgg30
 z53:=Tryz.sizeOf30
 v53:=Tryz.zeroValue30 }
theorem Tryz.bits_Len64 (x:Int) (w:World) (h0:0≤x) (h1:x≤18446744073709551615) :
  Calls Tryz.prog 260 #[.int .u64 x] w fun e w'=>e=.returned (.int .i64 (Lib.bitLen x.toNat))∧w'=w:=Any.bits_Len64 Tryz.lays129 x w h0 h1
def Tryz.lays317_ren:Go.Shelf.Ren:=⟨fun|317=>259|n=>n,fun|3=>3|46=>160|n=>n,fun|n=>n⟩
theorem Tryz.lays317:Go.Proofs.Lays.n317 Tryz.prog Tryz.lays317_ren:={
 mixed:=by kernel_rfl
 f317:=Tryz.func259.trans (congrArg some (by kernel_rfl))
 t3:=Tryz.underlying3
 a3:=Tryz.isAgg3
 z3:=Tryz.sizeOf3
 v3:=Tryz.zeroValue3
 t46:=Tryz.underlying160
 a46:=Tryz.isAgg160
 z46:=Tryz.sizeOf160
 v46:=Tryz.zeroValue160 }
open Go.Lib in
theorem Tryz.internal_strconv_log10Pow2 (x:Nat) (h:x≤64) (w:World) :
  Calls Tryz.prog 259 #[.int .i64 x] w fun e w'=>e=.returned (.int .i64 (Lib.l10 x))∧w'=w:=Any.internal_strconv_log10Pow2 Tryz.lays317 x h w
def Tryz.lays318_ren:Go.Shelf.Ren:=⟨fun|318=>261|n=>n,fun|3=>3|4=>4|n=>n,fun|n=>n⟩
theorem Tryz.lays318:Go.Proofs.Lays.n318 Tryz.prog Tryz.lays318_ren:={
 mixed:=by kernel_rfl
 f318:=Tryz.func261.trans (congrArg some (by kernel_rfl))
 t3:=Tryz.underlying3
 a3:=Tryz.isAgg3
 z3:=Tryz.sizeOf3
 v3:=Tryz.zeroValue3
 t4:=Tryz.underlying4
 a4:=Tryz.isAgg4
 z4:=Tryz.sizeOf4
 v4:=Tryz.zeroValue4 }
open Go.Lib in
theorem Tryz.internal_strconv_bool2_int (b:Bool) (w:World) :
  Calls Tryz.prog 261 #[.bool b] w fun e w'=>e=.returned (.int .i64 (if b then 1 else 0))∧w'=w:=Any.internal_strconv_bool2_int Tryz.lays318 b w
def Tryz.lays283_ren:Go.Shelf.Ren:=⟨fun|283=>218|n=>n,fun|3=>3|9=>9|4=>4|n=>n,fun|n=>n⟩
theorem Tryz.lays283:Go.Proofs.Lays.n283 Tryz.prog Tryz.lays283_ren:={
 mixed:=by kernel_rfl
 f283:=Tryz.func218.trans (congrArg some (by kernel_rfl))
 t3:=Tryz.underlying3
 a3:=Tryz.isAgg3
 z3:=Tryz.sizeOf3
 v3:=Tryz.zeroValue3
 t4:=Tryz.underlying4
 a4:=Tryz.isAgg4
 z4:=Tryz.sizeOf4
 v4:=Tryz.zeroValue4
 t9:=Tryz.underlying9
 a9:=Tryz.isAgg9
 z9:=Tryz.sizeOf9
 v9:=Tryz.zeroValue9 }
open Go.Lib in
theorem Tryz.internal_strconv_small (i:Nat) (h:i<100) (w:World) :
  Calls Tryz.prog 218 #[.int .i64 i] w fun e w'=>e=.returned (.string ⟨(Lib.decDigits i).toArray⟩)∧w'=w:=Any.internal_strconv_small Tryz.lays283 i h w
def Tryz.laysM284_ren:Go.Shelf.Ren:=⟨fun|284=>219|129=>260|317=>259|318=>261|n=>n,fun|53=>30|3=>3|212=>330|0=>0|4=>4|46=>160|5=>5|9=>9|n=>n,fun|17=>1|n=>n⟩
theorem Tryz.laysM284:Go.Proofs.LaysM.n284 Tryz.prog Tryz.laysM284_ren:={
 mixed:=by kernel_rfl
 f129:=Tryz.func260.trans (congrArg some (by kernel_rfl))
 f284:=Tryz.func219.trans (congrArg some (by kernel_rfl))
 f317:=Tryz.func259.trans (congrArg some (by kernel_rfl))
 f318:=Tryz.func261.trans (congrArg some (by kernel_rfl))
 t0:=Tryz.underlying0
 a0:=Tryz.isAgg0
 z0:=Tryz.sizeOf0
 v0:=Tryz.zeroValue0
 t3:=Tryz.underlying3
 a3:=Tryz.isAgg3
 z3:=Tryz.sizeOf3
 v3:=Tryz.zeroValue3
 t4:=Tryz.underlying4
 a4:=Tryz.isAgg4
 z4:=Tryz.sizeOf4
 v4:=Tryz.zeroValue4
 t5:=Tryz.underlying5
 a5:=Tryz.isAgg5
 z5:=Tryz.sizeOf5
 v5:=Tryz.zeroValue5
 t9:=Tryz.underlying9
 a9:=Tryz.isAgg9
 z9:=Tryz.sizeOf9
 v9:=Tryz.zeroValue9
 t46:=Tryz.underlying160
 a46:=Tryz.isAgg160
 z46:=Tryz.sizeOf160
 v46:=Tryz.zeroValue160
 t53:=Tryz.underlying30
 a53:=Tryz.isAgg30
 z53:=Tryz.sizeOf30
 v53:=Tryz.zeroValue30
 t212:=Tryz.underlying330
 a212:=Tryz.isAgg330
 z212:=Tryz.sizeOf330
 v212:=Tryz.zeroValue330
 g17:=by kernel_rfl
 i0:=by kernel_rfl
 i3:=by kernel_rfl
 i4:=by kernel_rfl
 i5:=by kernel_rfl
 i9:=by kernel_rfl
 i46:=by kernel_rfl
 i53:=by kernel_rfl
 i212:=by kernel_rfl
 m17:=by kernel_rfl }
open Go.Lib in
def Tryz.lays285_ren:Go.Shelf.Ren:=⟨fun|285=>220|n=>n,fun|37=>54|53=>30|3=>3|4=>4|51=>279|9=>9|5=>5|0=>0|n=>n,fun|n=>n⟩
theorem Tryz.lays285:Go.Proofs.Lays.n285 Tryz.prog Tryz.lays285_ren:={
 mixed:=by kernel_rfl
 f285:=Tryz.func220.trans (congrArg some (by kernel_rfl))
 t0:=Tryz.underlying0
 a0:=Tryz.isAgg0
 z0:=Tryz.sizeOf0
 v0:=Tryz.zeroValue0
 t3:=Tryz.underlying3
 a3:=Tryz.isAgg3
 z3:=Tryz.sizeOf3
 v3:=Tryz.zeroValue3
 t4:=Tryz.underlying4
 a4:=Tryz.isAgg4
 z4:=Tryz.sizeOf4
 v4:=Tryz.zeroValue4
 t5:=Tryz.underlying5
 a5:=Tryz.isAgg5
 z5:=Tryz.sizeOf5
 v5:=Tryz.zeroValue5
 t9:=Tryz.underlying9
 a9:=Tryz.isAgg9
 z9:=Tryz.sizeOf9
 v9:=Tryz.zeroValue9
 t37:=Tryz.underlying54
 a37:=Tryz.isAgg54
 z37:=Tryz.sizeOf54
 v37:=Tryz.zeroValue54
 t51:=Tryz.underlying279
 a51:=Tryz.isAgg279
 z51:=Tryz.sizeOf279
 v51:=Tryz.zeroValue279
 t53:=Tryz.underlying30
 a53:=Tryz.isAgg30
 z53:=Tryz.sizeOf30
 v53:=Tryz.zeroValue30 }
open Go.RowKit Go.Sort Go.Lib in
theorem Tryz.internal_strconv_formatBase10 (blk off cap:Nat) (u:Nat) (d:Array UInt8) (w:World) (hH:Holds (fun (b:UInt8)=>Value.int .u8 (b.toNat:Int)) w blk off d) (hu:u<10^d.size) (hu64:u<18446744073709551616) (hsz:d.size<4611686018427387904) :
  Calls Tryz.prog 220 #[.slice (some ⟨blk,off,none⟩) d.size cap,.int .u64 u] w fun e w'=>
   e=.returned (.tuple #[])∧∃ (n v':Nat) (dk:Array UInt8),w'=(putRow (fun (b:UInt8)=>Value.int .u8 (b.toNat:Int)) w blk off dk).drewN n∧FmtInv d.size u 0 v' dk:=Any.internal_strconv_formatBase10 Tryz.lays285 blk off cap u d w hH hu hu64 hsz
open Go.RowKit Go.Sort Go.Lib in
open Go.RowKit Go.Sort Go.Lib in
open Go.RowKit Go.Sort Go.Lib in
open Go.RowKit Go.Sort Go.Lib in
open Go.RowKit Go.Sort Go.Lib in
open Go.RowKit Go.Sort Go.Lib in
open Go.RowKit in
open Go.RowKit in
open Go.RowKit in
open Go.RowKit in
open Go.RowKit in
open Go.RowKit in
open Go.RowKit in
open Go.RowKit in
open Go.RowKit in
open Go.RowKit in
open Go.RowKit in
open Go.RowKit in
open Go.RowKit in
open Go.RowKit in
open Go.RowKit in
open Go.RowKit in
open Go.RowKit in
open Go.RowKit in
open Go.RowKit in
open Go.RowKit in
open Go.RowKit in
open Go.RowKit in
open Go.RowKit in
open Go.RowKit in
open Go.RowKit in
open Go.RowKit in
open Go.RowKit in
open Go.RowKit in
open Go.RowKit in
open Go.RowKit in
open Go.RowKit in
open Go.RowKit in
open Go.RowKit in
open Go.RowKit in
open Go.RowKit Go.Lib in
open Go.RowKit Go.Lib in
open Go.RowKit Go.Lib in
open Go.RowKit Go.Lib in
open Go.RowKit Go.Lib in
def Tryz.lays143_ren:Go.Shelf.Ren:=⟨fun|143=>234|219=>245|217=>276|225=>277|224=>278|267=>279|266=>289|314=>290|n=>n,fun|9=>9|3=>3|4=>4|5=>5|46=>160|146=>359|51=>279|n=>n,fun|1=>5|n=>n⟩
theorem Tryz.lays143:Go.Proofs.Lays.n143 Tryz.prog Tryz.lays143_ren:={
 mixed:=by kernel_rfl
 f143:=Tryz.func234.trans (congrArg some (by kernel_rfl))
 f217:=Tryz.func276.trans (congrArg some (by kernel_rfl))
 f219:=Tryz.func245.trans (congrArg some (by kernel_rfl))
 f224:=Tryz.func278.trans (congrArg some (by kernel_rfl))
 f225:=Tryz.func277.trans (congrArg some (by kernel_rfl))
 f266:=Tryz.func289.trans (congrArg some (by kernel_rfl))
 f267:=Tryz.func279.trans (congrArg some (by kernel_rfl))
 f314:=Tryz.func290.trans (congrArg some (by kernel_rfl))
 t3:=Tryz.underlying3
 a3:=Tryz.isAgg3
 z3:=Tryz.sizeOf3
 v3:=Tryz.zeroValue3
 t4:=Tryz.underlying4
 a4:=Tryz.isAgg4
 z4:=Tryz.sizeOf4
 v4:=Tryz.zeroValue4
 t5:=Tryz.underlying5
 a5:=Tryz.isAgg5
 z5:=Tryz.sizeOf5
 v5:=Tryz.zeroValue5
 t9:=Tryz.underlying9
 a9:=Tryz.isAgg9
 z9:=Tryz.sizeOf9
 v9:=Tryz.zeroValue9
 t46:=Tryz.underlying160
 a46:=Tryz.isAgg160
 z46:=Tryz.sizeOf160
 v46:=Tryz.zeroValue160
 t51:=Tryz.underlying279
 a51:=Tryz.isAgg279
 z51:=Tryz.sizeOf279
 v51:=Tryz.zeroValue279
 t146:=Tryz.underlying359
 a146:=Tryz.isAgg359
 z146:=Tryz.sizeOf359
 v146:=Tryz.zeroValue359
 g1:=by kernel_rfl }
open Go.RowKit Go.Lib in
theorem Tryz.strings_Index_one (s:ByteArray) (c:UInt8) (w:World) :
  Calls Tryz.prog 234 #[.string s,.string ⟨#[c]⟩] w fun e w'=>e=.returned (.int .i64 (Lib.indexByte s.data.toList c))∧w'=w:=Any.strings_Index_one Tryz.lays143 s c w
open Go.RowKit Go.Lib in
open Go.RowKit Go.Lib in
open Go.RowKit Go.Lib in
open Go.RowKit Go.Lib in
open Go.RowKit Go.Lib in
open Go.RowKit Go.Lib in
open Go.RowKit Go.Lib in
def Tryz.laysGw17_ren:Go.Shelf.Ren:=⟨fun|17=>115|15=>181|20=>235|n=>n,fun|9=>9|23=>203|4=>4|3=>3|0=>0|21=>21|n=>n,fun|n=>n⟩
theorem Tryz.laysGw17:Go.Proofs.LaysGw.n17 Tryz.prog Tryz.laysGw17_ren:={
 mixed:=by kernel_rfl
 f15:=Tryz.func181.trans (congrArg some (by kernel_rfl))
 f17:=Tryz.func115.trans (congrArg some (by kernel_rfl))
 f20:=Tryz.func235.trans (congrArg some (by kernel_rfl))
 t0:=Tryz.underlying0
 a0:=Tryz.isAgg0
 z0:=Tryz.sizeOf0
 v0:=Tryz.zeroValue0
 i0:=by kernel_rfl
 t3:=Tryz.underlying3
 a3:=Tryz.isAgg3
 z3:=Tryz.sizeOf3
 v3:=Tryz.zeroValue3
 i3:=by kernel_rfl
 t4:=Tryz.underlying4
 a4:=Tryz.isAgg4
 z4:=Tryz.sizeOf4
 v4:=Tryz.zeroValue4
 i4:=by kernel_rfl
 t9:=Tryz.underlying9
 a9:=Tryz.isAgg9
 z9:=Tryz.sizeOf9
 v9:=Tryz.zeroValue9
 i9:=by kernel_rfl
 t21:=Tryz.underlying21
 a21:=Tryz.isAgg21
 z21:=Tryz.sizeOf21
 v21:=Tryz.zeroValue21
 i21:=by kernel_rfl
 t23:=Tryz.underlying203
 a23:=Tryz.isAgg203
 z23:=Tryz.sizeOf203
 v23:=Tryz.zeroValue203
 i23:=by kernel_rfl }
open Go.RowKit Go.Lib in
open Go.RowKit Go.Lib in
def Tryz.lays146_ren:Go.Shelf.Ren:=⟨fun|146=>114|221=>180|268=>232|138=>233|143=>234|195=>269|197=>270|218=>271|219=>245|260=>287|217=>276|225=>277|224=>278|267=>279|266=>289|314=>290|n=>n,fun|9=>9|31=>43|3=>3|4=>4|0=>0|105=>338|21=>21|5=>5|46=>160|119=>366|139=>369|138=>368|146=>359|51=>279|n=>n,fun|1=>5|3=>7|4=>8|n=>n⟩
theorem Tryz.lays146:Go.Proofs.Lays.n146 Tryz.prog Tryz.lays146_ren:={
 mixed:=by kernel_rfl
 f138:=Tryz.func233.trans (congrArg some (by kernel_rfl))
 f143:=Tryz.func234.trans (congrArg some (by kernel_rfl))
 f146:=Tryz.func114.trans (congrArg some (by kernel_rfl))
 f195:=Tryz.func269.trans (congrArg some (by kernel_rfl))
 f197:=Tryz.func270.trans (congrArg some (by kernel_rfl))
 f217:=Tryz.func276.trans (congrArg some (by kernel_rfl))
 f218:=Tryz.func271.trans (congrArg some (by kernel_rfl))
 f219:=Tryz.func245.trans (congrArg some (by kernel_rfl))
 f221:=Tryz.func180.trans (congrArg some (by kernel_rfl))
 f224:=Tryz.func278.trans (congrArg some (by kernel_rfl))
 f225:=Tryz.func277.trans (congrArg some (by kernel_rfl))
 f260:=Tryz.func287.trans (congrArg some (by kernel_rfl))
 f266:=Tryz.func289.trans (congrArg some (by kernel_rfl))
 f267:=Tryz.func279.trans (congrArg some (by kernel_rfl))
 f268:=Tryz.func232.trans (congrArg some (by kernel_rfl))
 f314:=Tryz.func290.trans (congrArg some (by kernel_rfl))
 t0:=Tryz.underlying0
 a0:=Tryz.isAgg0
 z0:=Tryz.sizeOf0
 v0:=Tryz.zeroValue0
 t3:=Tryz.underlying3
 a3:=Tryz.isAgg3
 z3:=Tryz.sizeOf3
 v3:=Tryz.zeroValue3
 t4:=Tryz.underlying4
 a4:=Tryz.isAgg4
 z4:=Tryz.sizeOf4
 v4:=Tryz.zeroValue4
 t5:=Tryz.underlying5
 a5:=Tryz.isAgg5
 z5:=Tryz.sizeOf5
 v5:=Tryz.zeroValue5
 t9:=Tryz.underlying9
 a9:=Tryz.isAgg9
 z9:=Tryz.sizeOf9
 v9:=Tryz.zeroValue9
 t21:=Tryz.underlying21
 a21:=Tryz.isAgg21
 z21:=Tryz.sizeOf21
 v21:=Tryz.zeroValue21
 t31:=Tryz.underlying43
 a31:=Tryz.isAgg43
 z31:=Tryz.sizeOf43
 v31:=Tryz.zeroValue43
 t46:=Tryz.underlying160
 a46:=Tryz.isAgg160
 z46:=Tryz.sizeOf160
 v46:=Tryz.zeroValue160
 t51:=Tryz.underlying279
 a51:=Tryz.isAgg279
 z51:=Tryz.sizeOf279
 v51:=Tryz.zeroValue279
 t105:=Tryz.underlying338
 a105:=Tryz.isAgg338
 z105:=Tryz.sizeOf338
 v105:=Tryz.zeroValue338
 t119:=Tryz.underlying366
 a119:=Tryz.isAgg366
 z119:=Tryz.sizeOf366
 t138:=Tryz.underlying368
 a138:=Tryz.isAgg368
 z138:=Tryz.sizeOf368
 v138:=Tryz.zeroValue368
 t139:=Tryz.underlying369
 a139:=Tryz.isAgg369
 z139:=Tryz.sizeOf369
 v139:=Tryz.zeroValue369
 t146:=Tryz.underlying359
 a146:=Tryz.isAgg359
 z146:=Tryz.sizeOf359
 v146:=Tryz.zeroValue359
 g1:=by kernel_rfl
 g3:=by kernel_rfl
 g4:=by kernel_rfl }
open Go.RowKit Go.Lib in
theorem Tryz.strings_Split (s sep:ByteArray) (m:Int) (w:World) (hs:s.size<4294967281) (hm:w.cell? ⟨5,0,none⟩=some (.int .i64 m)) (h1:1≤sep.size) :
  Calls Tryz.prog 114 #[.string s,.string sep] w fun e w'=>
   e=.returned (.slice (some ⟨w.heap.size,0,none⟩) (Lib.countB s sep+1) (Lib.countB s sep+1))∧w'=w.alloc (.cells ((Lib.splitB sep 0 (Lib.countB s sep) s).map Value.string).toArray 9):=Any.strings_Split Tryz.lays146 (by kernel_rfl) s sep m w hs hm h1
open Go.RowKit Go.Lib in
open Go.RowKit Go.Lib in
def Tryz.lays151_ren:Go.Shelf.Ren:=⟨fun|151=>275|152=>288|137=>295|119=>296|224=>278|225=>277|217=>276|266=>289|n=>n,fun|9=>9|21=>21|4=>4|3=>3|5=>5|0=>0|46=>160|n=>n,fun|n=>n⟩
theorem Tryz.lays151:Go.Proofs.Lays.n151 Tryz.prog Tryz.lays151_ren:={
 mixed:=by kernel_rfl
 f119:=Tryz.func296.trans (congrArg some (by kernel_rfl))
 f137:=Tryz.func295.trans (congrArg some (by kernel_rfl))
 f151:=Tryz.func275.trans (congrArg some (by kernel_rfl))
 f152:=Tryz.func288.trans (congrArg some (by kernel_rfl))
 f217:=Tryz.func276.trans (congrArg some (by kernel_rfl))
 f224:=Tryz.func278.trans (congrArg some (by kernel_rfl))
 f225:=Tryz.func277.trans (congrArg some (by kernel_rfl))
 f266:=Tryz.func289.trans (congrArg some (by kernel_rfl))
 t0:=Tryz.underlying0
 a0:=Tryz.isAgg0
 z0:=Tryz.sizeOf0
 v0:=Tryz.zeroValue0
 t3:=Tryz.underlying3
 a3:=Tryz.isAgg3
 z3:=Tryz.sizeOf3
 v3:=Tryz.zeroValue3
 t4:=Tryz.underlying4
 a4:=Tryz.isAgg4
 z4:=Tryz.sizeOf4
 v4:=Tryz.zeroValue4
 t5:=Tryz.underlying5
 a5:=Tryz.isAgg5
 z5:=Tryz.sizeOf5
 v5:=Tryz.zeroValue5
 t9:=Tryz.underlying9
 a9:=Tryz.isAgg9
 z9:=Tryz.sizeOf9
 v9:=Tryz.zeroValue9
 t21:=Tryz.underlying21
 a21:=Tryz.isAgg21
 z21:=Tryz.sizeOf21
 v21:=Tryz.zeroValue21
 t46:=Tryz.underlying160
 a46:=Tryz.isAgg160
 z46:=Tryz.sizeOf160
 v46:=Tryz.zeroValue160 }
open Go.RowKit Go.Lib in
theorem Tryz.strings_ContainsRune_ascii (s:ByteArray) (r:Int) (w:World) (h0:0≤r) (h1:r<128) :
  Calls Tryz.prog 275 #[.string s,.int .i32 r] w fun e w'=>e=.returned (.bool (decide (0≤Lib.indexByte s.data.toList r.toNat.toUInt8)))∧w'=w:=Any.strings_ContainsRune_ascii Tryz.lays151 s r w h0 h1
open Go.RowKit Go.Lib in
open Go.RowKit Go.Lib in
open Go.RowKit Go.Lib in
open Go.RowKit Go.Lib in
theorem Tryz.strings_ContainsFunc_grows (g:Nat) (lb:Array Value) (eg:∀ args w,(callFunc g args).run Tryz.prog w=.ok (.enter g args) w) (p:Nat→Bool) (s:ByteArray) (w:World) (hp:PredGrows Tryz.prog g lb p w) :
  Calls Tryz.prog 115 #[.string s,.func (.func g) #[] lb] w fun e w'=>e=.returned (.bool (decide (0≤Lib.idxFunc p true s)))∧Below w.heap.size w w':=Any.strings_ContainsFunc_grows Tryz.laysGw17 g lb eg p s w hp
open Go.Lib in
open Go.Lib in
def Tryz.lays110_ren:Go.Shelf.Ren:=⟨fun|110=>117|109=>182|n=>n,fun|31=>43|9=>9|4=>4|3=>3|0=>0|n=>n,fun|n=>n⟩
theorem Tryz.lays110:Go.Proofs.Lays.n110 Tryz.prog Tryz.lays110_ren:={
 mixed:=by kernel_rfl
 f109:=Tryz.func182.trans (congrArg some (by kernel_rfl))
 f110:=Tryz.func117.trans (congrArg some (by kernel_rfl))
 t0:=Tryz.underlying0
 a0:=Tryz.isAgg0
 z0:=Tryz.sizeOf0
 v0:=Tryz.zeroValue0
 t3:=Tryz.underlying3
 a3:=Tryz.isAgg3
 z3:=Tryz.sizeOf3
 v3:=Tryz.zeroValue3
 t4:=Tryz.underlying4
 a4:=Tryz.isAgg4
 z4:=Tryz.sizeOf4
 v4:=Tryz.zeroValue4
 t9:=Tryz.underlying9
 a9:=Tryz.isAgg9
 z9:=Tryz.sizeOf9
 v9:=Tryz.zeroValue9
 t31:=Tryz.underlying43
 a31:=Tryz.isAgg43
 z31:=Tryz.sizeOf43
 v31:=Tryz.zeroValue43 }
open Go.Lib in
theorem Tryz.slices_Contains_string (b off n c:Nat) (zs:List ByteArray) (x:ByteArray) (w:World) (hz:n≤zs.length) (hbig:n≤9223372036854775807) (hc:∀ j,j<zs.length→w.cell? ⟨b,off+j,none⟩=some (.string (zs.getD j ByteArray.empty))) :
  Calls Tryz.prog 117 #[.slice (some ⟨b,off,none⟩) n c,.string x] w fun e w'=>e=.returned (.bool (Lib.containsS (zs.take n) x))∧w'=w:=Any.slices_Contains_string Tryz.lays110 b off n c zs x w hz hbig hc
open Go.Lib in
theorem Tryz.slices_Contains_string_empty (a:Option Addr) (c:Nat) (x:ByteArray) (w:World) :
  Calls Tryz.prog 117 #[.slice a 0 c,.string x] w fun e w'=>e=.returned (.bool false)∧w'=w:=Any.slices_Contains_string_empty Tryz.lays110 a c x w
def Tryz.lays193_ren:Go.Shelf.Ren:=⟨fun|193=>112|n=>n,fun|31=>43|9=>9|4=>4|3=>3|0=>0|n=>n,fun|n=>n⟩
theorem Tryz.lays193:Go.Proofs.Lays.n193 Tryz.prog Tryz.lays193_ren:={
 mixed:=by kernel_rfl
 f193:=Tryz.func112.trans (congrArg some (by kernel_rfl))
 t0:=Tryz.underlying0
 a0:=Tryz.isAgg0
 z0:=Tryz.sizeOf0
 v0:=Tryz.zeroValue0
 t3:=Tryz.underlying3
 a3:=Tryz.isAgg3
 z3:=Tryz.sizeOf3
 v3:=Tryz.zeroValue3
 t4:=Tryz.underlying4
 a4:=Tryz.isAgg4
 z4:=Tryz.sizeOf4
 v4:=Tryz.zeroValue4
 t9:=Tryz.underlying9
 a9:=Tryz.isAgg9
 z9:=Tryz.sizeOf9
 v9:=Tryz.zeroValue9
 t31:=Tryz.underlying43
 a31:=Tryz.isAgg43
 z31:=Tryz.sizeOf43
 v31:=Tryz.zeroValue43 }
open Go.RowKit Go.Lib in
theorem Tryz.slices_Equal_string (b1 o1 n c b2 o2 m d:Nat) (xs ys:List ByteArray) (w:World) (hx:n≤xs.length) (hy:m≤ys.length) (hbig:n≤9223372036854775807) (hbig2:m≤9223372036854775807) (hc1:∀ j,j<xs.length→w.cell? ⟨b1,o1+j,none⟩=some (.string (xs.getD j ByteArray.empty))) (hc2:∀ j,j<ys.length→w.cell? ⟨b2,o2+j,none⟩=some (.string (ys.getD j ByteArray.empty))) :
  Calls Tryz.prog 112 #[.slice (some ⟨b1,o1,none⟩) n c,.slice (some ⟨b2,o2,none⟩) m d] w fun e w'=>e=.returned (.bool (decide (xs.take n=ys.take m)))∧∃ q,w'=w.drewN q:=Any.slices_Equal_string Tryz.lays193 b1 o1 n c b2 o2 m d xs ys w hx hy hbig hbig2 hc1 hc2
open Go.RowKit Go.Lib in
theorem Tryz.slices_Equal_string_empty (a1 a2:Option Addr) (c m d:Nat) (w:World) (hbig2:m≤9223372036854775807) :
  Calls Tryz.prog 112 #[.slice a1 0 c,.slice a2 m d] w fun e w'=>e=.returned (.bool (decide (m=0)))∧w'=w:=Any.slices_Equal_string_empty Tryz.lays193 a1 a2 c m d w hbig2
open Go.RowKit Go.Lib in
theorem Tryz.slices_Equal_string_lens (a1 a2:Option Addr) (n c m d:Nat) (w:World) (hnm:n≠m) :
  Calls Tryz.prog 112 #[.slice a1 n c,.slice a2 m d] w fun e w'=>e=.returned (.bool false)∧w'=w:=Any.slices_Equal_string_lens Tryz.lays193 a1 a2 n c m d w hnm
end Go.Proofs
namespace Go.Proofs.YtefdnmeopbkflaaGreatDoor
open Go Go.V
open Go.RowKit (Below)
set_option linter.unusedSimpArgs false
set_option linter.unusedVariables false
set_option maxRecDepth 20000
def dU (l:List (List UInt8)):List AV:=l.map str
theorem dY [Gv] (l:List (List UInt8)):(dU l).length=l.length:=by simp[dU]
theorem dP [Gv] (l:List (List UInt8)):aM (dU l)=true:=by
 induction l with
 | nil=>rfl
 | cons c l ih=>simp only[dU,List.map_cons,aM] at ih ⊢;rw[ih];rfl
theorem aBI [Gv] (l:List (List UInt8)):jE (dU l)=true:=by
 induction l with
 | nil=>rfl
 | cons c l ih=>simp only[dU,List.map_cons,jE] at ih ⊢;rw[ih];rfl
theorem mR [Gv] {l:List (List UInt8)} {i:Nat} (h:i<l.length):(dU l).getD i .top=str (l.getD i []):=by
 simp[dU,List.getD_eq_getElem?_getD,List.getElem?_map,List.getElem?_eq_getElem h]
theorem aMd [Gv] (E:Env) (l:List (List UInt8)):bY E (dU l) (l.map fun s=>Value.string ⟨s.toArray⟩):=by
 induction l with
 | nil=>simp[dU,bY]
 | cons c l ih=>simp only[dU,List.map_cons,bY] at ih ⊢;exact⟨_,_,rfl,by simp only[str,bE],ih⟩
theorem aJe [Gv] {E:Env} (hG:GOk E GP):E.w.cell? ⟨5,0,none⟩=some (.int .i64 Gv.most):=by
 obtain⟨_,_,h,_⟩:=hG 5 [.val (.int .i64 Gv.most)] (by simp[GP])
 simp only[eD] at h
 obtain⟨⟨v,h1,h2⟩,_⟩:=h
 simp only[bE] at h2
 rw[h1,h2]
theorem aBi [Gv] (s:List UInt8) (c:UInt8) (hs:s.length<4294967281):ACalls Tryz.prog GP 114 [str s,str [c]] [] (fun r os=>os=[]∧r=.sl (dM c s).length (dU (dM c s)) .full):=by
 refine aGY ⟨_,Tryz.func114,rfl,rfl⟩ fun E vs hl hG=>?_
 simp only[bY,bE,str] at hl
 obtain⟨_,_,rfl,rfl,_,_,rfl,rfl,rfl⟩:=hl
 have hsz:(⟨s.toArray⟩:ByteArray).size=s.length:=by simp[ByteArray.size]
 refine(Tryz.strings_Split ⟨s.toArray⟩ ⟨#[c]⟩ Gv.most E.w (by rw[hsz];exact hs) (aJe hG) (Nat.le_refl 1)).mono ?_
 rintro e w' ⟨rfl,rfl⟩
 have hlen:Lib.countB ⟨s.toArray⟩ ⟨#[c]⟩+1=(dM c s).length:=by
  have h1:=Lib.splitB_all ⟨#[c]⟩ (Nat.le_refl 1) 0 _ ⟨s.toArray⟩ rfl
  rw[← aDI,List.length_map,h1]
 have hb:Below E.w.heap.size E.w (E.w.alloc (.cells ((Lib.splitB ⟨#[c]⟩ 0 (Lib.countB ⟨s.toArray⟩ ⟨#[c]⟩) ⟨s.toArray⟩).map Value.string).toArray 9)):=(Below.refl _ _).alloc (Nat.le_refl _) _
 refine⟨_,fun _=>(dU (dM c s)).length,rfl,hb,?_⟩
 rw[hlen]
 have hmap:(Lib.splitB ⟨#[c]⟩ 0 (Lib.countB ⟨s.toArray⟩ ⟨#[c]⟩) ⟨s.toArray⟩).map Value.string=(dM c s).map fun s=>Value.string ⟨s.toArray⟩:=by
  rw[← aDI,List.map_map]
  rfl
 refine aOP hb (Pushed.alloc E.w _).new (fun E' _=>?_) (.inr trivial)
 rw[hmap]
 exact aMd E' _
theorem aBA [Gv] (g:FuncId) (p:Nat→Bool) (hp:∀ r,128≤r→p r=true) (hg:∀ r:Nat,r≤1114111→ACalls Tryz.prog GP g [.val (.int .i32 (r:Int))] [] (fun x os=>os=[]∧x=.val (.bool (p r)))) (s:List UInt8) :
  ACalls Tryz.prog GP 115 [str s,.val (.func (.func g) #[] #[])] [] (fun x os=>os=[]∧x=.val (.bool (s.any fun b=>p b.toNat))):=by
 refine jA ⟨_,Tryz.func115,rfl,rfl⟩ fun E vs hl hG=>?_
 simp only[bY,bE,str] at hl
 obtain⟨_,_,rfl,rfl,_,_,rfl,rfl,rfl⟩:=hl
 obtain⟨fn,hfn,hb,hn⟩:=(hg 0 (by omega)).1
 rw[← aNu p hp s]
 refine Tryz.strings_ContainsFunc_grows g #[] (fun args w=>oD hfn hb hn args w) p ⟨s.toArray⟩ E.w fun W x hx hbl=>?_
 have hc:=(hg x hx).calls W [.int .i32 (x:Int)] (fun E' _=>by simp only[bY,bE];exact⟨_,_,rfl,rfl,rfl⟩) ⟨{ w:=W,lim:=E.lim,k:=0,ρ:=E.ρ },rfl,rfl,?_⟩
 ·exact hc
 ·intro g' cells hm
  obtain⟨h1,h2,h3,h4⟩:=hG g' cells hm
  refine⟨Nat.lt_of_lt_of_le h1 hbl.size,h2,eD.of_cell fun i c hc=>?_,h4⟩
  obtain⟨v,hv,hr⟩:=h3.cell i c hc
  obtain⟨u,rfl⟩:=h4 c (List.mem_of_getElem? hc)
  exact⟨v,by rw[← hv];exact hbl.cell (p:=⟨g',0+i,none⟩) h1,by simpa only[bE] using hr⟩
theorem zM [Gv] (l:List (List UInt8)) (x:List UInt8) (p:Perm) (hl:l.length≤9223372036854775807):ACalls Tryz.prog GP 117 [.sl l.length (dU l) p,str x] [] (fun r os=>os=[]∧r=.val (.bool (l.contains x))):=by
 refine jA ⟨_,Tryz.func117,rfl,rfl⟩ fun E vs hv hG=>?_
 simp only[bY,bE,str] at hv
 obtain⟨_,_,rfl,⟨A,cap,rfl,hn,hc,_⟩,_,_,rfl,rfl,rfl⟩:=hv
 by_cases h0:l=[]
 ·subst h0
  refine(Tryz.slices_Contains_string_empty A cap ⟨x.toArray⟩ E.w).mono ?_
  rintro e w' ⟨rfl,rfl⟩
  exact⟨rfl,Below.refl _ _⟩
 ·rcases hc with e|⟨g,o,rfl,hg,ho,hat⟩
  ·exact absurd (by simpa[dU] using e) h0
  ·refine(Tryz.slices_Contains_string g o l.length cap (l.map fun s=>⟨s.toArray⟩) ⟨x.toArray⟩ E.w (by simp) hl fun j hj=>?_).mono ?_
   ·have hj':j<l.length:=by simpa using hj
    obtain⟨v,h1,h2⟩:=hat.cell j (str l[j]) (by simp[dU,hj'])
    simp only[str,bE] at h2
    rw[h1,h2]
    simp[hj']
   ·rintro e w' ⟨rfl,rfl⟩
    refine⟨?_,Below.refl _ _⟩
    congr 2
    rw[Bool.eq_iff_iff,Lib.containsS_iff,List.take_of_length_le (by simp)]
    simp only[List.mem_map,List.contains_iff_mem]
    constructor
    ·rintro⟨a,ha,hax⟩
     have:a=x:=by
      have:=congrArg (fun b:ByteArray=>b.data.toList) hax
      simpa using this
     exact this ▸ ha
    ·intro h;exact⟨x,h,rfl⟩
theorem zB [Gv] (a b:List (List UInt8)) (p q:Perm) (ha:a.length≤9223372036854775807) (hb:b.length≤9223372036854775807):ACalls Tryz.prog GP 112 [.sl a.length (dU a) p,.sl b.length (dU b) q] [] (fun r os=>os=[]∧r=.val (.bool (decide (a=b)))):=by
 refine jA ⟨_,Tryz.func112,rfl,rfl⟩ fun E vs hv hG=>?_
 simp only[bY,bE,str] at hv
 obtain⟨_,_,rfl,⟨A,cap,rfl,hn,hc,_⟩,_,_,rfl,⟨A2,cap2,rfl,hn2,hc2,_⟩,rfl⟩:=hv
 by_cases hne:a.length=b.length
 ·by_cases h0:a=[]
  ·subst h0
   refine(Tryz.slices_Equal_string_empty A A2 cap b.length cap2 E.w hb).mono ?_
   rintro e w' ⟨rfl,rfl⟩
   have hb0:b=[]:=List.length_eq_zero_iff.1 hne.symm
   subst hb0
   exact⟨rfl,Below.refl _ _⟩
  ·have hb0:b≠[]:=fun e=>h0 (List.length_eq_zero_iff.1 (by rw[hne,e];rfl))
   rcases hc with e|⟨g,o,rfl,hg,ho,hat⟩
   ·exact absurd (by simpa[dU] using e) h0
   rcases hc2 with e|⟨g2,o2,rfl,hg2,ho2,hat2⟩
   ·exact absurd (by simpa[dU] using e) hb0
   refine(Tryz.slices_Equal_string g o a.length cap g2 o2 b.length cap2 (a.map fun s=>⟨s.toArray⟩) (b.map fun s=>⟨s.toArray⟩) E.w (by simp) (by simp) ha hb (fun j hj=>?_) fun j hj=>?_).mono ?_
   ·have hj':j<a.length:=by simpa using hj
    obtain⟨v,h1,h2⟩:=hat.cell j (str a[j]) (by simp[dU,hj'])
    simp only[str,bE] at h2
    rw[h1,h2]
    simp[hj']
   ·have hj':j<b.length:=by simpa using hj
    obtain⟨v,h1,h2⟩:=hat2.cell j (str b[j]) (by simp[dU,hj'])
    simp only[str,bE] at h2
    rw[h1,h2]
    simp[hj']
   ·rintro e w' ⟨rfl,k,rfl⟩
    refine⟨?_,below_drewNg _ _⟩
    congr 2
    rw[List.take_of_length_le (by simp),List.take_of_length_le (by simp),decide_eq_decide]
    constructor
    ·intro h
     have:=congrArg (List.map fun b:ByteArray=>b.data.toList) h
     rw[List.map_map,List.map_map] at this
     simpa[Function.comp_def] using this
    ·intro h;rw[h]
 ·refine(Tryz.slices_Equal_string_lens A A2 a.length cap b.length cap2 E.w hne).mono ?_
  rintro e w' ⟨rfl,rfl⟩
  refine⟨?_,Below.refl _ _⟩
  rw[decide_eq_false (fun e=>hne (by rw[e]))]
theorem uJ [Gv] (l:List (List UInt8)) (sep:List UInt8) (p:Perm) (hl:l.length≤140737488355328) (hj:(Lib.join l sep).length≤140737488355328):ACalls Tryz.prog GP 173 [.sl l.length (dU l) p,str sep] [] (fun r os=>os=[]∧r=str (Lib.join l sep)):=by
 refine jA ⟨_,Tryz.func173,rfl,rfl⟩ fun E vs hv hG=>?_
 simp only[bY,bE,str] at hv
 obtain⟨_,_,rfl,⟨A,cap,rfl,hn,hc,_⟩,_,_,rfl,rfl,rfl⟩:=hv
 by_cases h0:l=[]
 ·subst h0
  refine(Tryz.strings_Join_none A cap ⟨sep.toArray⟩ E.w).mono ?_
  rintro e w' ⟨rfl,rfl⟩
  exact⟨rfl,Below.refl _ _⟩
 ·rcases hc with e|⟨g,o,rfl,hg,ho,hat⟩
  ·exact absurd (by simpa[dU] using e) h0
  ·have hm:(l.map fun s=>(⟨s.toArray⟩:ByteArray)).map (·.data.toList)=l:=by rw[List.map_map];simp[Function.comp_def]
   have h:=Tryz.strings_Join g o cap (l.map fun s=>⟨s.toArray⟩) ⟨sep.toArray⟩ E.w (fun j x hx=>?_) hg (by simpa using hl) (by simpa using hn) (by rw[hm];exact hj)
   ·rw[hm,List.length_map] at h
    exact h
   ·simp only[List.getElem?_map,Option.map_eq_some_iff] at hx
    obtain⟨s,hs,rfl⟩:=hx
    obtain⟨v,h1,h2⟩:=hat.cell j (str s) (by simp[dU,hs])
    simp only[str,bE] at h2
    rw[h1,h2]
end Go.Proofs.YtefdnmeopbkflaaGreatDoor
namespace Go.Proofs.YtefdnmeopbkflaaGreatDoor
open Go Go.V
set_option linter.unusedSimpArgs false
set_option linter.unusedVariables false
set_option maxRecDepth 20000
theorem sR [Gv] {c:UInt8}:∀ {s:List UInt8},Lib.indexByte s c=-1→dM c s=[s]
 | [],_=>rfl
 | x::xs,h=>by
  unfold Lib.indexByte at h
  have hge:=Lib.indexByte_ge xs c
  by_cases hx:x=c
  ·subst hx;simp at h
  ·have hx':(x == c)=false:=by simpa using hx
   rw[hx'] at h
   simp only[Bool.false_eq_true,if_false] at h
   have h1:Lib.indexByte xs c=-1:=by
    by_cases h2:Lib.indexByte xs c=-1
    ·exact h2
    ·have h3:(Lib.indexByte xs c == -1)=false:=by simpa using h2
     rw[h3] at h
     simp only[Bool.false_eq_true,if_false] at h
     omega
   unfold dM
   rw[if_neg hx,sR h1]
   rfl
theorem sS [Gv] {c:UInt8}:∀ {s:List UInt8} {i:Nat},Lib.indexByte s c=(i:Int)→i<s.length∧dM c s=s.take i::dM c (s.drop (i+1))
 | [],i,h=>by simp[Lib.indexByte] at h
 | x::xs,i,h=>by
  unfold Lib.indexByte at h
  by_cases hx:x=c
  ·subst hx
   have:i=0:=by simpa using h.symm
   subst this
   simp[dM]
  ·have hx':(x == c)=false:=by simpa using hx
   rw[hx'] at h
   simp only[Bool.false_eq_true,if_false] at h
   by_cases h2:Lib.indexByte xs c=-1
   ·rw[h2] at h;simp at h
   ·have h3:(Lib.indexByte xs c == -1)=false:=by simpa using h2
    rw[h3] at h
    simp only[Bool.false_eq_true,if_false] at h
    have hge:=Lib.indexByte_ge xs c
    obtain⟨j,rfl⟩:∃ j,i=j+1:=⟨i - 1,by omega⟩
    obtain⟨h4,h5⟩:=sS (c:=c) (s:=xs) (i:=j) (by omega)
    refine⟨by simp;omega,?_⟩
    rw[show dM c (x::xs)=(x::(dM c xs).headD [])::(dM c xs).tail from by conv=>lhs;unfold dM;rw[if_neg hx],h5]
    rfl
theorem aCl [Gv] (s:List UInt8) (c:UInt8):ACalls Tryz.prog GP 234 [str s,str [c]] [] (fun r os=>os=[]∧r=.val (.int .i64 (Lib.indexByte s c))):=by
 refine jA ⟨_,Tryz.func234,rfl,rfl⟩ fun E vs hl hG=>?_
 simp only[bY,bE,str] at hl
 obtain⟨_,_,rfl,rfl,_,_,rfl,rfl,rfl⟩:=hl
 refine(Tryz.strings_Index_one ⟨s.toArray⟩ c E.w).mono ?_
 rintro e w' ⟨rfl,rfl⟩
 exact⟨rfl,Go.RowKit.Below.refl _ _⟩
def SQ (c:UInt8) (s:List UInt8):List AObj:=[.cells [str [c]],.cells [str s],.cells [.val (.int .i64 0)]]
theorem aEW [Gv] (s:List UInt8) (c:UInt8):ACalls Tryz.prog GP 242 [str s,str [c],.val (.int .i64 0)] [] (fun r os=>os=SQ c s∧r=.clo 274 [.ptr 0 0,.ptr 1 0,.ptr 2 0]):=by
 unfold SQ str
 refine dB Tryz.func242 rfl rfl Tryz.ntmps242 (rts:=#[269]) rfl Tryz.results242 (by simp) ?_
 simp only[seval,aZ]
 refine aC fun K hK=>aA [] ?_
 simp only[seval,kZs,eF,bB,List.all_cons,dC,Value.oneCell',List.all_nil,fN,cav,aI]
 and_intros<;>try first|exact⟨⟩|omega
 refine hK _ ?_
 clear hK K
 refine aE [3,4,5] ?_
 simp only[seval,kZq]
 refine aC fun K hK=>aA [] ?_
 simp only[seval,kZs,vG,qJ,aI]
 and_intros<;>try first|exact⟨⟩|omega
 refine hK _ ?_
 clear hK K
 refine aE [6] ?_
 simp only[seval,kZq]
 refine aS ?_
 refine nW [1,0,2] ⟨by simp,by simp,by decide,by simp,by simp[fU,eV,ref,jH]⟩ ?_
 simp only[qq,gS,gB,fJ,fR,aB,List.contains_cons,GHd,gJ,List.getD_cons_succ,gH,ren]
 exact⟨rfl,rfl⟩
theorem aGB [Gv] (s:List UInt8) (c:UInt8):ACalls Tryz.prog GP 186 [str s,str [c]] [] (fun r os=>os=SQ c s∧r=.clo 274 [.ptr 0 0,.ptr 1 0,.ptr 2 0]):=by
 have cS:=aEW s c
 unfold SQ str at *
 refine dB Tryz.func186 rfl rfl Tryz.ntmps186 (rts:=#[269]) rfl Tryz.results186 (by simp) ?_
 simp only[seval,aZ]
 refine aC fun K hK=>aA [] ?_
 simp only[seval,kZs,cav,aI]
 and_intros<;>try first|exact⟨⟩|omega
 refine hK _ ?_
 clear hK K
 refine aE [0,1,4] ?_
 simp only[seval,kZq]
 refine aC fun K hK=>aA [1000007] ?_
 simp only[seval,kZs,aU,List.contains_cons,beq_self_eq_true,cav,bF,aT,bA,aH]
 refine gF [] false [9,9,3] ⟨by decide,by simp,by simp⟩ (C:=True∧True∧True∧True) (by simp[gT,nR,aH]) ⟨trivial,trivial,trivial,trivial⟩ cS ⟨by simp,by simp[fU,eV,ref],by simp[ref,eV],fun h=>by cases h⟩ ?_
 simp only[yC,aEa,List.map_cons,List.map_nil,gJ,gH,ren,List.nil_append,List.length_nil,Nat.zero_add]
 simp only[seval,kZs,dE,aI]
 refine hK _ ?_
 clear hK K
 refine aE [4] ?_
 simp only[seval,kZq]
 refine aS ?_
 refine nW [0,1,2] ⟨by simp,by simp,by decide,by simp,by simp[fU,eV,ref,jH]⟩ ?_
 simp only[qq,gS,gB,fJ,fR,aB,List.contains_cons,GHd,gJ,gH,ren,List.getD_cons_succ]
 exact⟨rfl,rfl⟩
def SY (lp:Nat) (c:UInt8) (s:List UInt8):St:=⟨52,[(0,.val (.func (.yield lp) #[] #[])),(1,.ptr 0 0),(2,.ptr 1 0),(3,.ptr 2 0)],SQ c s⟩
theorem aEV [Gv] (s0:List UInt8) (c:UInt8) (hs0:s0.length<4294967281):Go.V.aKm Tryz.prog GP 274 [.ptr 0 0,.ptr 1 0,.ptr 2 0] (SQ c s0) ((dM c s0).map fun w=>.string ⟨w.toArray⟩):=by
 refine⟨⟨_,Tryz.func274,rfl,rfl⟩,fun lp J hJ hY E vs hvs hobj hG hJ0=>?_⟩
 have e1:#[Value.func (.yield lp) #[] #[]]++vs.toArray=(.func (.yield lp) #[] #[]::vs).toArray:=by simp
 rw[e1]
 have hv1:bY E [.val (.func (.yield lp) #[] #[]),.ptr 0 0,.ptr 1 0,.ptr 2 0] (.func (.yield lp) #[] #[]::vs):=⟨_,_,rfl,by simp only[bE],hvs⟩
 refine calls_of_wp Tryz.func274 rfl ?_
 have hr:=uM (G:=GP) (fn:=Tryz.f274) rfl (by show 4≤Tryz.f274.ntmps;rw[Tryz.ntmps274];decide) hv1 hobj hG
 have hr:Rep GP E (SY lp c s0) { tmps:=(Value.func (.yield lp) #[] #[]::vs).toArray++Array.replicate (Tryz.f274.ntmps - (Value.func (.yield lp) #[] #[]::vs).toArray.size) undef,defers:=[] }:=by
  have:=hr
  rw[Tryz.ntmps274] at this ⊢
  exact this
 generalize ({ tmps:=(Value.func (.yield lp) #[] #[]::vs).toArray++Array.replicate (Tryz.f274.ntmps - (Value.func (.yield lp) #[] #[]::vs).toArray.size) undef,defers:=[] }:Act)=a at *
 generalize hxs:((dM c s0).map fun w=>Value.string ⟨w.toArray⟩)=xs at *
 -- the sign is one byte
 refine yA (st':=SY lp c s0) ?_ hr fun E1 a1 hr1 hx1=>?_
 ·unfold SY SQ str
  refine aC fun K hK=>aA [] ?_
  simp only[seval,kZs,aY,apart,aO,Tryz.underlying9,bI,bV,eN,cav,aL,aI,dJ,Int.cast_ofNat_Int,aP,bH]
  and_intros<;>try first|exact⟨⟩|omega
  refine hK _ ?_
  clear hK K
  refine aR rfl ?_
  refine bC ?_
  simp only[aI]
  exact .of_keep [0,1,2,3] rfl
 have hJ1:=hJ _ _ _ _ _ hJ0 hobj hx1 hr1.objs
 clear hJ0 hx1 hv1 hr hobj hG
 refine wp_seq ?_
 refine wp_block ?_
 -- the loop,by the pieces that are left
 refine aHs (fun n a w=>∃ s k E,E.w=w∧s.length≤s0.length∧n=s.length∧xs.drop k=(dM c s).map (fun w=>Value.string ⟨w.toArray⟩)∧Rep GP E (SY lp c s) a∧J k E (SQ c s)) ?_ (n:=s0.length) ⟨s0,0,E1,rfl,Nat.le_refl _,rfl,by rw[← hxs];rfl,hr1,hJ1⟩
 clear hJ1 hr1 a1 E1
 rintro n a w ⟨s,k,E,rfl,hsl,rfl,hdrop,hr,hj⟩
 refine wp_block ?_
 rcases Int.lt_or_le (Lib.indexByte s c) 0 with hneg|hpos
 ·-- the last piece
  have hidx:Lib.indexByte s c=-1:=by have:=Lib.indexByte_ge s c;omega
  have cI:=aCl s c
  rw[hidx] at cI
  rw[sR hidx] at hdrop
  refine yA (st':=⟨52,[(0,.val (.func (.yield lp) #[] #[])),(1,.ptr 0 0),(2,.ptr 1 0),(3,.ptr 2 0),(7,.val (.int .i64 (-1)))],SQ c s⟩) ?_ hr fun E1 a1 hr1 hx1=>?_
  ·unfold SY SQ str at *
   refine aA [] ?_
   simp only[seval,kZs,aY,apart,aO,Tryz.underlying9,aU,bF,aT,bA,bW,List.headD_cons,List.tail_cons,aH]
   refine aV (by simp[aJ,aM,aH]) (cI) (by simp[aH,aM,aJ,flat]) ?_
   simp only[seval,kZs,aK,aI]
   exact .of_keep [0,1,2,3,7] rfl
  have hj1:=hJ _ _ _ _ _ hj hr.objs hx1 hr1.objs
  refine aMw (j:=2) (st':=SY lp c s) ?_ hr1 fun E2 a2 hr2 hx2=>?_
  ·unfold SY SQ str
   refine aC fun K hK=>aA [] ?_
   simp only[seval,kZs,cav,aL,aP,bH,aI]
   and_intros<;>try first|exact⟨⟩|omega
   refine hK _ ?_
   clear hK K
   refine bG rfl ?_
   refine dR ?_
   exact⟨rfl,.of_keep [0,1,2,3] rfl⟩
  have hj2:=hJ _ _ _ _ _ hj1 hr1.objs hx2 hr2.objs
  simp only[seval,Exit.inBlock,Exit.then,if_true,if_false]
  refine aGM (n:=2) (tf:=49) (tx:=50) (d:=51) (K:=fun b s=>True) hJ hY rfl rfl rfl rfl (k:=k) (x:=.string ⟨s.toArray⟩) ?_ hr2 hj2 ?_ ?_
  ·have:=congrArg (fun l=>l[0]?) hdrop
   simpa using this
  ·unfold SY SQ str
   simp only[seval,kZs,List.drop_nil,aY,apart,aO,Tryz.underlying9]
   exact fun b=>trivial
  ·intro b E3 a3 s3 _ hr3 hj3
   have hk:xs.length=k+1:=by
    have:=congrArg List.length hdrop
    simp at this
    omega
   refine⟨hr3.defers,.tuple #[],?_,.tuple #[],E3,s3.objs,_,rfl,rfl,hr3.objs,hj3,?_⟩
   ·rw[jY,Tryz.results274];simp
   ·cases b<;>simp<;>omega
 ·obtain⟨i,hi⟩:∃ i:Nat,Lib.indexByte s c=i:=⟨(Lib.indexByte s c).toNat,by omega⟩
  obtain⟨hlt,hsp⟩:=sS hi
  have cI:=aCl s c
  rw[hi] at cI
  rw[hsp] at hdrop
  have hsz:(⟨s.toArray⟩:ByteArray).size=s.length:=by simp[ByteArray.size]
  have hw:IntKind.i64.wrap (i:Int)=i:=fD (by omega)
  have hi0:decide ((i:Int)<0)=false:=decide_eq_false (by omega)
  refine yA (st':=⟨52,[(0,.val (.func (.yield lp) #[] #[])),(1,.ptr 0 0),(2,.ptr 1 0),(3,.ptr 2 0),(7,.val (.int .i64 (i:Int)))],SQ c s⟩) ?_ hr fun E1 a1 hr1 hx1=>?_
  ·unfold SY SQ str at *
   refine aA [] ?_
   simp only[seval,kZs,aY,apart,aO,Tryz.underlying9,aU,bF,aT,bA,bW,List.headD_cons,List.tail_cons,aH]
   refine aV (by simp[aJ,aM,aH]) (cI) (by simp[aH,aM,aJ,flat]) ?_
   simp only[seval,kZs,aK,aI]
   exact .of_keep [0,1,2,3,7] rfl
  have hj1:=hJ _ _ _ _ _ hj hr.objs hx1 hr1.objs
  refine yA (st':=⟨52,[(0,.val (.func (.yield lp) #[] #[])),(1,.ptr 0 0),(2,.ptr 1 0),(3,.ptr 2 0),(7,.val (.int .i64 (i:Int)))],SQ c s⟩) ?_ hr1 fun E2 a2 hr2 hx2=>?_
  ·unfold SQ str
   refine aC fun K hK=>aA [] ?_
   simp only[seval,kZs,cav,aL,aP,bH,hi0,aI]
   and_intros<;>try first|exact⟨⟩|omega
   refine hK _ ?_
   clear hK K
   refine aR rfl ?_
   refine bC ?_
   exact .of_keep [0,1,2,3,7] rfl
  have hj2:=hJ _ _ _ _ _ hj1 hr1.objs hx2 hr2.objs
  refine yA (st':=⟨52,[(0,.val (.func (.yield lp) #[] #[])),(1,.ptr 0 0),(2,.ptr 1 0),(3,.ptr 2 0),(7,.val (.int .i64 (i:Int))),(8,.val (.string ⟨(s.take i).toArray⟩))],SQ c s⟩) ?_ hr2 fun E3 a3 hr3 hx3=>?_
  ·unfold SQ str
   refine aA [] ?_
   simp only[seval,kZs,aY,apart,aO,Tryz.underlying9,Tryz.underlying3,aL,eY,iR,Option.map_none,Option.map_some,eJ,dH,ne_eq,iC,aI,aP,bH,gO,hw,Int.le_refl,true_or,Int.sub_zero,Int.toNat_natCast,Int.toNat_zero,Nat.zero_mul,Nat.sub_zero,or_true,hsz,jQ]
   exact⟨⟨by omega,by omega⟩,.of_keep [0,1,2,3,7,8] rfl⟩
  have hj3:=hJ _ _ _ _ _ hj2 hr2.objs hx3 hr3.objs
  have hlen0:s.length=i+1+(s.drop (i+1)).length:=by simp;omega
  refine wp_seq (wp_seq ?_)
  refine aGM (n:=2) (tf:=39) (tx:=40) (d:=41) (K:=fun b s'=>gE GP s' ⟨52,[(42,.val (.bool (!b))),(0,.val (.func (.yield lp) #[] #[])),(1,.ptr 0 0),(2,.ptr 1 0),(3,.ptr 2 0),(7,.val (.int .i64 (i:Int)))],SQ c s⟩) hJ hY rfl rfl rfl rfl (k:=k) (x:=.string ⟨(s.take i).toArray⟩) ?_ hr3 hj3 ?_ ?_
  ·have:=congrArg (fun l=>l[0]?) hdrop
   simpa using this
  ·unfold SQ str
   simp only[seval,kZs,aun]
   exact fun b=>.of_keep [42,0,1,2,3,7] rfl
  ·intro b E4 a4 s4 hK hr4 hj4
   obtain⟨E5,e5,hr5,hx5⟩:=hK E4 a4 hr4
   have hj5:=hJ _ _ _ _ _ hj4 hr4.objs hx5 hr5.objs
   rw[← e5]
   clear hK hr4 hj4 hx5 e5
   simp only[Exit.then]
   have h42:a4.eval (.tmp 42)=.bool (!b):=by have:=hr5.slots 42;simp only[lk,if_true,bE] at this;exact this
   cases b with
   | false=>
    refine wp_cond_true h42 (wp_ret ?_)
    refine⟨hr5.defers,.tuple #[],?_,.tuple #[],E5,_,_,rfl,rfl,hr5.objs,hj5,.inr rfl⟩
    rw[jY,Tryz.results274];simp
   | true=>
    refine wp_cond_false h42 (wp_skip ?_)
    refine aOe (G:=GP) (st':=SY lp c (s.drop (i+1))) ?_ hr5 fun E6 a6 hr6 hx6=>?_
    ·unfold SY SQ str
     have hw2:IntKind.i64.wrap ((i+1:Nat):Int)=((i+1:Nat):Int):=fD (by omega)
     have htk:(s.drop (i+1)).take (s.length - (i+1))=s.drop (i+1):=List.take_of_length_le (by simp)
     refine aA [] ?_
     simp only[seval,kZs,Bool.not_true,aY,apart,aO,Tryz.underlying9,bI,bV,eN,aL,eY,iR,Option.map_some,Option.map_none,eJ,dH,ne_eq,iC,bQ,bX,bD,bB,spl,aI,dJ,Int.cast_ofNat_Int,aP,bH,gO,hw2,Int.le_refl,not_true_eq_false,or_false,Int.toNat_natCast,hsz,jQ,htk,List.all_cons,dC,Value.oneCell',List.all_nil,List.drop_nil]
     exact⟨⟨by omega,by omega⟩,.of_keep [0,1,2,3] rfl⟩
    ·refine⟨_,?_,s.drop (i+1),k+1,E6,rfl,by omega,rfl,?_,hr6,hJ _ _ _ _ _ hj5 hr5.objs hx6 hr6.objs⟩
     ·omega
     ·have:=congrArg List.tail hdrop
      simpa using this
theorem aKL [Gv] (r:Nat) (hr:r≤1114111):ACalls Tryz.prog GP 116 [.val (.int .i32 (r:Int))] [] (fun x os=>os=[]∧x=.val (.bool (decide (r<32) || decide (126<r)))):=by
 refine aQ Tryz.func116 rfl rfl Tryz.ntmps116 (rts:=#[4]) rfl Tryz.results116 (by simp) ?_
 simp only[seval,aZ]
 refine aC fun K hK=>aA [] ?_
 simp only[seval,kZs,cav,aI]
 and_intros<;>try first|exact⟨⟩|omega
 refine hK _ ?_
 clear hK K
 refine aE [0] ?_
 simp only[seval,kZq]
 refine aC fun K hK=>?_
 by_cases h:r<32
 ·have h1:decide ((r:Int)<32)=true:=decide_eq_true (by omega)
  refine aA [] ?_
  simp only[seval,kZs,cav,aL,aP,bH,h1,dD,bT,Option.bind_some,aW,eW,gok,bU,aI]
  refine hK _ ?_
  refine aE [2] ?_
  simp only[seval,kZq]
  refine aS ?_
  simp only[qq,bR,cQ,bN,bO,dA,aB,aH]
  simp[h]
 ·have h1:decide ((r:Int)<32)=false:=decide_eq_false (by omega)
  have h2:decide ((126:Int)<(r:Int))=decide (126<r):=decide_eq_decide.2 (by omega)
  refine aA [] ?_
  simp only[seval,kZs,cav,aL,aP,bH,h1,dD,bT,Option.bind_some,aW,Bool.not_false,dQ,gok,gt_iff_lt,h2,bU,aI]
  refine hK _ ?_
  refine aE [2] ?_
  simp only[seval,kZq]
  refine aS ?_
  simp only[qq,bR,cQ,bN,bO,dA,aB,aH]
  simp[h]
theorem aMI [Gv] (r:Nat) (hr:r≤1114111):ACalls Tryz.prog GP 185 [.val (.int .i32 (r:Int))] [] (fun x os=>os=[]∧x=.val (.bool (decide (r<97) || decide (122<r)))):=by
 refine aQ Tryz.func185 rfl rfl Tryz.ntmps185 (rts:=#[4]) rfl Tryz.results185 (by simp) ?_
 simp only[seval,aZ]
 refine aC fun K hK=>aA [] ?_
 simp only[seval,kZs,cav,aI]
 and_intros<;>try first|exact⟨⟩|omega
 refine hK _ ?_
 clear hK K
 refine aE [0] ?_
 simp only[seval,kZq]
 refine aC fun K hK=>?_
 by_cases h:r<97
 ·have h1:decide ((r:Int)<97)=true:=decide_eq_true (by omega)
  refine aA [] ?_
  simp only[seval,kZs,cav,aL,aP,bH,h1,dD,bT,Option.bind_some,aW,eW,gok,bU,aI]
  refine hK _ ?_
  refine aE [2] ?_
  simp only[seval,kZq]
  refine aS ?_
  simp only[qq,bR,cQ,bN,bO,dA,aB,aH]
  simp[h]
 ·have h1:decide ((r:Int)<97)=false:=decide_eq_false (by omega)
  have h2:decide ((122:Int)<(r:Int))=decide (122<r):=decide_eq_decide.2 (by omega)
  refine aA [] ?_
  simp only[seval,kZs,cav,aL,aP,bH,h1,dD,bT,Option.bind_some,aW,Bool.not_false,dQ,gok,gt_iff_lt,h2,bU,aI]
  refine hK _ ?_
  refine aE [2] ?_
  simp only[seval,kZq]
  refine aS ?_
  simp only[qq,bR,cQ,bN,bO,dA,aB,aH]
  simp[h]
def aOJ (s:List UInt8):Bool:=s.any fun b=>decide (b.toNat<32) || decide (126<b.toNat)
def aQZ (s:List UInt8):Bool:=s.any fun b=>decide (b.toNat<97) || decide (122<b.toNat)
theorem aOK [Gv] (s:List UInt8):ACalls Tryz.prog GP 115 [str s,.val (.func (.func 116) #[] #[])] [] (fun x os=>os=[]∧x=.val (.bool (aOJ s))):=
 aBA 116 _ (fun r hr=>by simp;omega) (fun r hr=>aKL r hr) s
theorem aOI [Gv] (s:List UInt8):ACalls Tryz.prog GP 115 [str s,.val (.func (.func 185) #[] #[])] [] (fun x os=>os=[]∧x=.val (.bool (aQZ s))):=
 aBA 185 _ (fun r hr=>by simp;omega) (fun r hr=>aMI r hr) s
def qB (s:List UInt8):Option (List (List UInt8)):=if s=[] then some [] else if aOJ s=true∨512<s.length∨[]∈dM 32 s then none else some (dM 32 s)
def zD (s:List UInt8):AV:=match qB s with
 | some l=>.tup [.sl l.length (dU l) .full,.val (.bool true)]
 | none=>.tup [.sl 0 [] .full,.val (.bool false)]
theorem aMv [Gv] (s:List UInt8) (hs:s.length≤200000):ACalls Tryz.prog GP 57 [str s] [] (fun x os=>os=[]∧x=zD s):=by
 have cS:=aBi s 32 (by omega)
 have cO:=aOK s
 have cC:=zM (dM 32 s) [] .full (by rw[kB];have:=List.count_le_length (a:=(32:UInt8)) (l:=s);omega)
 have hsz:((⟨s.toArray⟩:ByteArray).size:Int)=(s.length:Int):=by simp[ByteArray.size]
 have hn:=dP (dM 32 s)
 have hl:=dY (dM 32 s)
 simp only[str] at *
 refine aQ Tryz.func57 rfl rfl Tryz.ntmps57 (rts:=#[43,4]) rfl Tryz.results57 (by simp) ?_
 simp only[seval,aZ]
 refine aC fun K hK=>aA [] ?_
 simp only[seval,kZs,cav,aI]
 and_intros<;>try first|exact⟨⟩|omega
 refine hK _ ?_
 clear hK K
 refine aE [0,2,3] ?_
 simp only[seval,kZq]
 refine aC fun K1 hK1=>?_
 refine aC fun K hK=>aA [] ?_
 simp only[seval,kZs,cav,aL,aP,gL,ByteArray.toList_mk,aI]
 and_intros<;>try first|exact⟨⟩|omega
 refine hK _ ?_
 clear hK K
 by_cases h0:s=[]
 ·subst h0
  refine bG rfl ?_
  refine aE [0,2,3] ?_
  simp only[seval,kZq]
  refine aC fun K hK=>aA [] ?_
  simp only[seval,kZs,cav,aI]
  and_intros<;>try first|exact⟨⟩|omega
  refine hK _ ?_
  clear hK K
  refine aE [2,3] ?_
  simp only[seval,kZq]
  refine aS ?_
  simp only[seval,qq,aI,bR,cQ,bN,bO,dA,aB,aM,bW,aH]
  simp[zD,qB,dU]
 have e0:(s == [])=false:=beq_eq_false_iff_ne.2 h0
 refine aR (by simp[lk,e0]) (bC (hK1 _ ?_))
 clear hK1 K1
 refine aE [0,2,3] ?_
 simp only[seval,kZq]
 refine aC fun K hK=>aA [] ?_
 simp only[seval,kZs,aU,cav,bF,aT,bA,aH]
 refine aV (by simp[aM,aH]) cS (by simp[aH,hn]) ?_
 simp only[seval,kZs,aK,aI]
 refine hK _ ?_
 clear hK K
 refine aE [0,2,3,4] ?_
 simp only[seval,kZq]
 refine aC fun K hK=>aA [] ?_
 simp only[seval,kZs,aU,bF,aT,bA,aH]
 refine aV (by simp[aM,aH]) cO (by simp[aH]) ?_
 simp only[seval,kZs,aK,aI]
 refine hK _ ?_
 clear hK K
 refine aE [0,2,3,4,5] ?_
 simp only[seval,kZq]
 refine aC fun K1 hK1=>?_
 refine aC fun K hK=>?_
 have bad:∀ st,qB s=none→lk st.slots 21=.val (.bool true)→st.nt=23→st.objs=[]→K st:=by
  rintro⟨nt,sl,os⟩ hw h21 hnt hos
  simp only at h21 hnt hos
  subst hnt hos
  refine hK _ ?_
  refine bG h21 ?_
  refine aE [] ?_
  simp only[aD]
  refine aC fun K hK=>aA [] ?_
  simp only[seval,kZs,cav,aI]
  and_intros<;>try first|exact⟨⟩|omega
  refine hK _ ?_
  clear hK K
  refine aE [2,3] ?_
  simp only[seval,kZq]
  refine aS ?_
  simp only[aI]
  simp only[seval,qq,bR,cQ,bN,bO,dA,aB,aM,bW,aH]
  simp[zD,hw,dU,bW,aM]
 by_cases h1:aOJ s=true
 ·refine aA [] ?_
  simp only[seval,kZs,h1,dD,bT,Option.bind_some,aW,eW,gok,bU,cav,aI]
  refine bad _ ?_ rfl rfl rfl
  simp[qB,h0,h1]
 have h1':aOJ s=false:=by simpa using h1
 by_cases h2:512<s.length
 ·have e2:decide ((s.length:Int) > 512)=true:=decide_eq_true (by omega)
  refine aA [] ?_
  simp only[seval,kZs,h1',dD,bT,Option.bind_some,aW,Bool.not_false,dQ,gok,bI,bV,eN,Tryz.underlying9,dJ,cav,aL,bU,aP,bH,e2,eW,aI]
  refine bad _ ?_ rfl rfl rfl
  simp[qB,h0,h2]
 have e2:decide ((s.length:Int) > 512)=false:=decide_eq_false (by omega)
 refine aA [] ?_
 simp only[seval,kZs,h1',dD,bT,Option.bind_some,aW,Bool.not_false,dQ,gok,bI,bV,eN,Tryz.underlying9,dJ,cav,aL,bU,aP,bH,e2,aU,bF,aT,bA,bW,aH]
 refine aV hn cC rfl ?_
 by_cases h3:(dM 32 s).contains []=true
 ·skip
  simp only[seval,kZs,h3,aK,bU,cav,aI]
  refine bad _ ?_ rfl rfl rfl
  simp only[List.contains_iff_mem] at h3
  simp[qB,h0,h3]
 have h3':(dM 32 s).contains []=false:=by simpa using h3
 simp only[seval,kZs,h3',aK,bU,cav,aI]
 clear bad
 refine hK _ ?_
 clear hK K
 have hw:qB s=some (dM 32 s):=by
  have h3m:¬ []∈dM 32 s:=fun h=>by rw[List.contains_iff_mem.2 h] at h3';cases h3'
  unfold qB
  rw[if_neg h0,if_neg (by simp only[h1',Bool.false_eq_true,false_or,not_or];exact⟨h2,h3m⟩)]
 refine aR rfl (bC (hK1 _ ?_))
 clear hK1 K1
 refine aE [4] ?_
 simp only[seval,kZq]
 refine aC fun K hK=>aA [] ?_
 simp only[seval,kZs,cav,aI]
 and_intros<;>try first|exact⟨⟩|omega
 refine hK _ ?_
 clear hK K
 refine aE [2,3] ?_
 simp only[seval,kZq]
 refine aS ?_
 simp only[seval,qq,bR,cQ,bN,bO,dA,aB,bW,aH]
 simp[zD,hw,hn]
def aBS (s:List UInt8):Bool:=!(s == [])&&decide (s.length≤16) && !aQZ s
theorem aOG [Gv] (s:List UInt8):ACalls Tryz.prog GP 119 [str s] [] (fun x os=>os=[]∧x=.val (.bool (aBS s))):=by
 have cO:=aOI s
 have hsz:((⟨s.toArray⟩:ByteArray).size:Int)=(s.length:Int):=by simp[ByteArray.size]
 simp only[str] at *
 refine aQ Tryz.func119 rfl rfl Tryz.ntmps119 (rts:=#[4]) rfl Tryz.results119 (by simp) ?_
 simp only[seval,aZ]
 refine aC fun K hK=>aA [] ?_
 simp only[seval,kZs,cav,aI]
 and_intros<;>try first|exact⟨⟩|omega
 refine hK _ ?_
 clear hK K
 refine aE [0,2] ?_
 simp only[seval,kZq]
 refine aC fun K hK=>?_
 by_cases h0:s=[]
 ·have e0:(s == [])=true:=beq_iff_eq.2 h0
  refine aA [] ?_
  simp only[seval,kZs,cav,aL,aP,gL,ByteArray.toList_mk,e0,Bool.not_true,dD,bT,Option.bind_some,aW,eW,gok,bU,aI]
  refine hK _ ?_
  refine aE [2] ?_
  simp only[seval,kZq]
  refine aS ?_
  simp only[qq,bR,cQ,bN,bO,dA,aB,aH]
  simp[aBS,h0]
 have e0:(s == [])=false:=beq_eq_false_iff_ne.2 h0
 by_cases h1:s.length≤16
 ·have e1:decide ((s.length:Int)≤16)=true:=decide_eq_true (by omega)
  refine aA [] ?_
  simp only[seval,kZs,cav,aL,aP,gL,ByteArray.toList_mk,e0,Bool.not_false,dD,bT,Option.bind_some,aW,dQ,gok,bI,bV,eN,Tryz.underlying9,dJ,bU,bH,e1,aU,bF,aT,bA,aH]
  refine aV (by simp[aM,aH]) cO (by simp[aH]) ?_
  simp only[seval,kZs,aK,dD,bT,Option.bind_some,aW,dQ,gok,aun,bU,cav,aI]
  refine hK _ ?_
  refine aE [2] ?_
  simp only[seval,kZq]
  refine aS ?_
  simp only[qq,bR,cQ,bN,bO,dA,aB,aH]
  simp[aBS,h0,h1]
 ·have e1:decide ((s.length:Int)≤16)=false:=decide_eq_false (by omega)
  refine aA [] ?_
  simp only[seval,kZs,cav,aL,aP,gL,ByteArray.toList_mk,e0,Bool.not_false,dD,bT,Option.bind_some,aW,dQ,gok,bI,bV,eN,Tryz.underlying9,dJ,bU,bH,e1,Bool.not_true,eW,aI]
  refine hK _ ?_
  refine aE [2] ?_
  simp only[seval,kZq]
  refine aS ?_
  simp only[qq,bR,cQ,bN,bO,dA,aB,aH]
  simp[aBS,h0,h1]
def tT (l:List (List UInt8)) (i:Nat):Bool:=aBS (l.getD i [])&&(decide (i=0) || Op.bytesLess (l.getD (i - 1) []) (l.getD i []))
def aPr (l:List (List UInt8)):Bool:=(List.range l.length).all fun i=>tT l i
def lJ (s:List UInt8):Option (List (List UInt8)):=if (dM 44 s).length≤32∧aPr (dM 44 s)=true then some (dM 44 s) else none
def nN (s:List UInt8):AV:=match lJ s with
 | some l=>.tup [.sl l.length (dU l) .full,.val (.bool true)]
 | none=>.tup [.sl 0 [] .full,.val (.bool false)]
theorem aFb [Gv] (s:List UInt8) (hs:s.length≤200000):ACalls Tryz.prog GP 59 [str s] [] (fun x os=>os=[]∧x=nN s):=by
 have cS:=aBi s 44 (by omega)
 have hlen:(dM 44 s).length≤200001:=by rw[kB];have:=List.count_le_length (a:=(44:UInt8)) (l:=s);omega
 generalize hL:dM 44 s=l at *
 have hn:=dP l
 have hl:=dY l
 simp only[str] at cS ⊢
 refine aQ Tryz.func59 rfl rfl Tryz.ntmps59 (rts:=#[43,4]) rfl Tryz.results59 (by simp) ?_
 simp only[seval,aZ]
 refine aC fun K hK=>aA [] ?_
 simp only[seval,kZs,cav,aI]
 and_intros<;>try first|exact⟨⟩|omega
 refine hK _ ?_
 clear hK K
 refine aE [0,2,3] ?_
 simp only[seval,kZq]
 refine aC fun K hK=>aA [] ?_
 simp only[seval,kZs,aU,cav,bF,aT,bA,aH]
 refine aV (by simp[aM,aH]) cS (by simp[aH,hn]) ?_
 simp only[seval,kZs,aK,aI]
 refine hK _ ?_
 clear hK K
 refine aE [2,3,4] ?_
 simp only[seval,kZq]
 refine aC fun K1 hK1=>?_
 refine aC fun K hK=>aA [] ?_
 simp only[seval,kZs,bI,bV,eN,Tryz.underlying43,cav,aL,aI,aP,bH,gt_iff_lt,yM]
 and_intros<;>try first|exact⟨⟩|omega
 refine hK _ ?_
 clear hK K
 by_cases h1:32<l.length
 ·have e1:decide (32<l.length)=true:=decide_eq_true h1
  refine bG (by simp[lk,e1]) ?_
  refine aE [2,3,4] ?_
  simp only[seval,kZq]
  refine aC fun K hK=>aA [] ?_
  simp only[seval,kZs,cav,aI]
  and_intros<;>try first|exact⟨⟩|omega
  refine hK _ ?_
  clear hK K
  refine aE [2,3] ?_
  simp only[seval,kZq]
  refine aS ?_
  simp only[seval,qq,aI,bR,cQ,bN,bO,dA,aB,aM,bW,aH]
  have hw:lJ s=none:=by unfold lJ;rw[hL,if_neg (fun h=>by omega)]
  simp[nN,hw,dU]
 have e1:decide (32<l.length)=false:=decide_eq_false h1
 refine aR (by simp[lk,e1]) (bC (hK1 _ ?_))
 clear hK1 K1
 refine aE [2,3,4] ?_
 simp only[seval,kZq]
 refine aC fun K1 hK1=>?_
 refine aC fun K hK=>aA [] ?_
 simp only[seval,kZs,bI,bV,eN,Tryz.underlying43,cav,aI]
 and_intros<;>try first|exact⟨⟩|omega
 refine hK _ ?_
 clear hK K
 refine aE [2,3,4,12,13,14] ?_
 simp only[seval,kZq]
 refine bK ?_
 refine bZ (fun i:Nat=>⟨37,[(2,.sl 0 [] .full),(3,.val (.bool false)),(4,.sl l.length (dU l) .full),(12,.sl l.length (dU l) .full),(13,.val (.int .i64 (l.length:Int))),(14,.val (.int .i64 (i:Int)))],[]⟩)
  (fun i=>i≤l.length∧∀ j,j<i→tT l j=true) (fun i=>l.length - i) 0 (by simp) (.of_keep [2,3,4,12,13,14] rfl) ?_
 rintro i ⟨hi,hgood⟩
 refine aC fun K hK=>aA [] ?_
 simp only[seval,kZs,aL,aP,bH,jM,aI]
 and_intros<;>try first|exact⟨⟩|omega
 refine hK _ ?_
 clear hK K
 refine bJ ?_
 refine fB rfl rfl (fun hq=>?_) (fun hq=>?_)
 ·have hlt:i<l.length:=of_decide_eq_true hq
  refine bC ?_
  simp only[aI]
  refine aE [2,3,4,12,13,14] ?_
  simp only[seval,kZq]
  have hgd:=mR hlt
  have hne:=aOG (l.getD i [])
  refine bJ ?_
  refine bK ?_
  refine aC fun K hK=>aA [] ?_
  simp only[seval,kZs,dN,Tryz.underlying43,bD,Nat.mul_one,Int.toNat_natCast,aY,apart,aO,Tryz.underlying9,aI,List.length_drop,fL,hgd]
  and_intros<;>try first|exact⟨⟩|omega
  refine hK _ ?_
  clear hK K
  refine aE [2,3,4,5,6,12,13,14] ?_
  simp only[seval,kZq]
  refine aC fun K hK=>?_
  have bad:∀ st,lJ s=none→lk st.slots 34=.val (.bool true)→st.nt=37→st.objs=[]→K st:=by
   rintro⟨nt,sl,os⟩ hw h21 hnt hos
   simp only at h21 hnt hos
   subst hnt hos
   refine hK _ ?_
   refine bG h21 ?_
   refine aE [] ?_
   simp only[aD]
   refine aC fun K hK=>aA [] ?_
   simp only[seval,kZs,cav,aI]
   and_intros<;>try first|exact⟨⟩|omega
   refine hK _ ?_
   clear hK K
   refine aE [2,3] ?_
   simp only[seval,kZq]
   refine aS ?_
   simp only[aI,bL]
   simp only[seval,qq,bR,cQ,bN,bO,dA,aB,aM,bW,aH]
   simp[nN,hw,dU,bW,aM]
  have none_of:tT l i=false→lJ s=none:=fun h=>by
   unfold lJ
   rw[hL,if_neg]
   rintro⟨_,hr⟩
   have:=List.all_eq_true.1 hr i (List.mem_range.2 hlt)
   rw[h] at this
   cases this
  have aPP:∀ st,tT l i=true→lk st.slots 34=.val (.bool false)→aAD [2,3,4,12,13,14] st.slots=[(2,.sl 0 [] .full),(3,.val (.bool false)),(4,.sl l.length (dU l) .full),(12,.sl l.length (dU l) .full),(13,.val (.int .i64 (l.length:Int))),(14,.val (.int .i64 (i:Int)))]→st.nt=37→st.objs=[]→K st:=by
   rintro⟨nt,sl,os⟩ hw h21 hkp hnt hos
   simp only at h21 hnt hos hkp
   subst hnt hos
   refine hK _ ?_
   refine aR h21 (bC ?_)
   simp only[bL,aI]
   refine aE [2,3,4,12,13,14] ?_
   rw[hkp]
   have h6:IntKind.i64.wrap ((i+1:Nat):Int)=((i+1:Nat):Int):=fD (by omega)
   refine aA [] ?_
   simp only[seval,kZs,cav,aL,aP,bH,gO,h6,aI]
   refine⟨i+1,⟨by omega,fun j hj=>?_⟩,by omega,.of_keep [2,3,4,12,13,14] rfl⟩
   by_cases hji:j=i
   ·rw[hji];exact hw
   ·exact hgood j (by omega)
  simp only[str] at hne
  by_cases hname:aBS (l.getD i [])=true
  ·by_cases hi0:i=0
   ·subst hi0
    refine aA [] ?_
    simp only[seval,kZs,Int.cast_ofNat_Int,str,aU,bF,aT,bA,aH]
    refine aV (by simp[aM,aH]) hne rfl ?_
    simp only[seval,kZs,hname,aK,aun,Bool.not_true,dD,bT,Option.bind_some,aW,Bool.not_false,dQ,gok,cav,aL,aP,bH,Int.lt_irrefl,decide_false,eW,bU,aI]
    refine aPP _ ?_ rfl rfl rfl rfl
    unfold tT
    rw[hname]
    rfl
   ·have hp:0<i:=Nat.pos_of_ne_zero hi0
    have hgt:decide ((i:Int) > 0)=true:=decide_eq_true (by omega)
    have hgd2:=mR (l:=l) (i:=i - 1) (by omega)
    have hsub:IntKind.i64.wrap ((i:Int) - 1)=((i - 1:Nat):Int):=by
     rw[show (i:Int) - 1=((i - 1:Nat):Int) by omega];exact fD (by omega)
    refine aA [] ?_
    simp only[seval,kZs,str,aU,bF,aT,bA,aH]
    refine aV (by simp[aM,aH]) hne rfl ?_
    simp only[seval,kZs,hname,aK,aun,Bool.not_true,dD,bT,Option.bind_some,aW,Bool.not_false,dQ,gok,cav,aL,aP,bH,hgt,hsub,dN,Tryz.underlying43,bD,Nat.mul_one,Int.toNat_natCast,aY,apart,aO,Tryz.underlying9,bU,aI,List.length_drop,fL,hgd2,str,gL,ByteArray.toList_mk]
    refine⟨⟨by omega,by omega,by omega⟩,by omega,?_⟩
    cases hb:Op.bytesLess (l.getD (i - 1) []) (l.getD i []) with
    | true=>
     refine aPP _ ?_ (by simp[lk]) rfl rfl rfl
     unfold tT
     rw[hname,hb]
     simp
    | false=>
     refine bad _ (none_of ?_) (by simp[lk]) rfl rfl
     unfold tT
     rw[hb]
     simp[hi0]
  ·have hname':aBS (l.getD i [])=false:=by simpa using hname
   refine aA [] ?_
   simp only[seval,kZs,str,aU,bF,aT,bA,aH]
   refine aV (by simp[aM,aH]) hne rfl ?_
   simp only[seval,kZs,hname',aK,aun,Bool.not_false,dD,bT,Option.bind_some,aW,eW,gok,bU,cav,aI]
   refine bad _ (none_of ?_) rfl rfl rfl
   unfold tT
   rw[hname']
   rfl
 ·have he:i=l.length:=by have:=of_decide_eq_false hq;omega
  subst he
  refine dR ?_
  simp only[aI,bL,if_true]
  refine hK1 _ ?_
  clear hK1 K1
  have hw:lJ s=some l:=by
   unfold lJ
   rw[hL,if_pos]
   exact⟨by omega,List.all_eq_true.2 fun j hj=>hgood j (List.mem_range.1 hj)⟩
  refine aE [4] ?_
  simp only[seval,kZq]
  refine aC fun K hK=>aA [] ?_
  simp only[seval,kZs,cav,aI]
  and_intros<;>try first|exact⟨⟩|omega
  refine hK _ ?_
  clear hK K
  refine aE [2,3] ?_
  simp only[seval,kZq]
  refine aS ?_
  simp only[seval,qq,bR,cQ,bN,bO,dA,aB,bW,aH]
  simp[nN,hw,hn]
theorem aLW [Gv] (r:Nat) (h:128≤r) (hr:r≤1114111) (hv:Utf8.valid (r:Int)=true):∃ l:List UInt8,Utf8.encode (r:Int)=⟨l.toArray⟩∧2≤l.length∧l.length≤4∧∀ b∈l,128≤b.toNat:=by
 have hb:∀ n:Nat,128≤n→n<256→128≤(UInt8.ofNat n).toNat:=fun n h1 h2=>by simp;omega
 unfold Utf8.encode
 simp only[hv,if_true,Int.toNat_natCast]
 rw[if_neg (by omega)]
 by_cases h1:r<0x800
 ·rw[if_pos h1]
  refine⟨_,rfl,by simp,by simp,?_⟩
  simp only[List.mem_cons,List.not_mem_nil,or_false]
  rintro b (rfl|rfl)<;>exact hb _ (by omega) (by omega)
 ·rw[if_neg h1]
  by_cases h2:r<0x10000
  ·rw[if_pos h2]
   refine⟨_,rfl,by simp,by simp,?_⟩
   simp only[List.mem_cons,List.not_mem_nil,or_false]
   rintro b (rfl|rfl|rfl)<;>exact hb _ (by omega) (by omega)
  ·rw[if_neg h2]
   refine⟨_,rfl,by simp,by simp,?_⟩
   simp only[List.mem_cons,List.not_mem_nil,or_false]
   rintro b (rfl|rfl|rfl|rfl)<;>exact hb _ (by omega) (by omega)
theorem aBO [Gv] {c:UInt8} (h:128≤c.toNat):∀ {s:List UInt8},(∀ b∈s,b.toNat<128)→Lib.indexByte s c=-1
 | [],_=>rfl
 | x::xs,hs=>by
  unfold Lib.indexByte
  have hx:=hs x (by simp)
  have hne:(x == c)=false:=by
   rw[beq_eq_false_iff_ne]
   rintro rfl
   omega
  rw[hne,aBO h (fun b hb=>hs b (by simp[hb]))]
  rfl
theorem aLi [Gv] (s:List UInt8) (c:UInt8):ACalls Tryz.prog GP 295 [str s,.val (.int .u8 (c.toNat:Int))] [] (fun r os=>os=[]∧r=.val (.int .i64 (Lib.indexByte s c))):=by
 refine jA ⟨_,Tryz.func295,rfl,rfl⟩ fun E vs hl hG=>?_
 simp only[bY,bE,str] at hl
 obtain⟨_,_,rfl,rfl,_,_,rfl,rfl,rfl⟩:=hl
 refine(Tryz.strings_IndexByte ⟨s.toArray⟩ (c.toNat:Int) E.w).mono ?_
 rintro e w' ⟨rfl,rfl⟩
 refine⟨?_,Go.RowKit.Below.refl _ _⟩
 have:(c.toNat:Int).toNat.toUInt8=c:=by simp
 rw[this]
theorem aMs [Gv] (r:Int):ACalls Tryz.prog GP 296 [.val (.int .i32 r)] [] (fun x os=>os=[]∧x=.val (.bool (Lib.validRune r))):=by
 refine jA ⟨_,Tryz.func296,rfl,rfl⟩ fun E vs hl hG=>?_
 simp only[bY,bE,str] at hl
 obtain⟨_,_,rfl,rfl,rfl⟩:=hl
 refine(Tryz.utf8_ValidRune r E.w).mono ?_
 rintro e w' ⟨rfl,rfl⟩
 exact⟨rfl,Go.RowKit.Below.refl _ _⟩
theorem aLo [Gv] (r:Nat) (h1:128≤r) (h2:r≤1114111):ACalls Tryz.prog GP 288 [str [46,95,45],.val (.int .i32 (r:Int))] [] (fun x os=>os=[]∧x=.val (.int .i64 (-1))):=by
 have d1:decide ((r:Int)<128)=false:=decide_eq_false (by omega)
 have d0:decide ((0:Int)≤(r:Int))=true:=decide_eq_true (by omega)
 unfold str at *
 refine aQ Tryz.func288 rfl rfl Tryz.ntmps288 (rts:=#[3]) rfl Tryz.results288 (by simp) ?_
 simp only[seval,aZ]
 refine aC fun K hK=>aA [] ?_
 simp only[qq,aF,Nat.reduceLT,aB,cav,aG,aI]
 and_intros<;>try first|exact⟨⟩|omega
 refine hK _ ?_
 clear hK K
 refine aE [0,1] ?_
 simp only[aD,aB,Nat.reduceEqDiff,if_true,if_false]
 refine bK ?_
 refine aC fun K hK=>?_
 refine aA [] ?_
 simp only[seval,kZs,cav,aL,aP,bH,d0,dD,bT,Option.bind_some,aW,dQ,gok,d1,bU,aI]
 refine hK _ ?_
 clear hK K
 refine aE [0,1,160] ?_
 simp only[aD,aB,Nat.reduceEqDiff,if_true,if_false]
 refine aR rfl ?_
 refine aC fun K hK=>?_
 by_cases he:r=65533
 ·subst he
  refine aA [] ?_
  simp only[seval,kZs,Int.cast_ofNat_Int,cav,aL,aP,bH,beq_self_eq_true,aI]
  refine hK _ ?_
  clear hK K
  refine aE [0,1,171] ?_
  simp only[aD,aB,Nat.reduceEqDiff,if_true,if_false]
  refine bG rfl ?_
  refine aC fun K1 hK1=>?_
  refine aC fun K2 hK2=>aA [] ?_
  simp only[seval,kZs,vG,aAr,Tryz.underlying9,aI]
  refine hK2 _ ?_
  clear hK2 K2
  refine aE [175] ?_
  simp only[aD,aB,Nat.reduceEqDiff,if_true,if_false]
  refine bK ?_
  refine bZ (fun i:Nat=>⟨187,[(175,.ptr 0 0)],[.siter ⟨#[46,95,45]⟩ i]⟩) (fun i=>i≤3) (fun i=>3 - i) 0 (by omega) (.of_keep [175] rfl) ?_
  intro i hi
  have hsz:(⟨#[46,95,45]⟩:ByteArray).size=3:=rfl
  by_cases h3:i<3
  ·obtain⟨b,hb,hne⟩:∃ b:Nat,Utf8.decode ⟨#[46,95,45]⟩ i=(b,1)∧b≠65533:=by
    have:i=0∨i=1∨i=2:=by omega
    rcases this with rfl|rfl|rfl
    ·exact⟨46,by decide,by decide⟩
    ·exact⟨95,by decide,by decide⟩
    ·exact⟨45,by decide,by decide⟩
   have hbe:((b:Int) == 65533)=false:=beq_eq_false_iff_ne.2 (by omega)
   refine aC fun K hK=>aA [] ?_
   simp only[seval,kZs,vG,aCP,hsz,h3,hb,gW,aI]
   and_intros<;>try first|exact⟨⟩|omega
   refine hK _ ?_
   clear hK K
   refine bJ ?_
   refine bG rfl ?_
   refine bC ?_
   simp only[aI]
   refine aE [175,176] ?_
   simp only[aD,aB,Nat.reduceEqDiff,if_true,if_false]
   refine bK ?_
   refine aC fun K hK=>aA [] ?_
   simp only[seval,kZs,gW,aI]
   and_intros<;>try first|exact⟨⟩|omega
   refine hK _ ?_
   clear hK K
   refine aE [175,5,6] ?_
   simp only[aD,aB,Nat.reduceEqDiff,if_true,if_false]
   refine aC fun K hK=>aA [] ?_
   simp only[seval,kZs,cav,aL,aP,bH,hbe,aI]
   and_intros<;>try first|exact⟨⟩|omega
   refine hK _ ?_
   clear hK K
   refine aR rfl ?_
   refine bC ?_
   simp only[bL,aI]
   exact⟨i+1,by omega,by omega,.of_keep [175] rfl⟩
  ·skip
   refine aC fun K hK=>aA [] ?_
   simp only[seval,kZs,vG,aCP,hsz,h3,gW,aI]
   and_intros<;>try first|exact⟨⟩|omega
   refine hK _ ?_
   clear hK K
   refine bJ ?_
   refine aR rfl ?_
   refine dR ?_
   simp only[aI,bL,if_true]
   refine hK1 _ ?_
   clear hK1 K1
   refine aE [175] ?_
   simp only[aD,aB,Nat.reduceEqDiff,if_true,if_false]
   refine aC fun K hK=>aA [] ?_
   simp only[qq,aF,Nat.reduceLT,aB,cav,aG,aI]
   and_intros<;>try first|exact⟨⟩|omega
   refine hK _ ?_
   clear hK K
   refine aE [4] ?_
   simp only[aD,aB,Nat.reduceEqDiff,if_true,if_false]
   refine aS ?_
   simp only[qq,bL,bR,cQ,bN,bO,dA,aB,aH]
 ·have d2:((r:Int) == 65533)=false:=beq_eq_false_iff_ne.2 (by omega)
  refine aA [] ?_
  simp only[seval,kZs,cav,aL,aP,bH,d2,aI]
  refine hK _ ?_
  clear hK K
  refine aE [0,1,171] ?_
  simp only[aD,aB,Nat.reduceEqDiff,if_true,if_false]
  refine aR rfl ?_
  refine aC fun K hK=>aA [] ?_
  simp only[seval,kZs,aU,bF,aT,bA,aH]
  refine aV (by simp[aJ,aM,aH]) (aMs (r:Int)) (by simp[aH,aM,aJ,flat]) ?_
  simp only[seval,kZs,aK,aun,aI]
  refine hK _ ?_
  clear hK K
  have hval:Lib.validRune (r:Int)=Utf8.valid (r:Int):=by
   unfold Lib.validRune Utf8.valid
   rw[Bool.eq_iff_iff]
   simp
   omega
  rw[hval]
  cases hv:Utf8.valid (r:Int) with
  | false=>
   refine aE [0,1,183] ?_
   simp only[aD,aB,Nat.reduceEqDiff,if_true,if_false]
   refine bG rfl ?_
   refine aC fun K hK=>aA [] ?_
   simp only[seval,kZs,Bool.not_false,cav,aI]
   and_intros<;>try first|exact⟨⟩|omega
   refine hK _ ?_
   clear hK K
   refine aE [4] ?_
   simp only[aD,aB,Nat.reduceEqDiff,if_true,if_false]
   refine aS ?_
   simp only[qq,bL,bR,cQ,bN,bO,dA,aB,aH]
  | true=>
   obtain⟨l,he,hl2,hl4,hlb⟩:=aLW r h1 h2 hv
   refine aE [0,1,183] ?_
   simp only[aD,aB,Nat.reduceEqDiff,if_true,if_false]
   refine aR rfl ?_
   refine aCT ?_
   obtain⟨n,hn,hn1,hn3⟩:∃ n,l.length=n+1∧1≤n∧n≤3:=⟨l.length - 1,by omega,by omega,by omega⟩
   obtain⟨c,hc⟩:∃ c,l[n]? = some c:=⟨l[n]'(by omega),List.getElem?_eq_getElem _⟩
   have hc128:128≤c.toNat:=hlb c (List.mem_of_getElem? hc)
   have hsz:(⟨l.toArray⟩:ByteArray).size=n+1:=by rw[← hn];simp[ByteArray.size]
   have hw1:IntKind.i64.wrap ((n+1:Nat) - 1:Int)=(n:Int):=by
    have:((n+1:Nat) - 1:Int)=(n:Int):=by omega
    rw[this];exact fD (by omega)
   refine aC fun K hK=>aA [] ?_
   simp only[seval,kZs,Bool.not_true,eL,Tryz.underlying9,eG,bA,aH,fF,Tryz.underlying21,Option.isSome_some,he,aI]
   and_intros<;>try first|exact⟨⟩|omega
   refine hK _ ?_
   clear hK K
   refine aE [0,7] ?_
   simp only[aD,aB,Nat.reduceEqDiff,if_true,if_false]
   refine aC fun K hK=>aA [] ?_
   simp only[seval,kZs,bI,bV,eN,Tryz.underlying9,hsz,cav,aL,aI,aP,bH,hw1]
   and_intros<;>try first|exact⟨⟩|omega
   refine hK _ ?_
   clear hK K
   refine aE [0,7,8] ?_
   simp only[aD,aB,Nat.reduceEqDiff,if_true,if_false]
   refine aC fun K hK=>aA [] ?_
   simp only[seval,kZs,aI]
   and_intros<;>try first|exact⟨⟩|omega
   refine hK _ ?_
   clear hK K
   refine aE [0,7,8,9] ?_
   simp only[aD,aB,Nat.reduceEqDiff,if_true,if_false]
   refine aC fun K hK=>aA [] ?_
   simp only[qq,aF,Nat.reduceLT,aB,cav,aG,aI]
   and_intros<;>try first|exact⟨⟩|omega
   refine hK _ ?_
   clear hK K
   refine aE [0,7,8,9] ?_
   simp only[aD,aB,Nat.reduceEqDiff,if_true,if_false]
   have hcn:l.getD n 0=c:=by rw[List.getD_eq_getElem?_getD,hc];rfl
   have hlow:∀ k,k≤3→Lib.indexByte (([46,95,45]:List UInt8).drop k) c=-1:=fun k hk=>aBO hc128 (fun b hb=>by
    have hb:b∈([46,95,45]:List UInt8):=List.mem_of_mem_drop hb
    simp only[List.mem_cons,List.not_mem_nil,or_false] at hb
    rcases hb with rfl|rfl|rfl<;>decide)
   refine aC fun K1 hK1=>?_
   refine bK ?_
   refine bZ (fun _:Unit=>⟨187,[(0,.val (.string ⟨#[46,95,45]⟩)),(7,.val (.string ⟨l.toArray⟩)),(8,.val (.int .i64 (n:Int))),(9,.val (.int .i64 (n:Int)))],[]⟩) (fun _=>True) (fun _=>0) () trivial (.refl _) ?_
   intro _ _
   have hs3:(⟨#[46,95,45]⟩:ByteArray).size=3:=rfl
   refine aC fun K hK=>?_
   by_cases h3:n=3
   ·subst h3
    refine aC fun K hK=>aA [] ?_
    simp only[seval,kZs,Int.cast_ofNat_Int,bI,bV,eN,Tryz.underlying9,hs3,aL,aI,aP,bH]
    and_intros<;>try first|exact⟨⟩|omega
    refine hK _ ?_
    clear hK K
    refine aR rfl ?_
    refine dR ?_
    simp only[aI,bL,if_true]
    refine hK1 _ ?_
    clear hK1 K1 hK K
    refine aE [0] ?_
    simp only[aD,aB,Nat.reduceEqDiff,if_true,if_false]
    refine bJ ?_
    refine aC fun K hK=>aA [] ?_
    simp only[qq,aF,Nat.reduceLT,aB,cav,aG,aI]
    and_intros<;>try first|exact⟨⟩|omega
    refine hK _ ?_
    clear hK K
    refine aE [4] ?_
    simp only[aD,aB,Nat.reduceEqDiff,if_true,if_false]
    refine aS ?_
    show Go.V.Fin Tryz.prog [3] [.tmp 4] (fun x os=>os=[]∧x=.val (.int .i64 (-1))) .ret _
    simp only[qq,bR,cQ,bN,bO,dA,aB,aH]
   ·have hlt:decide ((n:Int)<3)=true:=decide_eq_true (by omega)
    refine aC fun K hK=>aA [] ?_
    simp only[qq,Nat.reduceLT,aF,aB,reduceCtorEq,Nat.reduceEqDiff,bI,bV,eN,Tryz.underlying9,hs3,Int.cast_ofNat_Int,aL,aG,aI,aP,bH,hlt]
    and_intros<;>try first|exact⟨⟩|omega
    refine hK _ ?_
    clear hK K
    refine bG rfl ?_
    refine bC ?_
    simp only[aI]
    refine hK _ ?_
    clear hK K
    refine aE [0,7,8,9] ?_
    simp only[aD,aB,Nat.reduceEqDiff,if_true,if_false]
    refine bK ?_
    refine aCT ?_
    refine aC fun K2 hK2=>?_
    refine aC fun K hK=>?_
    refine dW [] (by kernel_rfl) (by kernel_rfl) ?_
    have hneq:(([46,95,45]:List UInt8).getD n 0).toNat != (l.getD n 0).toNat:=by
     rw[hcn]
     have:n=1∨n=2:=by omega
     rcases this with rfl|rfl<;>(rw[bne_iff_ne];simp;omega)
    simp only[qq,Nat.reduceLT,aF,aB,reduceCtorEq,Nat.reduceEqDiff,uU,Tryz.underlying9,hs3,Int.cast_ofNat_Int,B,Int.toNat_natCast,hsz,aL,aG,aI,aP,bH,aLS,hneq]
    refine⟨⟨by omega,by omega⟩,⟨by omega,by omega⟩,hK _ ?_⟩
    clear hK K
    refine aE [0,7,8,9,33] ?_
    simp only[aD,aB,Nat.reduceEqDiff,if_true,if_false]
    refine bG rfl ?_
    refine aC fun K hK=>?_
    refine dW [] (by kernel_rfl) (by kernel_rfl) ?_
    have hw2:IntKind.i64.wrap ((n+1:Nat):Int)=((n+1:Nat):Int):=fD (by omega)
    have hix:Lib.indexByte (List.take (3 - (n+1)) (List.drop n [95,45])) c=-1:=aBO hc128 (fun b hb=>by
     have hb:b∈([95,45]:List UInt8):=List.mem_of_mem_drop (List.mem_of_mem_take hb)
     simp only[List.mem_cons,List.not_mem_nil,or_false] at hb
     rcases hb with rfl|rfl<;>decide)
    simp only[qq,Nat.reduceLT,aF,aB,reduceCtorEq,Nat.reduceEqDiff,cav,aL,aP,bH,gO,hw2,eY,iR,Option.map_some,Option.map_none,Tryz.underlying9,eJ,dH,hs3,Int.cast_ofNat_Int,Int.le_refl,Int.toNat_natCast,Int.reduceToNat,jQ,uU,hsz,B,hcn,aU,Nat.reduceAdd,bF,aT,bA,bW,List.headD_cons,List.tail_cons,Tryz.underlying5,aH]
    refine⟨⟨by omega,by omega⟩,⟨by omega,by omega⟩,?_⟩
    refine aV (by simp[aJ,aM,aH]) (aLi _ c) (by simp[aH,aM,aJ,flat]) ?_
    simp only[qq,hix,aK,aF,Nat.reduceLT,aB,Nat.reduceEqDiff,reduceCtorEq,aG,aI]
    refine hK _ ?_
    clear hK K
    refine aE [11] ?_
    simp only[aD,aB,Nat.reduceEqDiff,if_true,if_false]
    refine bJ ?_
    refine aC fun K hK=>aA [] ?_
    simp only[qq,Nat.reduceLT,aF,aB,Nat.reduceEqDiff,cav,aL,aP,bH,Int.reduceLT,aG,aI]
    and_intros<;>try first|exact⟨⟩|omega
    refine hK _ ?_
    clear hK K
    refine bG rfl ?_
    refine aC fun K hK=>aA [] ?_
    simp only[seval,kZs,cav,aI]
    and_intros<;>try first|exact⟨⟩|omega
    refine hK _ ?_
    clear hK K
    refine aE [4] ?_
    simp only[aD,aB,Nat.reduceEqDiff,if_true,if_false]
    refine aS ?_
    show Go.V.Fin Tryz.prog [3] [.tmp 4] (fun x os=>os=[]∧x=.val (.int .i64 (-1))) .ret _
    simp only[qq,bR,cQ,bN,bO,dA,aB,aH]
def iP (r:Nat):Bool:=decide ((97≤r∧r≤122)∨(65≤r∧r≤90)∨(48≤r∧r≤57)∨r=46∨r=95∨r=45)
theorem aLO [Gv] (r:Nat) (h2:r≤1114111):ACalls Tryz.prog GP 275 [str [46,95,45],.val (.int .i32 (r:Int))] [] (fun x os=>os=[]∧x=.val (.bool (decide (r=46∨r=95∨r=45)))):=by
 by_cases h1:r<128
 ·refine jA ⟨_,Tryz.func275,rfl,rfl⟩ fun E vs hl hG=>?_
  simp only[bY,bE,str] at hl
  obtain⟨_,_,rfl,rfl,_,_,rfl,rfl,rfl⟩:=hl
  refine(Tryz.strings_ContainsRune_ascii ⟨#[46,95,45]⟩ (r:Int) E.w (by omega) (by omega)).mono ?_
  rintro e w' ⟨rfl,rfl⟩
  refine⟨?_,Go.RowKit.Below.refl _ _⟩
  congr 2
  have:∀ r:Fin 128,decide (0≤Lib.indexByte [46,95,45] ((r.val:Int).toNat.toUInt8))=decide (r.val=46∨r.val=95∨r.val=45):=by decide
  exact this ⟨r,h1⟩
 ·have cI:=aLo r (by omega) h2
  have hf:decide (r=46∨r=95∨r=45)=false:=decide_eq_false (by omega)
  rw[hf]
  unfold str at *
  refine aQ Tryz.func275 rfl rfl Tryz.ntmps275 (rts:=#[4]) rfl Tryz.results275 (by simp) ?_
  simp only[seval,aZ]
  refine aC fun K hK=>aA [] ?_
  simp only[qq,aF,Nat.reduceLT,aB,cav,aG,aI]
  and_intros<;>try first|exact⟨⟩|omega
  refine hK _ ?_
  clear hK K
  refine aE [0,1] ?_
  simp only[aD,aB,Nat.reduceEqDiff,if_true,if_false]
  refine aC fun K hK=>aA [] ?_
  simp only[seval,kZs,aU,bF,aT,bA,aH]
  refine aV (by simp[aJ,aM,aH]) (cI) (by simp[aH,aM,aJ,flat]) ?_
  simp only[seval,kZs,aK,cav,aL,aP,bH,aI]
  refine hK _ ?_
  clear hK K
  refine aE [4] ?_
  simp only[aD,aB,Nat.reduceEqDiff,if_true,if_false]
  refine aS ?_
  simp only[qq,bR,cQ,bN,bO,dA,aB,aH]
  rfl
theorem aMW [Gv] (r:Nat) (h2:r≤1114111):ACalls Tryz.prog GP 244 [.val (.int .i32 (r:Int))] [] (fun x os=>os=[]∧x=.val (.bool (iP r))):=by
 have cC:=aLO r h2
 unfold str at *
 have hcase:(97≤r∧r≤122)∨(65≤r∧r≤90)∨(48≤r∧r≤57)∨r<48∨(58≤r∧r<65)∨(91≤r∧r<97)∨122<r:=by omega
 refine aQ Tryz.func244 rfl rfl Tryz.ntmps244 (rts:=#[4]) rfl Tryz.results244 (by simp) ?_
 simp only[seval,aZ]
 refine aC fun K hK=>aA [] ?_
 simp only[qq,aF,Nat.reduceLT,aB,cav,aG,aI]
 and_intros<;>try first|exact⟨⟩|omega
 refine hK _ ?_
 clear hK K
 refine aE [0] ?_
 simp only[aD,aB,Nat.reduceEqDiff,if_true,if_false]
 refine aC fun K hK=>aA [] ?_
 rcases hcase with h|h|h|h|h|h|h
 ·have da:decide ((97:Int)≤(r:Int))=true:=decide_eq_true (by omega)
  have db:decide ((r:Int)≤122)=true:=decide_eq_true (by omega)
  simp only[seval,kZs,cav,aL,aP,bH,ge_iff_le,da,dD,bT,Option.bind_some,aW,dQ,gok,db,bU,eW,aI]
  refine hK _ ?_
  clear hK K
  refine aE [2] ?_
  simp only[aD,aB,Nat.reduceEqDiff,if_true,if_false]
  refine aS ?_
  simp only[qq,bR,cQ,bN,bO,dA,aB,aH]
  have:iP r=true:=decide_eq_true (by omega)
  rw[this]
 ·have da:decide ((97:Int)≤(r:Int))=false:=decide_eq_false (by omega)
  have dc:decide ((65:Int)≤(r:Int))=true:=decide_eq_true (by omega)
  have dd:decide ((r:Int)≤90)=true:=decide_eq_true (by omega)
  simp only[seval,kZs,cav,aL,aP,bH,ge_iff_le,da,dD,bT,Option.bind_some,aW,Bool.not_true,eW,gok,bU,Bool.not_false,dQ,dc,dd,aI]
  refine hK _ ?_
  clear hK K
  refine aE [2] ?_
  simp only[aD,aB,Nat.reduceEqDiff,if_true,if_false]
  refine aS ?_
  simp only[qq,bR,cQ,bN,bO,dA,aB,aH]
  have:iP r=true:=decide_eq_true (by omega)
  rw[this]
 ·have da:decide ((97:Int)≤(r:Int))=false:=decide_eq_false (by omega)
  have dc:decide ((65:Int)≤(r:Int))=false:=decide_eq_false (by omega)
  have de:decide ((48:Int)≤(r:Int))=true:=decide_eq_true (by omega)
  have dg:decide ((r:Int)≤57)=true:=decide_eq_true (by omega)
  simp only[seval,kZs,cav,aL,aP,bH,ge_iff_le,da,dD,bT,Option.bind_some,aW,Bool.not_true,eW,gok,bU,Bool.not_false,dQ,dc,de,dg,aI]
  refine hK _ ?_
  clear hK K
  refine aE [2] ?_
  simp only[aD,aB,Nat.reduceEqDiff,if_true,if_false]
  refine aS ?_
  simp only[qq,bR,cQ,bN,bO,dA,aB,aH]
  have:iP r=true:=decide_eq_true (by omega)
  rw[this]
 ·have da:decide ((97:Int)≤(r:Int))=false:=decide_eq_false (by omega)
  have dc:decide ((65:Int)≤(r:Int))=false:=decide_eq_false (by omega)
  have de:decide ((48:Int)≤(r:Int))=false:=decide_eq_false (by omega)
  simp only[seval,kZs,cav,aL,aP,bH,ge_iff_le,da,dD,bT,Option.bind_some,aW,Bool.not_true,eW,gok,bU,Bool.not_false,dQ,dc,de,aU,bF,aT,bA,aH]
  refine aV (by simp[aJ,aM,aH]) (cC) (by simp[aH,aM,aJ,flat]) ?_
  simp only[seval,kZs,aK,bU,cav,aI]
  refine hK _ ?_
  clear hK K
  refine aE [2] ?_
  simp only[aD,aB,Nat.reduceEqDiff,if_true,if_false]
  refine aS ?_
  simp only[qq,bR,cQ,bN,bO,dA,aB,aH]
  have:iP r=decide (r=46∨r=95∨r=45):=decide_eq_decide.2 (by omega)
  rw[this]
 ·have da:decide ((97:Int)≤(r:Int))=false:=decide_eq_false (by omega)
  have dc:decide ((65:Int)≤(r:Int))=false:=decide_eq_false (by omega)
  have de:decide ((48:Int)≤(r:Int))=true:=decide_eq_true (by omega)
  have dg:decide ((r:Int)≤57)=false:=decide_eq_false (by omega)
  simp only[seval,kZs,cav,aL,aP,bH,ge_iff_le,da,dD,bT,Option.bind_some,aW,Bool.not_true,eW,gok,bU,Bool.not_false,dQ,dc,de,dg,aU,bF,aT,bA,aH]
  refine aV (by simp[aJ,aM,aH]) (cC) (by simp[aH,aM,aJ,flat]) ?_
  simp only[seval,kZs,aK,bU,cav,aI]
  refine hK _ ?_
  clear hK K
  refine aE [2] ?_
  simp only[aD,aB,Nat.reduceEqDiff,if_true,if_false]
  refine aS ?_
  simp only[qq,bR,cQ,bN,bO,dA,aB,aH]
  have:iP r=decide (r=46∨r=95∨r=45):=decide_eq_decide.2 (by omega)
  rw[this]
 ·have da:decide ((97:Int)≤(r:Int))=false:=decide_eq_false (by omega)
  have dc:decide ((65:Int)≤(r:Int))=true:=decide_eq_true (by omega)
  have dd:decide ((r:Int)≤90)=false:=decide_eq_false (by omega)
  have de:decide ((48:Int)≤(r:Int))=true:=decide_eq_true (by omega)
  have dg:decide ((r:Int)≤57)=false:=decide_eq_false (by omega)
  simp only[seval,kZs,cav,aL,aP,bH,ge_iff_le,da,dD,bT,Option.bind_some,aW,Bool.not_true,eW,gok,bU,Bool.not_false,dQ,dc,dd,de,dg,aU,bF,aT,bA,aH]
  refine aV (by simp[aJ,aM,aH]) (cC) (by simp[aH,aM,aJ,flat]) ?_
  simp only[seval,kZs,aK,bU,cav,aI]
  refine hK _ ?_
  clear hK K
  refine aE [2] ?_
  simp only[aD,aB,Nat.reduceEqDiff,if_true,if_false]
  refine aS ?_
  simp only[qq,bR,cQ,bN,bO,dA,aB,aH]
  have:iP r=decide (r=46∨r=95∨r=45):=decide_eq_decide.2 (by omega)
  rw[this]
 ·have da:decide ((97:Int)≤(r:Int))=true:=decide_eq_true (by omega)
  have db:decide ((r:Int)≤122)=false:=decide_eq_false (by omega)
  have dc:decide ((65:Int)≤(r:Int))=true:=decide_eq_true (by omega)
  have dd:decide ((r:Int)≤90)=false:=decide_eq_false (by omega)
  have de:decide ((48:Int)≤(r:Int))=true:=decide_eq_true (by omega)
  have dg:decide ((r:Int)≤57)=false:=decide_eq_false (by omega)
  simp only[seval,kZs,cav,aL,aP,bH,ge_iff_le,da,dD,bT,Option.bind_some,aW,dQ,gok,db,bU,Bool.not_false,dc,dd,de,dg,aU,bF,aT,bA,aH]
  refine aV (by simp[aJ,aM,aH]) (cC) (by simp[aH,aM,aJ,flat]) ?_
  simp only[seval,kZs,aK,bU,cav,aI]
  refine hK _ ?_
  clear hK K
  refine aE [2] ?_
  simp only[aD,aB,Nat.reduceEqDiff,if_true,if_false]
  refine aS ?_
  simp only[qq,bR,cQ,bN,bO,dA,aB,aH]
  have:iP r=decide (r=46∨r=95∨r=45):=decide_eq_decide.2 (by omega)
  rw[this]
theorem aJw [Gv] (r:Nat) (h2:r≤1114111):ACalls Tryz.prog GP 243 [.val (.int .i32 (r:Int))] [] (fun x os=>os=[]∧x=.val (.bool (!(iP r)))):=by
 have cP:=aMW r h2
 refine aQ Tryz.func243 rfl rfl Tryz.ntmps243 (rts:=#[4]) rfl Tryz.results243 (by simp) ?_
 simp only[seval,aZ]
 refine aC fun K hK=>aA [] ?_
 simp only[qq,aF,Nat.reduceLT,aB,cav,aG,aI]
 and_intros<;>try first|exact⟨⟩|omega
 refine hK _ ?_
 clear hK K
 refine aE [0] ?_
 simp only[aD,aB,Nat.reduceEqDiff,if_true,if_false]
 refine aC fun K hK=>aA [] ?_
 simp only[seval,kZs,aU,bF,aT,bA,aH]
 refine aV (by simp[aJ,aM,aH]) (cP) (by simp[aH,aM,aJ,flat]) ?_
 simp only[seval,kZs,aK,aun,aI]
 refine hK _ ?_
 clear hK K
 refine aE [2] ?_
 simp only[aD,aB,Nat.reduceEqDiff,if_true,if_false]
 refine aS ?_
 simp only[qq,bR,cQ,bN,bO,dA,aB,aH]
def kX (s:List UInt8):Bool:=decide (s≠[]∧s.length≤64∧s≠[46]∧s≠[46,46]) && !(s.any fun b=>!(iP b.toNat))
theorem aMX [Gv] (s:List UInt8):ACalls Tryz.prog GP 187 [str s] [] (fun x os=>os=[]∧x=.val (.bool (kX s))):=by
 have cF:=aBA 243 (fun r=>!(iP r)) (fun r hr=>by simp[iP];omega) (fun r hr=>aJw r hr) s
 unfold str at *
 refine aQ Tryz.func187 rfl rfl Tryz.ntmps187 (rts:=#[4]) rfl Tryz.results187 (by simp) ?_
 simp only[seval,aZ]
 refine aC fun K hK=>aA [] ?_
 simp only[qq,aF,Nat.reduceLT,aB,cav,aG,aI]
 and_intros<;>try first|exact⟨⟩|omega
 refine hK _ ?_
 clear hK K
 refine aE [0] ?_
 simp only[aD,aB,Nat.reduceEqDiff,if_true,if_false]
 refine aC fun K hK=>aA [] ?_
 have hsz:((⟨s.toArray⟩:ByteArray).size:Int)=(s.length:Int):=by simp[ByteArray.size]
 by_cases h0:s=[]
 ·have e0:(s == [])=true:=by simp[h0]
  simp only[seval,kZs,cav,aL,aP,gL,ByteArray.toList_mk,e0,Bool.not_true,dD,bT,Option.bind_some,aW,eW,gok,bU,aI]
  refine hK _ ?_
  clear hK K
  refine aE [2] ?_
  simp only[aD,aB,Nat.reduceEqDiff,if_true,if_false]
  refine aS ?_
  simp only[qq,bR,cQ,bN,bO,dA,aB,aH]
  simp[kX,h0]
 have e0:(s == [])=false:=by simp[h0]
 by_cases h1:s.length≤64
 rotate_left
 ·have e1:decide ((s.length:Int)≤64)=false:=decide_eq_false (by omega)
  simp only[seval,kZs,cav,aL,aP,gL,ByteArray.toList_mk,e0,Bool.not_false,dD,bT,Option.bind_some,aW,dQ,gok,bI,bV,eN,Tryz.underlying9,dJ,bU,bH,e1,Bool.not_true,eW,aI]
  refine hK _ ?_
  clear hK K
  refine aE [2] ?_
  simp only[aD,aB,Nat.reduceEqDiff,if_true,if_false]
  refine aS ?_
  simp only[qq,bR,cQ,bN,bO,dA,aB,aH]
  simp[kX,h1]
 have e1:decide ((s.length:Int)≤64)=true:=decide_eq_true (by omega)
 by_cases h2:s=[46]
 ·have e2:(s == [46])=true:=by simp[h2]
  simp only[seval,kZs,cav,aL,aP,gL,ByteArray.toList_mk,e0,Bool.not_false,dD,bT,Option.bind_some,aW,dQ,gok,bI,bV,eN,Tryz.underlying9,dJ,bU,bH,e1,e2,Bool.not_true,eW,aI]
  refine hK _ ?_
  clear hK K
  refine aE [2] ?_
  simp only[aD,aB,Nat.reduceEqDiff,if_true,if_false]
  refine aS ?_
  simp only[qq,bR,cQ,bN,bO,dA,aB,aH]
  simp[kX,h2]
 have e2:(s == [46])=false:=by simp[h2]
 by_cases h3:s=[46,46]
 ·have e3:(s == [46,46])=true:=by simp[h3]
  simp only[seval,kZs,cav,aL,aP,gL,ByteArray.toList_mk,e0,Bool.not_false,dD,bT,Option.bind_some,aW,dQ,gok,bI,bV,eN,Tryz.underlying9,dJ,bU,bH,e1,e2,e3,Bool.not_true,eW,aI]
  refine hK _ ?_
  clear hK K
  refine aE [2] ?_
  simp only[aD,aB,Nat.reduceEqDiff,if_true,if_false]
  refine aS ?_
  simp only[qq,bR,cQ,bN,bO,dA,aB,aH]
  simp[kX,h3]
 have e3:(s == [46,46])=false:=by simp[h3]
 simp only[seval,kZs,cav,aL,aP,gL,ByteArray.toList_mk,e0,Bool.not_false,dD,bT,Option.bind_some,aW,dQ,gok,bI,bV,eN,Tryz.underlying9,dJ,bU,bH,e1,e2,e3,aU,bF,aT,bA,aH]
 refine aV (by simp[aJ,aM,aH]) (cF) (by simp[aH,aM,aJ,flat]) ?_
 simp only[seval,kZs,aK,dD,bT,Option.bind_some,aW,dQ,gok,aun,bU,cav,aI]
 refine hK _ ?_
 clear hK K
 refine aE [2] ?_
 simp only[aD,aB,Nat.reduceEqDiff,if_true,if_false]
 refine aS ?_
 simp only[qq,bR,cQ,bN,bO,dA,aB,aH]
 simp[kX,h0,h1,h2,h3]
def lV (l:List (List UInt8)):List UInt8:=if lJ (Lib.join l [44])=some l then Lib.join l [44] else []
theorem aLy [Gv] (l:List (List UInt8)) (p:Perm) (hl:l.length≤200000) (hj:(Lib.join l [44]).length≤200000):ACalls Tryz.prog GP 109 [.sl l.length (dU l) p] [] (fun x os=>os=[]∧x=str (lV l)):=by
 have cJ:=fun q=>uJ l [44] q (by omega) (by omega)
 have cN:=aFb (Lib.join l [44]) hj
 have hl2:(dM 44 (Lib.join l [44])).length≤200001:=by rw[kB];have:=List.count_le_length (a:=(44:UInt8)) (l:=Lib.join l [44]);omega
 have hn:=dP l
 generalize hS:Lib.join l [44]=s at *
 simp only[str] at *
 refine aQ Tryz.func109 rfl rfl Tryz.ntmps109 (rts:=#[9]) rfl Tryz.results109 (by simp) ?_
 simp only[seval,aZ]
 refine aC fun K hK=>aA [] ?_
 simp only[seval,kZs,cav,aI]
 and_intros<;>try first|exact⟨⟩|omega
 refine hK _ ?_
 clear hK K
 refine aE [0,2] ?_
 simp only[seval,kZq]
 refine aC fun K hK=>aA [] ?_
 simp only[seval,kZs,aU,cav,bF,aT,bA,bW,aH]
 refine aV (by simp[aM,aH,hn]) (cJ _) (by simp[aH]) ?_
 simp only[seval,kZs,aK,aI]
 refine hK _ ?_
 clear hK K
 refine aE [0,2,3] ?_
 simp only[seval,kZq]
 refine aC fun K1 hK1=>?_
 have nope:∀ st,lJ s≠some l→st.nt=22→st.objs=[]→awp Tryz.prog GP (.seq (.region 4 #[⟨some 2,.assign (.const (.string ⟨#[]⟩)),9,"lex.go:60",#[],none⟩] false) .ret) st (aI K1 (V.Fin Tryz.prog [9] [ResultVar.tmp 2] fun x os=>os=[]∧x=.val (.string ⟨(lV l).toArray⟩))):=by
  rintro⟨nt,sl,os⟩ hw hnt hos
  simp only at hnt hos
  subst hnt hos
  refine aC fun K hK=>aA [] ?_
  simp only[seval,kZs,cav,aI]
  and_intros<;>try first|exact⟨⟩|omega
  refine hK _ ?_
  clear hK K
  refine aE [2] ?_
  simp only[seval,kZq]
  refine aS ?_
  simp only[aI,bL]
  simp only[qq,bR,cQ,bN,bO,dA,aB,aH]
  unfold lV
  rw[hS,if_neg hw]
 refine aC fun K hK=>aA [] ?_
 simp only[seval,kZs,aU,bF,aT,bA,aH]
 have hnv:aH (nN s)=true:=by
  unfold nN
  split
  ·simp only[aH,aM,dP,Bool.and_true]
  ·rfl
 refine aV (by simp[aM,aH]) cN hnv ?_
 cases hF:lJ s with
 | none=>
  simp only[seval,kZs,nN,hF,aK,gW,aI]
  refine hK _ ?_
  clear hK K
  refine aE [0,2,3,4,5] ?_
  simp only[seval,kZq]
  refine aC fun K hK=>aA [] ?_
  simp only[seval,kZs,aun,Bool.not_false,dD,bT,Option.bind_some,aW,eW,gok,bU,cav,aI]
  and_intros<;>try first|exact⟨⟩|omega
  refine hK _ ?_
  clear hK K
  refine bG rfl ?_
  exact nope _ (by rw[hF];simp) rfl rfl
 | some l'=>
  have hl':l'=dM 44 s:=by
   unfold lJ at hF
   split at hF
   ·injection hF with hF;exact hF.symm
   ·cases hF
  have cE:=fun q q'=>zB l' l q q' (by rw[hl'];omega) (by omega)
  have hn':=dP l'
  simp only[seval,kZs,nN,hF,aK,gW,aI]
  refine hK _ ?_
  clear hK K
  refine aE [0,2,3,4,5] ?_
  simp only[seval,kZq]
  refine aC fun K hK=>aA [] ?_
  simp only[seval,kZs,aun,Bool.not_true,dD,bT,Option.bind_some,aW,Bool.not_false,dQ,gok,aU,bF,aT,bA,bW]
  refine aV (by simp[aM,aH,hn,hn']) (cE _ _) rfl ?_
  by_cases hq:l'=l
  ·have e:decide (l'=l)=true:=decide_eq_true hq
   simp only[seval,kZs,e,aK,dD,bT,Option.bind_some,aW,Bool.not_false,dQ,gok,aun,Bool.not_true,bU,cav,aI]
   refine hK _ ?_
   clear hK K
   refine aR rfl (bC (hK1 _ ?_))
   clear hK1 K1 nope
   refine aE [3] ?_
   simp only[seval,kZq]
   refine aC fun K hK=>aA [] ?_
   simp only[seval,kZs,aI]
   and_intros<;>try first|exact⟨⟩|omega
   refine hK _ ?_
   clear hK K
   refine aE [2] ?_
   simp only[seval,kZq]
   refine aS ?_
   simp only[qq,bR,cQ,bN,bO,dA,aB,aH]
   unfold lV
   rw[hS,hF,hq,if_pos rfl]
  ·have e:decide (l'=l)=false:=decide_eq_false hq
   simp only[seval,kZs,e,aK,dD,bT,Option.bind_some,aW,Bool.not_false,dQ,gok,aun,bU,cav,aI]
   refine hK _ ?_
   clear hK K
   refine bG rfl ?_
   exact nope _ (by rw[hF];intro h;injection h with h;exact hq h) rfl rfl
theorem aNf [Gv] (s p:List UInt8):ACalls Tryz.prog GP 124 [str s,str p] [] (fun r os=>os=[]∧r=.tup [str (Lib.trimPrefix s p),.val (.bool (Lib.hasPrefix s p))]):=by
 refine⟨⟨_,Tryz.func124,rfl,rfl⟩,fun E vs hl ho hG=>?_⟩
 simp only[bY,bE,str] at hl
 obtain⟨_,_,rfl,rfl,_,_,rfl,rfl,rfl⟩:=hl
 refine(Tryz.strings_CutPrefix ⟨s.toArray⟩ ⟨p.toArray⟩ E.w).mono ?_
 rintro e w' ⟨rfl,rfl⟩
 exact⟨E,_,_,[],rfl,rfl,⟨rfl,rfl⟩,by simp only[bE,bY,str];exact⟨_,rfl,_,_,rfl,rfl,_,_,rfl,rfl,rfl⟩,ho,.refl _ _⟩
def nU (l:List (List UInt8)) (w:List UInt8):Option (List (List UInt8)):=
 if w=[]∨w=[46] then some l else if w=[46,46]∧l≠[] then some l.dropLast else if kX w=true then some (l++[w]) else none
def nT (l:List (List UInt8)):List (List UInt8)→Option (List (List UInt8))
 | []=>some l
 | w::ws=>(nU l w).bind fun l'=>nT l' ws
def sO (s:List UInt8):Option (List UInt8):=
 if Lib.hasPrefix s [47]=true then match nT [] (dM 47 (Lib.trimPrefix s [47])) with
  | some l=>if 256<(47::Lib.join l [47]).length then none else some (47::Lib.join l [47])
  | none=>none
 else none
def qY (s:List UInt8):AV:=match sO s with
 | some p=>.tup [str p,.val (.bool true)]
 | none=>.tup [str [],.val (.bool false)]
def LX (os:List AObj) (X:AV) (l:List (List UInt8)):Prop:=
 (l=[]∧X=.sl 0 [] .full)∨∃ r cs junk,6≤r∧X=.osl r 0 l.length (some cs.length)∧os[r]? = some (.cells cs)∧cs=dU l++junk∧0<cs.length∧aM cs=true∧jE cs=true
def NI (m:Nat) (l:List (List UInt8)) (os:List AObj):Prop:=
 l.length≤m∧∃ X rest,os=[.cells [str []],.cells [.val (.bool false)],.cells [X],.dead,.dead,.dead]++rest∧LX os X l
theorem zC [Gv] (l:List (List UInt8)) (w:List UInt8):dU (l++[w])=dU l++[str w]:=by simp[dU]
theorem aKf [Gv] {os':List AObj} {n:Nat} (h6:6≤n) (l:List (List UInt8)) (w:List UInt8) {c':Nat} (hc:l.length+1≤c') (ho:os'[n]? = some (.cells (dU l++str w::List.replicate (c' - (l.length+1)) .top))) :
  LX os' (.osl n 0 (l.length+1) (some c')) (l++[w]):=by
 have hL:(dU l++str w::List.replicate (c' - (l.length+1)) AV.top).length=c':=by
  rw[List.length_append,dY,List.length_cons,List.length_replicate];omega
 refine .inr ⟨n,_,List.replicate (c' - (l.length+1)) .top,h6,?_,ho,?_,by omega,?_,?_⟩
 ·rw[hL];simp
 ·rw[zC];simp
 ·rw[dK,dP]
  simp only[aM,aFd,str,aH,Bool.and_self]
 ·rw[rQ,aBI]
  simp only[jE,aGx,str,flat,Bool.and_self]
theorem aPA [Gv] {os':List AObj} {n:Nat} (h6:6≤n) (l:List (List UInt8)) (w:List UInt8) (junk:List AV) (hlt:l.length<(dU l++junk).length) (hn:aM (dU l++junk)=true) (hf:jE (dU l++junk)=true)
  (ho:os'[n]? = some (.cells (spl (dU l++junk) l.length [str w]))):LX os' (.osl n 0 (l.length+1) (some (dU l++junk).length)) (l++[w]):=by
 cases junk with
 | nil=>simp[dY] at hlt
 | cons j junk=>
  have e:spl (dU l++j::junk) l.length [str w]=dU (l++[w])++junk:=by
   unfold spl
   have h1:(dU l++j::junk).take l.length=dU l:=by
    have:=dY l
    rw[List.take_append_of_le_length (by omega),List.take_of_length_le (by omega)]
   have h2:(dU l++j::junk).drop (l.length+[str w].length)=junk:=by
    have:=dY l
    rw[List.drop_append,List.drop_eq_nil_of_le (by simp;omega)]
    simp[this]
   rw[h1,h2,zC]
  rw[e] at ho
  rw[dK,Bool.and_eq_true] at hn
  rw[rQ,Bool.and_eq_true] at hf
  simp only[aM,Bool.and_eq_true] at hn
  simp only[jE,Bool.and_eq_true] at hf
  refine .inr ⟨n,_,junk,h6,?_,ho,rfl,?_,?_,?_⟩
  ·simp[dY];omega
  ·simp[dY];omega
  ·rw[dK,dP,hn.2.2];rfl
  ·rw[rQ,aBI,hf.2.2];rfl
theorem aNM [Gv] {os':List AObj} {n:Nat} (h6:6≤n) (l:List (List UInt8)) (hne:l≠[]) (junk:List AV) (hn:aM (dU l++junk)=true) (hf:jE (dU l++junk)=true)
  (ho:os'[n]? = some (.cells (dU l++junk))):LX os' (.osl n 0 (l.length - 1) (some (dU l++junk).length)) l.dropLast:=by
 have e:dU l++junk=dU l.dropLast++(str (l.getLast hne)::junk):=by
  conv=>lhs;rw[← List.dropLast_concat_getLast hne]
  rw[zC];simp
 have hp:0<l.length:=List.length_pos_iff.2 hne
 refine .inr ⟨n,dU l++junk,_,h6,?_,ho,e,?_,hn,hf⟩
 ·simp
 ·simp[dY];omega
theorem xO [Gv] (a b:List (List UInt8)):∀ l,nT l (a++b)=(nT l a).bind fun l'=>nT l' b:=by
 induction a with
 | nil=>intro l;rfl
 | cons w ws ih=>
  intro l
  simp only[List.cons_append,nT]
  cases nU l w with
  | none=>rfl
  | some l'=>exact ih l'
theorem aBW [Gv] {ps:List (List UInt8)} {k:Nat} {w:List UInt8} {l:List (List UInt8)} (hw:ps[k]? = some w) (h:nT [] (ps.take k)=some l):nT [] (ps.take (k+1))=nU l w:=by
 rw[List.take_add_one,hw,xO,h]
 simp only[Option.bind_some,Option.toList_some,nT]
 cases nU l w<;>rfl
theorem aHW [Gv] {ps:List (List UInt8)} {k:Nat} {w:List UInt8} {l:List (List UInt8)} (hw:ps[k]? = some w) (h:nT [] (ps.take k)=some l) (hn:nU l w=none):nT [] ps=none:=by
 have:=xO (ps.take (k+1)) (ps.drop (k+1)) []
 rw[List.take_append_drop,aBW hw h,hn] at this
 exact this
theorem aDB [Gv] {w:List UInt8} (h:kX w=true):w.length≤64:=by
 simp only[kX,Bool.and_eq_true,decide_eq_true_eq] at h
 exact h.1.2.1
theorem aFj [Gv] {l l':List (List UInt8)} {w:List UInt8} (hl:∀ x∈l,kX x=true) (h:nU l w=some l'):∀ x∈l',kX x=true:=by
 unfold nU at h
 split at h
 ·injection h with h;subst h;exact hl
 ·split at h
  ·injection h with h;subst h;exact fun x hx=>hl x (List.mem_of_mem_take (by rw[List.dropLast_eq_take] at hx;exact hx))
  ·split at h
   ·rename_i hw
    injection h with h;subst h
    intro x hx
    rcases List.mem_append.1 hx with hx|hx
    ·exact hl x hx
    ·simp only[List.mem_singleton] at hx
     subst hx;exact hw
   ·cases h
theorem xP [Gv]:∀ {ps l l':List (List UInt8)},(∀ x∈l,kX x=true)→nT l ps=some l'→∀ x∈l',kX x=true
 | [],l,l',hl,h=>by
  injection h with h;subst h;exact hl
 | w::ws,l,l',hl,h=>by
  unfold nT at h
  cases hs:nU l w with
  | none=>rw[hs] at h;cases h
  | some l1=>
   rw[hs] at h
   exact xP (aFj hl hs) h
theorem aFh [Gv] {ps l:List (List UInt8)} (h:nT [] ps=some l):∀ x∈l,kX x=true:=xP (by simp) h
theorem tK [Gv]:∀ {l:List (List UInt8)},(∀ x∈l,kX x=true)→(Lib.join l [47]).length≤65*l.length
 | [],_=>by simp[Lib.join_nil]
 | [w],h=>by
  have:=aDB (h w (by simp))
  simp[Lib.join,List.intercalate]
  omega
 | w::x::r,h=>by
  have h1:=aDB (h w (by simp))
  have h2:=tK (l:=x::r) (fun y hy=>h y (by simp[hy]))
  have e:Lib.join (w::x::r) [47]=w++[47]++Lib.join (x::r) [47]:=by simp[Lib.join,List.intercalate]
  rw[e]
  simp only[List.length_append,List.length_cons,List.length_nil] at h2 ⊢
  omega
theorem aQU [Gv] {a b c d e f:AObj} {rest:List AObj} {r:Nat} (h:6≤r):([a,b,c,d,e,f]++rest)[r]? = rest[r - 6]?:=by
 obtain⟨m,rfl⟩:∃ m,r=m+6:=⟨r - 6,by omega⟩
 simp
theorem aCt [Gv] (s:List UInt8) (hs:s.length≤200000):ACalls Tryz.prog GP 120 [str s] [] (fun r os=>os=[]∧r=qY s):=by
 have cC:=aNf s [47]
 have hle:(Lib.trimPrefix s [47]).length≤200000:=by
  unfold Lib.trimPrefix
  split
  ·rw[List.length_drop];omega
  ·exact hs
 have cS:=aGB (Lib.trimPrefix s [47]) 47
 have hY:=aEV (Lib.trimPrefix s [47]) 47 (by omega)
 unfold SQ str at *
 refine aAd Tryz.func120 rfl rfl Tryz.ntmps120 (rts:=#[9,4]) rfl Tryz.results120 (by simp) fun n0=>?_
 simp only[seval,aZ]
 refine qM fun K hK=>aA [] ?_
 simp only[seval,kZs,dF,bS,cav,aI]
 and_intros<;>try first|exact⟨⟩|omega
 refine hK _ ?_
 clear hK K
 refine qL [0,2,3] ?_
 simp only[seval,kZq]
 refine qM fun K hK=>aA [] ?_
 simp only[seval,kZs,aU,cav,bF,aT,bA,aH]
 refine aV (by simp[aJ,aM,aH]) (cC) (by simp[aH,aM,aJ,flat]) ?_
 simp only[seval,kZs,aK,gW,aI]
 refine hK _ ?_
 clear hK K
 refine qL [2,3,4,5] ?_
 simp only[seval,kZq]
 refine qM fun K hK=>?_
 cases hp:Lib.hasPrefix s [47] with
 | false=>
  have hn:qY s=.tup [str [],.val (.bool false)]:=by simp[qY,sO,hp]
  refine aC fun K hK=>aA [] ?_
  simp only[seval,kZs,aun,Bool.not_false,aI]
  and_intros<;>try first|exact⟨⟩|omega
  refine hK _ ?_
  clear hK K
  refine bG rfl ?_
  refine aE [2,3] ?_
  simp only[seval,kZq]
  refine aC fun K hK=>aA [] ?_
  simp only[seval,qq,bQ,bX,aB,bD,bB,cav,List.all_cons,dC,Value.oneCell',List.all_nil,spl,List.drop_nil,aG,aI]
  and_intros<;>try first|exact⟨⟩|omega
  refine hK _ ?_
  clear hK K
  refine aE [2,3] ?_
  simp only[seval,kZq]
  refine aS ?_
  show Go.V.Fin Tryz.prog [9,4] [.cell 2 9,.cell 3 4] (fun r os=>os=[]∧r=qY s) .ret _
  simp only[seval,qq,hn,str,bR,cQ,bN,bO,aY,aB,apart,aO,Tryz.underlying9,dA,aH,Tryz.underlying4]
 | true=>
  refine aC fun K hK=>aA [] ?_
  simp only[seval,kZs,aun,Bool.not_true,aI]
  and_intros<;>try first|exact⟨⟩|omega
  refine hK _ ?_
  clear hK K
  refine aR rfl ?_
  refine bC ?_
  simp only[aI]
  refine hK _ ?_
  clear hK K
  refine qL [2,3,4] ?_
  simp only[seval,kZq]
  refine qM fun K hK=>aA [] ?_
  simp only[seval,kZs,dF,bS,cav,aI]
  and_intros<;>try first|exact⟨⟩|omega
  refine hK _ ?_
  clear hK K
  refine qL [2,3,4,6] ?_
  simp only[seval,kZq]
  refine aFB ?_
  refine qM fun K hK=>aA [1000017] ?_
  simp only[seval,kZs,aU,List.contains_cons,beq_self_eq_true,cav,bF,aT,bA,aH]
  refine gF [] false [9,9] ⟨by decide,by simp,by simp⟩ (C:=True∧True∧True) (by simp[gT,nR,aH]) ⟨trivial,trivial,trivial⟩ cS ⟨by simp,by simp[fU,eV,ref],by simp[ref,eV],fun h=>by cases h⟩ ?_
  simp only[yC,aEa,List.map_cons,List.map_nil,gJ,gH,ren,List.nil_append,List.length_nil,Nat.zero_add,List.cons_append,List.length_cons]
  simp only[seval,Nat.add_zero,dE,aG,aI]
  refine hK _ ?_
  clear hK K
  refine qL [2,3,6,17] ?_
  simp only[seval,kZq]
  refine aGo ?_
  have hpl:(dM 47 (Lib.trimPrefix s [47])).length≤200001:=by
   rw[kB]
   have:=List.count_le_length (a:=(47:UInt8)) (l:=Lib.trimPrefix s [47])
   omega
  generalize hps:dM 47 (Lib.trimPrefix s [47])=ps at *
  refine aGp (p:=18) hY rfl rfl rfl rfl (by decide) (by decide) (by decide) (by decide) (fun k o=>∃ l,nT [] (ps.take k)=some l∧NI k l o) (fun o=>nT [] ps=none∧∃ rest,o=.cells [str []]::.cells [.val (.bool false)]::rest) ?_ ?_ ?_ ?_
  ·exact⟨[],rfl,by simp,.sl 0 [] .full,[],rfl,.inl ⟨rfl,rfl⟩⟩
  ·rintro k x o hx ⟨l,hl,hlen,X,rest,rfl,hX⟩ r
   obtain⟨w,hw,rfl⟩:∃ w,ps[k]? = some w∧x=.string ⟨w.toArray⟩:=by
    rw[List.getElem?_map] at hx
    cases h:ps[k]? with
    | none=>rw[h] at hx;cases hx
    | some w=>rw[h] at hx;injection hx with hx;exact⟨w,rfl,hx.symm⟩
   have hkl:k<ps.length:=(List.getElem?_eq_some_iff.1 hw).1
   have hstep:=aBW hw hl
   have hstop:=aHW hw hl
   refine iB [] rfl (fun _ h=>by cases h.1) ?_
   simp only[seval,kZs]
   refine qN [2,3,6,7] ?_
   simp only[seval,kZq]
   refine aAw ?_
   refine aAw ?_
   refine rK fun K hK=>?_
   by_cases h0:w=[]∨w=[46]
   ·have hst:nU l w=some l:=by unfold nU;rw[if_pos h0]
    rw[hst] at hstep
    have fin:∀ s,gE ⟨GP.tab,[]⟩ s ⟨53,[(2,.ptr 0 0),(3,.ptr 1 0),(6,.ptr 2 0),(7,.val (.string ⟨w.toArray⟩)),(19,.val (.bool true))],[.cells [str []],.cells [.val (.bool false)],.cells [X],.dead,.dead,.dead]++rest⟩→K s:=fun s hw=>by
     refine hK s (yI hw (vO rfl (aJC ?_)))
     exact⟨l,hstep,by omega,X,rest,rfl,hX⟩
    rcases h0 with rfl|rfl
    ·refine iB [] rfl (fun _ h=>h) ?_
     simp only[seval,kZs,cav,aL,aP,gL,ByteArray.toList_mk,beq_self_eq_true,dD,bT,Option.bind_some,aW,eW,gok,bU,aI]
     exact fin _ (.of_keep [2,3,6,7,19] (by exact rfl))
    ·refine iB [] rfl (fun _ h=>h) ?_
     have e0:(([46]:List UInt8) == [])=false:=rfl
     simp only[seval,kZs,cav,aL,aP,gL,ByteArray.toList_mk,e0,dD,bT,Option.bind_some,aW,Bool.not_false,dQ,gok,beq_self_eq_true,bU,aI]
     exact fin _ (.of_keep [2,3,6,7,19] (by exact rfl))
   ·have e0:(w == [])=false:=beq_eq_false_iff_ne.2 fun h=>h0 (.inl h)
    have e1:(w == [46])=false:=beq_eq_false_iff_ne.2 fun h=>h0 (.inr h)
    refine iB [] rfl (fun _ h=>h) ?_
    simp only[seval,kZs,cav,aL,aP,gL,ByteArray.toList_mk,e0,dD,bT,Option.bind_some,aW,Bool.not_false,dQ,gok,e1,bU,aI]
    refine hK _ ?_
    clear hK K
    refine qN [2,3,6,7,19] ?_
    simp only[seval,kZq]
    refine vN rfl ?_
    refine rK fun K hK=>?_
    -- the piece is a name,or nothing
    have go:¬ (w=[46,46]∧l≠[])→∀ s,gE ⟨GP.tab,[]⟩ s ⟨53,[(2,.ptr 0 0),(3,.ptr 1 0),(6,.ptr 2 0),(7,.val (.string ⟨w.toArray⟩)),(26,.val (.bool false))],[.cells [str []],.cells [.val (.bool false)],.cells [X],.dead,.dead,.dead]++rest⟩→K s:=fun hnd s hw=>by
     refine hK s (yI hw (vN rfl ?_))
     clear hK hw K
     have cN:=aMX w
     unfold str at cN
     refine rK fun K hK=>iB [] rfl (fun _ h=>h) ?_
     simp only[seval,kZs,aU,bF,aT,bA,aH]
     refine aV (by simp[aJ,aM,aH]) (cN) (by simp[aH,aM,aJ,flat]) ?_
     simp only[seval,kZs,aK,aI]
     refine hK _ ?_
     clear hK K
     refine qN [2,3,6,7,39] ?_
     simp only[seval,kZq]
     cases hf:kX w with
     | false=>
      have hst:nU l w=none:=by unfold nU;rw[if_neg h0,if_neg hnd,if_neg (by simp[hf])]
      refine vN rfl ?_
      refine rK fun K hK=>iB [] rfl (fun _ h=>h) ?_
      simp only[seval,qq,bQ,bX,aB,bD,bB,cav,List.all_cons,dC,Value.oneCell',List.all_nil,spl,List.drop_nil,aG,aI]
      and_intros<;>try first|exact⟨⟩|omega
      refine hK _ ?_
      clear hK K
      refine qN [2,3] ?_
      simp only[seval,kZq]
      refine aKy ?_
      exact⟨hstop hst,_,rfl⟩
     | true=>
      have hst:nU l w=some (l++[w]):=by unfold nU;rw[if_neg h0,if_neg hnd,if_pos hf]
      rw[hst] at hstep
      refine vO rfl ?_
      refine aJB (n:=3) (d:=45) (ts:=42) (tx:=44) (sT:=43) (e:=9) (by_:=16) (zv:=.string ⟨#[]⟩) rfl rfl rfl rfl Tryz.underlying43 (by simp only[bD]) (by simp only[lX]) (by decide) (by simp only[bS]) rfl (fun _ h=>h) ?_
      simp only[seval,kZs,Value.oneCell',bQ,bX,bD,bB,spl,aY,apart,aO,Tryz.underlying43,dV,bS,Nat.mul_one,qC,cav,dO,eM,List.drop_nil,List.all_cons,dC,List.all_nil,dL]
      refine⟨_,_,rfl,rfl,?_⟩
      rcases hX with⟨rfl,rfl⟩|⟨r6,cs,junk,h6,rfl,ho,rfl,hpos,hnr,hfl⟩
      ·refine .inl ⟨rfl,fun c' hc'=>?_⟩
       simp only[seval,qq,List.all_cons,dC,List.all_nil,List.drop_nil,aB]
       exact⟨[w],hstep,by simp,_,_,rfl,aKf (n:=rest.length+6) (by omega) [] w hc' (by simp[dU,str])⟩
      ·have hLc:l.length≤(dU l++junk).length:=by simp[dY]
       obtain⟨m,rfl⟩:∃ m,r6=m+6:=⟨r6 - 6,by omega⟩
       refine .inr ⟨m+6,l.length,_,_,rfl,ho,rfl,hLc,hpos,by omega,hnr,hfl,fun hlt=>?_,fun hge c' hc'=>?_⟩
       ·skip
        simp only[seval,qq,spl,List.all_cons,dC,List.all_nil,List.drop_nil,aB]
        have hml:m<rest.length:=by
         have:=(List.getElem?_eq_some_iff.1 ho).1
         simp at this
         omega
        exact⟨l++[w],hstep,by simp;omega,_,_,rfl,aPA h6 l w junk hlt hnr hfl (by simp[hml,str,spl])⟩
       ·have hj:junk=[]:=List.eq_nil_of_length_eq_zero (by rw[List.length_append,dY] at hge;omega)
        subst hj
        simp only[seval,qq,List.all_cons,dC,List.all_nil,List.drop_nil,aB]
        exact⟨l++[w],hstep,by simp;omega,_,_,rfl,aKf (n:=rest.length+6) (by omega) l w hc' (by simp[str])⟩
    by_cases h1:w=[46,46]
    ·subst h1
     by_cases hl0:l=[]
     ·subst hl0
      rcases hX with⟨_,rfl⟩|⟨r6,cs,junk,h6,rfl,ho,hcs,hpos,hnr,hfl⟩
      ·refine iB [] rfl (fun _ h=>h) ?_
       simp only[seval,kZs,cav,aL,aP,gL,ByteArray.toList_mk,beq_self_eq_true,dD,bT,Option.bind_some,aW,dQ,gok,aY,apart,aO,Tryz.underlying43,Nat.zero_lt_succ,bI,bV,eN,bU,aI,Int.cast_ofNat_Int,bH,Int.lt_irrefl,decide_false]
       exact go (fun h=>h.2 rfl) _ (.of_keep [2,3,6,7,26] (by exact rfl))
      ·refine iB [] rfl (fun _ h=>h) ?_
       simp only[seval,kZs,cav,aL,aP,gL,ByteArray.toList_mk,beq_self_eq_true,dD,bT,Option.bind_some,aW,dQ,gok,aY,apart,aO,Tryz.underlying43,Nat.zero_lt_succ,bI,bV,eN,bU,aI,Int.cast_ofNat_Int,bH,Int.lt_irrefl,decide_false]
       exact go (fun h=>h.2 rfl) _ (.of_keep [2,3,6,7,26] (by exact rfl))
     ·clear go
      have hst:nU l [46,46]=some l.dropLast:=by unfold nU;rw[if_neg h0,if_pos ⟨rfl,hl0⟩]
      rw[hst] at hstep
      rcases hX with⟨h,_⟩|⟨r6,cs,junk,h6,rfl,ho,rfl,hpos,hnr,hfl⟩
      ·exact absurd h hl0
      have hp:0<l.length:=List.length_pos_iff.2 hl0
      have hgt:decide ((l.length:Int) > 0)=true:=decide_eq_true (by omega)
      refine iB [] rfl (fun _ h=>h) ?_
      simp only[seval,kZs,cav,aL,aP,gL,ByteArray.toList_mk,beq_self_eq_true,dD,bT,Option.bind_some,aW,dQ,gok,aY,apart,aO,Tryz.underlying43,bI,bV,eN,bU,aI,bH,hgt]
      refine hK _ ?_
      clear hK K
      refine qN [6,26] ?_
      simp only[seval,kZq]
      refine vO rfl ?_
      refine iB [] rfl (fun _ h=>h) ?_
      have hw1:IntKind.i64.wrap ((l.length:Int) - 1)=((l.length - 1:Nat):Int):=by
       have:((l.length:Int) - 1)=((l.length - 1:Nat):Int):=by omega
       rw[this];exact fD (by omega)
      simp only[seval,kZs,aY,apart,aO,Tryz.underlying43,bI,bV,eN,cav,aL,eY,iR,Option.map_none,Option.map_some,eJ,dH,ne_eq,iC,bQ,bX,bD,bB,spl,aP,bH,hw1,Int.le_refl,true_or,Int.sub_zero,Int.toNat_natCast,Int.toNat_zero,Nat.zero_mul,Nat.sub_zero,or_true,List.all_cons,dC,List.all_nil,List.drop_nil]
      refine⟨by omega,?_⟩
      exact⟨l.dropLast,hstep,by simp;omega,_,rest,rfl,aNM h6 l hl0 junk hnr hfl ((aQU h6).trans ((aQU h6).symm.trans ho))⟩
    ·have e2:(w == [46,46])=false:=beq_eq_false_iff_ne.2 h1
     refine iB [] rfl (fun _ h=>h) ?_
     simp only[seval,kZs,cav,aL,aP,gL,ByteArray.toList_mk,e2,dD,bT,Option.bind_some,aW,Bool.not_true,eW,gok,bU,aI]
     exact go (fun h=>h1 h.1) _ (.of_keep [2,3,6,7,26] (by exact rfl))
  ·rintro D o ⟨l,hl,hlen,X,rest,rfl,hX⟩
   rw[List.length_map,List.take_length] at hl
   rw[List.length_map] at hlen
   have h64:=aFh hl
   have hjl:=tK h64
   have cJ:∀ p,ACalls Tryz.prog ⟨GP.tab,[Go.V.aHF D]⟩ 173 [.sl l.length (dU l) p,str [47]] [] (fun r os=>os=[]∧r=str (Lib.join l [47])):=fun p=>(uJ l [47] p (by omega) (by omega)).gmono (fun _ h=>h)
   have hnv:qY s=if 256<(47::Lib.join l [47]).length then .tup [str [],.val (.bool false)] else .tup [str (47::Lib.join l [47]),.val (.bool true)]:=by
    unfold qY sO
    rw[if_pos hp,hps,hl]
    by_cases hgt:256<(47::Lib.join l [47]).length
    ·simp only[hgt,if_true]
    ·simp only[hgt,if_false]
   have hstr:dU l=dU l:=rfl
   unfold str at cJ
   refine zK ?_
   refine aE [2,3,6] ?_
   simp only[seval,kZq]
   refine aC fun K hK=>?_
   have go:∀ st,gE ⟨GP.tab,[Go.V.aHF D]⟩ st ⟨53,[(2,.ptr 0 0),(3,.ptr 1 0),(8,.val (.string ⟨(47::Lib.join l [47]).toArray⟩))],[.cells [str []],.cells [.val (.bool false)],.cells [X],.dead,.dead,.dead]++rest⟩→K st:=fun st hw=>by
    refine hK st (eX hw ?_)
    clear hK K hw
    unfold str
    refine aC fun K hK=>?_
    have hsz:((⟨(47::Lib.join l [47]).toArray⟩:ByteArray).size:Int)=((47::Lib.join l [47]).length:Int):=by simp[ByteArray.size]
    by_cases hgt:256<(47::Lib.join l [47]).length
    ·rw[if_pos hgt] at hnv
     have hd:decide (((47::Lib.join l [47]).length:Int) > 256)=true:=decide_eq_true (by omega)
     generalize (47::Lib.join l [47])=p at *
     refine aC fun K hK=>aA [] ?_
     simp only[seval,kZs,bI,bV,eN,Tryz.underlying9,dJ,cav,aL,aI,aP,bH,hd]
     and_intros<;>try first|exact⟨⟩|omega
     refine hK _ ?_
     clear hK K
     refine bG rfl ?_
     refine aC fun K hK=>aA [] ?_
     simp only[seval,qq,bQ,bX,aB,bD,bB,cav,List.all_cons,dC,Value.oneCell',List.all_nil,spl,List.drop_nil,aG,aI]
     and_intros<;>try first|exact⟨⟩|omega
     refine hK _ ?_
     clear hK K
     refine aE [2,3] ?_
     simp only[seval,kZq]
     refine aS ?_
     show Go.V.Fin Tryz.prog [9,4] [.cell 2 9,.cell 3 4] (fun r os=>os=[]∧r=qY s) .ret _
     simp only[seval,qq,hnv,str,bR,cQ,bN,bO,aY,aB,apart,aO,Tryz.underlying9,dA,aH,Tryz.underlying4]
    ·rw[if_neg hgt] at hnv
     have hd:decide (((47::Lib.join l [47]).length:Int) > 256)=false:=decide_eq_false (by omega)
     generalize (47::Lib.join l [47])=p at *
     refine aC fun K hK=>aA [] ?_
     simp only[seval,kZs,bI,bV,eN,Tryz.underlying9,dJ,cav,aL,aI,aP,bH,hd]
     and_intros<;>try first|exact⟨⟩|omega
     refine hK _ ?_
     clear hK K
     refine aR rfl ?_
     refine bC ?_
     simp only[aI]
     refine hK _ ?_
     clear hK K
     refine aE [2,3,8] ?_
     simp only[seval,kZq]
     refine aC fun K hK=>aA [] ?_
     simp only[seval,kZs,bQ,bX,bD,bB,List.all_cons,dC,Value.oneCell',List.all_nil,spl,List.drop_nil,cav,aI]
     and_intros<;>try first|exact⟨⟩|omega
     refine hK _ ?_
     clear hK K
     refine aE [2,3] ?_
     simp only[seval,kZq]
     refine aS ?_
     show Go.V.Fin Tryz.prog [9,4] [.cell 2 9,.cell 3 4] (fun r os=>os=[]∧r=qY s) .ret _
     simp only[seval,qq,hnv,str,bR,cQ,bN,bO,aY,aB,apart,aO,Tryz.underlying9,dA,aH,Tryz.underlying4]
   have hcat:(⟨#[47]⟩:ByteArray)++⟨(Lib.join l [47]).toArray⟩=⟨(47::Lib.join l [47]).toArray⟩:=by
    apply ByteArray.ext
    simp
   rcases hX with⟨rfl,rfl⟩|⟨r6,cs,junk,h6,rfl,ho,rfl,hpos,hnr,hfl⟩
   ·refine aA [] ?_
    simp only[seval,kZs,aY,apart,aO,Tryz.underlying43,aU,cav,bF,aT,bA,bW,List.headD_cons,aH,aM]
    refine aV (by simp[aJ,aM,aH]) (cJ .full) (by simp[aH,aM,aJ,flat]) ?_
    simp only[seval,kZs,aK,cav,aL,aP,gL,dJ,hcat,aI]
    exact⟨by omega,go _ (.of_keep [2,3,8] (by exact rfl))⟩
   ·obtain⟨m,rfl⟩:∃ m,r6=m+6:=⟨r6 - 6,by omega⟩
    have ho':rest[m]? = some (.cells (dU l++junk)):=ho
    have htk:(dU l++junk).take l.length=dU l:=by
     have:=dY l
     rw[List.take_append_of_le_length (by omega),List.take_of_length_le (by omega)]
    have hle':l.length≤(dU l++junk).length:=by simp[dY]
    refine aA [] ?_
    simp only[seval,kZs,aY,apart,aO,Tryz.underlying43,aU,cav,bF,aT,bA,bW,List.headD_cons,aH,ho',bD,Nat.mul_one,htk]
    refine aV (by simp[dY,dP]) (cJ .no) rfl ?_
    simp only[seval,kZs,aK,cav,aL,aP,gL,dJ,hcat,aI]
    exact⟨by omega,go _ (.of_keep [2,3,8] (by exact rfl))⟩
  ·rintro D o ⟨hn,rest,rfl⟩
   have hv:qY s=.tup [str [],.val (.bool false)]:=by simp[qY,sO,hp,hps,hn]
   show Go.V.Fin Tryz.prog [9,4] [.cell 2 9,.cell 3 4] (fun r os=>os=[]∧r=qY s) .ret _
   simp only[seval,qq,hv,str,bR,cQ,bN,bO,aY,aB,apart,aO,Tryz.underlying9,dA,aH,Tryz.underlying4]
def iI (s:List UInt8):Bool:=match sO s with
 | some q=>s == q
 | none=>false
theorem xR [Gv] (s:List UInt8) (hs:s.length≤200000):ACalls Tryz.prog GP 60 [str s] [] (fun r os=>os=[]∧r=.val (.bool (iI s))):=by
 have cN:=aCt s hs
 unfold qY at cN
 unfold iI
 cases hn:sO s with
 | none=>
  rw[hn] at cN
  unfold str at *
  refine aQ Tryz.func60 rfl rfl Tryz.ntmps60 (rts:=#[4]) rfl Tryz.results60 (by simp) ?_
  simp only[seval,aZ]
  refine aC fun K hK=>aA [] ?_
  simp only[seval,kZs,cav,aI]
  and_intros<;>try first|exact⟨⟩|omega
  refine hK _ ?_
  clear hK K
  refine aE [0] ?_
  simp only[seval,kZq]
  refine aC fun K hK=>aA [] ?_
  simp only[seval,kZs,aU,bF,aT,bA,aH]
  refine aV (by simp[aJ,aM,aH]) (cN) (by simp[aH,aM,aJ,flat]) ?_
  simp only[seval,kZs,aK,gW,aI]
  refine hK _ ?_
  clear hK K
  refine aE [0,3,4] ?_
  simp only[seval,kZq]
  refine aC fun K hK=>aA [] ?_
  simp only[seval,kZs,dD,bT,Option.bind_some,aW,Bool.not_true,eW,gok,bU,cav,aI]
  and_intros<;>try first|exact⟨⟩|omega
  refine hK _ ?_
  clear hK K
  refine aE [2] ?_
  simp only[seval,kZq]
  refine aS ?_
  simp only[qq,bR,cQ,bN,bO,dA,aB,aH]
 | some q=>
  rw[hn] at cN
  unfold str at *
  refine aQ Tryz.func60 rfl rfl Tryz.ntmps60 (rts:=#[4]) rfl Tryz.results60 (by simp) ?_
  simp only[seval,aZ]
  refine aC fun K hK=>aA [] ?_
  simp only[seval,kZs,cav,aI]
  and_intros<;>try first|exact⟨⟩|omega
  refine hK _ ?_
  clear hK K
  refine aE [0] ?_
  simp only[seval,kZq]
  refine aC fun K hK=>aA [] ?_
  simp only[seval,kZs,aU,bF,aT,bA,aH]
  refine aV (by simp[aJ,aM,aH]) (cN) (by simp[aH,aM,aJ,flat]) ?_
  simp only[seval,kZs,aK,gW,aI]
  refine hK _ ?_
  clear hK K
  refine aE [0,3,4] ?_
  simp only[seval,kZq]
  refine aC fun K hK=>aA [] ?_
  simp only[seval,kZs,dD,bT,Option.bind_some,aW,dQ,gok,aL,aP,gL,ByteArray.toList_mk,bU,cav,aI]
  and_intros<;>try first|exact⟨⟩|omega
  refine hK _ ?_
  clear hK K
  refine aE [2] ?_
  simp only[seval,kZq]
  refine aS ?_
  simp only[qq,bR,cQ,bN,bO,dA,aB,aH]
def iM (p:List UInt8):List (List UInt8):=if iI p=true∧p≠[47] then dM 47 (p.drop 1) else []
theorem aFl [Gv] {s:List UInt8} (h:iI s=true):0<s.length:=by
 unfold iI at h
 cases hn:sO s with
 | none=>rw[hn] at h;cases h
 | some q=>
  rw[hn] at h
  have:s=q:=by simpa using h
  subst this
  unfold sO at hn
  split at hn
  ·rename_i hp
   cases s with
   | nil=>simp[Lib.hasPrefix] at hp
   | cons=>simp
  ·cases hn
theorem aDC [Gv] (s:List UInt8) (hs:s.length≤200000):ACalls Tryz.prog GP 211 [str s] [] (fun r os=>os=[]∧r=.sl (iM s).length (dU (iM s)) .full):=by
 have cR:=xR s hs
 have hne:iI s=true→0<s.length:=aFl
 unfold iM
 cases hr:iI s with
 | false=>
  rw[hr] at cR
  unfold str at *
  refine aQ Tryz.func211 rfl rfl Tryz.ntmps211 (rts:=#[43]) rfl Tryz.results211 (by simp) ?_
  simp only[seval,aZ]
  refine aC fun K hK=>aA [] ?_
  simp only[seval,kZs,ne_eq,cav,aI]
  and_intros<;>try first|exact⟨⟩|omega
  refine hK _ ?_
  clear hK K
  refine aE [0] ?_
  simp only[seval,kZq]
  refine aC fun K hK=>?_
  refine aC fun K2 hK2=>aA [] ?_
  simp only[seval,kZs,ne_eq,aU,bF,aT,bA,aH]
  refine aV (by simp[aJ,aM,aH]) (cR) (by simp[aH,aM,aJ,flat]) ?_
  simp only[seval,kZs,aK,aun,Bool.not_false,dD,bT,Option.bind_some,aW,eW,gok,bU,cav,aI]
  refine hK2 _ ?_
  clear hK2 K2
  refine bG rfl ?_
  refine aC fun K hK=>aA [] ?_
  simp only[seval,kZs,ne_eq,cav,aI]
  and_intros<;>try first|exact⟨⟩|omega
  refine hK _ ?_
  clear hK K
  refine aE [2] ?_
  simp only[seval,kZq]
  refine aS ?_
  simp only[aI]
  simp only[qq,ne_eq,dU,bR,cQ,bN,bO,dA,aB,aM,bW]
  rw[if_neg (by simp)]
  rfl
 | true=>
  have hpos:=hne hr
  rw[hr] at cR
  by_cases h1:s=[47]
  ·have e1:(s == [47])=true:=beq_iff_eq.2 h1
   rw[if_neg (fun h=>h.2 h1)]
   unfold str at *
   refine aQ Tryz.func211 rfl rfl Tryz.ntmps211 (rts:=#[43]) rfl Tryz.results211 (by simp) ?_
   simp only[seval,aZ]
   refine aC fun K hK=>aA [] ?_
   simp only[seval,kZs,cav,aI]
   and_intros<;>try first|exact⟨⟩|omega
   refine hK _ ?_
   clear hK K
   refine aE [0] ?_
   simp only[seval,kZq]
   refine aC fun K hK=>?_
   refine aC fun K2 hK2=>aA [] ?_
   simp only[seval,kZs,aU,bF,aT,bA,aH]
   refine aV (by simp[aJ,aM,aH]) (cR) (by simp[aH,aM,aJ,flat]) ?_
   simp only[seval,kZs,aK,aun,Bool.not_true,dD,bT,Option.bind_some,aW,Bool.not_false,dQ,gok,cav,aL,aP,gL,ByteArray.toList_mk,e1,bU,aI]
   refine hK2 _ ?_
   clear hK2 K2
   refine bG rfl ?_
   refine aC fun K hK=>aA [] ?_
   simp only[seval,kZs,cav,aI]
   and_intros<;>try first|exact⟨⟩|omega
   refine hK _ ?_
   clear hK K
   refine aE [2] ?_
   simp only[seval,kZq]
   refine aS ?_
   simp only[aI]
   simp only[qq,dU,bR,cQ,bN,bO,dA,aB,aM,bW]
  ·have e1:(s == [47])=false:=beq_eq_false_iff_ne.2 h1
   rw[if_pos ⟨rfl,h1⟩]
   have cS:=aBi (s.drop 1) 47 (by rw[List.length_drop];omega)
   have hsz:(⟨s.toArray⟩:ByteArray).size=s.length:=by simp[ByteArray.size]
   have htk:(s.drop 1).take (s.length - 1)=s.drop 1:=List.take_of_length_le (by simp)
   unfold str at *
   refine aQ Tryz.func211 rfl rfl Tryz.ntmps211 (rts:=#[43]) rfl Tryz.results211 (by simp) ?_
   simp only[seval,aZ]
   refine aC fun K hK=>aA [] ?_
   simp only[seval,kZs,cav,aI]
   and_intros<;>try first|exact⟨⟩|omega
   refine hK _ ?_
   clear hK K
   refine aE [0] ?_
   simp only[seval,kZq]
   refine aC fun K hK=>?_
   refine aC fun K2 hK2=>aA [] ?_
   simp only[seval,kZs,aU,bF,aT,bA,aH]
   refine aV (by simp[aJ,aM,aH]) (cR) (by simp[aH,aM,aJ,flat]) ?_
   simp only[seval,kZs,aK,aun,Bool.not_true,dD,bT,Option.bind_some,aW,Bool.not_false,dQ,gok,cav,aL,aP,gL,ByteArray.toList_mk,e1,bU,aI]
   refine hK2 _ ?_
   clear hK2 K2
   refine aR rfl ?_
   refine bC ?_
   simp only[aI]
   refine hK _ ?_
   clear hK K
   refine aE [0] ?_
   simp only[seval,kZq]
   refine aC fun K hK=>aA [] ?_
   simp only[seval,kZs,eY,iR,Option.map_some,cav,Option.map_none,Tryz.underlying9,eJ,dH,hsz,Int.le_refl,Int.toNat_natCast,jQ,htk,aU,bF,aT,bA,bW,List.headD_cons,aH]
   refine⟨by omega,?_⟩
   refine aV (by simp) cS (by simp[aH,dP]) ?_
   simp only[seval,kZs,aK,aI]
   refine hK _ ?_
   clear hK K
   refine aE [2] ?_
   simp only[seval,kZq]
   refine aS ?_
   simp only[qq,bR,cQ,bN,bO,dA,aB,dP,bW]
def aBo (top p:List UInt8):Bool:=iI top&&iI p&&(decide ((iM top).length≤(iM p).length)&&decide (iM top=(iM p).take (iM top).length))
theorem aMq [Gv] (top p:List UInt8) (h1:top.length≤200000) (h2:p.length≤200000):ACalls Tryz.prog GP 154 [str top,str p] [] (fun r os=>os=[]∧r=.val (.bool (aBo top p))):=by
 have cR1:=xR top h1
 have cR2:=xR p h2
 have cN1:=aDC top h1
 have cN2:=aDC p h2
 unfold aBo
 have hlen:∀ s:List UInt8,s.length≤200000→(iM s).length≤200001:=fun s hs=>by
  unfold iM
  split
  ·rw[kB]
   have:=List.count_le_length (a:=(47:UInt8)) (l:=s.drop 1)
   rw[List.length_drop] at this
   omega
  ·simp
 have hl1:=hlen top h1
 have hl2:=hlen p h2
 cases hr1:iI top with
 | false=>
  rw[hr1] at cR1
  unfold str at *
  refine aQ Tryz.func154 rfl rfl Tryz.ntmps154 (rts:=#[4]) rfl Tryz.results154 (by simp) ?_
  simp only[seval,aZ]
  refine aC fun K hK=>aA [] ?_
  simp only[seval,kZs,cav,aI]
  and_intros<;>try first|exact⟨⟩|omega
  refine hK _ ?_
  clear hK K
  refine aE [0,1] ?_
  simp only[seval,kZq]
  refine aC fun K hK=>?_
  refine aC fun K2 hK2=>aA [] ?_
  simp only[seval,kZs,aU,bF,aT,bA,aH]
  refine aV (by simp[aJ,aM,aH]) (cR1) (by simp[aH,aM,aJ,flat]) ?_
  simp only[seval,kZs,aK,aun,Bool.not_false,dD,bT,Option.bind_some,aW,eW,gok,bU,cav,aI]
  refine hK2 _ ?_
  clear hK2 K2
  refine bG rfl ?_
  refine aC fun K hK=>aA [] ?_
  simp only[seval,kZs,cav,aI]
  and_intros<;>try first|exact⟨⟩|omega
  refine hK _ ?_
  clear hK K
  refine aE [4] ?_
  simp only[seval,kZq]
  refine aS ?_
  simp only[aI]
  simp only[qq,bR,cQ,bN,bO,dA,aB,aH]
  rfl
 | true=>
  rw[hr1] at cR1
  cases hr2:iI p with
  | false=>
   rw[hr2] at cR2
   unfold str at *
   refine aQ Tryz.func154 rfl rfl Tryz.ntmps154 (rts:=#[4]) rfl Tryz.results154 (by simp) ?_
   simp only[seval,aZ]
   refine aC fun K hK=>aA [] ?_
   simp only[seval,kZs,Bool.true_and,cav,aI]
   and_intros<;>try first|exact⟨⟩|omega
   refine hK _ ?_
   clear hK K
   refine aE [0,1] ?_
   simp only[seval,kZq]
   refine aC fun K hK=>?_
   refine aC fun K2 hK2=>aA [] ?_
   simp only[seval,kZs,Bool.true_and,aU,bF,aT,bA,aH]
   refine aV (by simp[aJ,aM,aH]) (cR1) (by simp[aH,aM,aJ,flat]) ?_
   simp only[seval,kZs,aK,aun,Bool.not_true,dD,bT,Option.bind_some,aW,Bool.not_false,dQ,gok,aU,bF,aT,bA,aH]
   refine aV (by simp[aJ,aM,aH]) (cR2) (by simp[aH,aM,aJ,flat]) ?_
   simp only[seval,kZs,aK,dD,bT,Option.bind_some,aW,Bool.not_false,dQ,gok,aun,bU,cav,aI]
   refine hK2 _ ?_
   clear hK2 K2
   refine bG rfl ?_
   refine aC fun K hK=>aA [] ?_
   simp only[seval,kZs,Bool.true_and,cav,aI]
   and_intros<;>try first|exact⟨⟩|omega
   refine hK _ ?_
   clear hK K
   refine aE [4] ?_
   simp only[seval,kZq]
   refine aS ?_
   simp only[aI]
   simp only[qq,Bool.true_and,bR,cQ,bN,bO,dA,aB,aH]
   rfl
  | true=>
   rw[hr2] at cR2
   unfold str at cR1 cR2 cN1 cN2 ⊢
   generalize iM top=X at *
   generalize iM p=Y at *
   refine aQ Tryz.func154 rfl rfl Tryz.ntmps154 (rts:=#[4]) rfl Tryz.results154 (by simp) ?_
   simp only[seval,aZ]
   refine aC fun K hK=>aA [] ?_
   simp only[seval,kZs,Bool.true_and,cav,aI]
   and_intros<;>try first|exact⟨⟩|omega
   refine hK _ ?_
   clear hK K
   refine aE [0,1] ?_
   simp only[seval,kZq]
   refine aC fun K hK=>?_
   refine aC fun K2 hK2=>aA [] ?_
   simp only[seval,kZs,Bool.true_and,aU,bF,aT,bA,aH]
   refine aV (by simp[aJ,aM,aH]) (cR1) (by simp[aH,aM,aJ,flat]) ?_
   simp only[seval,kZs,aK,aun,Bool.not_true,dD,bT,Option.bind_some,aW,Bool.not_false,dQ,gok,aU,bF,aT,bA,aH]
   refine aV (by simp[aJ,aM,aH]) (cR2) (by simp[aH,aM,aJ,flat]) ?_
   simp only[seval,kZs,aK,dD,bT,Option.bind_some,aW,Bool.not_false,dQ,gok,aun,Bool.not_true,bU,cav,aI]
   refine hK2 _ ?_
   clear hK2 K2
   refine aR rfl ?_
   refine bC ?_
   simp only[aI]
   refine hK _ ?_
   clear hK K
   refine aE [0,1] ?_
   simp only[seval,kZq]
   refine aC fun K hK=>aA [] ?_
   simp only[seval,kZs,Bool.true_and,aU,bF,aT,bA,aH]
   refine aV (by simp) cN1 (by simp[aH,dP]) ?_
   simp only[seval,kZs,aK,aU,bF,aT,bA,aH]
   refine aV (by simp) cN2 (by simp[aH,dP]) ?_
   simp only[seval,kZs,aK,aI]
   refine hK _ ?_
   clear hK K
   refine aE [5,6] ?_
   simp only[seval,kZq]
   refine aC fun K hK=>?_
   have hk:∀ b,(decide (X.length≤Y.length)&&decide (X=Y.take X.length))=b→∀ st,gE GP st ⟨32,[(4,.val (.bool b))],[]⟩→K st:=fun b hb st hw=>by
    refine hK st (eX hw ?_)
    refine aS ?_
    simp only[qq,Bool.true_and,bR,cQ,bN,bO,dA,aB,aH]
    rw[hb]
   by_cases hle:X.length≤Y.length
   ·have hd:decide ((X.length:Int)≤(Y.length:Int))=true:=decide_eq_true (by omega)
    have hBt:(dU Y).take X.length=dU (Y.take X.length):=by simp[dU,List.map_take]
    have hBl:(Y.take X.length).length=X.length:=by rw[List.length_take];omega
    have cE:=zB X (Y.take X.length) .full .no (by omega) (by omega)
    rw[hBl] at cE
    refine aA [] ?_
    simp only[seval,kZs,Bool.true_and,bI,bV,eN,Tryz.underlying43,aL,aP,bH,hd,dD,bT,Option.bind_some,aW,dQ,gok,eY,iR,Option.map_none,Option.map_some,bD,Nat.mul_one,eJ,dH,ne_eq,iC,aU,bF,aT,bA,bW,List.tail_cons,List.headD_cons,Int.le_refl,true_or,Int.sub_zero,Int.toNat_natCast,Int.toNat_zero,hBt]
    refine⟨⟨dY _,by omega,by omega⟩,?_⟩
    refine aV ⟨dP _,dP _⟩ cE rfl ?_
    simp only[seval,kZs,aK,bU,cav,aI]
    exact hk _ (by simp[hle]) _ (.of_keep [4] rfl)
   ·have hd:decide ((X.length:Int)≤(Y.length:Int))=false:=decide_eq_false (by omega)
    refine aA [] ?_
    simp only[seval,kZs,Bool.true_and,bI,bV,eN,Tryz.underlying43,aL,aP,bH,hd,dD,bT,Option.bind_some,aW,Bool.not_true,eW,gok,bU,cav,aI]
    exact hk _ (by simp[hle]) _ (.of_keep [4] rfl)
def PD (k:Int) (t:Nat) (n:Nat) (cs:List AV) (q:Perm) (pa:List UInt8) (M:List AV):List AV:=.val (.int .i64 k)::.val (.int .u64 (t:Int))::.sl n cs q::str pa::M
structure MF (M:List AV) (N:List AV) (c:Nat):Prop where
 eq:M=N++[.val (.float .f64 c)]
 len:N.length=18
 ones:N.all dC=true
 nor:aM N=true
theorem aBq [Gv] (t:Nat) (l:List (List UInt8)) (q:Perm) (hq:fG q=true) (pa:List UInt8) (M N:List AV) (c:Nat) (hM:MF M N c) (hl:l.length≤200000) (hj:(Lib.join l [44]).length≤200000) :
  ACalls Tryz.prog GP 53 [.ptr 0 0] [.cells (PD 3 t l.length (dU l) q pa M)] (fun r os=>os=[.cells (PD 3 t 0 [] .full pa M)]∧r=.tup [str [111,112],str (lV l)]):=by
 have cJ:=fun q=>aLy l q hl hj
 have hn:=dP l
 have hMl:M.length=19:=by rw[hM.eq];simp[hM.len]
 have hMo:M.all dC=true:=by rw[hM.eq,List.all_append,hM.ones];rfl
 have hMn:aM M=true:=by rw[hM.eq,dK,hM.nor];rfl
 have hMt:M.take 19=M:=List.take_of_length_le (by omega)
 have hMd:M.drop 19=[]:=List.drop_eq_nil_of_le (by omega)
 simp only[str,PD] at *
 refine dB Tryz.func53 rfl rfl Tryz.ntmps53 (rts:=#[9,9]) rfl Tryz.results53 (by simp) ?_
 simp only[seval,aZ]
 refine aC fun K hK=>aA [] ?_
 simp only[seval,kZs,cav,aI]
 and_intros<;>try first|exact⟨⟩|omega
 refine hK _ ?_
 clear hK K
 refine aE [0,2,3] ?_
 simp only[seval,kZq]
 refine aC fun K hK=>aA [] ?_
 simp only[seval,kZs,fY,aY,apart,aO,Tryz.underlying81,bD,dF,bS,cav,bQ,bX,bB,spl,aI,hMl,hMt,List.all_cons,dC,Value.oneCell',hMo,List.drop_nil]
 refine hK _ ?_
 clear hK K
 refine aE [0,2,3,4] ?_
 simp only[seval,kZq]
 refine aC fun K1 hK1=>?_
 refine bJ ?_
 refine aA [] ?_
 simp only[seval,kZs,fY,aN,Tryz.underlying81,bD,ne_eq,aY,apart,aO,Tryz.underlying3,aI,hMl]
 refine bK ?_
 refine aC fun K2 hK2=>?_
 refine bJ ?_
 refine aA [] ?_
 simp only[seval,kZs,cav,aL,aP,bH,aI]
 refine aR rfl ?_
 refine aA [] ?_
 simp only[seval,kZs,cav,aL,aP,bH,aI]
 refine hK2 _ ?_
 clear hK2 K2
 refine aR rfl ?_
 refine bJ ?_
 refine aA [] ?_
 simp only[seval,kZs,cav,aL,aP,bH,beq_self_eq_true,aI]
 refine bG rfl ?_
 refine aE [0,4] ?_
 simp only[seval,kZq]
 refine aA [] ?_
 simp only[seval,kZs,aN,Tryz.underlying81,bD,ne_eq,aY,apart,aO,Tryz.underlying43,aU,bF,aT,bA,bW,List.headD_cons,hMl,List.getD_cons_succ]
 refine aV hn (cJ _) (by simp[aH]) ?_
 simp only[seval,kZs,aK,cav,fY,aN,Tryz.underlying81,bD,ne_eq,bQ,bX,bB,List.all_cons,dC,List.all_nil,spl,hMl]
 simp only[bL,aI]
 refine hK1 _ ?_
 clear hK1 K1
 refine aE [2,3] ?_
 simp only[seval,kZq]
 refine aC fun K hK=>aA [] ?_
 simp only[seval,kZs,aI]
 and_intros<;>try first|exact⟨⟩|omega
 refine hK _ ?_
 clear hK K
 refine aE [2,3] ?_
 simp only[seval,kZq]
 refine aS ?_
 refine fE (by simp) ?_ ?_
 ·intro o ho
  simp only[List.take_succ_cons,List.take_zero,List.mem_cons,List.not_mem_nil,or_false,List.length_cons,List.length_nil] at ho
  subst ho
  simp[fU,eV,ref,jH,bM _ _ hMn]
 simp only[seval,qq,gS,gB,fJ,fR,aB]
 rfl
theorem aPt [Gv] (c:Nat) (w:World):(callFunc 113 #[.float .f64 c]).run Tryz.prog w=.ok (.value (.int .u64 (c:Int))) w:=by
 have h:Tryz.prog.funcs[113]? = some Tryz.f113:=Tryz.func113
 have hb:Tryz.f113.body=none:=rfl
 have h1:Extern.findNext Tryz.f113=none:=by rfl
 have h2:Extern.find Tryz.f113=some Extern.MathFloatBits.float64bits:=by rfl
 have h3:Extern.MathFloatBits.float64bits #[.float .f64 c]=pure (.int .u64 (c:Int)):=rfl
 have hn':Tryz.f113.name≠"runtime.NumGoroutine" := by decide
 unfold callFunc
 simp[h,hb,h1,h2,h3,hn']
theorem aQf [Gv] (c:Nat) (w:World):(callFunc 45 #[.int .u64 (c:Int)]).run Tryz.prog w=.ok (.value (.float .f64 c)) w:=by
 have h:Tryz.prog.funcs[45]? = some Tryz.f45:=Tryz.func45
 have hb:Tryz.f45.body=none:=rfl
 have h1:Extern.findNext Tryz.f45=none:=by rfl
 have h2:Extern.find Tryz.f45=some Extern.MathFloatBits.float64frombits:=by rfl
 have h3:Extern.MathFloatBits.float64frombits #[.int .u64 (c:Int)]=pure (.float .f64 c):=rfl
 have hn':Tryz.f45.name≠"runtime.NumGoroutine" := by decide
 unfold callFunc
 simp[h,hb,h1,h2,h3,hn']
theorem nE [Gv] (c:Nat):aMz Tryz.prog 113 [.val (.float .f64 c)] (.int .u64 (c:Int)):=fun E vs hl=>by
 simp only[bY,bE] at hl
 obtain⟨_,_,rfl,rfl,rfl⟩:=hl
 exact aPt c E.w
theorem oT [Gv] (c:Nat):aMz Tryz.prog 45 [.val (.int .u64 (c:Int))] (.float .f64 c):=fun E vs hl=>by
 simp only[bY,bE] at hl
 obtain⟨_,_,rfl,rfl,rfl⟩:=hl
 exact aQf c E.w
def NT (v6:Bool) (b:List UInt8) (bits:Int):List AV:=.val (.bool v6)::(Bs b++[.val (.int .i64 bits)])
theorem fZ [Gv] (v6:Bool) (b:List UInt8) (bits:Int) (hb:b.length=16):(NT v6 b bits).length=18:=by simp[NT,aX,hb]
theorem jO [Gv] (v6:Bool) (b:List UInt8) (bits:Int):(NT v6 b bits).all dC=true:=by simp[NT,eR,dC,Value.oneCell']
theorem iZ [Gv] (v6:Bool) (b:List UInt8) (bits:Int):aM (NT v6 b bits)=true:=by simp[NT,aM,aH,dK,Go.V.aJ]
theorem aAi [Gv] (v6 v6':Bool) (b b':List UInt8) (bits bits':Int) (hb:b.length=16) (hb':b'.length=16):iN (NT v6 b bits) (NT v6' b' bits')=((v6 == v6')&&((b == b')&&(bits == bits'))):=by
 unfold NT
 rw[iN,rI _ _ _ _ (by rw[aX,aX];omega),aAh]
 simp[iN,vQ]
theorem aHL [Gv] (v6 v6':Bool) (b b':List UInt8) (bits bits':Int) (hb:b.length=16) (hb':b'.length=16):mC Tryz.prog 10 79 (NT v6 b bits) (NT v6' b' bits')=true:=by
 have h2:=aDi (P:=Tryz.prog) (e:=5) Tryz.underlying5 b b' (by omega)
 have e1:∀ (x:AV) (b:List UInt8),b.length=16→(Bs b++[x]).take 16=Bs b:=fun x b hb=>by
  have:(Bs b).length=16:=by rw[aX,hb]
  rw[← this];simp
 have e2:∀ (x:AV) (b:List UInt8),b.length=16→(Bs b++[x]).drop 16=[x]:=fun x b hb=>by
  have:(Bs b).length=16:=by rw[aX,hb]
  rw[← this];simp
 have e3:∀ (b:List UInt8),b.length=16→(Bs b).take 16=Bs b:=fun b hb=>List.take_of_length_le (by rw[aX,hb];exact Nat.le_refl _)
 have hArr:∀ d,mC Tryz.prog (d+1) 24 (Bs b) (Bs b')=true:=fun d=>by
  unfold mC
  rw[Tryz.underlying24]
  simp[bD,h2,aX,hb]
 have hBool:∀ d,mC Tryz.prog (d+1) 4 [.val (.bool v6)] [.val (.bool v6')]=true:=fun d=>by
  unfold mC
  rw[Tryz.underlying4]
  simp[pK,Tryz.underlying4]
 have hInt:∀ d,mC Tryz.prog (d+1) 3 [.val (.int .i64 bits)] [.val (.int .i64 bits')]=true:=fun d=>by
  unfold mC
  rw[Tryz.underlying3]
  simp[pK,Tryz.underlying3]
 have hAddr:∀ d,mC Tryz.prog (d+2) 26 (.val (.bool v6)::Bs b) (.val (.bool v6')::Bs b')=true:=fun d=>by
  unfold mC
  rw[Tryz.underlying26]
  simp[xA,bD,aDJ,hArr,hBool,aX,hb,hb',e3 _ hb,e3 _ hb',List.drop_eq_nil_of_le]
 unfold mC
 rw[Tryz.underlying79]
 simp[xA,bD,aDJ,hAddr,hInt,NT,e1 _ _ hb,e1 _ _ hb',e2 _ _ hb,e2 _ _ hb',aX,hb,hb']
theorem aOS [Gv] (k k':Int) (t t':Nat) (l l':List (List UInt8)) (q q':Perm) (hq:fG q=true) (hq':fG q'=true) (pa pa':List UInt8) (v6 v6':Bool) (b b':List UInt8) (bits bits':Int) (c c':Nat) (hb:b.length=16) (hb':b'.length=16)
  (hl:l.length≤200000) (hl':l'.length≤200000) :
  ACalls Tryz.prog GP 54 [.agg (PD k t l.length (dU l) q pa (NT v6 b bits++[.val (.float .f64 c)])),.agg (PD k' t' l'.length (dU l') q' pa' (NT v6' b' bits'++[.val (.float .f64 c')]))] []
   (fun r os=>os=[]∧r=.val (.bool ((k == k')&&((t == t')&&(decide (l=l')&&((pa == pa')&&(((v6 == v6')&&((b == b')&&(bits == bits')))&&(c == c')))))))):=by
 have cE:=fun q q'=>zB l l' q q' (by omega) (by omega)
 have cF:=nE c
 have cF':=nE c'
 have hn:=dP l
 have hn':=dP l'
 have hcmp:=aHL v6 v6' b b' bits bits' hb hb'
 have hagg:=aAi v6 v6' b b' bits bits' hb hb'
 have h1:=fZ v6 b bits hb
 have h1':=fZ v6' b' bits' hb'
 have h2:=jO v6 b bits
 have h2':=jO v6' b' bits'
 have h3:=iZ v6 b bits
 have h3':=iZ v6' b' bits'
 generalize NT v6 b bits=N at *
 generalize NT v6' b' bits'=N' at *
 generalize hnet:((v6 == v6')&&((b == b')&&(bits == bits')))=net at *
 have eo:(N++[.val (.float .f64 c)]:List AV).all dC=true:=by rw[List.all_append,h2];rfl
 have eo':(N'++[.val (.float .f64 c')]:List AV).all dC=true:=by rw[List.all_append,h2'];rfl
 have el:(N++[.val (.float .f64 c)]:List AV).length=19:=by simp[h1]
 have el':(N'++[.val (.float .f64 c')]:List AV).length=19:=by simp[h1']
 have et:(N++[.val (.float .f64 c)]:List AV).take 18=N:=by rw[← h1];simp
 have et':(N'++[.val (.float .f64 c')]:List AV).take 18=N':=by rw[← h1'];simp
 have eg:(N++[.val (.float .f64 c)]:List AV).getD 18 .top=.val (.float .f64 c):=by rw[← h1];simp
 have eg':(N'++[.val (.float .f64 c')]:List AV).getD 18 .top=.val (.float .f64 c'):=by rw[← h1'];simp
 generalize (N++[.val (.float .f64 c)]:List AV)=M at *
 generalize (N'++[.val (.float .f64 c')]:List AV)=M' at *
 simp only[str,PD] at *
 refine aQ Tryz.func54 rfl rfl Tryz.ntmps54 (rts:=#[4]) rfl Tryz.results54 (by simp) ?_
 simp only[seval,aZ]
 refine aC fun K hK=>aA [] ?_
 simp only[seval,kZs,eF,bB,List.all_cons,dC,Value.oneCell',eo,fN,eo',cav,aI]
 and_intros<;>try first|exact⟨⟩|omega
 refine hK _ ?_
 clear hK K
 refine aE [2,3,4] ?_
 simp only[seval,kZq]
 refine aC fun K hK=>?_
 have fin:∀ st (r:Bool),r=((k == k')&&((t == t')&&(decide (l=l')&&((pa == pa')&&(net&&(c == c'))))))→lk st.slots 4=.val (.bool r)→st.nt=47→K st:=by
  rintro⟨nt,sl,os⟩ r hr h4 hnt
  simp only at h4 hnt
  subst hnt
  refine hK _ ?_
  refine aE [4] ?_
  simp only[aD,h4]
  refine aS ?_
  simp only[qq,bR,cQ,bN,bO,dA,aB,aH]
  rw[hr]
 refine dW [] (by kernel_rfl) (by kernel_rfl) ?_
 by_cases q1:k=k'
 case neg=>
  have q1':(k == k')=false:=beq_eq_false_iff_ne.2 q1
  simp only[seval,kZs,q1',aN,Tryz.underlying81,bD,ne_eq,aY,apart,aO,Tryz.underlying3,aL,el',el,aP,bH,dD,bT,Option.bind_some,aW,Bool.not_true,eW,gok,bU,cav,aI]
  refine fin _ false (by simp[q1']) rfl rfl
 have q1':(k == k')=true:=beq_iff_eq.2 q1
 by_cases q2:t=t'
 case neg=>
  have q2':(t == t')=false:=beq_eq_false_iff_ne.2 q2
  have q2i:(((t:Nat):Int) == ((t':Nat):Int))=false:=beq_eq_false_iff_ne.2 (by omega)
  simp only[seval,kZs,q1',q2',Bool.true_and,aN,Tryz.underlying81,bD,ne_eq,aY,apart,aO,Tryz.underlying3,aL,el',el,aP,bH,dD,bT,Option.bind_some,aW,dQ,gok,Tryz.underlying30,bU,cav,List.getD_cons_succ,q2i,Bool.not_true,eW,aI]
  refine fin _ false (by simp[q1',q2']) rfl rfl
 have q2':(t == t')=true:=beq_iff_eq.2 q2
 have q2i:(((t:Nat):Int) == ((t':Nat):Int))=true:=beq_iff_eq.2 (by omega)
 simp only[seval,kZs,q1',q2',Bool.true_and,aN,Tryz.underlying81,bD,ne_eq,aY,apart,aO,Tryz.underlying3,aL,el',el,aP,bH,dD,bT,Option.bind_some,aW,dQ,gok,Tryz.underlying30,bU,cav,List.getD_cons_succ,q2i,Tryz.underlying43,aU,bF,aT,bA,bW,List.headD_cons,List.tail_cons]
 refine aV (by simp[aM,aH,hn,hn']) (cE _ _) rfl ?_
 by_cases q3:l=l'
 case neg=>
  have q3':decide (l=l')=false:=decide_eq_false q3
  simp only[seval,kZs,q3',aK,bU,cav,dD,bT,Option.bind_some,aW,Bool.not_true,eW,gok,aI]
  refine fin _ false (by simp[q1',q2',q3']) rfl rfl
 have q3':decide (l=l')=true:=decide_eq_true q3
 by_cases q4:pa=pa'
 case neg=>
  have q4':(pa == pa')=false:=beq_eq_false_iff_ne.2 q4
  simp only[seval,kZs,q3',q4',Bool.true_and,aK,bU,cav,dD,bT,Option.bind_some,aW,dQ,gok,aN,Tryz.underlying81,bD,ne_eq,aY,apart,aO,Tryz.underlying9,aL,el',List.getD_cons_succ,el,aP,gL,ByteArray.toList_mk,Bool.not_true,eW,aI]
  refine fin _ false (by simp[q1',q2',q3',q4']) rfl rfl
 have q4':(pa == pa')=true:=beq_iff_eq.2 q4
 simp only[seval,kZs,q3',q4',Bool.true_and,aK,bU,cav,dD,bT,Option.bind_some,aW,dQ,gok,aN,Tryz.underlying81,bD,ne_eq,aY,apart,aO,Tryz.underlying9,aL,el',List.getD_cons_succ,el,aP,gL,ByteArray.toList_mk,Tryz.underlying79,et',et,aDW,tC,aGG,aDJ,hagg]
 refine⟨.inr ?_,?_⟩
 ·have hcmp':=hcmp
  unfold mC at hcmp'
  rw[Tryz.underlying79] at hcmp'
  simp only[Bool.and_eq_true] at hcmp'
  exact hcmp'.2
 have q5:net=true∨net=false:=by cases net<;>simp
 rcases q5 with rfl|rfl
 case inr=>
  simp only[seval,kZs,dD,bT,Option.bind_some,aW,Bool.not_true,eW,gok,bU,cav,aI]
  refine fin _ false (by simp[q1',q2',q3',q4']) rfl rfl
 simp only[seval,kZs,Bool.true_and,dD,bT,Option.bind_some,aW,dQ,gok,aN,Tryz.underlying81,bD,ne_eq,aY,apart,aO,Tryz.underlying27,aU,bF,aT,bA,bW,List.headD_cons,el,List.getD_cons_succ,eg,aH]
 refine iT (by simp[aM,aH]) cF ?_
 simp only[seval,kZs,aK,dD,bT,Option.bind_some,aW,dQ,gok,aN,Tryz.underlying81,bD,ne_eq,aY,apart,aO,Tryz.underlying27,aU,bF,aT,bA,bW,List.headD_cons,el',List.getD_cons_succ,eg',aH]
 refine iT (by simp[aM,aH]) cF' ?_
 simp only[seval,kZs,aK,dD,bT,Option.bind_some,aW,dQ,gok,aL,aP,bH,bU,cav,aI]
 have q6:(((c:Nat):Int) == ((c':Nat):Int))=(c == c'):=by
  rw[Bool.eq_iff_iff]
  simp only[beq_iff_eq]
  omega
 simp only[q6]
 refine fin _ (c == c') (by simp[q1',q2',q3',q4']) rfl rfl
structure PV where
 kind:Int
 time:Nat
 names:List (List UInt8)
 path:List UInt8
 v6:Bool
 addr:List UInt8
 bits:Int
 cost:Nat
def PA (p:PV) (q:Perm):List AV:=PD p.kind p.time p.names.length (dU p.names) q p.path (NT p.v6 p.addr p.bits++[.val (.float .f64 p.cost)])
def vB (k:Int):PV:=⟨k,0,[],[],false,Z 16,0,0⟩
def aFu (a b:PV):Bool:=(a.kind == b.kind)&&((a.time == b.time)&&(decide (a.names=b.names)&&((a.path == b.path)&&(((a.v6 == b.v6)&&((a.addr == b.addr)&&(a.bits == b.bits)))&&(a.cost == b.cost)))))
def sF (p:PV):Prop:=p.addr.length=16∧p.names.length≤200000∧(Lib.join p.names [44]).length≤200000∧p.path.length≤200000
theorem iE [Gv] (p:PV) (q:Perm) (h:p.addr.length=16):(PA p q).length=23:=by simp[PA,PD,NT,aX,h]
theorem lE [Gv] (p:PV) (q:Perm):(PA p q).all dC=true:=by
 simp[PA,PD,NT,eR,dC,Value.oneCell',str]
theorem sX [Gv] (p:PV) (q:Perm) (hq:fG q=true):aM (PA p q)=true:=by
 have:=dP p.names
 cases q<;>simp_all [PA,PD,NT,aM,aH,dK,Go.V.aJ,str,fG]
theorem nY [Gv] (p:PV) (q:Perm):(PA p q).getD 0 .top=.val (.int .i64 p.kind):=rfl
theorem aMa [Gv] (a b:PV) (q q':Perm) (hq:fG q=true) (hq':fG q'=true) (ha:sF a) (hb:sF b):ACalls Tryz.prog GP 54 [.agg (PA a q),.agg (PA b q')] [] (fun r os=>os=[]∧r=.val (.bool (aFu a b))):=
 aOS _ _ _ _ _ _ _ _ hq hq' _ _ _ _ _ _ _ _ _ _ ha.1 hb.1 ha.2.1 hb.2.1
theorem aGA [Gv] (k:Int):sF (vB k):=⟨rfl,by simp[vB],by simp[vB,Lib.join_nil],by simp[vB]⟩
def tX (w x:List UInt8) (s:Bool):List UInt8:=if x=[]∨512<(w++32::x).length∨s=false then [] else w++32::x
theorem aFG [Gv] (p p':PV) (q q':Perm) (hq:fG q=true) (hq':fG q'=true) (hp:sF p) (hp':sF p') (w x:List UInt8) (hw:w.length≤20) (hx:x.length≤300000)
  (hW:ACalls Tryz.prog GP 53 [.ptr 0 0] [.cells (PA p q)] (fun r os=>os=[.cells (PA p' q')]∧r=.tup [str w,str x])) :
  ACalls Tryz.prog GP 22 [.agg (PA p q)] [] (fun r os=>os=[]∧r=str (tX w x (aFu p' (vB p.kind)))):=by
 have cS:=aMa p' (vB p.kind) q' .full hq' rfl hp' (aGA _)
 have h1:=iE p q hp.1
 have h2:=lE p q
 have h3:=sX p q hq
 have h4:=nY p q
 have g1:=iE p' q' hp'.1
 have g2:=lE p' q'
 have g3:=sX p' q' hq'
 have gt:(PA p' q').take 23=PA p' q':=List.take_of_length_le (by omega)
 generalize hsm:aFu p' (vB p.kind)=sm at *
 generalize p.kind=k at *
 generalize PA p q=P at *
 generalize PA p' q'=P' at *
 simp only[str] at *
 refine aQ Tryz.func22 rfl rfl Tryz.ntmps22 (rts:=#[9]) rfl Tryz.results22 (by simp) ?_
 simp only[seval,aZ]
 refine aC fun K hK=>aA [] ?_
 simp only[seval,kZs,eF,bB,h2,fN,cav,aI]
 and_intros<;>try first|exact⟨⟩|omega
 refine hK _ ?_
 clear hK K
 refine aE [1,2] ?_
 simp only[seval,kZq]
 refine aC fun K hK=>aA [] ?_
 simp only[seval,kZs,aN,Tryz.underlying81,bD,ne_eq,aY,apart,aO,Tryz.underlying3,aI,h1,h4]
 and_intros<;>try first|exact⟨⟩|omega
 refine hK _ ?_
 clear hK K
 refine aE [1,2,3] ?_
 simp only[seval,kZq]
 refine aC fun K hK=>aA [1000010] ?_
 simp only[seval,qq,aU,List.contains_cons,beq_self_eq_true,aB,bF,aT,bA]
 have hr1:∀ o∈[AObj.cells P],fU (fun r=>decide (r<[AObj.cells P].length)) o=true:=fun o ho=>by
  simp only[List.mem_cons,List.not_mem_nil,or_false] at ho
  subst ho
  exact bM _ _ h3
 have hr2:∀ o∈[AObj.cells P'],fU (fun r=>decide (r<[AObj.cells P].length)) o=true:=fun o ho=>by
  simp only[List.mem_cons,List.not_mem_nil,or_false] at ho
  subst ho
  exact bM _ _ g3
 refine iU (objs:=[.cells P]) (rest:=[]) [129] hr1 rfl (by simp) hW rfl hr2 rfl ?_
 simp only[seval,kZs,dE,gW,aI]
 refine hK _ ?_
 clear hK K
 refine aE [1,2,3,4,5] ?_
 simp only[seval,kZq]
 have hsz:∀ l:List UInt8,((⟨l.toArray⟩:ByteArray).size:Int)=(l.length:Int):=fun l=>by simp[ByteArray.size]
 have hcat:(⟨w.toArray⟩:ByteArray)++⟨#[32]⟩++⟨x.toArray⟩=⟨(w++32::x).toArray⟩:=by
  apply ByteArray.ext
  simp
 refine aC fun K hK=>aA [] ?_
 simp only[seval,kZs,cav,aL,aP,gL,dJ,aI]
 have hsz2:((⟨w.toArray⟩:ByteArray)++⟨#[32]⟩).size=w.length+1:=by simp[ByteArray.size]
 rw[hsz2,hcat]
 refine⟨by omega,by omega,hK _ ?_⟩
 clear hK K
 refine aE [1,2,3,5,6] ?_
 simp only[seval,kZq]
 have hlen:(w++32::x).length=w.length+(x.length+1):=by simp
 refine aC fun K1 hK1=>?_
 refine aC fun K hK=>?_
 have nope:∀ st,tX w x sm=[]→lk st.slots 30=.val (.bool true)→st.nt=32→st.objs=[.cells P']→K st:=by
  rintro⟨nt,sl,os⟩ hw h30 hnt hos
  simp only at h30 hnt hos
  subst hnt hos
  refine hK _ ?_
  refine bG h30 ?_
  refine aE [] ?_
  simp only[aD]
  refine aC fun K hK=>aA [] ?_
  simp only[seval,kZs,cav,aI]
  and_intros<;>try first|exact⟨⟩|omega
  refine hK _ ?_
  clear hK K
  refine aE [2] ?_
  simp only[seval,kZq]
  refine aS ?_
  simp only[aI,bL]
  simp only[qq,bR,cQ,bN,bO,dA,aB,aH]
  rw[hw]
 have yes:∀ st,tX w x sm=w++32::x→lk st.slots 30=.val (.bool false)→lk st.slots 6=.val (.string ⟨(w++32::x).toArray⟩)→st.nt=32→st.objs=[.cells P']→K st:=by
  rintro⟨nt,sl,os⟩ hw h30 h6 hnt hos
  simp only at h30 hnt hos h6
  subst hnt hos
  refine hK _ ?_
  refine aR h30 (bC (hK1 _ ?_))
  refine aE [6] ?_
  simp only[aD,h6]
  refine aC fun K hK=>aA [] ?_
  simp only[seval,kZs,aI]
  and_intros<;>try first|exact⟨⟩|omega
  refine hK _ ?_
  clear hK K
  refine aE [2] ?_
  simp only[seval,kZq]
  refine aS ?_
  simp only[qq,bR,cQ,bN,bO,dA,aB,aH]
  rw[hw]
 by_cases x0:x=[]
 ·have x0':(x == [])=true:=beq_iff_eq.2 x0
  refine aA [] ?_
  simp only[seval,kZs,cav,aL,aP,gL,ByteArray.toList_mk,x0',dD,bT,Option.bind_some,aW,eW,gok,bU,aI]
  exact nope _ (by simp[tX,x0]) rfl rfl rfl
 have x0':(x == [])=false:=beq_eq_false_iff_ne.2 x0
 by_cases hl:512<(w++32::x).length
 ·have hl':decide (((w++32::x).length:Int) > 512)=true:=decide_eq_true (by omega)
  refine aA [] ?_
  simp only[seval,kZs,cav,aL,aP,gL,ByteArray.toList_mk,x0',dD,bT,Option.bind_some,aW,Bool.not_false,dQ,gok,bI,bV,eN,Tryz.underlying9,dJ,bU,bH,hl',eW,aI]
  exact nope _ (by unfold tX;rw[if_pos (.inr (.inl hl))]) rfl rfl rfl
 have hl':decide (((w++32::x).length:Int) > 512)=false:=decide_eq_false (by omega)
 have hz:∀ k,([.val (.int .i64 k),.val (.int .u64 0),.sl 0 [] .full,.val (.string ⟨#[]⟩),.val (.bool false),.val (.int .u8 0),.val (.int .u8 0),.val (.int .u8 0),.val (.int .u8 0),.val (.int .u8 0),.val (.int .u8 0),.val (.int .u8 0),.val (.int .u8 0),.val (.int .u8 0),.val (.int .u8 0),.val (.int .u8 0),.val (.int .u8 0),.val (.int .u8 0),.val (.int .u8 0),.val (.int .u8 0),.val (.int .u8 0),.val (.int .i64 0),.val (.float .f64 0)]:List AV)=PA (vB k) .full:=fun k=>rfl
 refine aA [] ?_
 simp only[seval,kZs,cav,aL,aP,gL,ByteArray.toList_mk,x0',dD,bT,Option.bind_some,aW,Bool.not_false,dQ,gok,bI,bV,eN,Tryz.underlying9,dJ,bU,bH,hl',aY,apart,aO,Tryz.underlying81,bD,g1,gt,fA,bS,kO,dO,eM,spl,bB,List.all_cons,dC,Value.oneCell',List.all_nil,aU,bF,aT,bA,bW,List.headD_cons,List.tail_cons,aH,aM]
 rw[hz]
 refine aV g3 cS rfl ?_
 cases hs:sm with
 | false=>
  subst hs
  simp only[seval,kZs,aK,dD,bT,Option.bind_some,aW,Bool.not_false,dQ,gok,aun,bU,cav,aI]
  exact nope _ (by unfold tX;rw[if_pos (.inr (.inr rfl))]) rfl rfl rfl
 | true=>
  subst hs
  simp only[seval,kZs,aK,dD,bT,Option.bind_some,aW,Bool.not_false,dQ,gok,aun,Bool.not_true,bU,cav,aI]
  refine yes _ ?_ rfl rfl rfl rfl
  unfold tX
  rw[if_neg]
  simp only[x0,hl,false_or,Bool.true_eq_false,not_false_eq_true]
theorem aCW [Gv] (p:PV) (q:Perm) (hq:fG q=true) (hp:p.addr.length=16) (t:List UInt8) (hT:ACalls Tryz.prog GP 22 [.agg (PA p q)] [] (fun r os=>os=[]∧r=str t)) :
  ACalls Tryz.prog GP 31 [.agg (PA p q)] [] (fun r os=>os=[]∧r=.val (.bool (!(t == [])))):=by
 have h1:=iE p q hp
 have h2:=lE p q
 have h3:=sX p q hq
 have h5:(PA p q).take 23=PA p q:=List.take_of_length_le (by omega)
 generalize PA p q=P at *
 simp only[str] at *
 refine aQ Tryz.func31 rfl rfl Tryz.ntmps31 (rts:=#[4]) rfl Tryz.results31 (by simp) ?_
 simp only[seval,aZ]
 refine aC fun K hK=>aA [] ?_
 simp only[seval,kZs,eF,bB,h2,fN,cav,aI]
 and_intros<;>try first|exact⟨⟩|omega
 refine hK _ ?_
 clear hK K
 refine aE [1,2] ?_
 simp only[seval,kZq]
 refine aC fun K hK=>aA [] ?_
 simp only[seval,kZs,aY,apart,aO,Tryz.underlying81,bD,h1,h5,aU,bF,aT,bA,bW,List.headD_cons,aH]
 refine aV h3 hT rfl ?_
 simp only[seval,kZs,aK,cav,aL,aP,gL,ByteArray.toList_mk,aI]
 refine hK _ ?_
 refine aE [2] ?_
 simp only[seval,kZq]
 refine aS ?_
 simp only[qq,bR,cQ,bN,bO,dA,aB,aH]
def lP (v6:Bool) (b:List UInt8):Bool:=v6 || decide (b.drop 4=Z 12)
def AD (v6:Bool) (b:List UInt8):List AV:=.val (.bool v6)::Bs b
theorem yE [Gv] (v6:Bool) (b:List UInt8) (hb:b.length=16):ACalls Tryz.prog GP 225 [.agg (AD v6 b)] [] (fun r os=>os=[]∧r=.val (.bool (lP v6 b))):=by
 unfold AD
 have htk:(Bs b).take 16=Bs b:=List.take_of_length_le (by rw[aX];omega)
 have hlen:(Bs b).length=16:=by rw[aX];exact hb
 refine aQ Tryz.func225 rfl rfl Tryz.ntmps225 (rts:=#[4]) rfl Tryz.results225 (by simp) ?_
 simp only[seval,aZ]
 refine aC fun K hK=>aA [] ?_
 simp only[seval,kZs,eF,bB,List.all_cons,dC,Value.oneCell',eR,fN,cav,aI]
 and_intros<;>try first|exact⟨⟩|omega
 refine hK _ ?_
 clear hK K
 refine aE [1] ?_
 simp only[seval,kZq]
 refine aC fun K hK=>aA [] ?_
 simp only[seval,kZs,aN,Tryz.underlying26,bD,ne_eq,aY,apart,aO,Tryz.underlying24,dF,bS,jK,bQ,bX,bB,spl,aI,aX,eZ,eA,hlen,htk,eR]
 and_intros<;>try first|exact⟨⟩|omega
 refine hK _ ?_
 clear hK K
 refine aE [1,3] ?_
 simp only[seval,kZq]
 have hz16:List.drop 16 (Z 16)=[]:=rfl
 have hz4:kZ [.int .u8 0] 4=Bs [0,0,0,0]:=jJ 4
 refine aC fun K hK=>aA [] ?_
 simp only[seval,kZs,hz16,gV,eY,iR,Option.map_none,Option.map_some,cav,Tryz.underlying24,bD,eJ,Int.le_refl,dH,Int.cast_ofNat_Int,ne_eq,or_true,Int.toNat_zero,Nat.mul_one,Int.sub_zero,aOz,bI,aDa,Tryz.underlying54,spl,aI,bS,hlen,jJ,List.replicate_succ,List.replicate_zero,eR,aX,eA]
 refine hK _ ?_
 clear hK K
 refine aE [1,3] ?_
 simp only[seval,kZq]
 refine aC fun K hK=>?_
 cases v6 with
 | true=>
  refine aA [] ?_
  simp only[seval,kZs,aN,Tryz.underlying26,bD,ne_eq,aY,apart,aO,Tryz.underlying4,aX,dD,bT,Option.bind_some,aW,eW,gok,bU,cav,aI]
  refine⟨by omega,hK _ ?_⟩
  clear hK K
  refine aE [2] ?_
  simp only[seval,kZq]
  refine aS ?_
  simp only[qq,bR,cQ,bN,bO,dA,aB,aH]
  rfl
 | false=>
  have hcat:Bs [0,0,0,0]++Bs (b.drop 4)=Bs ([0,0,0,0]++b.drop 4):=by simp[Bs]
  rw[hcat]
  have hl16:([0,0,0,0]++b.drop 4:List UInt8).length=16:=by simp[hb]
  have heq:(([0,0,0,0]++b.drop 4:List UInt8) == Z 16)=decide (b.drop 4=Z 12):=by
   rw[Bool.eq_iff_iff,decide_eq_true_iff]
   simp[Z,List.replicate]
  have hall:=aDi (P:=Tryz.prog) (e:=5) Tryz.underlying5 ([0,0,0,0]++b.drop 4) (Z 16) (by rw[hl16];rfl)
  have hagg:=aAh ([0,0,0,0]++b.drop 4) (Z 16)
  have htk2:(Bs ([0,0,0,0]++b.drop 4)).take 16=Bs ([0,0,0,0]++b.drop 4):=List.take_of_length_le (by rw[aX,hl16];omega)
  have hbl:(Bs ([0,0,0,0]++b.drop 4)).length=16:=by rw[aX,hl16]
  generalize ([0,0,0,0]++b.drop 4:List UInt8)=c at *
  refine aA [] ?_
  simp only[seval,kZs,aN,Tryz.underlying26,bD,ne_eq,aY,apart,aO,Tryz.underlying4,aX,dD,bT,Option.bind_some,aW,Bool.not_false,dQ,gok,Tryz.underlying24,hbl,htk2,fA,bS,Nat.mul_one,jK,dO,eM,aL,bU,cav,aI,aP,aDW,tC,aGG,hall,hagg]
  refine⟨by omega,hK _ ?_⟩
  clear hK K
  refine aE [2] ?_
  simp only[seval,kZq]
  refine aS ?_
  simp only[qq,bR,cQ,bN,bO,dA,aB,aH]
  rw[heq];rfl
theorem aMK [Gv] (v6:Bool) (b:List UInt8) (hb:b.length=16):ACalls Tryz.prog GP 257 [.agg (AD v6 b)] [] (fun r os=>os=[]∧r=.val (.int .i64 (if v6 then 128 else 32))):=by
 unfold AD
 have hlen:(Bs b).length=16:=by rw[aX];exact hb
 refine aQ Tryz.func257 rfl rfl Tryz.ntmps257 (rts:=#[3]) rfl Tryz.results257 (by simp) ?_
 simp only[seval,aZ]
 refine aC fun K hK=>aA [] ?_
 simp only[seval,kZs,eF,bB,List.all_cons,dC,Value.oneCell',eR,fN,cav,aI]
 and_intros<;>try first|exact⟨⟩|omega
 refine hK _ ?_
 clear hK K
 refine aE [1] ?_
 simp only[seval,kZq]
 refine aC fun K hK=>?_
 refine aC fun K hK=>aA [] ?_
 simp only[seval,kZs,aN,Tryz.underlying26,bD,ne_eq,aY,apart,aO,Tryz.underlying4,aI,aX]
 and_intros<;>try first|exact⟨⟩|omega
 refine hK _ ?_
 clear hK K
 cases v6 with
 | true=>
  refine bG rfl ?_
  refine aC fun K hK=>aA [] ?_
  simp only[seval,kZs,cav,aI]
  and_intros<;>try first|exact⟨⟩|omega
  refine hK _ ?_
  clear hK K
  refine aE [2] ?_
  simp only[seval,kZq]
  refine aS ?_
  simp only[aI]
  simp only[qq,bR,cQ,bN,bO,dA,aB,aH]
 | false=>
  refine aR rfl ?_
  refine bC ?_
  simp only[aI]
  refine hK _ ?_
  clear hK K
  refine aC fun K hK=>aA [] ?_
  simp only[seval,kZs,cav,aI]
  and_intros<;>try first|exact⟨⟩|omega
  refine hK _ ?_
  clear hK K
  refine aE [2] ?_
  simp only[seval,kZq]
  refine aS ?_
  simp only[qq,bR,cQ,bN,bO,dA,aB,aH]
def aAF (bits:Int) (i:Nat):Nat:=(min (max (bits - 8*(i:Int)) 0) 8).toNat
def mkb (bits:Int) (i:Nat):UInt8:=UInt8.ofNat (65280/2^aAF bits i)
def kW (bits:Int):Nat→List UInt8→List UInt8
 | _,[]=>[]
 | i,x::xs=>(x &&& mkb bits i)::kW bits (i+1) xs
theorem kM [Gv] (bits:Int):∀ (i:Nat) (l:List UInt8),(kW bits i l).length=l.length
 | _,[]=>rfl
 | i,x::xs=>by simp[kW,kM bits (i+1) xs]
theorem aCp [Gv] (bits:Int):∀ (i:Nat) (l:List UInt8) (x:UInt8),kW bits i (l++[x])=kW bits i l++[x &&& mkb bits (i+l.length)]
 | i,[],x=>by simp[kW]
 | i,y::ys,x=>by
  simp only[List.cons_append,kW,aCp bits (i+1) ys x,List.length_cons]
  rw[show i+1+ys.length=i+(ys.length+1) by omega]
def nG (v6:Bool) (b:List UInt8) (bits:Int):Option (List UInt8):=
 if lP v6 b=true∧0≤bits∧bits≤(if v6 then 128 else 32) then some (kW bits 0 b) else none
def rW (v6:Bool) (b:List UInt8) (bits:Int):AV:=match nG v6 b bits with
 | some l=>.tup [.agg (NT v6 l bits),.val (.bool true)]
 | none=>.tup [.agg (NT false (Z 16) 0),.val (.bool false)]
theorem aMj [Gv] (a:AV) (L:List UInt8) (i:Nat) (x:UInt8) (h:i<L.length):spl (a::Bs L) (1+i) [B x]=a::Bs (L.set i x):=by
 unfold spl Bs
 rw[show 1+i=i+1 by omega]
 simp only[List.take_succ_cons,List.length_cons,List.length_nil,List.map_set,List.cons_append]
 rw[show i+1+(0+1)=(i+1)+1 by omega,List.drop_succ_cons,List.set_eq_take_append_cons_drop]
 simp[h]
theorem aFc [Gv] (v6:Bool) (b:List UInt8) (bits:Int) (hb:b.length=16) (h64:-9223372036854775808≤bits∧bits≤9223372036854775807):ACalls Tryz.prog GP 212 [.agg (AD v6 b),.val (.int .i64 bits)] [] (fun r os=>os=[]∧r=rW v6 b bits):=by
 have cC:=yE v6 b hb
 have cM:=aMK v6 b hb
 have hlen:(Bs b).length=16:=by rw[aX];exact hb
 have hAl:(AD v6 b).length=17:=by simp[AD,hlen]
 have hAn:aM (AD v6 b)=true:=by simp[AD,aM,aH,aJ]
 have hAt:(AD v6 b).take 17=AD v6 b:=List.take_of_length_le (by omega)
 have hAo:(AD v6 b).all dC=true:=by simp[AD,eR,dC,Value.oneCell']
 refine aQ Tryz.func212 rfl rfl Tryz.ntmps212 (rts:=#[79,4]) rfl Tryz.results212 (by simp) ?_
 simp only[seval,aZ]
 refine aC fun K hK=>aA [] ?_
 simp only[seval,kZs,eF,bB,hAo,fN,dF,bS,cav,aI]
 refine hK _ ?_
 clear hK K
 refine aE [1,2,4] ?_
 simp only[seval,kZq]
 refine aC fun K hK=>?_
 refine aC fun K2 hK2=>?_
 refine aA [] ?_
 simp only[seval,kZs,aY,apart,aO,Tryz.underlying26,bD,hAl,hAt,aU,bF,aT,bA,bW,List.headD_cons,aH]
 refine aV hAn cC rfl ?_
 have stop:nG v6 b bits=none→∀ st,gE GP st ⟨45,[(20,.val (.bool true)),(4,.ptr 1 0)],[.cells (AD v6 b),.cells (NT false (Z 16) 0)]⟩→K2 st:=fun hn st hw=>by
  have hnv:rW v6 b bits=.tup [.agg (NT false (Z 16) 0),.val (.bool false)]:=by simp[rW,hn]
  have hNl:(NT false (Z 16) 0).length=18:=rfl
  have hNo:(NT false (Z 16) 0).all dC=true:=jO _ _ _
  have hNn:=iZ false (Z 16) 0
  have hz:([.val (.bool false),.val (.int .u8 0),.val (.int .u8 0),.val (.int .u8 0),.val (.int .u8 0),.val (.int .u8 0),.val (.int .u8 0),.val (.int .u8 0),.val (.int .u8 0),.val (.int .u8 0),.val (.int .u8 0),.val (.int .u8 0),.val (.int .u8 0),.val (.int .u8 0),.val (.int .u8 0),.val (.int .u8 0),.val (.int .u8 0),.val (.int .i64 0)]:List AV)=NT false (Z 16) 0:=rfl
  have hNt:(NT false (Z 16) 0).take 18=NT false (Z 16) 0:=rfl
  have hNd:(NT false (Z 16) 0).drop 18=[]:=rfl
  refine hK2 st (eX hw (bG rfl ?_))
  clear hK2 hw cC cM
  generalize NT false (Z 16) 0=N at *
  refine aC fun K hK=>aA [] ?_
  simp only[seval,kZs,fA,bS,Tryz.underlying79,kO,cav,hz,dO,eM,bQ,bX,bD,bB,hNl,spl,aI,hNo,hNd]
  refine hK _ ?_
  clear hK
  refine aE [4,5] ?_
  simp only[seval,kZq]
  refine aS ?_
  show Go.V.Fin Tryz.prog [79,4] [.cell 4 79,.tmp 5] (fun r os=>os=[]∧r=rW v6 b bits) .ret _
  simp only[seval,qq,hnv,bR,cQ,bN,bO,aY,aB,apart,aO,Tryz.underlying79,bD,hNl,hNt,dA,aH,hNn]
 cases hv:lP v6 b with
 | false=>
  simp only[seval,kZs,aK,aun,Bool.not_false,dD,bT,Option.bind_some,aW,eW,gok,bU,cav,aI]
  exact stop (by simp[nG,hv]) _ (.of_keep [20,4] rfl)
 | true=>
  obtain⟨m,hm,hm1⟩:∃ m:Int,(if v6=true then 128 else 32:Int)=m∧m≤128:=⟨_,rfl,by split<;>omega⟩
  rw[hm] at cM
  by_cases h0:bits<0
  ·have d0:decide (bits<0)=true:=decide_eq_true h0
   simp only[seval,kZs,aK,aun,Bool.not_true,dD,bT,Option.bind_some,aW,Bool.not_false,dQ,gok,cav,aL,aP,bH,d0,bU,eW,aI]
   exact stop (by unfold nG;rw[if_neg (by omega)]) _ (.of_keep [20,4] rfl)
  have d0:decide (bits<0)=false:=decide_eq_false h0
  by_cases h1:m<bits
  ·have d1:decide (bits > m)=true:=decide_eq_true h1
   simp only[seval,kZs,aK,aun,Bool.not_true,dD,bT,Option.bind_some,aW,Bool.not_false,dQ,gok,cav,aL,aP,bH,d0,bU,aY,apart,aO,Tryz.underlying26,bD,hAl,hAt,aU,bF,aT,bA,bW,List.headD_cons,aH]
   refine aV hAn cM rfl ?_
   simp only[seval,kZs,aK,dD,bT,Option.bind_some,aW,Bool.not_false,dQ,gok,aL,aP,bH,d1,bU,cav,aI]
   exact stop (by unfold nG;rw[if_neg (by rw[hm];omega)]) _ (.of_keep [20,4] rfl)
  have d1:decide (bits > m)=false:=decide_eq_false h1
  have hn:nG v6 b bits=some (kW bits 0 b):=by unfold nG;rw[if_pos ⟨hv,by omega,by rw[hm];omega⟩]
  have hnv:rW v6 b bits=.tup [.agg (NT v6 (kW bits 0 b) bits),.val (.bool true)]:=by simp[rW,hn]
  simp only[seval,kZs,aK,aun,Bool.not_true,dD,bT,Option.bind_some,aW,Bool.not_false,dQ,gok,cav,aL,aP,bH,d0,bU,aY,apart,aO,Tryz.underlying26,bD,hAl,hAt,aU,bF,aT,bA,bW,List.headD_cons,aH]
  refine aV hAn cM rfl ?_
  simp only[seval,kZs,aK,dD,bT,Option.bind_some,aW,Bool.not_false,dQ,gok,aL,aP,bH,d1,bU,cav,aI]
  clear stop cC cM
  have hz:([.val (.bool false),.val (.int .u8 0),.val (.int .u8 0),.val (.int .u8 0),.val (.int .u8 0),.val (.int .u8 0),.val (.int .u8 0),.val (.int .u8 0),.val (.int .u8 0),.val (.int .u8 0),.val (.int .u8 0),.val (.int .u8 0),.val (.int .u8 0),.val (.int .u8 0),.val (.int .u8 0),.val (.int .u8 0),.val (.int .u8 0),.val (.int .i64 0)]:List AV)=NT false (Z 16) 0:=rfl
  rw[hz]
  obtain⟨N0,hN0,hN0l⟩:∃ N0,NT false (Z 16) 0=N0∧N0.length=18:=⟨_,rfl,rfl⟩
  rw[hN0]
  refine hK2 _ ?_
  clear hK2 K2 hz
  refine aR rfl (bC ?_)
  simp only[aI]
  refine hK _ ?_
  clear hK K
  refine aE [1,2,4] ?_
  simp only[seval,kZq]
  refine aC fun K1 hK1=>?_
  refine aC fun K hK=>aA [] ?_
  simp only[seval,kZs,cav,aI]
  and_intros<;>try first|exact⟨⟩|omega
  refine hK _ ?_
  clear hK K
  refine aE [1,2,4,22] ?_
  simp only[seval,kZq]
  refine bK ?_
  refine bZ (fun i:Nat=>⟨45,[(1,.val (.int .i64 bits)),(2,.ptr 0 0),(4,.ptr 1 0),(22,.val (.int .i64 (i:Int)))],[.cells (AD v6 (kW bits 0 (b.take i)++b.drop i)),.cells N0]⟩) (fun i=>i≤16) (fun i=>16 - i) 0 (by omega) (.of_keep [1,2,4,22] rfl) ?_
  intro i hi
  obtain⟨L,hL⟩:∃ L,kW bits 0 (b.take i)++b.drop i=L:=⟨_,rfl⟩
  have hLl:L.length=16:=by rw[← hL];simp[kM,hb];omega
  rw[hL]
  refine aC fun K2 hK2=>?_
  by_cases hlt:i<16
  ·have d2:decide ((i:Int)<16)=true:=decide_eq_true (by omega)
   refine aA [] ?_
   simp only[seval,kZs,cav,aL,aP,bH,d2,aI]
   refine hK2 _ ?_
   clear hK2 K2
   refine bJ ?_
   refine bG rfl (bC ?_)
   simp only[aI]
   refine aE [1,2,4,22] ?_
   simp only[seval,kZq]
   refine aC fun K2 hK2=>?_
   refine bK ?_
   refine aC fun K hK=>aA [] ?_
   simp only[seval,kZs,aI]
   and_intros<;>try first|exact⟨⟩|omega
   refine hK _ ?_
   clear hK K
   refine aE [1,2,4,22,6] ?_
   simp only[seval,kZq]
   have h8:IntKind.i64.wrap (8*(i:Int))=8*(i:Int):=lY (by omega) (by omega)
   have hs:IntKind.i64.wrap (bits - 8*(i:Int))=bits - 8*(i:Int):=lY (by omega) (by omega)
   refine aC fun K hK=>aA [] ?_
   have hnb:(if 8<(if 0 > bits - 8*(i:Int) then 0 else bits - 8*(i:Int)) then 8 else if 0 > bits - 8*(i:Int) then 0 else bits - 8*(i:Int))=((aAF bits i:Nat):Int):=by
    unfold aAF
    repeat' split
    all_goals omega
   have hn8:aAF bits i≤8:=by unfold aAF;omega
   simp only[seval,kZs,cav,aL,aP,bH,h8,hs,bI,wP,aI,hnb]
   refine hK _ ?_
   clear hK K
   have hmk:(mkb bits i).toNat=65280/2^aAF bits i%256:=by unfold mkb;simp
   have hLi:L.getD i 0=b.getD i 0:=by
    rw[← hL,List.getD_eq_getElem?_getD,List.getElem?_append_right (by rw[kM,List.length_take];omega),kM,List.length_take,List.getElem?_drop,List.getD_eq_getElem?_getD]
    congr 2
    omega
   obtain⟨n,hn'⟩:∃ n,aAF bits i=n:=⟨_,rfl⟩
   rw[hn'] at hn8 hmk ⊢
   refine aE [1,2,4,22,6,7] ?_
   simp only[seval,kZq]
   have hif:(if n≤16 then n else 16)=n:=if_pos (by omega)
   have hmsk:IntKind.u8.wrap (Int.fdiv 65280 (2^n))=((mkb bits i).toNat:Int):=by
    have:∀ n:Fin 9,IntKind.u8.wrap (Int.fdiv 65280 (2^n.val))=((65280/2^n.val%256:Nat):Int):=by decide
    rw[hmk]
    exact this ⟨n,by omega⟩
   have hAg:(AD v6 L).getD (1+i) .top=B (L.getD i 0):=by
    rw[show 1+i=i+1 by omega]
    simp only[AD,List.getD_cons_succ]
    exact kP (by omega)
   have hBx:∀ x y:UInt8,AV.val (.int .u8 (((x.toNat &&& y.toNat)%256:Nat):Int))=B (x &&& y):=fun x y=>by
    unfold B
    congr 3
    rw[UInt8.toNat_and]
    exact Nat.mod_eq_of_lt (Nat.lt_of_le_of_lt Nat.and_le_left x.toNat_lt)
   have hspl:List.take (1+i) (AD v6 L)++[.val (.int .u8 ((((L.getD i 0).toNat &&& (mkb bits i).toNat)%256:Nat):Int))]++List.drop (1+i+1) (AD v6 L)=AD v6 (L.set i (L.getD i 0 &&& mkb bits i)):=by
    rw[hBx]
    exact aMj _ _ _ _ (by omega)
   have hAl':(AD v6 L).length=17:=by simp[AD,aX,hLl]
   have hBu:∀ x:UInt8,B x=.val (.int .u8 (x.toNat:Int)):=fun _=>rfl
   refine dW [] (by kernel_rfl) (by kernel_rfl) ?_
   simp only[seval,kZs,aN,Tryz.underlying26,bD,ne_eq,dN,Tryz.underlying24,Int.toNat_natCast,aY,apart,aO,Tryz.underlying5,cav,aL,aP,bH,IntKind.bits,Nat.min_def,hif,eL,eG,bA,aH,fF,Tryz.underlying271,Option.isSome_some,hmsk,bQ,bX,bB,spl,Int.cast_ofNat_Int,Nat.mul_one,hAl',hAg,B,aPc,List.all_cons,dC,Value.oneCell',List.all_nil,hspl]
   and_intros<;>try first|exact⟨⟩|omega
   simp only[bL,aI]
   refine hK2 _ ?_
   clear hK2 K2
   refine aE [1,2,4,22] ?_
   simp only[seval,kZq]
   have hw1:IntKind.i64.wrap ((i+1:Nat):Int)=((i+1:Nat):Int):=fD (by omega)
   refine aA [] ?_
   simp only[seval,kZs,cav,aL,aP,bH,gO,hw1,aI]
   have hset:L.set i (L.getD i 0 &&& mkb bits i)=kW bits 0 (b.take (i+1))++b.drop (i+1):=by
    have hbi:b.drop i=b.getD i 0::b.drop (i+1):=by
     rw[List.drop_eq_getElem_cons (by omega),List.getD_eq_getElem?_getD,List.getElem?_eq_getElem (by omega)]
     rfl
    have htk:b.take (i+1)=b.take i++[b.getD i 0]:=by
     rw[List.take_add_one,List.getD_eq_getElem?_getD,List.getElem?_eq_getElem (by omega)]
     rfl
    rw[hLi,← hL,hbi,htk,aCp]
    have hml:(kW bits 0 (b.take i)).length=i:=by rw[kM,List.length_take];omega
    rw[List.set_append_right _ _ (by omega),hml]
    simp
    rw[Nat.min_eq_left (by omega)]
   refine⟨i+1,by omega,by omega,?_⟩
   rw[hset]
   exact .of_keep [1,2,4,22] rfl
  ·have d2:decide ((i:Int)<16)=false:=decide_eq_false (by omega)
   have hi16:i=16:=by omega
   subst hi16
   have hLe:L=kW bits 0 b:=by rw[← hL,List.take_of_length_le (by omega),List.drop_eq_nil_of_le (by omega),List.append_nil]
   subst hLe
   refine aA [] ?_
   simp only[seval,kZs,Int.cast_ofNat_Int,cav,aL,aP,bH,aI]
   refine hK2 _ ?_
   clear hK2 K2
   refine bJ ?_
   refine aR rfl (dR ?_)
   simp only[aI,bL,if_true]
   refine hK1 _ ?_
   clear hK1 K1
   refine aE [1,2,4] ?_
   simp only[seval,kZq]
   have hMl:(AD v6 (kW bits 0 b)).length=17:=by simp[AD,aX,hLl]
   have hMt:(AD v6 (kW bits 0 b)).take 17=AD v6 (kW bits 0 b):=List.take_of_length_le (by omega)
   have hNT:AD v6 (kW bits 0 b)++[.val (.int .i64 bits)]=NT v6 (kW bits 0 b) bits:=by simp[AD,NT]
   have hNn:=iZ v6 (kW bits 0 b) bits
   have hNo:=jO v6 (kW bits 0 b) bits
   have hNl:(NT v6 (kW bits 0 b) bits).length=18:=fZ _ _ _ hLl
   have hNt:(NT v6 (kW bits 0 b) bits).take 18=NT v6 (kW bits 0 b) bits:=List.take_of_length_le (by omega)
   have hdr:N0.drop 18=[]:=List.drop_eq_nil_of_le (by omega)
   have hMo:(AD v6 (kW bits 0 b)).all dC=true:=by simp[AD,eR,dC,Value.oneCell']
   generalize NT v6 (kW bits 0 b) bits=N1 at *
   generalize AD v6 (kW bits 0 b)=M1 at *
   refine aC fun K hK=>aA [] ?_
   have ht17:∀ x,(M1++[x]).take 17=M1:=fun x=>by rw[List.take_append_of_le_length (by omega),List.take_of_length_le (by omega)]
   have hd18:∀ x,(M1++[x]).drop 18=[]:=fun x=>List.drop_eq_nil_of_le (by simp;omega)
   simp only[seval,kZs,aY,apart,aO,Tryz.underlying26,bD,hMl,hMt,fA,bS,Tryz.underlying79,kO,cav,dO,eM,spl,bB,List.all_cons,dC,Value.oneCell',List.all_nil,bQ,bX,hN0l,aI,ht17,hNT,hd18,hNo,hNl,hdr]
   refine⟨⟨hMo,by simp;omega⟩,hK _ ?_⟩
   clear hK K
   refine aE [4,5] ?_
   simp only[seval,kZq]
   refine aS ?_
   show Go.V.Fin Tryz.prog [79,4] [.cell 4 79,.tmp 5] (fun r os=>os=[]∧r=rW v6 b bits) .ret _
   simp only[seval,qq,hnv,bR,cQ,bN,bO,aY,aB,apart,aO,Tryz.underlying79,bD,hNl,hNt,dA,aH,hNn]
def yT (v6:Bool) (b:List UInt8) (bits:Int):Bool:=match nG v6 b bits with
 | some l=>l == b
 | none=>false
theorem xJ [Gv] {v6:Bool} {b:List UInt8} {bits:Int} {l:List UInt8} (h:nG v6 b bits=some l):l.length=b.length:=by
 unfold nG at h
 by_cases hc:lP v6 b=true∧0≤bits∧bits≤(if v6 then 128 else 32)
 ·rw[if_pos hc] at h
  injection h with h
  rw[← h,kM]
 ·rw[if_neg hc] at h
  cases h
theorem aOg [Gv] (v6:Bool) (b:List UInt8) (bits:Int) (hb:b.length=16):(NT v6 b bits).take 17=AD v6 b∧(NT v6 b bits).getD 17 .top=.val (.int .i64 bits):=by
 have hl:(AD v6 b).length=17:=by simp[AD,aX,hb]
 have e:NT v6 b bits=AD v6 b++[.val (.int .i64 bits)]:=by simp[AD,NT]
 refine⟨?_,?_⟩
 ·rw[e,List.take_append_of_le_length (by omega),List.take_of_length_le (by omega)]
 ·rw[e,List.getD_eq_getElem?_getD,List.getElem?_append_right (by omega),hl]
  rfl
theorem aKT [Gv] (v6:Bool) (b:List UInt8):aM (AD v6 b)=true:=by simp[AD,aM,aH,aJ]
theorem aOt [Gv] (v6:Bool) (b:List UInt8):(AD v6 b).all dC=true:=by simp[AD,eR,dC,Value.oneCell']
theorem aIh [Gv] (v6:Bool) (b:List UInt8) (hb:b.length=16):(AD v6 b).length=17:=by simp[AD,aX,hb]
theorem aCr [Gv] (v6:Bool) (b:List UInt8) (bits:Int) (hb:b.length=16) (h64:-9223372036854775808≤bits∧bits≤9223372036854775807):ACalls Tryz.prog GP 174 [.agg (NT v6 b bits)] [] (fun r os=>os=[]∧r=.val (.bool (yT v6 b bits))):=by
 have cO:=aFc v6 b bits hb h64
 have hNl:=fZ v6 b bits hb
 have hNo:=jO v6 b bits
 have hNn:=iZ v6 b bits
 have hNt:(NT v6 b bits).take 18=NT v6 b bits:=List.take_of_length_le (by omega)
 obtain⟨hAt,hBt⟩:=aOg v6 b bits hb
 have hAn:=aKT v6 b
 unfold yT
 unfold rW at cO
 cases hn:nG v6 b bits with
 | none=>
  rw[hn] at cO
  have hMl:=fZ false (Z 16) 0 rfl
  have hMo:=jO false (Z 16) 0
  have hMn:=iZ false (Z 16) 0
  simp only at cO
  generalize NT false (Z 16) 0=M at *
  refine aQ Tryz.func174 rfl rfl Tryz.ntmps174 (rts:=#[4]) rfl Tryz.results174 (by simp) ?_
  simp only[seval,aZ]
  refine aC fun K hK=>aA [] ?_
  simp only[seval,kZs,eF,bB,hNo,fN,cav,aI]
  refine hK _ ?_
  clear hK K
  refine aE [1] ?_
  simp only[seval,kZq]
  refine aC fun K hK=>aA [] ?_
  simp only[seval,kZs,aN,Tryz.underlying79,bD,ne_eq,aY,apart,aO,Tryz.underlying26,Tryz.underlying3,aU,bF,aT,bA,bW,List.headD_cons,List.tail_cons,hNl,hBt,aH,hAt]
  refine aV hAn cO (by simp[aH,aM,hMn]) ?_
  simp only[seval,kZs,aK,gW,dF,bS,cav,bQ,bX,bD,bB,spl,aI,hMo,hMl,List.drop_nil]
  refine hK _ ?_
  clear hK K
  refine aE [1,3,4] ?_
  simp only[seval,kZq]
  refine aC fun K hK=>aA [] ?_
  simp only[seval,kZs,dD,bT,Option.bind_some,aW,Bool.not_true,eW,gok,bU,cav,aI]
  and_intros<;>try first|exact⟨⟩|omega
  refine hK _ ?_
  clear hK K
  refine aE [2] ?_
  simp only[seval,kZq]
  refine aS ?_
  simp only[qq,bR,cQ,bN,bO,dA,aB,aH]
 | some l=>
  have hl:l.length=16:=(xJ hn).trans hb
  rw[hn] at cO
  have hMl:=fZ v6 l bits hl
  have hMo:=jO v6 l bits
  have hMn:=iZ v6 l bits
  have hMt:(NT v6 l bits).take 18=NT v6 l bits:=List.take_of_length_le (by omega)
  have c1:=aHL v6 v6 l b bits bits hl hb
  unfold mC at c1
  rw[Tryz.underlying79] at c1
  simp only[Bool.and_eq_true] at c1
  have c1:=c1.2
  have e1:iN (NT v6 l bits) (NT v6 b bits)=(l == b):=by rw[aAi v6 v6 l b bits bits hl hb];simp
  simp only at cO
  generalize NT v6 l bits=M at *
  generalize NT v6 b bits=N at *
  refine aQ Tryz.func174 rfl rfl Tryz.ntmps174 (rts:=#[4]) rfl Tryz.results174 (by simp) ?_
  simp only[seval,aZ]
  refine aC fun K hK=>aA [] ?_
  simp only[seval,kZs,eF,bB,hNo,fN,cav,aI]
  refine hK _ ?_
  clear hK K
  refine aE [1] ?_
  simp only[seval,kZq]
  refine aC fun K hK=>aA [] ?_
  simp only[seval,kZs,aN,Tryz.underlying79,bD,ne_eq,aY,apart,aO,Tryz.underlying26,Tryz.underlying3,aU,bF,aT,bA,bW,List.headD_cons,List.tail_cons,hNl,hBt,aH,hAt]
  refine aV hAn cO (by simp[aH,aM,hMn]) ?_
  simp only[seval,kZs,aK,gW,dF,bS,cav,bQ,bX,bD,bB,spl,aI,hMo,hMl,List.drop_nil]
  refine hK _ ?_
  clear hK K
  refine aE [1,3,4] ?_
  simp only[seval,kZq]
  refine aC fun K hK=>aA [] ?_
  simp only[seval,kZs,dD,bT,Option.bind_some,aW,dQ,gok,aY,apart,aO,Tryz.underlying79,bD,hMl,hMt,hNl,hNt,aL,bU,cav,aI,aP,aDW,tC,aGG,aDJ,c1,or_true,e1]
  refine hK _ ?_
  clear hK K
  refine aE [2] ?_
  simp only[seval,kZq]
  refine aS ?_
  simp only[qq,bR,cQ,bN,bO,dA,aB,aH]
def aHC (v6:Bool) (b:List UInt8) (bits:Int) (w6:Bool) (a:List UInt8):Bool:=match nG w6 a bits with
 | some l=>yT v6 b bits&&((w6 == v6)&&(l == b))
 | none=>false
theorem aOH [Gv] (v6:Bool) (b:List UInt8) (bits:Int) (hb:b.length=16) (h64:-9223372036854775808≤bits∧bits≤9223372036854775807) (w6:Bool) (a:List UInt8) (ha:a.length=16) :
  ACalls Tryz.prog GP 155 [.agg (NT v6 b bits),.agg (AD w6 a)] [] (fun r os=>os=[]∧r=.val (.bool (aHC v6 b bits w6 a))):=by
 have cO:=aFc w6 a bits ha h64
 have cC:=aCr v6 b bits hb h64
 have hNl:=fZ v6 b bits hb
 have hNo:=jO v6 b bits
 have hNn:=iZ v6 b bits
 have hNt:(NT v6 b bits).take 18=NT v6 b bits:=List.take_of_length_le (by omega)
 obtain⟨_,hBt⟩:=aOg v6 b bits hb
 have hAn:=aKT w6 a
 have hAo:=aOt w6 a
 have hAl:=aIh w6 a ha
 have hAt:(AD w6 a).take 17=AD w6 a:=List.take_of_length_le (by omega)
 unfold aHC
 unfold rW at cO
 cases hn:nG w6 a bits with
 | none=>
  rw[hn] at cO
  have hMl:=fZ false (Z 16) 0 rfl
  have hMo:=jO false (Z 16) 0
  have hMn:=iZ false (Z 16) 0
  simp only at cO
  generalize NT false (Z 16) 0=M at *
  refine aQ Tryz.func155 rfl rfl Tryz.ntmps155 (rts:=#[4]) rfl Tryz.results155 (by simp) ?_
  simp only[seval,aZ]
  refine aC fun K hK=>aA [] ?_
  simp only[seval,kZs,eF,bB,hNo,fN,hAo,cav,aI]
  refine hK _ ?_
  clear hK K
  refine aE [2,3] ?_
  simp only[seval,kZq]
  refine aC fun K hK=>aA [] ?_
  simp only[seval,kZs,aY,apart,aO,Tryz.underlying26,bD,hAl,hAt,aN,Tryz.underlying79,ne_eq,Tryz.underlying3,aU,bF,aT,bA,bW,List.headD_cons,List.tail_cons,hNl,hBt,aH]
  refine aV hAn cO (by simp[aH,aM,hMn]) ?_
  simp only[seval,kZs,aK,gW,dF,bS,cav,bQ,bX,bD,bB,spl,aI,hMo,hMl,List.drop_nil]
  refine hK _ ?_
  clear hK K
  refine aE [2,5,6] ?_
  simp only[seval,kZq]
  refine aC fun K hK=>aA [] ?_
  simp only[seval,kZs,dD,bT,Option.bind_some,aW,Bool.not_true,eW,gok,bU,cav,aI]
  and_intros<;>try first|exact⟨⟩|omega
  refine hK _ ?_
  clear hK K
  refine aE [4] ?_
  simp only[seval,kZq]
  refine aS ?_
  simp only[qq,bR,cQ,bN,bO,dA,aB,aH]
 | some l=>
  have hl:l.length=16:=(xJ hn).trans ha
  rw[hn] at cO
  have hMl:=fZ w6 l bits hl
  have hMo:=jO w6 l bits
  have hMn:=iZ w6 l bits
  have hMt:(NT w6 l bits).take 18=NT w6 l bits:=List.take_of_length_le (by omega)
  have c1:=aHL w6 v6 l b bits bits hl hb
  unfold mC at c1
  rw[Tryz.underlying79] at c1
  simp only[Bool.and_eq_true] at c1
  have c1:=c1.2
  have e1:iN (NT w6 l bits) (NT v6 b bits)=((w6 == v6)&&(l == b)):=by rw[aAi w6 v6 l b bits bits hl hb];simp
  simp only at cO
  generalize NT w6 l bits=M at *
  generalize NT v6 b bits=N at *
  refine aQ Tryz.func155 rfl rfl Tryz.ntmps155 (rts:=#[4]) rfl Tryz.results155 (by simp) ?_
  simp only[seval,aZ]
  refine aC fun K hK=>aA [] ?_
  simp only[seval,kZs,eF,bB,hNo,fN,hAo,cav,aI]
  refine hK _ ?_
  clear hK K
  refine aE [2,3] ?_
  simp only[seval,kZq]
  refine aC fun K hK=>aA [] ?_
  simp only[seval,kZs,aY,apart,aO,Tryz.underlying26,bD,hAl,hAt,aN,Tryz.underlying79,ne_eq,Tryz.underlying3,aU,bF,aT,bA,bW,List.headD_cons,List.tail_cons,hNl,hBt,aH]
  refine aV hAn cO (by simp[aH,aM,hMn]) ?_
  simp only[seval,kZs,aK,gW,dF,bS,cav,bQ,bX,bD,bB,spl,aI,hMo,hMl,List.drop_nil]
  refine hK _ ?_
  clear hK K
  refine aE [2,5,6] ?_
  simp only[seval,kZq]
  refine aC fun K hK=>aA [] ?_
  simp only[seval,kZs,dD,bT,Option.bind_some,aW,dQ,gok,aY,apart,aO,Tryz.underlying79,bD,hNl,hNt,aU,bF,aT,bA,bW,List.headD_cons,aH]
  refine aV hNn cC rfl ?_
  cases hc:yT v6 b bits with
  | false=>
   simp only[seval,kZs,aK,bU,cav,dD,bT,Option.bind_some,aW,Bool.not_true,eW,gok,aI]
   refine hK _ ?_
   clear hK K
   refine aE [4] ?_
   simp only[seval,kZq]
   refine aS ?_
   simp only[qq,bR,cQ,bN,bO,dA,aB,aH]
   rw[hc];rfl
  | true=>
   simp only[seval,kZs,Bool.true_and,aK,bU,cav,dD,bT,Option.bind_some,aW,dQ,gok,aY,apart,aO,Tryz.underlying79,bD,hMl,hMt,hNl,hNt,aL,aI,aP,aDW,tC,aGG,aDJ,c1,or_true,e1]
   refine hK _ ?_
   clear hK K
   refine aE [4] ?_
   simp only[seval,kZq]
   refine aS ?_
   simp only[qq,bR,cQ,bN,bO,dA,aB,aH]
   rw[hc];rfl
theorem xF [Gv] (c:Nat):ACalls Tryz.prog GP 177 [.val (.float .f64 c)] [] (fun r os=>os=[]∧r=.val (.bool (mI c))):=by
 have h:=aMR c
 refine aQ Tryz.func177 rfl rfl Tryz.ntmps177 (rts:=#[4]) rfl Tryz.results177 (by simp) ?_
 simp only[seval,aZ]
 refine aC fun K hK=>aA [] ?_
 simp only[seval,kZs,cav,aI]
 and_intros<;>try first|exact⟨⟩|omega
 refine hK _ ?_
 clear hK K
 refine aE [0] ?_
 simp only[seval,kZq]
 refine aC fun K hK=>aA [] ?_
 simp only[seval,kZs,aL,aP,rH,jU,h,aI]
 and_intros<;>try first|exact⟨⟩|omega
 refine hK _ ?_
 clear hK K
 refine aE [2] ?_
 simp only[seval,kZq]
 refine aS ?_
 simp only[qq,bR,cQ,bN,bO,dA,aB,aH]
theorem aGW [Gv] (c:Nat) (hc:c<18446744073709551616):ACalls Tryz.prog GP 230 [.val (.float .f64 c)] [] (fun r os=>os=[]∧r=.val (.float .f64 (dX c))):=by
 have h:=zG hc
 refine aQ Tryz.func230 rfl rfl Tryz.ntmps230 (rts:=#[27]) rfl Tryz.results230 (by simp) ?_
 simp only[seval,aZ]
 refine aC fun K hK=>aA [] ?_
 simp only[seval,kZs,cav,aI]
 and_intros<;>try first|exact⟨⟩|omega
 refine hK _ ?_
 clear hK K
 refine aE [0] ?_
 simp only[seval,kZq]
 refine aC fun K hK=>aA [] ?_
 simp only[seval,kZs,aU,bF,aT,bA,aH]
 refine iT trivial (nE c) ?_
 simp only[seval,kZs,aK,cav,aL,aP,bH,h,aU,bF,aT,bA,aH]
 refine iT trivial (oT (c%9223372036854775808)) ?_
 simp only[seval,kZs,aK,aI]
 refine hK _ ?_
 clear hK K
 refine aE [2] ?_
 simp only[seval,kZq]
 refine aS ?_
 simp only[qq,bR,cQ,bN,bO,dA,aB,aH]
 rfl
theorem xE [Gv] (c:Nat) (hc:c<18446744073709551616):ACalls Tryz.prog GP 179 [.val (.float .f64 c),.val (.int .i64 0)] [] (fun r os=>os=[]∧r=.val (.bool (decide (dX c=9218868437227405312)))):=by
 have cA:=aGW c hc
 have h:=aOM (aBL c)
 have hr:dX (dX c)=dX c:=Nat.mod_mod _ _
 rw[hr] at h
 refine aQ Tryz.func179 rfl rfl Tryz.ntmps179 (rts:=#[4]) rfl Tryz.results179 (by simp) ?_
 simp only[seval,aZ]
 refine aC fun K hK=>aA [] ?_
 simp only[seval,kZs,cav,aI]
 and_intros<;>try first|exact⟨⟩|omega
 refine hK _ ?_
 clear hK K
 refine aE [0,1] ?_
 simp only[seval,kZq]
 refine aC fun K hK=>?_
 refine aC fun K hK=>aA [] ?_
 simp only[seval,kZs,cav,aL,aP,bH,beq_self_eq_true,aI]
 and_intros<;>try first|exact⟨⟩|omega
 refine hK _ ?_
 clear hK K
 refine bG rfl ?_
 refine aA [] ?_
 simp only[seval,kZs,aU,bF,aT,bA,aH]
 refine aV (by simp[aJ,aM,aH]) (cA) (by simp[aH,aM,aJ,flat]) ?_
 simp only[seval,kZs,aK,aI]
 refine hK _ ?_
 clear hK K
 refine aE [0] ?_
 simp only[seval,kZq]
 refine aC fun K hK=>aA [] ?_
 simp only[seval,kZs,cav,aL,aP,rH,jU,h,aI]
 and_intros<;>try first|exact⟨⟩|omega
 refine hK _ ?_
 clear hK K
 refine aE [4] ?_
 simp only[seval,kZq]
 refine aS ?_
 simp only[qq,bR,cQ,bN,bO,dA,aB,aH]
theorem aHh [Gv] (c:Nat) (hc:c<18446744073709551616):ACalls Tryz.prog GP 228 [.val (.float .f64 c)] [] (fun r os=>os=[]∧r=.val (.bool (kV c))):=by
 have h:decide (IntKind.i64.wrap (c:Int)<0)=kV c:=by
  unfold kV
  rw[Bool.eq_iff_iff]
  simp[IntKind.wrap,IntKind.bits,IntKind.signed]
  omega
 refine aQ Tryz.func228 rfl rfl Tryz.ntmps228 (rts:=#[4]) rfl Tryz.results228 (by simp) ?_
 simp only[seval,aZ]
 refine aC fun K hK=>aA [] ?_
 simp only[seval,kZs,cav,aI]
 and_intros<;>try first|exact⟨⟩|omega
 refine hK _ ?_
 clear hK K
 refine aE [0] ?_
 simp only[seval,kZq]
 refine aC fun K hK=>aA [] ?_
 simp only[seval,kZs,aU,bF,aT,bA,aH]
 refine iT trivial (nE c) ?_
 simp only[seval,kZs,aK,eL,Tryz.underlying2,eG,bA,aH,fF,Tryz.underlying30,Option.isSome_some,cav,aL,aP,bH,h,aI]
 refine hK _ ?_
 clear hK K
 refine aE [2] ?_
 simp only[seval,kZq]
 refine aS ?_
 simp only[qq,bR,cQ,bN,bO,dA,aB,aH]
theorem xK [Gv] (x:Nat) (h0:0<x) (h1:x<9218868437227405312):ACalls Tryz.prog GP 248 [.val (.float .f64 x)] [] (fun r os=>os=[]∧r=.tup [.val (.float .f64 (nrm x)),.val (.int .i64 (aAG x))]):=by
 have cA:=aGW x (by omega)
 rw[gD (by omega)] at cA
 have hs:=aON (x:=x) (by omega)
 have hm:=@aOE x h0
 unfold aAG
 refine aQ Tryz.func248 rfl rfl Tryz.ntmps248 (rts:=#[27,3]) rfl Tryz.results248 (by simp) ?_
 simp only[aZ,Nat.reduceAdd]
 refine aC fun K hK=>aA [] ?_
 simp only[seval,kZs,cav,aI]
 and_intros<;>try first|exact⟨⟩|omega
 refine hK _ ?_
 clear hK K
 refine aE [0] ?_
 simp only[aD,aB,Nat.reduceEqDiff,if_true,if_false]
 refine aC fun K hK=>?_
 refine aC fun K2 hK2=>aA [] ?_
 simp only[seval,kZs,aU,bF,aT,bA,aH]
 refine aV (by simp[aJ,aM,aH]) (cA) (by simp[aH,aM,aJ,flat]) ?_
 simp only[seval,kZs,aK,cav,aL,aP,rH,jU,hs,aI]
 refine hK2 _ ?_
 clear hK2 K2
 by_cases h:x<4503599627370496
 ·have hd:decide (x<4503599627370496)=true:=decide_eq_true h
  have hm:=hm h
  rw[hd]
  refine bG rfl ?_
  refine aC fun K hK=>aA [] ?_
  simp only[seval,kZs,cav,aL,aP,rH,jU,hm,Option.isSome_some,Option.getD_some,aI]
  and_intros<;>try first|exact⟨⟩|omega
  refine hK _ ?_
  clear hK K
  refine aE [2,3] ?_
  simp only[aD,aB,Nat.reduceEqDiff,if_true,if_false]
  refine aS ?_
  simp only[aI]
  simp only[seval,qq,bR,cQ,bN,bO,dA,aB,aH]
  rw[if_pos h]
 ·have hd:decide (x<4503599627370496)=false:=decide_eq_false h
  rw[hd]
  refine aR rfl (bC ?_)
  simp only[aI]
  refine hK _ ?_
  clear hK K
  refine aE [0] ?_
  simp only[aD,aB,Nat.reduceEqDiff,if_true,if_false]
  refine aC fun K hK=>aA [] ?_
  simp only[seval,kZs,cav,aI]
  and_intros<;>try first|exact⟨⟩|omega
  refine hK _ ?_
  clear hK K
  refine aE [2,3] ?_
  simp only[aD,aB,Nat.reduceEqDiff,if_true,if_false]
  refine aS ?_
  simp only[seval,qq,bR,cQ,bN,bO,dA,aB,aH]
  rw[if_neg h]
  unfold nrm
  rw[if_neg h]
theorem aQp [Gv] (y:Nat) (h:y/4503599627370496<2048):bits .and .u64 ((y/2^52:Nat):Int) 2047=((y/4503599627370496:Nat):Int):=by
 rw[show (2047:Int)=((2047:Nat):Int) from rfl,(nM .u64 _ _ uV).1,aFi]
 congr 1
 have e:=Nat.and_two_pow_sub_one_eq_mod (y/4503599627370496) 11
 rw[show (2:Nat)^11 - 1=2047 from rfl,show (2:Nat)^11=2048 from rfl] at e
 rw[e,Nat.mod_eq_of_lt h]
 exact Nat.mod_eq_of_lt (by rw[show IntKind.u64.bits=64 from rfl,nH];omega)
theorem aJV [Gv] (x:Nat) (h0:0<x) (h1:x<9218868437227405312):ACalls Tryz.prog GP 268 [.val (.float .f64 x)] [] (fun r os=>os=[]∧r=.tup [.val (.float .f64 (1021*4503599627370496+sV x)),.val (.int .i64 (aAE x+53))]):=by
 have cI:=xE x (by omega)
 have cN:=xF x
 have cZ:=xK x h0 h1
 obtain⟨b1,b2,b3,b4,b5⟩:=aCv h0 h1
 obtain⟨m1,m2⟩:=rU h0
 have hfr:dX x=x:=gD (by omega)
 rw[hfr] at cI
 have hinf:decide (x=9218868437227405312)=false:=decide_eq_false (by omega)
 rw[hinf] at cI
 have hnan:mI x=false:=decide_eq_false (by rw[hfr];omega)
 rw[hnan] at cN
 have hz:=xL x
 rw[hfr,decide_eq_false (by omega)] at hz
 have hE:aAG x=-52∨aAG x=0:=by unfold aAG;split<;>simp
 generalize aAG x=E at *
 generalize nrm x=y at *
 refine aQ Tryz.func268 rfl rfl Tryz.ntmps268 (rts:=#[27,3]) rfl Tryz.results268 (by simp) ?_
 simp only[aZ,Nat.reduceAdd]
 refine aC fun K hK=>aA [] ?_
 simp only[qq,Nat.reduceMul,aF,Nat.reduceLT,aB,cav,aG,aI]
 and_intros<;>try first|exact⟨⟩|omega
 refine hK _ ?_
 clear hK K
 refine aE [0] ?_
 simp only[aD,aB,Nat.reduceEqDiff,if_true,if_false]
 refine aC fun K hK=>?_
 refine bK ?_
 refine aC fun K hK=>aA [] ?_
 simp only[qq,Nat.reduceMul,aF,Nat.reduceLT,aB,reduceCtorEq,cav,aL,aP,rH,jU,hz,Nat.reduceEqDiff,aG,aI]
 and_intros<;>try first|exact⟨⟩|omega
 refine hK _ ?_
 clear hK K
 refine aR rfl ?_
 refine aE [0] ?_
 simp only[aD,aB,Nat.reduceEqDiff,if_true,if_false]
 refine aC fun K2 hK2=>aA [] ?_
 simp only[qq,Nat.reduceMul,aF,Nat.reduceLT,aB,aU,Nat.reduceAdd,reduceCtorEq,cav,bF,aT,bA,aH]
 refine aV (by simp[aJ,aM,aH]) (cI) (by simp[aH,aM,aJ,flat]) ?_
 simp only[qq,aK,aF,Nat.reduceLT,aB,Nat.reduceEqDiff,reduceCtorEq,dD,bT,Option.bind_some,aW,Bool.not_false,dQ,gok,aU,Nat.reduceAdd,bF,aT,bA,aH]
 refine aV (by simp[aJ,aM,aH]) (cN) (by simp[aH,aM,aJ,flat]) ?_
 simp only[qq,aK,aF,bU,aB,Nat.reduceEqDiff,reduceCtorEq,cav,Nat.reduceLT,aG,aI]
 refine hK2 _ ?_
 clear hK2 K2
 refine aR rfl (bC ?_)
 simp only[bL,aI]
 refine hK _ ?_
 clear hK K
 refine aE [0] ?_
 simp only[aD,aB,Nat.reduceEqDiff,if_true,if_false]
 refine aC fun K hK=>aA [] ?_
 simp only[qq,Nat.reduceMul,aF,Nat.reduceLT,aB,aU,Nat.reduceAdd,reduceCtorEq,bF,aT,bA,aH]
 refine aV (by simp[aJ,aM,aH]) (cZ) (by simp[aH,aM,aJ,flat]) ?_
 simp only[qq,aK,aF,Nat.reduceLT,aB,Nat.reduceEqDiff,reduceCtorEq,gW,aG,aI]
 refine hK _ ?_
 clear hK K
 refine aE [0,3] ?_
 simp only[aD,aB,Nat.reduceEqDiff,if_true,if_false]
 refine aC fun K hK=>aA [] ?_
 simp only[qq,Nat.reduceMul,aF,Nat.reduceLT,aB,reduceCtorEq,aU,Nat.reduceAdd,Nat.reduceEqDiff,bF,aT,bA,aH]
 refine iT trivial (nE y) ?_
 simp only[qq,aK,aF,Nat.reduceLT,aB,Nat.reduceEqDiff,reduceCtorEq,aG,aI]
 refine hK _ ?_
 clear hK K
 refine aE [3,4] ?_
 simp only[aD,aB,Nat.reduceEqDiff,if_true,if_false]
 refine aC fun K hK=>aA [] ?_
 obtain⟨q,hqq,hq⟩:∃ q,y/4503599627370496=q∧bits .and .u64 ((y/2^52:Nat):Int) 2047=(q:Int):=⟨_,rfl,aQp y (by omega)⟩
 rw[hqq] at b4 b5
 have w1:IntKind.i64.wrap ((q:Nat):Int)=(q:Int):=fD (by omega)
 have w2:IntKind.i64.wrap ((q:Int) - 1023)=(q:Int) - 1023:=lY (by omega) (by omega)
 have w3:IntKind.i64.wrap ((q:Int) - 1023+1)=(q:Int) - 1023+1:=lY (by omega) (by omega)
 have w4:IntKind.i64.wrap (E+((q:Int) - 1023+1))=aAE x+53:=by
  rw[lY (by omega) (by omega)];omega
 simp only[qq,Nat.reduceMul,aF,Nat.reduceLT,aB,Nat.reduceEqDiff,cav,aL,aP,bH,Int.reduceLE,Int.reduceToNat,IntKind.bits,Nat.min_def,Nat.reduceLeDiff,rV,hq,eL,Tryz.underlying3,eG,bA,aH,fF,Tryz.underlying30,Option.isSome_some,w1,w2,w3,w4,aG,aI]
 refine hK _ ?_
 clear hK K
 refine aE [3,4] ?_
 simp only[aD,aB,Nat.reduceEqDiff,if_true,if_false]
 have ha:bits .andNot .u64 (y:Int) 9218868437227405312=((y%4503599627370496:Nat):Int):=aAq (by omega)
 refine aC fun K hK=>aA [] ?_
 simp only[qq,Nat.reduceMul,aF,Nat.reduceLT,aB,Nat.reduceEqDiff,cav,aL,aP,bH,ha,aG,aI]
 and_intros<;>try first|exact⟨⟩|omega
 refine hK _ ?_
 clear hK K
 refine aE [3,4] ?_
 simp only[aD,aB,Nat.reduceEqDiff,if_true,if_false]
 have ho:bits .or .u64 ((y%4503599627370496:Nat):Int) 4602678819172646912=((1021*4503599627370496+sV x:Nat):Int):=by
  have h1:=aHP 1022 (y%4503599627370496) (Nat.mod_lt _ (by decide)) (by omega)
  have e:((1022*4503599627370496:Nat):Int)=4602678819172646912:=by omega
  rw[e] at h1
  have e2:1022*4503599627370496+y%4503599627370496=1021*4503599627370496+sV x:=by omega
  rw[e2] at h1
  exact h1
 refine aC fun K hK=>aA [] ?_
 simp only[qq,Nat.reduceMul,aF,Nat.reduceLT,aB,Nat.reduceEqDiff,cav,aL,aP,bH,ho,aG,aI]
 and_intros<;>try first|exact⟨⟩|omega
 refine hK _ ?_
 clear hK K
 refine aE [3,4] ?_
 simp only[aD,aB,Nat.reduceEqDiff,if_true,if_false]
 refine aC fun K hK=>aA [] ?_
 simp only[qq,Nat.reduceMul,aF,Nat.reduceLT,aB,Nat.reduceEqDiff,aU,Nat.reduceAdd,bF,aT,bA,aH]
 refine iT trivial (oT _) ?_
 simp only[qq,aK,aF,Nat.reduceLT,aB,Nat.reduceEqDiff,aG,aI]
 refine hK _ ?_
 clear hK K
 refine aE [2,3] ?_
 simp only[aD,aB,Nat.reduceEqDiff,if_true,if_false]
 refine aS ?_
 simp only[qq,Nat.reduceMul,bR,cQ,bN,bO,dA,aB,Nat.reduceEqDiff,aH]
theorem aLd [Gv] (x:Nat) (h0:0<x) (h1:x<9218868437227405312):ACalls Tryz.prog GP 229 [.val (.float .f64 x)] [] (fun r os=>os=[]∧r=.tup [.val (.float .f64 (1021*4503599627370496+sV x)),.val (.int .i64 (aAE x+53))]):=by
 have cF:=aJV x h0 h1
 generalize 1021*4503599627370496+sV x=m at *
 generalize aAE x+53=e at *
 refine aQ Tryz.func229 rfl rfl Tryz.ntmps229 (rts:=#[27,3]) rfl Tryz.results229 (by simp) ?_
 simp only[aZ,Nat.reduceAdd]
 refine aC fun K hK=>aA [] ?_
 simp only[seval,kZs,cav,aI]
 and_intros<;>try first|exact⟨⟩|omega
 refine hK _ ?_
 clear hK K
 refine aE [0] ?_
 simp only[aD,aB,Nat.reduceEqDiff,if_true,if_false]
 refine aC fun K hK=>?_
 have hc:∀ (x y:Code) (st:St) (Q:Exit→St→Prop),awp Tryz.prog GP y st Q→awp Tryz.prog GP (.cond (.const (.bool false)) x y) st Q:=fun x y st Q h E a hr=>wp_cond_false rfl (h E a hr)
 refine hc _ _ _ _ (bC ?_)
 simp only[aI]
 refine hK _ ?_
 clear hK K
 refine aC fun K hK=>aA [] ?_
 simp only[seval,kZs,aU,bF,aT,bA,aH]
 refine aV (by simp[aJ,aM,aH]) (cF) (by simp[aH,aM,aJ,flat]) ?_
 simp only[seval,kZs,aK,gW,aI]
 refine hK _ ?_
 clear hK K
 refine aE [2,3] ?_
 simp only[aD,aB,Nat.reduceEqDiff,if_true,if_false]
 refine aS ?_
 simp only[seval,qq,bR,cQ,bN,bO,dA,aB,aH]
end Go.Proofs.YtefdnmeopbkflaaGreatDoor
