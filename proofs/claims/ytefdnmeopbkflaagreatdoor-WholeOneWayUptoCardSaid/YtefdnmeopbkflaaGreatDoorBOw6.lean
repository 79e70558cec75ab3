/-
  Texts of one proof, merged: Mu, Ha, Hd.
-/
import Derived.Test.YtefdnmeopbkflaaGreatDoorBOw5
import Derived.Deep.Slices
import Derived.ChangeOld
import Derived.Test.YtefdnmeopbkflaaGreatDoorRows
import Derived.Lib.LaidTab
import Derived.LaidLaws
import Derived.ShapedOpen
import Derived.Deep.DeepWitnessRowRef
import Derived.Deep.DeepHandedRow
import Derived.Lib.LaidIn
set_option linter.unusedSimpArgs false
set_option linter.unusedVariables false
namespace Go.Proofs.YtefdnmeopbkflaaGreatDoor
open Go Go.V
set_option linter.unusedSimpArgs false
set_option linter.unusedVariables false
set_option maxRecDepth 20000
set_option linter.unusedSectionVars false
set_option maxRecDepth 100000
theorem aKu [Gv] {E:Env} {g:Nat}:∀ {us bs:List AV} {o:Nat},eD E g o us→eD E g (o+us.length) bs→eD E g o (us++bs)
 | [],bs,o,h,h'=>by simpa using h'
 | c::us,bs,o,h,h'=>by
  simp only[eD,List.cons_append] at h ⊢
  exact⟨h.1,aKu h.2 (by rw[List.length_cons] at h';rwa [show o+1+us.length=o+(us.length+1) by omega])⟩
theorem aSX [Gv] {E:Env} {g:Nat}:∀ {us:List AV} {vs:List Value} {o:Nat},bY E us vs→(∀ i,i<vs.length→E.w.cell? ⟨g,o+i,none⟩=vs[i]?)→eD E g o us:=by
 intro us vs o h hc
 refine eD.of_cell fun i c hi=>?_
 obtain⟨v,hv,hr⟩:=h.get i c hi
 exact⟨v,by rw[hc i (List.getElem?_eq_some_iff.1 hv).1,hv],hr⟩
theorem aTc [Gv] {H:Type} {d:DataW H} {l:List (DataW H)} (h:d∈l):Rows.uptoBulk d≤Rows.uptoBulkAll l:=by
 induction l with
 | nil=>cases h
 | cons x r ih=>
  simp only[Rows.uptoBulkAll]
  rcases List.mem_cons.1 h with e|e
  ·subst e;omega
  ·have:=ih e;omega
theorem aTd [Gv] {H:Type} (d:DataW H):1≤Rows.uptoBulk d:=by
 cases d with
 | lit l=>cases l<;>simp[Rows.uptoBulk]
 | nil=>simp[Rows.uptoBulk]
 | ptr d=>simp[Rows.uptoBulk]
 | slice elems spare=>simp[Rows.uptoBulk]
 | agg parts=>simp[Rows.uptoBulk]
 | iface t d=>simp[Rows.uptoBulk]
 | map entries=>simp[Rows.uptoBulk]
 | held h=>simp[Rows.uptoBulk]
theorem aTb [Gv] {H:Type} (l:List (DataW H)):l.length≤Rows.uptoBulkAll l:=by
 induction l with
 | nil=>simp[Rows.uptoBulkAll]
 | cons x r ih=>have:=aTd x;simp only[Rows.uptoBulkAll,List.length_cons];omega
theorem aMQ [Gv] (N:Nat→Nat):∀ n,∃ B,∀ i,i<n→N i≤B
 | 0=>⟨0,fun i h=>absurd h (Nat.not_lt_zero _)⟩
 | n+1=>by
  obtain⟨B,hB⟩:=aMQ N n
  refine⟨max B (N n),fun i hi=>?_⟩
  by_cases e:i=n
  ·subst e;omega
  ·have:=hB i (by omega);omega
theorem aNP [Gv] {α:Type} {H:Type} {enc:TypeId×Value→H} {P:Program} {w:World} {base:Nat} {held:Bool} (F:α→List AV) (k:Nat) (hk:0<k) {t e:TypeId} {fuel:Nat} {cs:List Value} {x:DataW H×List MemPlace} (ht:P.underlying t=some (.slice e)) (hc:P.cellsOf e=k) (Good:α→DataW H→Prop)
  (elt:∀ n cs x,DataW.trod enc P w base (fun _=>true) held n e cs=some x→∃ (y:α) (N:Nat),Good y x.1∧(F y).length=k∧∀ M,N≤M→bY (Env.start w M) (F y) cs)
  (h:DataW.trod enc P w base (fun _=>true) held fuel t cs=some x) :
  ∃ (v:Value) (l:List α) (N:Nat),cs=[v]∧l.length≤Rows.uptoBulk x.1∧(∀ y∈l,∃ d,Good y d∧Rows.uptoBulk d≤Rows.uptoBulk x.1)∧∀ M,N≤M→bE (Env.start w M) (.sl l.length (l.flatMap F) .no) v:=by
 rcases Deep.open_slice ht h with⟨rfl,rfl⟩|⟨a,len,cap,m,n,D,Pl,rfl,hb,hl,hm,hmm,rfl,each⟩
 ·refine⟨_,[],0,rfl,by simp,by simp,fun M _=>?_⟩
  simp only[bE]
  exact⟨none,0,rfl,Nat.le_refl _,.inl rfl,trivial⟩
 ·have hml:len≤m:=by rw[hmm];split<;>omega
  have pick:∀ i,i<len→∃ (y:α) (N:Nat),Good y (D i)∧(F y).length=k∧∃ cs',w.cells? base (a.add (i*k)) k=some cs'∧∀ M,N≤M→bY (Env.start w M) (F y) cs':=by
   intro i hi
   obtain⟨cs',h1,h2⟩:=each i (by omega)
   rw[hc] at h1
   obtain⟨y,N,g1,g2,g3⟩:=elt _ _ _ h2
   exact⟨y,N,g1,g2,cs',h1,g3⟩
  by_cases h0:len=0
  ·subst h0
   refine⟨_,[],0,rfl,by simp,by simp,fun M _=>?_⟩
   simp only[bE]
   exact⟨_,cap,rfl,hl,.inl rfl,trivial⟩
  obtain⟨y0,_⟩:=pick 0 (by omega)
  obtain⟨Y,hY⟩:∃ Y:Nat→α,∀ i,i<len→∃ N:Nat,Good (Y i) (D i)∧(F (Y i)).length=k∧∃ cs',w.cells? base (a.add (i*k)) k=some cs'∧∀ M,N≤M→bY (Env.start w M) (F (Y i)) cs':=
   ⟨fun i=>if h:i<len then Classical.choose (pick i h) else y0,fun i hi=>by simp only[hi,dif_pos];exact Classical.choose_spec (pick i hi)⟩
  obtain⟨Nf,hN⟩:∃ Nf:Nat→Nat,∀ i,i<len→Good (Y i) (D i)∧(F (Y i)).length=k∧∃ cs',w.cells? base (a.add (i*k)) k=some cs'∧∀ M,Nf i≤M→bY (Env.start w M) (F (Y i)) cs':=
   ⟨fun i=>if h:i<len then Classical.choose (hY i h) else 0,fun i hi=>by simp only[hi,dif_pos];exact Classical.choose_spec (hY i hi)⟩
  obtain⟨Bn,hBn⟩:=aMQ Nf len
  obtain⟨b,off,spot⟩:=a
  have hspot:spot=none:=by
   obtain⟨_,g2,cs',h1,h2⟩:=hN 0 (by omega)
   obtain⟨_,hcl,hcell⟩:=World.cells?_some h1
   have h3:=hcell 0 (by omega)
   rw[Nat.zero_mul] at h3
   rw[List.getElem?_eq_getElem (by omega)] at h3
   have:=World.cell?_spot h3
   simp[Addr.add] at this
   exact this
  subst hspot
  have rows:∀ M,Bn≤M→∀ q,q≤len→(((List.range q).map Y).flatMap F).length=q*k∧eD (Env.start w M) b off (((List.range q).map Y).flatMap F):=by
   intro M hM q
   induction q with
   | zero=>intro _;exact⟨by simp,by simp only[List.range_zero,List.map_nil,List.flatMap_nil,eD]⟩
   | succ q ih=>
    intro hq
    obtain⟨i1,i2⟩:=ih (by omega)
    obtain⟨_,g2,cs',h1,h2⟩:=hN q (by omega)
    obtain⟨_,hcl,hcell⟩:=World.cells?_some h1
    have hr:=h2 M (Nat.le_trans (hBn q (by omega)) hM)
    rw[List.range_succ,List.map_append,List.flatMap_append]
    simp only[List.map_cons,List.map_nil,List.flatMap_cons,List.flatMap_nil,List.append_nil]
    refine⟨by rw[List.length_append,i1,g2,Nat.add_mul,Nat.one_mul],aKu i2 ?_⟩
    rw[i1]
    refine aSX hr fun j hj=>?_
    have:=hcell j (by omega)
    rw[iK,iK] at this
    exact this
  have hll:((List.range len).map Y).length=len:=by simp
  have hbk:∀ i,i<len→Rows.uptoBulk (D i)≤Rows.uptoBulkAll ((List.range len).map D):=fun i hi=>aTc (List.mem_map.2 ⟨i,List.mem_range.2 hi,rfl⟩)
  have hbl:len≤Rows.uptoBulkAll ((List.range len).map D):=by
   have:=aTb ((List.range len).map D)
   simpa using this
  refine⟨_,(List.range len).map Y,max Bn (off+len*k),rfl,?_,?_,fun M hM=>?_⟩
  ·rw[hll]
   simp only[Rows.uptoBulk]
   omega
  ·intro y hy
   obtain⟨i,hi,rfl⟩:=List.mem_map.1 hy
   have hi:=List.mem_range.1 hi
   refine⟨D i,(hN i hi).1,?_⟩
   have:=hbk i hi
   simp only[Rows.uptoBulk]
   omega
  ·obtain⟨r1,r2⟩:=rows M (by omega) len (Nat.le_refl _)
   simp only[bE]
   refine⟨_,cap,by rw[hll],by rw[hll];exact hl,.inr ⟨b,off,rfl,?_,?_,r2⟩,trivial⟩
   ·obtain⟨_,g2,cs',h1,h2⟩:=hN 0 (by omega)
    have:=World.cells?_block h1 hk
    rw[iK] at this
    exact this
   ·rw[r1]
    show _≤M
    omega
theorem aTh [Gv] (l:List Value) (h:l.length=5):l=(l.drop 0).take 1++((l.drop 1).take 1++((l.drop 2).take 1++((l.drop 3).take 1++(l.drop 4).take 1))):=by
 match l,h with
 | [a,b,c,d,e],_=>rfl
def aSU {H:Type} (c:CavV) (d:DataW H):Prop:=c.text.length≤Rows.uptoBulk d∧c.id.length≤Rows.uptoBulk d∧c.vault.length≤Rows.uptoBulk d∧c.party<18446744073709551616
theorem aSh [Gv] {H:Type} {enc:TypeId×Value→H} {w:World} {base:Nat} {held:Bool} (fuel:Nat) (L:List Value) (x:DataW H×List MemPlace) (h:DataW.trod enc Tryz.prog w base (fun _=>true) held fuel 74 L=some x) :
  ∃ (c:CavV) (N:Nat),aSU c x.1∧(CA c).length=5∧∀ M,N≤M→bY (Env.start w M) (CA c) L:=by
 obtain⟨xs,n,rfl,hd,hl,hlen,hx⟩:=DataW.trod_struct Tryz.underlying74 h
 have hn:Tryz.prog.cellsOf 74=5:=by kernel_rfl
 rw[hn] at hl
 have s4:Tryz.prog.cellsOf 4=1:=by kernel_rfl
 have s30:Tryz.prog.cellsOf 30=1:=by kernel_rfl
 have s9:Tryz.prog.cellsOf 9=1:=by kernel_rfl
 match xs,hlen with
 | [x0,x1,x2,x3,x4],_=>
 have f0:=hx 0 _ rfl
 change DataW.trod enc Tryz.prog w base (fun _=>true) held n 4 ((L.drop 0).take (Tryz.prog.cellsOf 4))=some x0 at f0
 rw[s4] at f0
 have f1:=hx 1 _ rfl
 change DataW.trod enc Tryz.prog w base (fun _=>true) held n 9 ((L.drop 1).take (Tryz.prog.cellsOf 9))=some x1 at f1
 rw[s9] at f1
 have f2:=hx 2 _ rfl
 change DataW.trod enc Tryz.prog w base (fun _=>true) held n 30 ((L.drop 2).take (Tryz.prog.cellsOf 30))=some x2 at f2
 rw[s30] at f2
 have f3:=hx 3 _ rfl
 change DataW.trod enc Tryz.prog w base (fun _=>true) held n 9 ((L.drop 3).take (Tryz.prog.cellsOf 9))=some x3 at f3
 rw[s9] at f3
 have f4:=hx 4 _ rfl
 change DataW.trod enc Tryz.prog w base (fun _=>true) held n 9 ((L.drop 4).take (Tryz.prog.cellsOf 9))=some x4 at f4
 rw[s9] at f4
 obtain⟨third,e0,_⟩:=DataW.trod_bool Tryz.underlying4 f0
 obtain⟨tx,e1,b1,_⟩:=DataW.trod_string Tryz.underlying9 f1
 obtain⟨pa,e2,_,w2⟩:=DataW.trod_int Tryz.underlying30 f2
 obtain⟨id,e3,b3,_⟩:=DataW.trod_string Tryz.underlying9 f3
 obtain⟨va,e4,b4,_⟩:=DataW.trod_string Tryz.underlying9 f4
 have hL:=aTh L hl
 rw[e0,e1,e2,e3,e4] at hL
 simp only[Lit.wf,Bool.and_eq_true,decide_eq_true_eq] at w2
 have m1:IntKind.u64.min=0:=by decide
 have m2:IntKind.u64.max=18446744073709551615:=by decide
 have hd1:=congrArg Prod.fst hd
 simp only[List.map_cons,List.map_nil] at hd1
 refine⟨⟨third,tx.data.toList,pa.toNat,id.data.toList,va.data.toList⟩,0,?_,rfl,fun M _=>?_⟩
 ·rw[hd1,b1,b3,b4]
  unfold aSU
  simp only[Rows.uptoBulk,Rows.uptoBulkAll]
  refine⟨by omega,by omega,by omega,by omega⟩
 ·have hp:((pa.toNat:Nat):Int)=pa:=by omega
  rw[hL]
  unfold CA
  simp only[hp,List.cons_append,List.nil_append,bY,bE,str]
  exact⟨_,_,rfl,rfl,_,_,rfl,rfl,_,_,rfl,rfl,_,_,rfl,rfl,_,_,rfl,rfl,rfl⟩
theorem aTQ [Gv] (l:List Value) (h:l.length=36):l=(l.drop 0).take 1++((l.drop 1).take 1++((l.drop 2).take 1++((l.drop 3).take 1++(l.drop 4).take 32))):=by
 have e:∀ (a b:Nat),(l.drop a).take b++l.drop (a+b)=l.drop a:=fun a b=>by
  rw[← List.drop_drop]
  exact List.take_append_drop b (l.drop a)
 have e4:(l.drop 4).take 32=l.drop 4:=List.take_of_length_le (by simp;omega)
 rw[e4,e 3 1,e 2 1,e 1 1,e 0 1,List.drop_zero]
def aSV {H:Type} (t:TokV) (d:DataW H):Prop:=t.tag.length=32∧(Rows.uptoBulk d≤1048576→aRU t)
theorem aRc [Gv] {H:Type} {enc:TypeId×Value→H} {w:World} {base:Nat} {held:Bool} (fuel:Nat) (L:List Value) (x:DataW H×List MemPlace) (h:DataW.trod enc Tryz.prog w base (fun _=>true) held fuel 67 L=some x) :
  ∃ (t:TokV) (N:Nat),aSV t x.1∧(TA t .no).length=36∧∀ M,N≤M→bY (Env.start w M) (TA t .no) L:=by
 obtain⟨xs,n,rfl,hd,hl,hlen,hx⟩:=DataW.trod_struct Tryz.underlying67 h
 have hn:Tryz.prog.cellsOf 67=36:=by kernel_rfl
 rw[hn] at hl
 have s4:Tryz.prog.cellsOf 4=1:=by kernel_rfl
 have s5:Tryz.prog.cellsOf 5=1:=by kernel_rfl
 have s30:Tryz.prog.cellsOf 30=1:=by kernel_rfl
 have s9:Tryz.prog.cellsOf 9=1:=by kernel_rfl
 have s65:Tryz.prog.cellsOf 65=1:=by kernel_rfl
 have s74:Tryz.prog.cellsOf 74=5:=by kernel_rfl
 have s23:Tryz.prog.cellsOf 23=32:=by kernel_rfl
 match xs,hlen with
 | [x0,x1,x2,x3,x4],_=>
 have f0:=hx 0 _ rfl
 change DataW.trod enc Tryz.prog w base (fun _=>true) held n 30 ((L.drop 0).take (Tryz.prog.cellsOf 30))=some x0 at f0
 rw[s30] at f0
 have f1:=hx 1 _ rfl
 change DataW.trod enc Tryz.prog w base (fun _=>true) held n 9 ((L.drop 1).take (Tryz.prog.cellsOf 9))=some x1 at f1
 rw[s9] at f1
 have f2:=hx 2 _ rfl
 change DataW.trod enc Tryz.prog w base (fun _=>true) held n 65 ((L.drop 2).take (Tryz.prog.cellsOf 65))=some x2 at f2
 rw[s65] at f2
 have f3:=hx 3 _ rfl
 change DataW.trod enc Tryz.prog w base (fun _=>true) held n 4 ((L.drop 3).take (Tryz.prog.cellsOf 4))=some x3 at f3
 rw[s4] at f3
 have f4:=hx 4 _ rfl
 change DataW.trod enc Tryz.prog w base (fun _=>true) held n 23 ((L.drop 4).take (Tryz.prog.cellsOf 23))=some x4 at f4
 rw[s23] at f4
 obtain⟨key,e0,_,w0⟩:=DataW.trod_int Tryz.underlying30 f0
 obtain⟨id,e1,b1,_⟩:=DataW.trod_string Tryz.underlying9 f1
 obtain⟨cv,cavs,N,e2,bl,bg,r2⟩:=aNP CA 5 (by omega) Tryz.underlying65 s74 aSU (fun n cs x h=>aSh n cs x h) f2
 obtain⟨bd,e3,_⟩:=DataW.trod_bool Tryz.underlying4 f3
 obtain⟨tg,ht,e4⟩:=aBn Tryz.underlying23 Tryz.underlying5 s5 s23 f4
 have hL:=aTQ L hl
 rw[e0,e1,e2,e3,e4] at hL
 simp only[Lit.wf,Bool.and_eq_true,decide_eq_true_eq] at w0
 have m1:IntKind.u64.min=0:=by decide
 have m2:IntKind.u64.max=18446744073709551615:=by decide
 have hd1:=congrArg Prod.fst hd
 simp only[List.map_cons,List.map_nil] at hd1
 refine⟨⟨key.toNat,id.data.toList,cavs,bd,tg⟩,N,⟨ht,fun hb=>?_⟩,eP _ _ ht,fun M hM=>?_⟩
 ·rw[hd1,b1] at hb
  simp only[Rows.uptoBulk,Rows.uptoBulkAll] at hb
  refine⟨⟨by show id.data.toList.length≤_;omega,by show cavs.length≤_;omega,fun c hc=>?_,ht⟩,by show key.toNat<_;omega,fun c hc=>?_⟩
  ·obtain⟨d,⟨g1,g2,g3,g4⟩,g5⟩:=bg c hc
   exact⟨by omega,by omega,by omega⟩
  ·obtain⟨d,⟨g1,g2,g3,g4⟩,g5⟩:=bg c hc
   exact g4
 ·have hp:((key.toNat:Nat):Int)=key:=by omega
  have hr:=r2 M hM
  rw[hL]
  unfold TA
  simp only[hp,List.cons_append,List.nil_append,bY,str]
  refine⟨_,_,rfl,by simp only[bE],_,_,rfl,by simp only[bE],_,_,rfl,hr,_,_,rfl,by simp only[bE],oN _ tg⟩
theorem aTR [Gv] (l:List Value) (h:l.length=37):l=(l.drop 0).take 36++(l.drop 36).take 1:=by
 rw[show (l.drop 36).take 1=l.drop 36 from List.take_of_length_le (by simp;omega),List.drop_zero,List.take_append_drop]
def aTL {H:Type} (b:BunV) (d:DataW H):Prop:=Rows.uptoBulk d≤1048576→aFf b
theorem aRb [Gv] {H:Type} {enc:TypeId×Value→H} {w:World} {base:Nat} {held:Bool} (fuel:Nat) (L:List Value) (x:DataW H×List MemPlace) (h:DataW.trod enc Tryz.prog w base (fun _=>true) held fuel 70 L=some x) :
  ∃ (b:BunV) (N:Nat),aTL b x.1∧∀ M,N≤M→bY (Env.start w M) (BB b) L:=by
 obtain⟨xs,n,rfl,hd,hl,hlen,hx⟩:=DataW.trod_struct Tryz.underlying70 h
 have hn:Tryz.prog.cellsOf 70=37:=by kernel_rfl
 rw[hn] at hl
 have s67:Tryz.prog.cellsOf 67=36:=by kernel_rfl
 have s68:Tryz.prog.cellsOf 68=1:=by kernel_rfl
 match xs,hlen with
 | [x0,x1],_=>
 have f0:=hx 0 _ rfl
 change DataW.trod enc Tryz.prog w base (fun _=>true) held n 67 ((L.drop 0).take (Tryz.prog.cellsOf 67))=some x0 at f0
 rw[s67] at f0
 have f1:=hx 1 _ rfl
 change DataW.trod enc Tryz.prog w base (fun _=>true) held n 68 ((L.drop 36).take (Tryz.prog.cellsOf 68))=some x1 at f1
 rw[s68] at f1
 obtain⟨root,N0,g0,_,r0⟩:=aRc n _ _ f0
 obtain⟨dv,ds,N1,e1,bl,bg,r1⟩:=aNP (fun t=>TA t .no) 36 (by omega) Tryz.underlying68 s67 aSV (fun n cs x h=>aRc n cs x h) f1
 have hL:=aTR L hl
 rw[e1] at hL
 have hd1:=congrArg Prod.fst hd
 simp only[List.map_cons,List.map_nil] at hd1
 refine⟨⟨root,ds⟩,max N0 N1,fun hb=>?_,fun M hM=>?_⟩
 ·rw[hd1] at hb
  simp only[Rows.uptoBulk,Rows.uptoBulkAll] at hb
  refine⟨g0.2 (by omega),by show ds.length≤_;omega,fun d hd=>?_⟩
  obtain⟨dd,g1,g2⟩:=bg d hd
  exact g1.2 (by omega)
 ·rw[hL]
  unfold BB
  refine(r0 M (by omega)).append ?_
  simp only[bY]
  exact⟨_,_,rfl,r1 M (by omega),rfl⟩
theorem aSi [Gv] {H:Type} {enc:TypeId×Value→H} {w:World} {base base0:Nat} {held:Bool} {v:Value} {d:DataW H} {p:List MemPlace} (hok:Value.okWide Tryz.prog w .any base0 77 v) (h:DataW.Trod enc Tryz.prog w base (fun _=>true) held 77 v d p) :
  ∃ (a b:BunV) (N:Nat),(Rows.uptoBulk d≤1048576→aFf a∧aFf b)∧∀ M,N≤M→bE (Env.start w M) (.agg (BB a++BB b)) v:=by
 obtain⟨cs,rfl⟩:∃ cs,v=.agg cs:=by
  unfold Value.okWide at hok
  rw[Tryz.underlying77] at hok
  obtain⟨cs,rfl,_⟩:=hok
  exact⟨cs,rfl⟩
 obtain⟨fuel,hf⟩:=h
 obtain⟨xs,m,rfl,hd,hl,hxl,hx⟩:=DataW.trod_array Tryz.underlying77 hf
 obtain⟨L⟩:=cs
 simp only[Value.cells] at hl hx
 have s77:Tryz.prog.cellsOf 77=74:=by kernel_rfl
 have s70:Tryz.prog.cellsOf 70=37:=by kernel_rfl
 rw[s77] at hl
 match xs,hxl with
 | [x0,x1],_=>
 have f0:=hx 0 (by omega)
 have f1:=hx 1 (by omega)
 rw[s70] at f0 f1
 simp only[Nat.zero_mul,Nat.one_mul,List.getElem?_cons_zero,List.getElem?_cons_succ] at f0 f1
 obtain⟨a,N0,g0,r0⟩:=aRb _ _ _ f0
 obtain⟨b,N1,g1,r1⟩:=aRb _ _ _ f1
 have hL:L=(L.drop 0).take 37++(L.drop 37).take 37:=by
  rw[show (L.drop 37).take 37=L.drop 37 from List.take_of_length_le (by simp;omega),List.drop_zero,List.take_append_drop]
 have hd1:=congrArg Prod.fst hd
 simp only[List.map_cons,List.map_nil] at hd1
 refine⟨a,b,max N0 N1,fun hb=>?_,fun M hM=>?_⟩
 ·rw[hd1] at hb
  simp only[Rows.uptoBulk,Rows.uptoBulkAll] at hb
  exact⟨g0 (by omega),g1 (by omega)⟩
 ·simp only[bE]
  refine⟨_,rfl,?_⟩
  rw[hL]
  exact(r0 M (by omega)).append (r1 M (by omega))
end Go.Proofs.YtefdnmeopbkflaaGreatDoor
namespace Go.Proofs.YtefdnmeopbkflaaGreatDoor
open Go
set_option linter.unusedSimpArgs false
set_option linter.unusedVariables false
set_option maxRecDepth 20000
set_option maxRecDepth 100000
abbrev listed:List (String×DataW Unit):=[("math/bits.deBruijn32tab",Rows.laid_math_bits_deBruijn32tab),("math/bits.deBruijn64tab",Rows.laid_math_bits_deBruijn64tab),("internal/strconv.uint64pow10",Rows.laid_internal_strconv_uint64pow10),("unicode/utf8.acceptRanges",Rows.laid_unicode_utf8_acceptRanges),("chitty/word.primes",Rows.laid_chitty_word_primes),("strconv.ErrRange",Rows.laid_strconv_ErrRange),("strconv.ErrSyntax",Rows.laid_strconv_ErrSyntax),("unicode/utf8.first",Rows.laid_unicode_utf8_first)]
theorem oI {P:Program} {x:String×DataW Unit} {l:List (String×DataW Unit)} {W:World} (h:laidMet P (x::l) W):laidMet P l W:=by
 obtain⟨n,d⟩:=x
 obtain⟨ps,⟨g,t,cs,fuel,p,q,_,_,_,_,hr,rfl⟩,hn,hall⟩:=h
 exact⟨q,hr,(List.nodup_append.1 hn).2.1,fun b off hm=>hall b off (List.mem_append_right _ hm)⟩
theorem aBN {P:Program} {W:World} {name nm:String} {d:DataW Unit} {rest:List (String×DataW Unit)} {g:Nat} {t:TypeId} {ms:Array (String×TypeId)}
  (hg:P.globalNamed name=some g) (hty:(P.globals[g]?).map (·.type)=some t) (ht:P.underlying t=some (.interface ms)) (h:laidMet P ((name,.iface nm d)::rest) W) :
  ∃ u v,W.cell? ⟨g,0,none⟩=some (.iface u v):=by
 obtain⟨ps,⟨g',t',cs,fuel,p,q,hg',ht',hvar,hd,_,_⟩,_⟩:=h
 obtain rfl:=Option.some.inj (hg.symm.trans hg')
 obtain rfl:=Option.some.inj (hty.symm.trans ht')
 obtain⟨f1,u,v,hcs,_⟩:=iface_of_trod ht hd
 refine⟨u,v,?_⟩
 rw[World.var?_cell hg hvar 0,← Array.getElem?_toList,hcs]
 rfl
theorem aOx {w:World} {N:Nat} {tab:List (Nat×List V.AV)} (h:∀ g cells,(g,cells)∈tab→0<cells.length∧cells.length≤N∧∀ i c,cells[i]? = some c→∃ v,c=.val v∧w.cell? ⟨g,i,none⟩=some v):V.GOk (V.Env.start w N) ⟨tab,[]⟩:=by
 intro g cells hm
 obtain⟨h1,h2,h3⟩:=h g cells hm
 obtain⟨v0,_,hv0⟩:=h3 0 _ (List.getElem?_eq_getElem h1)
 refine⟨V.aDs hv0,by simpa[V.Env.start] using h2,V.eD.of_cell fun i c hi=>?_,fun c hm=>?_⟩
 ·obtain⟨v,rfl,hv⟩:=h3 i c hi
  exact⟨v,by rw[Nat.zero_add];exact hv,rfl⟩
 ·obtain⟨i,hi,rfl⟩:=List.getElem_of_mem hm
  obtain⟨v,hv,_⟩:=h3 i _ (List.getElem?_eq_getElem hi)
  exact⟨v,hv⟩
theorem aAX {w:World} {g:Nat} {k:IntKind} {zs:List Int} (h:∀ i,i<zs.length→w.cell? ⟨g,i,none⟩=some (.int k (zs.getD i 0))) (i:Nat) (c:V.AV) (hi:(V.Is k zs)[i]? = some c):∃ v,c=.val v∧w.cell? ⟨g,i,none⟩=some v:=by
 have hi':i<zs.length:=by
  have:=(List.getElem?_eq_some_iff.1 hi).1
  simpa[V.dZ] using this
 have e:(V.Is k zs)[i]? = some (V.I k (zs.getD i 0)):=by
  simp[V.Is,List.getD_eq_getElem?_getD,List.getElem?_map,List.getElem?_eq_getElem hi']
 rw[e] at hi
 injection hi with hi
 subst hi
 exact⟨_,rfl,h i hi'⟩
theorem aEE {P:Program} {w:World} {g:Nat} {t:TypeId} {k:IntKind} {zero:Array Value} (h:w.ShapedOpen P) (hg:g<P.globals.size)
  (h0:((begin P (fun _ _=>0) default).world.heap[g]?).bind Obj.row? = some (zero,t)) (hz:zero.size=1)
  (hb:P.buildable t=true) (hc:P.cellTypes P.depth t=some [t]) (hu:P.underlying t=some (.int k)):∃ n,w.cell? ⟨g,0,none⟩=some (.int k n):=by
 obtain⟨cs,hh,hs,hr⟩:=h.1 g zero t hg h0
 obtain⟨ts,hts,_,hall⟩:=hr hb
 rw[hc] at hts
 cases hts
 have h1:0<cs.size:=by omega
 obtain⟨u,hu',hok⟩:=hall 0 cs[0] (by simp[h1])
 have:u=t:=by simpa using hu'.symm
 subst this
 have hcell:w.cell? ⟨g,0,none⟩=some cs[0]:=by simp[World.cell?,hh,h1]
 rw[hcell]
 unfold Cell.ok at hok
 rw[hu] at hok
 cases hv:cs[0]<;>rw[hv] at hok<;>first|(obtain⟨rfl,_⟩:=hok;exact⟨_,rfl⟩)|simp at hok
theorem gok {W:World} (hL:laidMetH Tryz.prog listed W) (hs:W.ShapedOpen Tryz.prog):∃ G:Gv,∀ n,512≤n→V.GOk (V.Env.start W n) (@GP G):=by
 have h0:laidMet Tryz.prog listed W:=by
  unfold laidMetH at hL
  rw[show (listed.filter fun x=>x.2.handleName?.isSome)=[] from by kernel_rfl] at hL
  exact hL
 have h1:=oI h0
 have h2:=oI h1
 have h4:=oI (oI h2)
 have h5:=oI h4
 have h6:=oI h5
 have n2:Tryz.prog.globalNamed "math/bits.deBruijn64tab" = some 2:=by kernel_rfl
 have n1:Tryz.prog.globalNamed "internal/strconv.uint64pow10" = some 1:=by kernel_rfl
 have n9:Tryz.prog.globalNamed "chitty/word.primes" = some 9:=by kernel_rfl
 have n4:Tryz.prog.globalNamed "strconv.ErrRange" = some 4:=by kernel_rfl
 have n3:Tryz.prog.globalNamed "strconv.ErrSyntax" = some 3:=by kernel_rfl
 have t2:Lib.TabIs Tryz.prog W "math/bits.deBruijn64tab" .u8 aHl:=Lib.tabIs_of_head n2 (t:=336) (e:=5) (n:=64) (by kernel_rfl) (by kernel_rfl) (by kernel_rfl) (by kernel_rfl) (by kernel_rfl) h1
 have t1:Lib.TabIs Tryz.prog W "internal/strconv.uint64pow10" .u64 aHm:=Lib.tabIs_of_head n1 (t:=330) (e:=30) (n:=20) (by kernel_rfl) (by kernel_rfl) (by kernel_rfl) (by kernel_rfl) (by kernel_rfl) h2
 have t9:Lib.TabIs Tryz.prog W "chitty/word.primes" .u32 V.aGE:=Lib.tabIs_of_head n9 (t:=371) (e:=279) (n:=64) (by kernel_rfl) (by kernel_rfl) (by kernel_rfl) (by kernel_rfl) (by kernel_rfl) h4
 obtain⟨rT,rP,c4⟩:=aBN n4 (t:=206) (ms:=#[("Error",301)]) (by kernel_rfl) (by kernel_rfl) h5
 obtain⟨sT,sP,c3⟩:=aBN n3 (t:=206) (ms:=#[("Error",301)]) (by kernel_rfl) (by kernel_rfl) h6
 obtain⟨m,c5⟩:=aEE (k:=.i64) (t:=3) (g:=5) (zero:=#[.int .i64 0]) hs (of_decide_eq_true (by kernel_rfl)) (by kernel_rfl) rfl (by kernel_rfl) (by kernel_rfl) (by kernel_rfl)
 refine⟨⟨m,sT,sP,rT,rP⟩,fun n hn=>aOx fun g cells hm=>?_⟩
 simp only[List.mem_cons,List.not_mem_nil,or_false,Prod.mk.injEq] at hm
 rcases hm with⟨rfl,rfl⟩|⟨rfl,rfl⟩|⟨rfl,rfl⟩|⟨rfl,rfl⟩|⟨rfl,rfl⟩|⟨rfl,rfl⟩
 ·have e:V.aGE.length=64:=rfl
  exact⟨by rw[V.dZ,e];omega,by rw[V.dZ,e];omega,aAX fun i hi=>t9.cell n9 i hi⟩
 ·refine⟨by simp,by simp;omega,fun i c hi=>?_⟩
  rcases i with _|i
  ·injection hi with hi;subst hi;exact⟨_,rfl,c5⟩
  ·simp at hi
 ·refine⟨by simp,by simp;omega,fun i c hi=>?_⟩
  rcases i with _|i
  ·injection hi with hi;subst hi;exact⟨_,rfl,c3⟩
  ·simp at hi
 ·refine⟨by simp,by simp;omega,fun i c hi=>?_⟩
  rcases i with _|i
  ·injection hi with hi;subst hi;exact⟨_,rfl,c4⟩
  ·simp at hi
 ·have e:aHm.length=20:=rfl
  exact⟨by rw[V.dZ,e];omega,by rw[V.dZ,e];omega,aAX fun i hi=>t1.cell n1 i hi⟩
 ·have e:aHl.length=64:=rfl
  exact⟨by rw[V.dZ,e];omega,by rw[V.dZ,e];omega,aAX fun i hi=>t2.cell n2 i hi⟩
end Go.Proofs.YtefdnmeopbkflaaGreatDoor
namespace Go.Proofs.YtefdnmeopbkflaaGreatDoor
open Go
set_option linter.unusedVariables false
set_option maxRecDepth 20000
set_option maxRecDepth 1000000
def aLa:DataW Unit→List Value
 | .lit (.int k n)=>[.int k n]
 | _=>[]
def aQS:DataW Unit→List Value
 | .agg l=>l.flatMap aLa
 | d=>aLa d
def aCf:DataW Unit→List Value
 | .agg l=>l.flatMap aQS
 | d=>aLa d
noncomputable def kS (os:Os):World:=
 let N:=(World.settled Tryz.prog os).heap.size
 let w0:=World.holding Tryz.prog os ⟨#[.cells #[.string ⟨#[118,97,108,117,101,32,111,117,116,32,111,102,32,114,97,110,103,101]⟩] 357,.cells #[.string ⟨#[105,110,118,97,108,105,100,32,115,121,110,116,97,120]⟩] 357],#[],[]⟩
 let put (h:Array Obj) (g:Nat) (cs:Array Value):Array Obj:=h.modify g fun
  | .cells _ t frozen=>.cells cs t frozen
  | o=>o
 let h0:=put (put w0.heap 4 #[.iface 355 (.pointer (some ⟨N,0,none⟩))]) 3 #[.iface 355 (.pointer (some ⟨N+1,0,none⟩))]
 let h1:=put h0 6 (aCf Rows.laid_math_bits_deBruijn32tab).toArray
 let h2:=put h1 2 (aCf Rows.laid_math_bits_deBruijn64tab).toArray
 let h3:=put h2 1 (aCf Rows.laid_internal_strconv_uint64pow10).toArray
 let h4:=put h3 8 (aCf Rows.laid_unicode_utf8_acceptRanges).toArray
 let h5:=put h4 9 (aCf Rows.laid_chitty_word_primes).toArray
 let h6:=put h5 7 (aCf Rows.laid_unicode_utf8_first).toArray
 { w0 with heap:=h6 }
noncomputable abbrev N0:Nat:=(World.settled Tryz.prog default).heap.size
theorem aLt (os:Os) (args:Array Value):laidMet Tryz.prog listed ((kS os).forCall (fun _ _=>0) ⟨#[],args,[]⟩).memory:=
 (LaidIn.of_run (l:=listed) [6,2,1,8,9,4,N0,3,N0+1,7] 8 (by kernel_rfl) (by kernel_rfl) (by kernel_rfl) (by kernel_rfl)).met
theorem aJY (os:Os) (args:Array Value):laidMetH Tryz.prog listed ((kS os).forCall (fun _ _=>0) ⟨#[],args,[]⟩).memory:=by
 unfold laidMetH
 rw[show (listed.filter fun x=>x.2.handleName?.isSome)=[] from by kernel_rfl]
 exact aLt os args
end Go.Proofs.YtefdnmeopbkflaaGreatDoor
