/-
  Texts of one proof, merged: Vzq, Fl, Fm, Fn, Vzm, Vzr, Vzs.
-/
import Derived.Test.YtefdnmeopbkflaaGreatDoorBOw1
import Derived.Scope
import GoSem.Core.Float
set_option linter.unusedSimpArgs false
set_option linter.unusedVariables false
namespace Go.V
set_option linter.unusedVariables false
set_option linter.unusedSimpArgs false
theorem aCT {P:Program} {G:Gl} {c:Code} {st:St} {Q:Exit→St→Prop} (h:awp P G c st fun e s=>match e with
  | .goto _=>False
  | e=>Q e s):awp P G (.scope c) st Q:=fun E a hr=>
 wp_scope_straight (wp_mono (h E a hr) fun e a' w' ⟨s,E',h1,h2,h3,h4⟩=>by
  cases e with
  | goto l=>exact h2.elim
  | _=>exact⟨s,E',h1,h2,h3,h4⟩)
def aGQ (objs:List AObj) (X:AV) (w:AV) (K:AV→List AObj→Prop):Prop:=
 (X=.sl 0 [] .full∧∀ c',1≤c'→K (.osl objs.length 0 1 (some c')) (objs++[.cells (w::List.replicate (c' - 1) .top)]))∨
 (∃ r N c cs,X=.osl r 0 N (some c)∧objs[r]? = some (.cells cs)∧cs.length=c∧N≤c∧0<c∧N≤1099511627776∧aM cs=true∧jE cs=true∧
  (N<c→K (.osl r 0 (N+1) (some c)) (objs.set r (.cells (spl cs N [w]))))∧
  (N=c→∀ c',N+1≤c'→K (.osl objs.length 0 (N+1) (some c')) (objs++[.cells (cs++w::List.replicate (c' - (N+1)) .top)])))
theorem aGH (E:Env) (vs:List Value):bY E (List.replicate vs.length .top) vs:=by
 induction vs with
 | nil=>simp[bY]
 | cons v vs ih=>simp only[List.length_cons,List.replicate_succ,bY];exact⟨v,vs,rfl,by simp only[bE],ih⟩
theorem aHN {cs:List AV} (h:aM cs=true) {a:AV} (ha:a∈cs):aH a=true:=by
 induction cs with
 | nil=>cases ha
 | cons c cs ih=>
  simp only[aM,Bool.and_eq_true] at h
  rcases List.mem_cons.1 ha with rfl|ha
  ·exact h.1
  ·exact ih h.2 ha
theorem aFd (n:Nat):aM (List.replicate n .top)=true:=by induction n<;>simp_all [List.replicate_succ,aM,aH]
theorem aGx (n:Nat):jE (List.replicate n .top)=true:=by induction n<;>simp_all [List.replicate_succ,jE,flat]
theorem aHX {P:Program} {E:Env} {objs:List AObj} {sT ty e:TypeId} {by_:Nat} {X:AV} {zv:Value} {us ux:Value} {w:Value} {p:Perm} {K:AV→List AObj→Prop}
  (ht:P.underlying sT=some (.slice e)) (hsz:tsz P e=some 1) (hby:tby P e=some by_) (hb:by_≤64) (hz:dS P e=some [zv]) (hxT:∀ k,P.underlying sT≠some (.int k))
  (ho:bP E objs) (hX:bE E X us) (hx:bE E (.sl 1 [.val w] p) ux) (hone:w.oneCell'=true) (h:aGQ objs X (.val w) K) :
  ∃ E' u X' objs',(Builtin.append_ #[sT,sT] ty #[us,ux]).run P E.w=.ok u E'.w∧bE E' X' u∧bP E' objs'∧Ext E objs E' objs'∧K X' objs':=by
 -- what is appended,nobody's objects in sight
 have hx0:bE (E.lend objs) (.sl 1 [.val w] (bW p)) ux:=gI (E:=E) (E':=E.lend objs) rfl (fun g _=>mU ho g) _ _ (by cases p<;>simp[bW,aH,aM]) (qF hx)
 have ho0:bP (E.lend objs) []:=⟨rfl,fun r o h=>by simp at h,fun r r' o o' g h=>by simp at h⟩
 have hsrc:∃ C,gC P [] e 1 sT (.sl 1 [.val w] (bW p))=some (C,1,[.val w])∧C:=by
  unfold gC
  rw[ht]
  refine⟨_,rfl,?_⟩
  simp
 obtain⟨C,hsrc,hC⟩:=hsrc
 rcases h with⟨rfl,hK⟩|⟨r,N,c,cs,rfl,hr,hlen,hN,hc,hN2,hnr,hfl,hK1,hK2⟩
 ·simp only[bE] at hX
  obtain⟨A,cap,rfl,hn,hcs,hp⟩:=hX
  have hcap:cap=0:=hp
  subst hcap
  obtain⟨ws,hws,hml,hin,hout⟩:=oZ (P:=P) (ty:=ty) (A:=A) (cap:=0) (n:=0) (olds:=[]) ht hsz hby hz hsrc hC ho0 hx0 (by omega) (by omega) (by simp) (.inl rfl)
  obtain⟨os,c',hos,hc',hrun⟩:=hout (by omega)
  simp only[bY] at hos
  subst hos
  have hwl:ws=[w]:=by
   simp only[bY,bE] at hws
   obtain⟨v,vs',rfl,rfl,rfl⟩:=hws
   rfl
  subst hwl
  have hzl:(fX [zv] (c' - (0+1))).length=c' - 1:=by rw[iA];simp
  obtain⟨E',eE,hρ,hk,ho',hx',hx0'⟩:=mK (vs:=[w]++fX [zv] (c' - (0+1))) (t:=e) ho (w':=E.w.drew.alloc (.cells ([]++[w]++fX [zv] (c' - (0+1))).toArray e)) (by simpa using Pushed.drew E.w _)
   (cs:=.val w::List.replicate (c' - 1) .top) (by simp[hzl]) (by
    rw[List.take_of_length_le (by simp[hzl])]
    simp only[List.cons_append,List.nil_append,bY]
    refine⟨_,_,rfl,by simp only[bE],?_⟩
    have:=aGH E (fX [zv] (c' - (0+1)))
    rw[hzl] at this
    exact this)
  refine⟨E',_,_,_,by rw[eE];exact hrun,?_,ho',hx',hK c' (by omega)⟩
  simp only[bE]
  exact⟨hk,_,c',rfl,by omega,fun k hk=>by injection hk,fun h=>⟨_,hρ,rfl⟩⟩
 ·simp only[bE] at hX
  obtain⟨hrk,A,cap,rfl,hn,hcap,hA⟩:=hX
  have hcap:=hcap c rfl
  subst hcap
  subst hlen
  obtain⟨g,hg,rfl⟩:=hA hc
  have hne:cs≠[]:=by rintro rfl;simp at hc
  have hown:dI (.cells cs) (E.ρ r)=some g:=by rw[hg];cases cs with
   | nil=>exact absurd rfl hne
   | cons=>rfl
  have hlim:=aIN ho hr hown
  have hcell:fM E (E.ρ r) (.cells cs):=ho.2.1 r _ hr
  rcases hcell with e0|⟨g',vs,t,fz,e0,hh,hfz,hl0,hvl,hrep⟩
  ·exact absurd e0 hne
  have hgg:g=g':=by rw[hg] at e0;injection e0 with e0;injection e0 with e0;injection e0
  subst hgg
  have hold:cs.take N=[]∨∃ g' o,some (⟨g,0,none⟩:Addr)=some ⟨g',o,none⟩∧g'<(E.lend objs).w.heap.size∧o+(cs.take N).length≤(E.lend objs).lim g'∧eD (E.lend objs) g' o (cs.take N):=by
   refine .inr ⟨g,0,rfl,kR hh,?_,?_⟩
   ·rw[hlim,List.length_take];omega
   ·refine eD.of_cell fun i a ha=>?_
    have ha':cs[i]? = some a:=by
     rw[List.getElem?_take] at ha
     split at ha
     ·exact ha
     ·cases ha
    obtain⟨v,hv,hr⟩:=hrep.get i a ha'
    refine⟨v,?_,?_⟩
    ·have:(E.lend objs).w.heap[g]? = some (.cells vs t fz):=hh
     rw[cell_of_row _ _ _ _ _ _ this]
     rw[List.getElem?_take] at hv
     split at hv
     ·simpa using hv
     ·cases hv
    ·refine gI (E:=E) (E':=E.lend objs) rfl (fun g _=>mU ho g) _ _ ?_ hr
     have hm:a∈cs:=List.mem_of_getElem? ha'
     exact aHN hnr hm
  obtain⟨ws,hws,hml,hin,hout⟩:=oZ (P:=P) (ty:=ty) (A:=some ⟨g,0,none⟩) (cap:=cs.length) (n:=N) (olds:=cs.take N) ht hsz hby hz hsrc hC ho0 hx0 (by
   have:(N+1)*by_≤(1099511627776+1)*64:=Nat.mul_le_mul (by omega) hb
   omega) (by omega) (by rw[List.length_take];omega) hold
  have hwl:ws=[w]:=by
   simp only[bY,bE] at hws
   obtain⟨v,vs',rfl,rfl,rfl⟩:=hws
   rfl
  subst hwl
  rcases Nat.lt_or_ge N cs.length with hlt|hge
  ·-- in place
   obtain⟨E',hst,ho',hx'⟩:=uS (P:=P) (us:=[w]) (new:=[.val w]) (off:=N) ho hr hg (by simp;omega) (by simp) (by simp only[bY,bE];exact⟨_,_,rfl,rfl,rfl⟩) (by simpa using hone)
   refine⟨E',.slice (some ⟨g,0,none⟩) (N+1) cs.length,_,_,?_,?_,ho',hx',hK1 hlt⟩
   ·have:=hin (by omega)
    have ea:(⟨g,0,none⟩:Addr).add (N*1)=⟨g,N,none⟩:=by rw[iK];simp
    have hst':(storeCells ((⟨g,0,none⟩:Addr).add (N*1)) [w]).run P (E.lend objs).w=.ok () E'.w:=by rw[ea];exact hst
    simp only at this
    rw[hst'] at this
    exact this
   ·simp only[bE]
    refine⟨Nat.lt_of_lt_of_le hrk hx'.k,_,cs.length,rfl,by omega,fun k hk=>by injection hk,fun _=>⟨g,?_,rfl⟩⟩
    rcases hx'.ρ r hrk with e1|⟨_,_,_,_,_,_,e1,_⟩
    ·rw[← e1];exact hg
    ·rw[hg] at e1;cases e1
  ·-- a new row
   have hNc:N=cs.length:=by omega
   subst hNc
   obtain⟨os,c',hos,hc',hrun⟩:=hout (by omega)
   rw[List.take_of_length_le (Nat.le_refl _)] at hos
   have hosE:bY E cs os:=lI cs os hfl hos
   have hzl:(fX [zv] (c' - (cs.length+1))).length=c' - (cs.length+1):=by rw[iA];simp
   have hosl:os.length=cs.length:=by have:=hosE.length;omega
   have hL1:(os++[w]++fX [zv] (c' - (cs.length+1))).length=cs.length+1+(c' - (cs.length+1)):=by rw[List.length_append,List.length_append,hzl,hosl];rfl
   have hL2:(cs++.val w::List.replicate (c' - (cs.length+1)) AV.top).length=cs.length+(c' - (cs.length+1)+1):=by rw[List.length_append,List.length_cons,List.length_replicate]
   obtain⟨E',eE,hρ,hk,ho',hx',hx0'⟩:=mK (vs:=os++[w]++fX [zv] (c' - (cs.length+1))) (t:=e) ho (w':=E.w.drew.alloc (.cells (os++[w]++fX [zv] (c' - (cs.length+1))).toArray e)) (Pushed.drew E.w _)
    (cs:=cs++.val w::List.replicate (c' - (cs.length+1)) .top) (by rw[hL1,hL2];omega) (by
     rw[List.take_of_length_le (by rw[hL1,hL2];omega),List.append_assoc]
     refine hosE.append ?_
     simp only[List.cons_append,List.nil_append,bY]
     refine⟨_,_,rfl,by simp only[bE],?_⟩
     have:=aGH E (fX [zv] (c' - (cs.length+1)))
     rw[hzl] at this
     exact this)
   refine⟨E',_,_,_,by rw[eE];exact hrun,?_,ho',hx',hK2 rfl c' hc'⟩
   simp only[bE]
   exact⟨hk,_,c',rfl,hc',fun k hk=>by injection hk,fun h=>⟨_,hρ,rfl⟩⟩
theorem aJx {P:Program} {G:Gl} {n d ts tx by_:Nat} {sT e:TypeId} {zv:Value} {l:List Oper} {o:Oper} (hl:l=l.take n++o::l.drop (n+1)) (ho:o.op=.call { callee:=.builtin .append,args:=#[.tmp ts,.tmp tx],argTypes:=#[sT,sT] })
  (hg:o.guard=none) (hd:o.dst=some d) (ht:P.underlying sT=some (.slice e)) (hsz:tsz P e=some 1) (hby:tby P e=some by_) (hb:by_≤64) (hz:dS P e=some [zv]) {st:St} {E:Env} {a:Act} (hr:Rep G E st a) {Q:Exit→St→Prop}
  (h:dG P G [] l.toArray (l.take n) st fun s=>∃ w p,lk s.slots tx=.sl 1 [.val w] p∧w.oneCell'=true∧d<s.nt∧aGQ s.objs (lk s.slots ts) (.val w) fun X' objs'=>dG P G [] l.toArray (l.drop (n+1)) ⟨s.nt,(d,X')::s.slots,objs'⟩ (Q .normal)) :
  wpList P l.toArray (RQ P G E st.objs Q) l a E.w:=by
 refine aHr hl hr (M:=[]) ?_ h
 rintro s E1 a1 ⟨w,p,hx,hone,hdl,hp⟩ hr1 hx1
 unfold wpList
 rw[if_pos (by simp[Region.wanted,hg])]
 refine .inl ?_
 unfold Oper.wp
 have h1:=hr1.slots ts
 have h2:=hr1.slots tx
 rw[hx] at h2
 obtain⟨E2,u,X',objs',hrun,hv,ho2,hx2,hK⟩:=aHX (P:=P) (ty:=o.type) ht hsz hby hb hz (fun k e=>by rw[ht] at e;injection e with e;cases e) hr1.objs h1 h2 hone hp
 have hex:(execOp a1.eval o).run P E1.w=.ok (.value u) E2.w:=by
  obtain⟨dst,op,ty,pos,after,guard⟩:=o
  simp only at ho hrun
  subst ho
  simp only[Array.getD_eq_getD_getElem?] at hrun
  simp[execOp,resolve,invoke,builtin,Act.eval,hrun]
 rw[hex]
 simp only[Oper.upon]
 have hr2:=hr1.put (d:=o.dst) hx2 ho2 hv (by rw[hd];exact hdl)
 have hs:(s.put o.dst X' objs')=⟨s.nt,(d,X')::s.slots,objs'⟩:=by rw[hd];rfl
 rw[hs] at hr2
 exact tZ (fun e a w ⟨s3,E3,e1,e2,e3,e4⟩=>⟨s3,E3,e1,e2,e3,(hx1.trans hx2).trans e4⟩) _ _ _ (jL (l.drop (n+1)) _ E2 _ hr2 hK)
theorem aJB {P:Program} {G:Gl} {r id n d ts tx by_:Nat} {sT e:TypeId} {zv:Value} {l:List Oper} {o:Oper} (hl:l=l.take n++o::l.drop (n+1)) (ho:o.op=.call { callee:=.builtin .append,args:=#[.tmp ts,.tmp tx],argTypes:=#[sT,sT] })
  (hg:o.guard=none) (hd:o.dst=some d) (ht:P.underlying sT=some (.slice e)) (hsz:tsz P e=some 1) (hby:tby P e=some by_) (hb:by_≤64) (hz:dS P e=some [zv]) (hdf:l.all (fun o=>!aAN o.op)=true) {st:St} {Q:Exit→St→Prop} (hQ:∀ s,¬ Q .outgrown s)
  (h:dG P G [] l.toArray (l.take n) st fun s=>∃ w p,lk s.slots tx=.sl 1 [.val w] p∧w.oneCell'=true∧d<s.nt∧aGQ s.objs (lk s.slots ts) (.val w) fun X' objs'=>dG P G [] l.toArray (l.drop (n+1)) ⟨s.nt,(d,X')::s.slots,objs'⟩ (Q .normal)) :
  pC P G r (.region id l.toArray false) st Q:=fun E a hr=>
 wpIn_region_lit (pB (fun a w ⟨s,_,_,hq,_⟩=>hQ s hq) l a E.w (fun o ho c e=>by
  have:=List.all_eq_true.1 hdf o ho
  rw[e] at this
  simp[aAN] at this) (aJx hl ho hg hd ht hsz hby hb hz hr h))
end Go.V
namespace Go.V
open Ieee
set_option linter.unusedVariables false
set_option linter.unusedSimpArgs false
theorem rM:double.binade=4503599627370496:=by decide
theorem uG:double.leastPlace=-1074:=by decide
theorem aAL:double.infRung=9218868437227405312:=by decide
theorem wZ:double.signWeight=9223372036854775808:=by decide
theorem aLT:double.fractionBits=52:=rfl
def fm (r:Nat):Nat:=if r<4503599627370496 then r else 4503599627370496+r%4503599627370496
def fe (r:Nat):Int:=if r<4503599627370496 then -1074 else -1074+(r/4503599627370496 - 1:Nat)
def kV (b:Nat):Bool:=b/9223372036854775808%2 == 1
def dX (b:Nat):Nat:=b%9223372036854775808
def qQ (r:Nat):Nat:=fm r*2^(fe r+1074).toNat
theorem nI {b:Nat} (h:dX b<9218868437227405312):double.read b=.number (kV b) (fm (dX b)) (fe (dX b)):=by
 unfold Format.read
 simp only[rM,uG,aAL,wZ]
 unfold dX at *
 unfold fm fe kV
 by_cases h1:b%9223372036854775808<4503599627370496
 ·simp only[h1,if_true]
 ·simp only[h1,h,if_true,if_false]
theorem tR {b:Nat} (h:dX b=9218868437227405312):double.read b=.infinity (kV b):=by
 unfold Format.read
 simp only[rM,uG,aAL,wZ]
 unfold dX at *
 unfold kV
 rw[h]
 simp
theorem aBZ {b:Nat} (h:9218868437227405312<dX b):double.read b=.nan (kV b) (dX b - 9218868437227405312):=by
 unfold Format.read
 simp only[rM,uG,aAL,wZ]
 unfold dX at *
 unfold kV
 have h1:¬ b%9223372036854775808<4503599627370496:=by omega
 have h2:¬ b%9223372036854775808<9218868437227405312:=by omega
 have h3:¬ b%9223372036854775808=9218868437227405312:=by omega
 simp only[h1,h2,h3,if_false]
theorem aLZ (r:Nat):-1074≤fe r:=by unfold fe;split<;>omega
theorem aQT (r:Nat):fm r<9007199254740992:=by unfold fm;split<;>omega
theorem yP {r q:Nat} (h:r<q):qQ r<qQ q:=by
 unfold qQ fm fe
 by_cases h1:r<4503599627370496
 ·simp only[h1,if_true]
  by_cases h2:q<4503599627370496
  ·simp only[h2,if_true]
   simpa using h
  ·simp only[h2,if_false]
   have hp:0<2^(-1074+((q/4503599627370496 - 1:Nat):Int)+1074).toNat:=Nat.pow_pos (by omega)
   have:=Nat.le_mul_of_pos_right (4503599627370496+q%4503599627370496) hp
   simp only[Int.add_left_neg,Int.toNat_zero,Nat.pow_zero,Nat.mul_one]
   omega
 ·have h2:¬ q<4503599627370496:=by omega
  simp only[h1,h2,if_false]
  have e1:(-1074+((r/4503599627370496 - 1:Nat):Int)+1074).toNat=r/4503599627370496 - 1:=by omega
  have e2:(-1074+((q/4503599627370496 - 1:Nat):Int)+1074).toNat=q/4503599627370496 - 1:=by omega
  rw[e1,e2]
  by_cases h3:r/4503599627370496=q/4503599627370496
  ·rw[h3]
   exact Nat.mul_lt_mul_of_pos_right (by omega) (Nat.pow_pos (by omega))
  ·have h4:r/4503599627370496<q/4503599627370496:=by omega
   have h5:r/4503599627370496 - 1+1≤q/4503599627370496 - 1:=by omega
   generalize hA:r/4503599627370496 - 1=A at *
   generalize hB:q/4503599627370496 - 1=B at *
   have h6:2^(A+1)≤2^B:=Nat.pow_le_pow_right (by omega) h5
   have h7:(4503599627370496+r%4503599627370496)*2^A<9007199254740992*2^A:=Nat.mul_lt_mul_of_pos_right (by omega) (Nat.pow_pos (by omega))
   have h8:9007199254740992*2^A=4503599627370496*2^(A+1):=by rw[Nat.pow_succ];omega
   have h9:4503599627370496*2^(A+1)≤4503599627370496*2^B:=Nat.mul_le_mul_left _ h6
   have h10:4503599627370496*2^B≤(4503599627370496+q%4503599627370496)*2^B:=Nat.mul_le_mul_right _ (by omega)
   omega
def sE (s:Bool) (n:Nat):Int:=if s then -(n:Int) else n
def gX (b:Nat):Int:=sE (kV b) (dX b)
theorem aMi (s t:Bool) {r q:Nat}:compare (sE s (qQ r)) (sE t (qQ q))=compare (sE s r) (sE t q):=by
 have h0:qQ 0=0:=by decide
 have pos:∀ n,0<n→0<qQ n:=fun n h=>by have:=yP h;omega
 have key:∀ a b:Nat,(a<b→qQ a<qQ b)∧(a=b→qQ a=qQ b)∧(b<a→qQ b<qQ a):=fun a b=>⟨yP,fun h=>by rw[h],yP⟩
 have k:=key r q
 have hr:0<r→0<qQ r:=pos r
 have hq:0<q→0<qQ q:=pos q
 have hr0:r=0→qQ r=0:=fun h=>by rw[h,h0]
 have hq0:q=0→qQ q=0:=fun h=>by rw[h,h0]
 generalize qQ r=a at *
 generalize qQ q=b at *
 simp only[compare,compareOfLessAndEq,sE]
 cases s<;>cases t<;>simp only[if_true,if_false,Bool.false_eq_true]<;>(repeat' split)<;>first|rfl|omega
theorem yZ (s:Bool) (m k:Nat):signed s m k=sE s (m*2^k):=by
 unfold signed sE
 rw[Nat.shiftLeft_eq]
theorem aJM (a b:Int) (k:Nat) (hk:0<k):compare (a*k) (b*k)=compare a b:=by
 simp only[compare,compareOfLessAndEq]
 have hk':(0:Int)<k:=by omega
 have h1:a*k<b*k↔a<b:=Int.mul_lt_mul_right hk'
 have h2:a*k=b*k↔a=b:=by
  constructor
  ·intro h;exact Int.eq_of_mul_eq_mul_right (by omega) h
  ·intro h;rw[h]
 simp only[h1,h2]
theorem aFx (s:Bool) (n k:Nat):sE s (n*k)=sE s n*k:=by
 unfold sE
 split
 ·rw[Int.natCast_mul,Int.neg_mul]
 ·rw[Int.natCast_mul]
theorem aJs (x y:Nat) (hx:dX x<9218868437227405312) (hy:dX y<9218868437227405312):double.order x y=some (compare (gX x) (gX y)):=by
 unfold Format.order
 rw[nI hx,nI hy]
 simp only[Datum.order]
 congr 1
 rw[yZ,yZ]
 unfold gX
 rw[← aMi (r:=dX x)]
 have g1:=aLZ (dX x)
 have g2:=aLZ (dX y)
 unfold qQ
 generalize fe (dX x)=i at *
 generalize fe (dX y)=j at *
 generalize fm (dX x)=m at *
 generalize fm (dX y)=n at *
 obtain⟨base,hb⟩:∃ base,base=min i j:=⟨_,rfl⟩
 rw[← hb]
 have hb1:base≤i:=by rw[hb];exact Int.min_le_left _ _
 have hb2:base≤j:=by rw[hb];exact Int.min_le_right _ _
 have hb3:-1074≤base:=by rw[hb];exact(Int.le_min).2 ⟨g1,g2⟩
 have e1:(i+1074).toNat=(i - base).toNat+(base+1074).toNat:=by omega
 have e2:(j+1074).toNat=(j - base).toNat+(base+1074).toNat:=by omega
 rw[e1,e2,Nat.pow_add,Nat.pow_add,← Nat.mul_assoc,← Nat.mul_assoc]
 generalize m*2^(i - base).toNat=A
 generalize n*2^(j - base).toNat=B
 rw[aFx,aFx,aJM _ _ _ (Nat.pow_pos (by omega))]
def mI (b:Nat):Bool:=decide (9218868437227405312<dX b)
theorem yW (x y:Nat):double.order x y=if mI x || mI y then none else some (compare (gX x) (gX y)):=by
 unfold mI
 have lt9:∀ n:Nat,dX n<9223372036854775808:=fun n=>by unfold dX;omega
 rcases Nat.lt_trichotomy (dX x) 9218868437227405312 with hx|hx|hx
 ·rcases Nat.lt_trichotomy (dX y) 9218868437227405312 with hy|hy|hy
  ·rw[aJs x y hx hy,if_neg]
   simp;omega
  ·have h1:¬ (9218868437227405312<dX x):=by omega
   have h2:¬ (9218868437227405312<dX y):=by omega
   simp only[h1,h2,decide_false,Bool.or_self,Bool.false_eq_true,if_false]
   unfold Format.order
   rw[nI hx,tR hy]
   simp only[Datum.order]
   congr 1
   unfold gX sE
   rw[hy]
   simp only[compare,compareOfLessAndEq]
   cases kV x<;>cases kV y<;>simp only[if_true,if_false,Bool.false_eq_true]<;>(repeat' split)<;>first|rfl|omega
  ·have h2:(9218868437227405312<dX y):=by omega
   simp only[h2,decide_true,Bool.or_true,if_true]
   unfold Format.order
   rw[nI hx,aBZ hy]
   simp only[Datum.order]
 ·rcases Nat.lt_trichotomy (dX y) 9218868437227405312 with hy|hy|hy
  ·have h1:¬ (9218868437227405312<dX x):=by omega
   have h2:¬ (9218868437227405312<dX y):=by omega
   simp only[h1,h2,decide_false,Bool.or_self,Bool.false_eq_true,if_false]
   unfold Format.order
   rw[tR hx,nI hy]
   simp only[Datum.order]
   congr 1
   unfold gX sE
   rw[hx]
   simp only[compare,compareOfLessAndEq]
   cases kV x<;>cases kV y<;>simp only[if_true,if_false,Bool.false_eq_true]<;>(repeat' split)<;>first|rfl|omega
  ·have h1:¬ (9218868437227405312<dX x):=by omega
   have h2:¬ (9218868437227405312<dX y):=by omega
   simp only[h1,h2,decide_false,Bool.or_self,Bool.false_eq_true,if_false]
   unfold Format.order
   rw[tR hx,tR hy]
   simp only[Datum.order]
   congr 1
   unfold gX sE
   rw[hx,hy]
   cases kV x<;>cases kV y<;>rfl
  ·have h2:(9218868437227405312<dX y):=by omega
   simp only[h2,decide_true,Bool.or_true,if_true]
   unfold Format.order
   rw[tR hx,aBZ hy]
   simp only[Datum.order]
 ·simp only[hx,decide_true,Bool.true_or,if_true]
  unfold Format.order
  rw[aBZ hx]
  simp only[Datum.order]
/-! ### Numbers that are written exactly -/
theorem rS {M:Nat} (k:Nat) (h:M≠0):(M*2^k).log2=M.log2+k:=by
 have hp:0<2^k:=Nat.pow_pos (by omega)
 have hne:M*2^k≠0:=Nat.ne_of_gt (Nat.mul_pos (Nat.pos_of_ne_zero h) hp)
 apply Nat.le_antisymm
 ·refine Nat.le_of_lt_succ ((Nat.log2_lt hne).2 ?_)
  have h1:M<2^(M.log2+1):=(Nat.log2_lt h).1 (Nat.lt_succ_self _)
  have h2:M*2^k<2^(M.log2+1)*2^k:=Nat.mul_lt_mul_of_pos_right h1 hp
  rw[← Nat.pow_add] at h2
  have e:M.log2+1+k=(M.log2+k).succ:=by omega
  rwa [e] at h2
 ·refine(Nat.le_log2 hne).2 ?_
  rw[Nat.pow_add]
  exact Nat.mul_le_mul_right _ ((Nat.le_log2 h).1 (Nat.le_refl _))
theorem yL (way:Toward) (s:Bool) (M d:Nat) (h:M≠0∨d=0):way.cut s (M*2^d) d=M:=by
 unfold Toward.cut
 have hm:min d ((M*2^d).log2+2)=d:=by
  rcases h with h|h
  ·rw[rS d h];omega
  ·omega
 rw[hm]
 have hg:1 <<< d=2^d:=by rw[Nat.shiftLeft_eq];omega
 rw[hg]
 have hp:0<2^d:=Nat.pow_pos (by omega)
 have e1:M*2^d/2^d=M:=Nat.mul_div_cancel _ hp
 have e2:M*2^d%2^d=0:=Nat.mul_mod_left _ _
 simp only[e1,e2]
 generalize 2^d=g at *
 cases way
 ·have h1:decide (g<2*0)=false:=by simp
  have h2:(g == 2*0)=false:=by simp;omega
  simp only[h1,h2,Bool.false_and,Bool.or_self,Bool.toNat_false,Nat.add_zero]
 ·simp
 ·simp
 ·simp
theorem aNz {r:Nat} (hr:0<r):fm r≠0∧(fe r=-1074∧(fm r).log2≤52∨(fm r).log2=52):=by
 have hlt:=aQT r
 have h2:fm r≠0:=by unfold fm;split<;>omega
 refine⟨h2,?_⟩
 have hl:(fm r).log2<53:=(Nat.log2_lt h2).2 hlt
 by_cases h:r<4503599627370496
 ·left
  refine⟨by unfold fe;rw[if_pos h],by omega⟩
 ·right
  have:52≤(fm r).log2:=(Nat.le_log2 h2).2 (by unfold fm;rw[if_neg h];omega)
  omega
theorem vA {r m:Nat} {p:Int} (s:Bool) (hr:0<r) (hi:r<9218868437227405312)
  (h:(p≤fe r∧m=fm r*2^(fe r - p).toNat)∨(fe r≤p∧fm r=m*2^(p - fe r).toNat)):double.nearest s m p=double.word s r:=by
 obtain⟨h0,hlog⟩:=aNz hr
 have hge:=aLZ r
 have hsum:(fe r+1074).toNat*4503599627370496+fm r=r∨fe r=-1074∧fm r=r:=by
  unfold fe fm
  by_cases h:r<4503599627370496
  ·simp only[h,if_true];exact .inr ⟨trivial,trivial⟩
  ·simp only[h,if_false]
   left
   have e1:(-1074+((r/4503599627370496 - 1:Nat):Int)+1074).toNat=r/4503599627370496 - 1:=by omega
   rw[e1]
   omega
 have hsum':(fe r+1074).toNat*4503599627370496+fm r=r:=by
  rcases hsum with h|⟨h1,h2⟩
  ·exact h
  ·rw[h1,h2];simp
 have hm:m≠0:=by
  rcases h with⟨_,e⟩|⟨_,e⟩
  ·rw[e];exact Nat.ne_of_gt (Nat.mul_pos (Nat.pos_of_ne_zero h0) (Nat.pow_pos (by omega)))
  ·intro e0;rw[e0] at e;simp at e;exact h0 e
 unfold Format.nearest
 rw[if_neg hm]
 simp only[uG,aLT,rM,aAL]
 have hlast:max (p+(m.log2:Int) - ((52:Nat):Int)) (-1074)=fe r:=by
  have e:p+(m.log2:Int)=fe r+((fm r).log2:Int):=by
   rcases h with⟨hp,e⟩|⟨hp,e⟩
   ·rw[e,rS _ h0];omega
   ·rw[e,rS _ hm];omega
  rw[e]
  rcases hlog with⟨h1,h2⟩|h2
  ·omega
  ·omega
 rw[hlast]
 have hk:Toward.even.cut s (m <<< (p - fe r).toNat) (fe r - p).toNat=fm r:=by
  rw[Nat.shiftLeft_eq]
  rcases h with⟨hp,e⟩|⟨hp,e⟩
  ·have:(p - fe r).toNat=0:=by omega
   rw[this,e,Nat.pow_zero,Nat.mul_one]
   exact yL _ _ _ _ (.inl h0)
  ·have:(fe r - p).toNat=0:=by omega
   rw[this,← e]
   have:=yL .even s (fm r) 0 (.inr rfl)
   simpa using this
 rw[hk]
 have e3:(fe r - -1074).toNat=(fe r+1074).toNat:=by omega
 rw[e3,hsum']
 congr 1
 omega
theorem aOd (s:Bool) (r:Nat):double.word s r=if s then 9223372036854775808+r else r:=by
 unfold Format.word
 rw[wZ]
theorem aEJ (x y:Nat) (hx:dX x<9218868437227405312) (hy:dX y<9218868437227405312) :
  double.mul x y=some (double.nearest (kV x ^^ kV y) (fm (dX x)*fm (dX y)) (fe (dX x)+fe (dX y))):=by
 unfold Format.mul
 rw[nI hx,nI hy]
 rfl
theorem aDu (a b:Int):(compare a b=.lt↔a<b)∧(compare a b=.eq↔a=b)∧(compare a b=.gt↔b<a):=by
 simp only[compare,compareOfLessAndEq]
 refine⟨?_,?_,?_⟩<;>(repeat' split)<;>simp<;>omega
def vU (x y:Nat) (p:Prop) [Decidable p]:Bool:=!(mI x) && !(mI y)&&decide p
theorem jU:FloatKind.f64.format=double:=rfl
theorem aHR (x y:Nat):(double.order x y == some .lt)=vU x y (gX x<gX y):=by
 rw[yW]
 unfold vU
 have:=(aDu (gX x) (gX y)).1
 cases mI x<;>cases mI y<;>simp
 cases hc:compare (gX x) (gX y)<;>simp_all
theorem aPp (x y:Nat):(double.order x y == some .gt)=vU x y (gX y<gX x):=by
 rw[yW]
 unfold vU
 have:=(aDu (gX x) (gX y)).2.2
 cases mI x<;>cases mI y<;>simp
 cases hc:compare (gX x) (gX y)<;>simp_all
theorem aHQ (x y:Nat):(double.order x y == some .eq)=vU x y (gX x=gX y):=by
 rw[yW]
 unfold vU
 have:=(aDu (gX x) (gX y)).2.1
 cases mI x<;>cases mI y<;>simp
 cases hc:compare (gX x) (gX y)<;>simp_all
theorem aBL (b:Nat):dX b<9223372036854775808:=by unfold dX;omega
theorem aMR (x:Nat):(double.order x x != some .eq)=mI x:=by
 have:=aHQ x x
 unfold vU at this
 cases h:mI x
 ·rw[h] at this
  simp at this
  simp[this]
 ·rw[h] at this
  simp at this
  simp[this]
theorem xL (x:Nat):(double.order x 0 == some .eq)=decide (dX x=0):=by
 rw[aHQ]
 unfold vU mI gX sE
 have h0:dX 0=0:=by decide
 have hn:kV 0=false:=by decide
 rw[h0,hn]
 have:=aBL x
 rw[Bool.eq_iff_iff]
 cases kV x<;>simp<;>omega
theorem aOM {x:Nat} (h:x<9223372036854775808):(double.order x 9218868437227405311 == some .gt)=decide (dX x=9218868437227405312):=by
 rw[aPp]
 unfold vU mI gX sE
 have h1:dX 9218868437227405311=9218868437227405311:=by decide
 have h2:kV 9218868437227405311=false:=by decide
 have h3:kV x=false:=by unfold kV;rw[Nat.div_eq_of_lt h];rfl
 rw[h1,h2,h3]
 have:=aBL x
 rw[Bool.eq_iff_iff]
 simp
 omega
theorem aON {x:Nat} (h:x<9223372036854775808):(double.order x 4503599627370496 == some .lt)=decide (x<4503599627370496):=by
 rw[aHR]
 unfold vU mI gX sE
 have h1:dX 4503599627370496=4503599627370496:=by decide
 have h2:kV 4503599627370496=false:=by decide
 have h3:kV x=false:=by unfold kV;rw[Nat.div_eq_of_lt h];rfl
 have h4:dX x=x:=Nat.mod_eq_of_lt h
 rw[h1,h2,h3,h4]
 rw[Bool.eq_iff_iff]
 simp
 omega
theorem aMY:(2:Nat)^63=9223372036854775808:=by decide
theorem nH:(2:Nat)^64=18446744073709551616:=by decide
theorem aFi:(2:Nat)^52=4503599627370496:=by decide
theorem aEw (a c:Nat) (hc:c<18446744073709551616):bits .andNot .u64 (a:Int) (c:Int)=((a%18446744073709551616 &&& (18446744073709551615 - c):Nat):Int):=by
 have hb:IntKind.u64.bits=64:=rfl
 simp only[bits,BitVec.ofInt_natCast,BitVec.toNat_and,BitVec.toNat_not,BitVec.toNat_ofNat,hb,nH]
 rw[uV]
 ·congr 2
  rw[Nat.mod_eq_of_lt hc]
 ·rw[hb]
  exact Nat.and_lt_two_pow _ (by rw[nH];omega)
theorem zG {a:Nat} (ha:a<18446744073709551616):bits .andNot .u64 (a:Int) 9223372036854775808=((a%9223372036854775808:Nat):Int):=by
 rw[show (9223372036854775808:Int)=((9223372036854775808:Nat):Int) from rfl,aEw _ _ (by decide),Nat.mod_eq_of_lt ha]
 congr 1
 have:=Nat.and_two_pow_sub_one_eq_mod a 63
 rw[aMY] at this
 exact this
theorem aID {a:Nat} (ha:a<2^63):a &&& 2^63=0:=by
 apply Nat.eq_of_testBit_eq
 intro i
 rw[Nat.testBit_and,Nat.testBit_two_pow,Nat.zero_testBit]
 by_cases h:63=i
 ·subst h
  rw[Nat.testBit_lt_two_pow ha]
  rfl
 ·simp[h]
theorem aAq {a:Nat} (ha:a<9223372036854775808):bits .andNot .u64 (a:Int) 9218868437227405312=((a%4503599627370496:Nat):Int):=by
 rw[show (9218868437227405312:Int)=((9218868437227405312:Nat):Int) from rfl,aEw _ _ (by decide),Nat.mod_eq_of_lt (by omega)]
 congr 1
 have e:18446744073709551615 - 9218868437227405312=2^63 ||| 4503599627370495:=by
  have:=Nat.two_pow_add_eq_or_of_lt (i:=63) (b:=4503599627370495) (by decide) 1
  rw[Nat.mul_one] at this
  rw[← this]
 rw[e,Nat.and_or_distrib_left,aID (by rw[aMY];exact ha),Nat.zero_or]
 have:=Nat.and_two_pow_sub_one_eq_mod a 52
 rw[aFi] at this
 exact this
theorem aHP (e d:Nat) (hd:d<4503599627370496) (he:e*4503599627370496+d<18446744073709551616):bits .or .u64 (d:Int) ((e*4503599627370496:Nat):Int)=((e*4503599627370496+d:Nat):Int):=by
 rw[(nM .u64 d (e*4503599627370496) uV).2.1]
 congr 1
 have:=Nat.two_pow_add_eq_or_of_lt (i:=52) (b:=d) (by rw[aFi];exact hd) e
 rw[aFi] at this
 rw[Nat.or_comm,Nat.mul_comm,← this,Nat.mul_comm]
 exact Nat.mod_eq_of_lt (by rw[show IntKind.u64.bits=64 from rfl,nH];exact he)
theorem xQ {k M:Nat} (h1:4503599627370496≤M) (h2:M<9007199254740992):fm (k*4503599627370496+M)=M∧fe (k*4503599627370496+M)=-1074+(k:Int):=by
 have hd:(k*4503599627370496+M)/4503599627370496=k+1:=by omega
 have hm:(k*4503599627370496+M)%4503599627370496=M - 4503599627370496:=by omega
 unfold fm fe
 rw[if_neg (by omega),if_neg (by omega),hd,hm]
 refine⟨by omega,by omega⟩
theorem aQe {k M:Nat} (hk:k≤2045) (h2:M<9007199254740992):k*4503599627370496+M<9218868437227405312:=by omega
theorem gD {x:Nat} (h:x<9223372036854775808):dX x=x:=Nat.mod_eq_of_lt h
theorem mJ {x:Nat} (h:x<9223372036854775808):kV x=false:=by unfold kV;rw[Nat.div_eq_of_lt h];rfl
theorem aGL (r:Nat):double.word false r=r:=by rw[aOd];rfl
theorem pP {x:Nat} (h0:0<x) (h1:x<9007199254740992):x.log2≤52∧4503599627370496≤x*2^(52 - x.log2)∧x*2^(52 - x.log2)<9007199254740992:=by
 have hne:x≠0:=by omega
 have hl:x.log2<53:=(Nat.log2_lt hne).2 h1
 have ha:2^x.log2≤x:=(Nat.le_log2 hne).1 (Nat.le_refl _)
 have hb:x<2^(x.log2+1):=(Nat.log2_lt hne).1 (Nat.lt_succ_self _)
 have e1:2^x.log2*2^(52 - x.log2)=4503599627370496:=by rw[← Nat.pow_add,show x.log2+(52 - x.log2)=52 by omega]
 have e2:2^(x.log2+1)*2^(52 - x.log2)=9007199254740992:=by rw[← Nat.pow_add,show x.log2+1+(52 - x.log2)=53 by omega]
 have hp:0<2^(52 - x.log2):=Nat.pow_pos (by omega)
 refine⟨by omega,?_,?_⟩
 ·rw[← e1];exact Nat.mul_le_mul_right _ ha
 ·rw[← e2];exact Nat.mul_lt_mul_of_pos_right hb hp
def nrm (x:Nat):Nat:=if x<4503599627370496 then x.log2*4503599627370496+x*2^(52 - x.log2) else x
def aAG (x:Nat):Int:=if x<4503599627370496 then -52 else 0
def sV (x:Nat):Nat:=if x<4503599627370496 then x*2^(52 - x.log2) else 4503599627370496+x%4503599627370496
def aAE (x:Nat):Int:=if x<4503599627370496 then (x.log2:Int) - 1126 else ((x/4503599627370496:Nat):Int) - 1075
theorem rU {x:Nat} (h0:0<x):4503599627370496≤sV x∧sV x<9007199254740992:=by
 unfold sV
 split
 ·rename_i h
  obtain⟨_,h1,h2⟩:=pP h0 (by omega:x<9007199254740992)
  exact⟨h1,h2⟩
 ·omega
theorem aQh:(4841369599423283200:Nat)=1074*4503599627370496+4503599627370496:=by decide
theorem aOE {x:Nat} (h0:0<x) (h1:x<4503599627370496):double.mul x 4841369599423283200=some (nrm x):=by
 obtain⟨hl,ha,hb⟩:=pP h0 (by omega:x<9007199254740992)
 obtain⟨p1,p2⟩:=xQ (k:=x.log2) ha hb
 obtain⟨q1,q2⟩:=xQ (k:=1074) (M:=4503599627370496) (by omega) (by omega)
 rw[← aQh] at q1 q2
 have hfx:fm x=x∧fe x=-1074:=by unfold fm fe;rw[if_pos h1,if_pos h1];exact⟨rfl,rfl⟩
 rw[aEJ _ _ (by rw[gD (by omega)];omega) (by rw[gD (by decide)];decide),gD (by omega),gD (by decide),mJ (by omega),mJ (by decide),q1,q2,hfx.1,hfx.2]
 have hn:nrm x=x.log2*4503599627370496+x*2^(52 - x.log2):=by unfold nrm;rw[if_pos h1]
 have:=vA (r:=x.log2*4503599627370496+x*2^(52 - x.log2)) (m:=x*4503599627370496) (p:=-1074+(-1074+((1074:Nat):Int))) false (by omega) (aQe (by omega) hb) (.inl ⟨by rw[p2];omega,by
  rw[p1,p2]
  have e:(-1074+(x.log2:Int) - (-1074+(-1074+((1074:Nat):Int)))).toNat=x.log2:=by omega
  rw[e,Nat.mul_assoc,← Nat.pow_add,show 52 - x.log2+x.log2=52 by omega]⟩)
 show some (double.nearest false (x*4503599627370496) (-1074+(-1074+((1074:Nat):Int))))=_
 rw[this,aGL,hn]
theorem aCv {x:Nat} (h0:0<x) (h1:x<9218868437227405312):nrm x<9218868437227405312∧4503599627370496≤nrm x∧nrm x%4503599627370496=sV x - 4503599627370496∧((nrm x/4503599627370496:Nat):Int)+aAG x=aAE x+1075∧nrm x/4503599627370496<2047:=by
 unfold nrm aAG sV aAE
 by_cases h:x<4503599627370496
 ·obtain⟨hl,ha,hb⟩:=pP h0 (by omega:x<9007199254740992)
  simp only[h,if_true]
  refine⟨by omega,by omega,by omega,by omega,by omega⟩
 ·simp only[h,if_false]
  refine⟨h1,by omega,by omega,by omega,by omega⟩
theorem aSx {x:Nat} (h0:0<x):sV x=fm x*2^(fe x - aAE x).toNat∧aAE x≤fe x:=by
 unfold sV aAE fm fe
 by_cases h:x<4503599627370496
 ·obtain⟨hl,ha,hb⟩:=pP h0 (by omega:x<9007199254740992)
  simp only[h,if_true]
  refine⟨?_,by omega⟩
  congr 2
  omega
 ·simp only[h,if_false]
  have e:(-1074+((x/4503599627370496 - 1:Nat):Int) - (((x/4503599627370496:Nat):Int) - 1075)).toNat=0:=by omega
  rw[e]
  refine⟨by simp,by omega⟩
theorem aQb:(4607182418800017408:Nat)=1022*4503599627370496+4503599627370496:=by decide
theorem mul_one {y:Nat} (h0:0<y) (h1:y<9218868437227405312):double.mul 4607182418800017408 y=some y:=by
 obtain⟨q1,q2⟩:=xQ (k:=1022) (M:=4503599627370496) (by omega) (by omega)
 rw[← aQb] at q1 q2
 rw[aEJ _ _ (by rw[gD (by decide)];decide) (by rw[gD (x:=y) (by omega)];exact h1),gD (x:=y) (by omega),gD (x:=4607182418800017408) (by decide),mJ (x:=y) (by omega),mJ (x:=4607182418800017408) (by decide),q1,q2]
 have:=vA (r:=y) (m:=4503599627370496*fm y) (p:=-1074+((1022:Nat):Int)+fe y) false h0 h1 (.inl ⟨by omega,by
  have e:(fe y - (-1074+((1022:Nat):Int)+fe y)).toNat=52:=by omega
  rw[e,Nat.mul_comm]⟩)
 show some (double.nearest false (4503599627370496*fm y) (-1074+((1022:Nat):Int)+fe y))=_
 rw[this,aGL]
end Go.V
namespace Go.V
set_option linter.unusedVariables false
set_option linter.unusedSimpArgs false
variable {P:Program} {G:Gl}
end Go.V
namespace Go.V
set_option linter.unusedVariables false
set_option linter.unusedSimpArgs false
theorem gE.freezeS {G:Gl} {nt:Nat} {s:List (Nat×AV)} {os:List AObj} (i r:Nat) (c:AV) (cs:List AV) (n:Nat) (hn':n≤(c::cs).length) (h:lk s i=.osl r 0 n (some (c::cs).length)) (ho:os[r]? = some (.cells (c::cs))) (hn:aM (c::cs)=true) :
  gE G ⟨nt,s,os⟩ ⟨nt,(i,.sl n ((c::cs).take n) .no)::s,os.set r .dead⟩:=fun E a hr=>by
 have hi:=hr.slots i
 simp only at hi
 rw[h] at hi
 simp only[bE] at hi
 obtain⟨hrk,A,cap,hv,hncap,hcap,hi⟩:=hi
 have hcap:=hcap _ rfl
 subst hcap
 obtain⟨g0,hρ0,hA⟩:=hi (Nat.zero_lt_succ _)
 subst hA
 obtain⟨hk,hobj,hdis⟩:=hr.objs
 rcases hobj r _ ho with e|⟨g,vs,t,fz,hρ,hh,hfz,hlim,hlen,hrep⟩
 ·cases e
 have eg:g0=g:=by
  rw[hρ0] at hρ
  injection hρ with hρ
  injection hρ with hρ
  injection hρ with hρ
 subst eg
 have hown:dI (.cells (c::cs)) (E.ρ r)=some g0:=by rw[hρ];rfl
 have hgs:g0<E.w.heap.size:=vV hh
 let E':Env:={ E with lim:=fun x=>if x=g0 then (c::cs).length else E.lim x }
 have hle:∀ x,E.lim x≤E'.lim x:=fun x=>by
  show E.lim x≤if x=g0 then _ else _
  split
  ·rename_i e;subst e;rw[hlim];exact Nat.zero_le _
  ·exact Nat.le_refl _
 have hne:∀ x,x≠g0→E'.lim x=E.lim x:=fun x hx=>if_neg hx
 have hx:Ext0 E E':=⟨Nat.le_refl _,fun x _=>hle x,fun _ _ _ _=>rfl,Nat.le_refl _,fun _ _=>.refl _⟩
 have hset:∀ (r':Nat) (o:AObj),(os.set r .dead)[r']? = some o→o=.dead∨(r'≠r∧os[r']? = some o):=by
  intro r' o h'
  rw[List.getElem?_set] at h'
  split at h'
  ·split at h'
   ·injection h' with h';exact .inl h'.symm
   ·cases h'
  ·rename_i hne';exact .inr ⟨fun e=>hne' e.symm,h'⟩
 refine⟨E',rfl,⟨hr.size,fun j=>?_,hr.defers,⟨by simpa using hk,fun r' o h'=>?_,fun r1 r2 o1 o2 x h1 h2 b1 b2=>?_⟩,hr.glob.mono hx⟩,?_⟩
 ·simp only[lk]
  split
  ·rename_i e
   subst e
   rw[hv]
   simp only[bE]
   refine⟨_,_,rfl,hncap,.inr ⟨g0,0,rfl,hgs,?_,?_⟩,trivial⟩
   ·show 0+((c::cs).take n).length≤if g0=g0 then _ else _
    rw[if_pos rfl,Nat.zero_add,List.length_take]
    exact Nat.min_le_right _ _
   ·have h1:eD E g0 0 (c::cs):=hrep.at_ (off:=0) hh
    have h2:eD E' g0 0 (c::cs):=jB (E:=E) (E':=E') rfl (fun x _=>hle x) g0 _ _ hn h1
    exact eD.of_cell fun m x hm=>h2.cell m x (by
     rw[List.getElem?_take] at hm
     split at hm
     ·exact hm
     ·cases hm)
  ·exact bE.mono hx _ _ (hr.slots j)
 ·rcases hset r' o h' with rfl|⟨hne',h''⟩
  ·trivial
  ·refine(hobj r' o h'').stay hx fun x hb=>⟨rfl,hne x fun e=>?_⟩
   subst e
   exact hne' (hdis r' r o _ x h'' ho hb hown)
 ·rcases hset r1 o1 h1 with rfl|⟨_,h1'⟩
  ·simp[dI] at b1
  ·rcases hset r2 o2 h2 with rfl|⟨_,h2'⟩
   ·simp[dI] at b2
   ·exact hdis r1 r2 o1 o2 x h1' h2' b1 b2
 ·refine { hx with os:=rfl,tape:=rfl,output:=rfl,frame:=fun x hx' hno=>⟨rfl,hne x fun e=>hno ?_⟩,own:=fun x hw _=>?_ }
  ·subst e
   exact⟨r,_,ho,hown⟩
  ·obtain⟨r',o,h',hb⟩:=hw
   rcases hset r' o h' with rfl|⟨_,h''⟩
   ·simp[dI] at hb
   ·exact⟨r',o,h'',hb⟩
theorem aRK {P:Program} {G:Gl} {c:Code} {nt:Nat} {s:List (Nat×AV)} {os:List AObj} {Q:Exit→St→Prop} (i r n:Nat) (cs:List AV) (hn':n≤cs.length) (h:lk s i=.osl r 0 n (some cs.length)) (ho:os[r]? = some (.cells cs)) (hp:0<cs.length) (hn:aM cs=true)
  (hq:awp P G c ⟨nt,(i,.sl n (cs.take n) .no)::s,os.set r .dead⟩ Q):awp P G c ⟨nt,s,os⟩ Q:=by
 cases cs with
 | nil=>simp at hp
 | cons c0 cs=>exact eX (.freezeS i r c0 cs n hn' h ho hn) hq
end Go.V
namespace Go.V
set_option linter.unusedVariables false
set_option linter.unusedSimpArgs false
variable {P:Program} {G:Gl} {M:List Nat} {ops:Array Oper}
def aTA (M:List Nat) (ops:Array Oper):Nat→Nat→Array Bool→Bool
 | 0,_,_=>true
 | fuel+1,k,listed=>(Region.ready .any ops listed).contains k&&(match ops[k]? with|some o=>aOl M ops listed k o (aMt ops k)|none=>false)&&aTA M ops fuel (k+1) (listed.setIfInBounds k true)
def aTH:Array Bool→Nat→Nat→Array Bool
 | listed,_,0=>listed
 | listed,k,n+1=>aTH (listed.setIfInBounds k true) (k+1) n
theorem aKw {Q:St→Prop} (hQ:∀ s s',qH s s'→Q s→Q s') (fuel:Nat):∀ (l:List Oper) (k:Nat) (listed:Array Bool) (st:St),(∀ j,j<l.length→l[j]? = ops[k+j]?)→aTA M ops l.length k listed=true→
  dG P G M ops l st (fun s=>aDV P G M ops Q fuel (aTH listed k l.length) s)→aDV P G M ops Q (l.length+fuel) listed st
 | [],k,listed,st,hl,hB,h=>by
  rw[List.length_nil,Nat.zero_add]
  exact h
 | o::l,k,listed,st,hl,hB,h=>by
  have h0:ops[k]? = some o:=by simpa using(hl 0 (by simp)).symm
  simp only[List.length_cons,aTA,Bool.and_eq_true,h0] at hB
  obtain⟨⟨hr,hf⟩,hB'⟩:=hB
  unfold aOl at hf
  simp only[Bool.and_eq_true,decide_eq_true_eq,List.all_eq_true,List.mem_range] at hf
  obtain⟨⟨hWk,hsz⟩,hall⟩:=hf
  rw[List.length_cons,show l.length+1+fuel=(l.length+fuel)+1 by omega]
  refine aGS hQ h0 (fun k'=>(aMt ops k).getD k' false) hWk (l.length+fuel) listed st (fun j hj=>?_) (fun j o' hj hw hun=>?_) (by simpa using hr) ?_
  ·have hlt:j<ops.size:=by
    rcases Nat.lt_or_ge j (aMt ops k).size with h'|h'
    ·omega
    ·simp[Array.getElem?_eq_none h'] at hj
   have:=hall j hlt
   rw[Array.getElem?_eq_getElem hlt] at this
   simp only[hj,if_true,Bool.and_eq_true,Bool.not_eq_true',Bool.or_eq_true,beq_iff_eq] at this
   refine⟨this.1,this.2.imp id fun h=>?_⟩
   rw[← Array.any_toList,List.any_eq_true] at h
   obtain⟨e,he,hb⟩:=h
   simp only[Bool.and_eq_true] at hb
   exact⟨_,Array.getElem?_eq_getElem hlt,e,by simpa using he,hb⟩
  ·have hlt:j<ops.size:=(Array.getElem?_eq_some_iff.1 hj).1
   have:=hall j hlt
   rw[hj] at this
   simp only[hw,hun,Bool.false_or,if_false,Bool.false_eq_true] at this
   exact this
  ·rw[oP] at h
   unfold aOp
   rw[h0]
   refine iX (fun v os hk=>aKw hQ fuel l (k+1) _ _ (fun j hj=>by have:=hl (j+1) (by simpa using hj);simpa[Nat.add_assoc,Nat.add_comm 1 j] using this) hB' ?_) h
   exact hk
def aHC (ops:Array Oper):Nat→Array Bool→List (List Nat)
 | 0,_=>[[]]
 | f+1,listed=>match Region.ready .any ops listed with
  | []=>[[]]
  | i::r=>(i::r).flatMap fun i=>(aHC ops f (listed.setIfInBounds i true)).map (i :: ·)
def okO (ops:Array Oper):Nat→Array Bool→Bool
 | 0,listed=>(Region.ready .any ops listed).isEmpty
 | f+1,listed=>(Region.ready .any ops listed).all fun i=>(match ops[i]? with|some o=>!jS o|none=>false)&&okO ops f (listed.setIfInBounds i true)
def pick (ops:Array Oper) (o:List Nat):List Oper:=o.filterMap (ops[·]?)
theorem aRx (ops:Array Oper):∀ (f:Nat) (listed:Array Bool),aHC ops f listed≠[]
 | 0,_=>by simp[aHC]
 | f+1,listed=>by
  unfold aHC
  split
  ·simp
  ·rename_i i r h
   have:=aRx ops f (listed.setIfInBounds i true)
   cases hh:aHC ops f (listed.setIfInBounds i true) with
   | nil=>exact absurd hh this
   | cons a b=>simp[hh]
theorem aLG {Q:St→Prop}:∀ (f:Nat) (listed:Array Bool) (st:St),okO ops f listed=true→(∀ o∈aHC ops f listed,dG P G M ops (pick ops o) st Q)→aDV P G M ops Q f listed st
 | 0,listed,st,hB,h=>by
  refine⟨by simpa[okO] using hB,?_⟩
  have:=h [] (by simp[aHC])
  exact this
 | f+1,listed,st,hB,h=>by
  refine⟨fun e=>?_,fun i hi=>?_⟩
  ·have:=h [] (by unfold aHC;rw[e];simp)
   exact this
  ·unfold okO at hB
   have hBi:=List.all_eq_true.1 hB i hi
   unfold aOp
   cases ho:ops[i]? with
   | none=>rw[ho] at hBi;simp at hBi
   | some o=>
    rw[ho] at hBi
    simp only[Bool.and_eq_true,Bool.not_eq_true'] at hBi
    have hin:∀ o'∈aHC ops f (listed.setIfInBounds i true),(i::o')∈aHC ops (f+1) listed:=by
     intro o' ho'
     unfold aHC
     cases hr:Region.ready .any ops listed with
     | nil=>rw[hr] at hi;cases hi
     | cons a r=>
      simp only
      rw[hr] at hi
      exact List.mem_flatMap.2 ⟨i,hi,List.mem_map.2 ⟨o',ho',rfl⟩⟩
    have each:∀ o'∈aHC ops f (listed.setIfInBounds i true),Mid P G M ops o st fun v os=>dG P G M ops (pick ops o') (st.put o.dst v os) Q:=by
     intro o' ho'
     have:=h _ (hin o' ho')
     unfold pick at this
     rw[List.filterMap_cons,ho] at this
     simp only at this
     rw[oP] at this
     exact this
    obtain⟨o0,ho0⟩:=List.exists_mem_of_ne_nil _ (aRx ops f (listed.setIfInBounds i true))
    obtain⟨v,os,hd⟩:=aDT hBi.1 (each o0 ho0)
    refine(hd _).2 ?_
    exact aLG f _ _ hBi.2 fun o' ho'=>(hd _).1 (each o' ho')
theorem aSB (M:List Nat) (n:Nat) (L:List (List Nat)) {st:St} {Q:Exit→St→Prop} {id:Nat} {l:List Oper} (hm:P.follows .mixedOrders=true) (hn:(l.take n).length=n) (hB:aTA M l.toArray n 0 (Array.replicate l.length false)=true)
  (hO:okO l.toArray (l.length - n) (aTH (Array.replicate l.length false) 0 n)=true) (hL:aHC l.toArray (l.length - n) (aTH (Array.replicate l.length false) 0 n)=L)
  (h:dG P G M l.toArray (l.take n) st fun s=>∀ o∈L,dG P G M l.toArray (pick l.toArray o) s (Q .normal)):awp P G (.region id l.toArray true) st Q:=fun E a hr=>by
 refine wp_region_any hm ?_
 have hnl:n≤l.length:=by rw[List.length_take] at hn;omega
 have h1:aDV P G M l.toArray (fun s=>∃ s',qH s' s∧Q .normal s') l.length (Array.replicate l.length false) st:=by
  have hQ:∀ s s':St,qH s s'→(∃ s',qH s' s∧Q .normal s')→∃ s'',qH s'' s'∧Q .normal s'':=fun s s' hs ⟨s0,h1,h2⟩=>⟨s0,h1.trans hs,h2⟩
  have:=aKw (M:=M) (P:=P) (G:=G) (ops:=l.toArray) hQ (l.length - n) (l.take n) 0 (Array.replicate l.length false) st (fun j hj=>by
   rw[hn] at hj
   simp[List.getElem?_take,hj]) (by rw[hn];exact hB) (by
   rw[hn]
   refine vK (fun s hs=>?_) _ _ h
   refine aLG _ _ _ hO fun o ho=>?_
   rw[hL] at ho
   exact vK (fun s h=>⟨s,⟨rfl,rfl,fun _=>rfl⟩,h⟩) _ _ (hs o ho))
  rw[hn,show n+(l.length - n)=l.length by omega] at this
  exact this
 have h2:=aAa (P:=P) (Q:=fun e a' w'=>∃ st' E',E'.w=w'∧Q e st'∧Rep G E' st' a'∧Ext E st.objs E' st'.objs) l.length _ st E.drew a hr.drew (fun s E' a' ⟨s',hs,hq⟩ hr' hx=>by
  exact⟨s',E',rfl,hq,hr'.same ⟨hs.1.symm,hs.2.1.symm,fun i=>(hs.2.2 i).symm⟩,aLU.trans (hs.2.1 ▸ hx)⟩) h1
 simp only[List.size_toArray]
 exact h2
end Go.V
