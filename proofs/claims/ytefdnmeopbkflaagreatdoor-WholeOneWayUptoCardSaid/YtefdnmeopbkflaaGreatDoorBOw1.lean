/-
  Texts of one proof, merged: Vka, Vk, Vl, Vm, Vmb, Vn, Vo, Vp, Vq, Vs, Vv, Vw, Vy, Vzc, Pw, Px, Pc, Pd, Vt, Vu, Vzd, Py, Pf, Vze, Vzf, Vzg, Pg, Vzh, Vzi, Vzj, Vzl, Pl, Vzn, Vzo, Vzp.
-/
import Derived.Test.YtefdnmeopbkflaaGreatDoorBOw0
import Derived.MapKept
import Derived.Orders
import Derived.Below
import Derived.Laws.BitsLemmas
import Derived.Laws.Strings
import Derived.OpenShut
import Derived.Defers
import Derived.Lib.Bytealg
import Derived.Laws.Cover3
import Derived.Recover
import Derived.Lib.SplitLaws
import Derived.Lib.Join
import Derived.Shelf.GgClosure.StringsIndexFunc
import Derived.RangeFuncRecord
import Derived.TacticsIn
set_option linter.unusedSimpArgs false
set_option linter.unusedVariables false
namespace Go.V
set_option linter.unusedVariables false
set_option linter.unusedSimpArgs false
theorem aIC {E:Env} {objs:List AObj} (ho:bP E objs) {w':World} {o:Obj} (h:Pushed E.w w' o) {u:Value} {x:AObj} (hb:dI x u=some E.w.heap.size)
  (hr:∀ E':Env,E'.w=w'→E'.lim E.w.heap.size=0→fM E' u x) :
  ∃ E',E'.w=w'∧E'.ρ objs.length=u∧objs.length<E'.k∧bP E' (objs++[x])∧Ext E objs E' (objs++[x]):=by
 obtain⟨hx,ho'⟩:=tG ho h 0
 obtain⟨hx2,ho2⟩:=rG (o:=x) (u:=u) hx ho' (hr _ rfl (by simp[Env.add,Env.push])) (by
  intro g hg
  rw[hb] at hg
  injection hg with hg
  subst hg
  exact⟨Nat.le_refl _,fun hw=>by
   have:=qZ ho (xN (E':=E.push w' 0) ho.1 (fun _ _=>rfl) hw)
   omega⟩)
 exact⟨_,rfl,by simp[Env.add,Env.push,ho.1],by simp[Env.add,Env.push,ho.1],ho2,hx2⟩
-- maps
def tE (P:Program) (t:TypeId) (r:Option Operand) (objs:List AObj):R:=
 match r with
 | none=>.ok True (.mref objs.length) (objs++[.map []])
 | some _=>.bad
theorem aAn {P:Program} {E:Env} {t:TypeId} {r:Option Operand} {g:Operand→Value} {objs objs':List AObj} {C:Prop} {v:AV} (h:tE P t r objs=.ok C v objs') (ho:bP E objs) :
  ∃ E' u,(Instr.makeMap t (r.map g)).run P E.w=.ok u E'.w∧bE E' v u∧bP E' objs'∧Ext E objs E' objs':=by
 unfold tE at h
 split at h
 case h_2=>cases h
 injection h with h1 h2 h3
 subst h2 h3
 obtain⟨E',e,hρ,hk,ho',hx⟩:=aIC (x:=.map []) (u:=.map (some E.w.heap.size)) ho (.alloc E.w (.map #[] 0)) rfl (fun E' hw hl=>⟨_,#[],0,rfl,by rw[hw];exact(Pushed.alloc E.w _).new,hl,rfl,by simp[bY]⟩)
 refine⟨E',.map (some E.w.heap.size),?_,by simp only[bE];exact⟨hk,_,hρ,rfl⟩,ho',hx⟩
 rw[e]
 have hn:(newObj (.map #[] 0)).run P E.w=.ok E.w.heap.size (E.w.alloc (.map #[] 0)):=rfl
 simp[Instr.makeMap,hn]
def zU (kd:TypeDesc) (k:Value):List (Value×AV)→Nat→Option (Option (Nat×AV))
 | [],_=>some none
 | e::es,i=>match Instr.sameNow kd k e.1 with
  | some true=>some (some (i,e.2))
  | some false=>zU kd k es (i+1)
  | none=>none
theorem pN {E:Env} {kd:TypeDesc} {k:Value}:∀ {es:List (Value×AV)} {l:List MapEntry} {i:Nat} {r:Option (Nat×AV)},l.map (·.key)=es.map (·.1)→bY E (es.map (·.2)) (l.map (·.val))→zU kd k es i=some r→
  ∃ r',Instr.findNow kd k l i=some r'∧(r=none→r'=none)∧(∀ j a,r=some (j,a)→∃ v,r'=some (j,v)∧bE E a v∧i≤j∧∃ e,l[j - i]? = some e∧e.val=v∧Instr.sameNow kd k e.key=some true)
 | [],[],i,r,_,_,h=>by
  simp only[zU,Option.some.injEq] at h
  subst h
  exact⟨none,rfl,fun _=>rfl,fun j a h=>by cases h⟩
 | [],x::l,i,r,hk,_,h=>by simp at hk
 | e::es,[],i,r,hk,_,h=>by simp at hk
 | e::es,x::l,i,r,hk,hv,h=>by
  simp only[List.map_cons,List.cons.injEq] at hk
  simp only[List.map_cons,bY] at hv
  obtain⟨v,vs,e1,hv1,hv2⟩:=hv
  simp only[List.cons.injEq] at e1
  obtain⟨rfl,rfl⟩:=e1
  simp only[zU] at h
  cases hs:Instr.sameNow kd k e.1 with
  | none=>rw[hs] at h;cases h
  | some b=>
   rw[hs] at h
   cases b with
   | true=>
    simp only[Option.some.injEq] at h
    subst h
    refine⟨some (i,x.val),by simp[Instr.findNow,hk.1,hs],(fun h=>by cases h),fun j a hja=>?_⟩
    injection hja with hja
    injection hja with h1 h2
    subst h1 h2
    exact⟨x.val,rfl,hv1,Nat.le_refl _,x,by simp,rfl,by rw[hk.1];exact hs⟩
   | false=>
    simp only at h
    obtain⟨r',q1,q2,q3⟩:=pN hk.2 hv2 h
    refine⟨r',by simp[Instr.findNow,hk.1,hs,q1],q2,fun j a hja=>?_⟩
    obtain⟨v,p1,p2,p3,e',p4,p5,p6⟩:=q3 j a hja
    refine⟨v,p1,p2,by omega,e',?_,p5,p6⟩
    rw[show j - i=(j - (i+1))+1 by omega,List.getElem?_cons_succ]
    exact p4
def aQk (z:List Value):Option AV:=match z with
 | []=>none
 | [_]=>none
 | _=>some (.agg (z.map cav))
def pI (P:Program) (t:TypeId) (objs:List AObj) (x key:AV) (ok:Bool):Option (Prop×AV):=
 match x,key with
 | .mref r,.val k=>match objs[r]?,P.underlying t with
  | some (.map es),some (.map kt et)=>match P.underlying kt with
   | some kd=>match zU kd k es 0 with
    | some (some (_,a))=>some (MapKept.IsKey kd k,if ok then .tup [a,.val (.bool true)] else a)
    | some none=>match (dS P et).bind aQk with
     | some z=>some (MapKept.IsKey kd k,if ok then .tup [z,.val (.bool false)] else z)
     | none=>none
    | none=>none
   | none=>none
  | _,_=>none
 | _,_=>none
theorem aBw {P:Program} {E:Env} {t:TypeId} {objs:List AObj} {x key v:AV} {ok:Bool} {C:Prop} {u uk:Value} (h:pI P t objs x key ok=some (C,v)) (hC:C) (ho:bP E objs) (hx:bE E x u) (hk:bE E key uk) :
  ∃ y,bE E v y∧(Instr.lookup t u uk ok).run P E.w=.ok y E.w:=by
 unfold pI at h
 split at h
 case h_2=>cases h
 rename_i r k
 split at h
 case h_2=>cases h
 rename_i es kt et hr ht
 split at h
 case h_2=>cases h
 rename_i kd hkd
 simp only[bE] at hx hk
 subst hk
 obtain⟨_,g,hg,rfl⟩:=hx
 obtain⟨g',ents,clock,e,hh,_,hkeys,hvals⟩:=ho.2.1 r _ hr
 rw[hg] at e
 injection e with e
 injection e with e
 subst e
 have hget:=MapKept.run_getObj_map (P:=P) hh
 split at h
 ·rename_i j a hf
  simp only[Option.some.injEq,Prod.mk.injEq] at h
  obtain⟨rfl,rfl⟩:=h
  obtain⟨r',q1,_,q3⟩:=pN hkeys hvals hf
  obtain⟨y,rfl,hy,_⟩:=q3 j a rfl
  refine⟨if ok then .tuple #[y,.bool true] else y,?_,?_⟩
  ·cases ok with
   | true=>simp only[if_true,bE,bY];exact⟨[y,.bool true],rfl,y,_,rfl,hy,_,_,rfl,by simp only[bE],rfl⟩
   | false=>exact hy
  ·simp[Instr.lookup,run_underlying ht,hget,MapKept.run_checkKey hkd hC,MapKept.run_findKey hkd q1,Result.andThen]
 ·rename_i hf
  split at h
  case h_2=>cases h
  rename_i z hz
  simp only[Option.some.injEq,Prod.mk.injEq] at h
  obtain⟨rfl,rfl⟩:=h
  obtain⟨r',q1,q2,_⟩:=pN hkeys hvals hf
  have:=q2 rfl
  subst this
  obtain⟨zl,hzl,hz2⟩:=Option.bind_eq_some_iff.1 hz
  obtain⟨zv,hrun,hc⟩:=iO (P:=P) hzl E.w
  have hzr:bE E z zv:=by
   match zl,hz2,hc with
   | a::b::l,hz2,hc=>
    simp only[aQk,Option.some.injEq] at hz2
    subst hz2
    have hagg:zv=.agg (a::b::l).toArray:=by
     cases zv<;>simp[Value.cells] at hc<;>first|(rw[hc])|(exfalso;simpa using hc)
    subst hagg
    simp only[bE]
    exact⟨a::b::l,rfl,oH E _⟩
  refine⟨if ok then .tuple #[zv,.bool false] else zv,?_,?_⟩
  ·cases ok with
   | true=>simp only[if_true,bE,bY];exact⟨[zv,.bool false],rfl,zv,_,rfl,hzr,_,_,rfl,by simp only[bE],rfl⟩
   | false=>exact hzr
  ·simp[Instr.lookup,run_underlying ht,hget,MapKept.run_checkKey hkd hC,MapKept.run_findKey hkd q1,hrun,Result.andThen]
 ·cases h
theorem aIW {E:Env} {objs:List AObj} (ho:bP E objs) {r g:Nat} {x x':AObj} {o':Obj} {w':World} (hr:objs[r]? = some x) (hb:dI x (E.ρ r)=some g) (hl:E.lim g=0)
  (h1:w'.heap=E.w.heap.setIfInBounds g o') (h2:w'.os=E.w.os) (h3:w'.tape=E.w.tape) (h4:w'.output=E.w.output) (hb':dI x' (E.ρ r)=some g)
  (hx':Ext0 E { E with w:=w' }→w'.heap[g]? = some o'→fM { E with w:=w' } (E.ρ r) x') :
  bP { E with w:=w' } (objs.set r x')∧Ext E objs { E with w:=w' } (objs.set r x'):=by
 have hlt:=pZ (ho.2.1 r x hr) hb
 have hne:∀ b,b≠g→w'.heap[b]? = E.w.heap[b]?:=fun b hbg=>by rw[h1];simp[Ne.symm hbg]
 have hsz:w'.heap.size=E.w.heap.size:=by rw[h1];simp
 have hg:w'.heap[g]? = some o':=by rw[h1];simp[hlt]
 have hx0:Ext0 E { E with w:=w' }:=by
  refine⟨by show _≤w'.heap.size;omega,fun _ _=>Nat.le_refl _,fun b o hbs ho'=>?_,Nat.le_refl _,fun _ _=>.refl _⟩
  have:b≠g:=by
   rintro rfl
   rw[hl] at ho'
   omega
  exact iY (hne b this)
 refine⟨⟨by simpa using ho.1,fun i o hi=>?_,fun i j o1 o2 b hi hj b1 b2=>?_⟩,{ hx0 with os:=h2,tape:=h3,output:=h4,frame:=fun b _ hno=>⟨hne b ?_,rfl⟩,own:=fun b hw _=>?_ }⟩
 ·rcases fI hi with⟨rfl,rfl,_⟩|⟨hir,hio⟩
  ·exact hx' hx0 hg
  ·refine(ho.2.1 i o hio).stay hx0 fun b hbb=>⟨hne b ?_,rfl⟩
   rintro rfl
   exact hir (ho.2.2 i r o x b hio hr hbb hb)
 ·simp only at b1 b2
  rcases fI hi with⟨rfl,rfl,_⟩|⟨hir,hio⟩
  ·rw[hb'] at b1
   injection b1 with b1
   subst b1
   rcases fI hj with⟨rfl,rfl,_⟩|⟨hjr,hjo⟩
   ·rfl
   ·exact absurd (ho.2.2 j i o2 x g hjo hr b2 hb) hjr
  ·rcases fI hj with⟨rfl,rfl,_⟩|⟨hjr,hjo⟩
   ·rw[hb'] at b2
    injection b2 with b2
    subst b2
    exact absurd (ho.2.2 i j o1 x g hio hr b1 hb) hir
   ·exact ho.2.2 i j o1 o2 b hio hjo b1 b2
 ·rintro rfl
  exact hno ⟨r,x,hr,hb⟩
 ·obtain⟨i,o,hi,hbb⟩:=hw
  rcases fI hi with⟨rfl,rfl,_⟩|⟨hir,hio⟩
  ·simp only at hbb
   rw[hb'] at hbb
   injection hbb with hbb
   subst hbb
   exact⟨i,x,hr,hb⟩
  ·exact⟨i,o,hio,hbb⟩
def uD (P:Program) (t:TypeId) (objs:List AObj) (x key val:AV):R:=
 match x,key with
 | .mref r,.val k=>match objs[r]?,P.underlying t with
  | some (.map es),some (.map kt et)=>match P.underlying kt with
   | some kd=>match zU kd k es 0 with
    | some (some (j,_))=>.bad
    | some none=>.ok (MapKept.IsKey kd k) .top (objs.set r (.map (es++[(k,val)])))
    | none=>.bad
   | none=>.bad
  | _,_=>.bad
 | _,_=>.bad
theorem aBy {P:Program} {E:Env} {t:TypeId} {objs objs':List AObj} {x key val v:AV} {C:Prop} {u uk uv:Value} (h:uD P t objs x key val=.ok C v objs') (hC:C) (ho:bP E objs) (hx:bE E x u) (hk:bE E key uk) (hv:bE E val uv) :
  ∃ E',(Instr.mapUpdate t u uk uv).run P E.w=.ok () E'.w∧v=.top∧bP E' objs'∧Ext E objs E' objs':=by
 unfold uD at h
 split at h
 case h_2=>cases h
 rename_i r k
 split at h
 case h_2=>cases h
 rename_i es kt et hr ht
 split at h
 case h_2=>cases h
 rename_i kd hkd
 split at h
 ·cases h
 ·rename_i hf
  injection h with h1 h2 h3
  subst h1 h2 h3
  simp only[bE] at hx hk
  subst hk
  obtain⟨_,g,hg,rfl⟩:=hx
  obtain⟨g',ents,clock,e,hh,hlim,hkeys,hvals⟩:=ho.2.1 r _ hr
  rw[hg] at e
  injection e with e
  injection e with e
  subst e
  obtain⟨r',q1,q2,_⟩:=pN hkeys hvals hf
  have:=q2 rfl
  subst this
  let w':World:={ E.w with heap:=E.w.heap.setIfInBounds g (.map (ents.push { key:=uk,val:=uv,born:=clock }) (clock+1)) }
  obtain⟨ho',hx'⟩:=aIW (E:=E) (x':=.map (es++[(uk,val)])) (o':=.map (ents.push { key:=uk,val:=uv,born:=clock }) (clock+1)) (w':=w') ho hr (by rw[hg];rfl) hlim rfl rfl rfl rfl (by rw[hg];rfl)
   (fun hx0 hgo=>⟨g,_,_,hg,hgo,hlim,by simp[hkeys],by
    simp only[Array.toList_push,List.map_append,List.map_cons,List.map_nil]
    exact(bY.mono hx0 _ _ hvals).append (by simp only[bY];exact⟨uv,[],rfl,bE.mono hx0 _ _ hv,rfl⟩)⟩)
  refine⟨{ E with w:=w' },?_,rfl,ho',hx'⟩
  simp[Instr.mapUpdate,run_underlying ht,MapKept.run_getObj_map hh,MapKept.run_checkKey hkd hC,MapKept.run_findKey hkd q1,MapKept.run_setObj_map _ hh,Result.andThen,w']
 ·cases h
def bV (P:Program) (t:TypeId) (objs:List AObj) (x:AV):Option AV:=
 match x with
 | .mref r=>match objs[r]?,P.underlying t with
  | some (.map es),some (.map _ _)=>some (.val (.int .i64 (es.length:Int)))
  | _,_=>none
 | _=>none
theorem aBx {P:Program} {E:Env} {t ty:TypeId} {objs:List AObj} {x v:AV} {u:Value} (h:bV P t objs x=some v) (ho:bP E objs) (hx:bE E x u) :
  ∃ y,bE E v y∧(Builtin.len_ #[t] ty #[u]).run P E.w=.ok y E.w:=by
 unfold bV at h
 split at h
 case h_2=>cases h
 rename_i r
 split at h
 case h_2=>cases h
 rename_i es kt et hr ht
 injection h with h
 subst h
 simp only[bE] at hx
 obtain⟨_,g,hg,rfl⟩:=hx
 obtain⟨g',ents,clock,e,hh,_,hkeys,_⟩:=ho.2.1 r _ hr
 rw[hg] at e
 injection e with e
 injection e with e
 subst e
 refine⟨goInt es.length,by simp only[bE];rfl,?_⟩
 have hl:ents.size=es.length:=by
  have:=congrArg List.length hkeys
  simpa using this
 simp[Builtin.len_,run_underlying ht,MapKept.run_getObj_map hh,hl]
-- strings that are gone through
def aAr (P:Program) (t:TypeId) (objs:List AObj) (x:AV):R:=
 match x,P.underlying t with
 | .val (.string s),some .string=>.ok True (.ptr objs.length 0) (objs++[.siter s 0])
 | _,_=>.bad
theorem aDn {P:Program} {E:Env} {t:TypeId} {objs objs':List AObj} {x v:AV} {C:Prop} {u:Value} (h:aAr P t objs x=.ok C v objs') (ho:bP E objs) (hx:bE E x u) :
  ∃ E' y,(Instr.range t u).run P E.w=.ok y E'.w∧bE E' v y∧bP E' objs'∧Ext E objs E' objs':=by
 unfold aAr at h
 split at h
 case h_2=>cases h
 rename_i s ht
 injection h with h1 h2 h3
 subst h2 h3
 simp only[bE] at hx
 subst hx
 obtain⟨E',e,hρ,hk,ho',hx'⟩:=aIC (x:=.siter s 0) (u:=.pointer (some ⟨E.w.heap.size,0,none⟩)) ho (.alloc E.w (.stringIter s 0)) rfl (fun E' hw hl=>⟨_,rfl,by rw[hw];exact(Pushed.alloc E.w _).new,hl⟩)
 refine⟨E',.pointer (some ⟨E.w.heap.size,0,none⟩),?_,by simp only[bE];exact⟨hk,_,hρ,rfl⟩,ho',hx'⟩
 rw[e]
 have hn:(newObj (.stringIter s 0)).run P E.w=.ok E.w.heap.size (E.w.alloc (.stringIter s 0)):=rfl
 simp[Instr.range,run_underlying ht,hn,Result.andThen]
def aCP (objs:List AObj) (x:AV) (isString:Bool):R:=
 match x,isString with
 | .ptr r 0,true=>match objs[r]? with
  | some (.siter s pos)=>
   if pos<s.size then .ok True (.tup [.val (.bool true),.val (.int .i64 (pos:Int)),.val (.int .i32 (Utf8.decode s pos).1)]) (objs.set r (.siter s (pos+(Utf8.decode s pos).2)))
   else .ok True (.tup [.val (.bool false)]) objs
  | _=>.bad
 | _,_=>.bad
theorem aEx {P:Program} {E:Env} {ty:TypeId} {objs objs':List AObj} {x v:AV} {b:Bool} {C:Prop} {u:Value} (h:aCP objs x b=.ok C v objs') (ho:bP E objs) (hx:bE E x u) :
  ∃ E' y,(Instr.next u b ty).run P E.w=.ok y E'.w∧bE E' v y∧bP E' objs'∧Ext E objs E' objs':=by
 unfold aCP at h
 split at h
 case h_2=>cases h
 rename_i r
 split at h
 case h_2=>cases h
 rename_i s pos hr
 simp only[bE] at hx
 obtain⟨_,g,hg,rfl⟩:=hx
 obtain⟨g',e,hh,hlim⟩:=ho.2.1 r _ hr
 rw[hg] at e
 injection e with e
 injection e with e
 injection e with e
 subst e
 have hget:(getObj g).run P E.w=.ok (.stringIter s pos) E.w:=by simp[getObj,Sem.run,hh]
 split at h
 ·rename_i hlt
  injection h with h1 h2 h3
  subst h2 h3
  let w':World:={ E.w with heap:=E.w.heap.setIfInBounds g (.stringIter s (pos+(Utf8.decode s pos).2)) }
  obtain⟨ho',hx'⟩:=aIW (E:=E) (x':=.siter s (pos+(Utf8.decode s pos).2)) (o':=.stringIter s (pos+(Utf8.decode s pos).2)) (w':=w') ho hr (by rw[hg];rfl) hlim rfl rfl rfl rfl (by rw[hg];rfl)
   (fun hx0 hgo=>⟨g,hg,hgo,hlim⟩)
  have hset:(setObj g (.stringIter s (pos+(Utf8.decode s pos).2))).run P E.w=.ok () w':=by simp[setObj,Sem.run,hh,w']
  refine⟨{ E with w:=w' },.tuple #[.bool true,goInt pos,.int .i32 (Utf8.decode s pos).1],?_,?_,ho',hx'⟩
  ·simp[Instr.next,hget,hlt,hset,Result.andThen]
  ·simp only[bE,bY]
   exact⟨_,rfl,_,_,rfl,rfl,_,_,rfl,rfl,_,_,rfl,rfl,rfl⟩
 ·rename_i hlt
  injection h with h1 h2 h3
  subst h2 h3
  refine⟨E,.tuple #[.bool false],?_,?_,ho,.refl _ _⟩
  ·simp[Instr.next,hget,hlt,Result.andThen]
  ·simp only[bE,bY]
   exact⟨_,rfl,_,_,rfl,rfl,rfl⟩
def aPJ (P:Program) (op:BinOp) (t:TypeId):Option (Prop×AV):=
 match P.underlying t with
 | some (.pointer _)=>match op with
  | .eql=>some (True,.val (.bool false))
  | .neq=>some (True,.val (.bool true))
  | _=>none
 | _=>none
def tA (P:Program) (op:BinOp) (t:TypeId) (x y:AV):Option (Prop×AV):=
 match x,y with
 | .val (.int k a),.val (.int k' b)=>bH op k a k' b
 | .val (.bool a),.val (.bool b)=>aAc P op t a b
 | .val (.string a),.val (.string b)=>gL op a b
 | .agg xs,.agg ys=>aDW P op t xs ys
 | .ptr _ _,.val (.pointer none)=>aPJ P op t
 | .val (.float k a),.val (.float k' b)=>rH op k a k' b
 | _,_=>none
def aLp:Operand→Bool
 | .const .nilIface=>true
 | _=>false
def aNS (P:Program) (op:BinOp) (t:TypeId) (x:AV):Option (Prop×AV):=
 match x,op with
 | .val (.iface _ _),.eql=>some (∃ ms,P.underlying t=some (.interface ms),.val (.bool false))
 | .val (.iface _ _),.neq=>some (∃ ms,P.underlying t=some (.interface ms),.val (.bool true))
 | .val .nilIface,.eql=>some (∃ ms,P.underlying t=some (.interface ms),.val (.bool true))
 | .val .nilIface,.neq=>some (∃ ms,P.underlying t=some (.interface ms),.val (.bool false))
 | _,_=>none
def sM (P:Program) (op:BinOp) (t:TypeId) (Y:Operand) (x y:AV):Option (Prop×AV):=if aLp Y=true then aNS P op t x else tA P op t x y
theorem nO {P:Program} {w:World} {t:TypeId} {ms:Array (String×TypeId)} (ht:P.underlying t=some (.interface ms)) (d:TypeId) (v:Value) :
  (Op.equal t (.iface d v) .nilIface).run P w=.ok false w∧(Op.equal t .nilIface .nilIface).run P w=.ok true w:=by
 constructor
 ·show (Op.equalIn (9999+1) t (.iface d v) .nilIface).run P w=_
  unfold Op.equalIn
  simp only[Sem.run_bind,run_underlying ht,Result.andThen_ok]
  rfl
 ·show (Op.equalIn (9999+1) t .nilIface .nilIface).run P w=_
  unfold Op.equalIn
  simp only[Sem.run_bind,run_underlying ht,Result.andThen_ok]
  rfl
theorem aDz {P:Program} {w:World} (op:BinOp) (t:TypeId) (X:Operand) (u:Value):(eqGuard op t X (.const .nilIface) u .nilIface).run P w=.ok () w:=by
 unfold eqGuard
 cases op<;>simp<;>cases u<;>simp
theorem aGc {P:Program} {E:Env} {op:BinOp} {t:TypeId} {x v:AV} {C:Prop} {u:Value} (X:Operand) (h:aNS P op t x=some (C,v)) (hC:C) (hx:bE E x u) :
  ∃ r,bE E v r∧(do eqGuard op t X (.const .nilIface) u .nilIface;binOp op t u .nilIface:Sem Value).run P E.w=.ok r E.w:=by
 unfold aNS at h
 split at h<;>(try (cases h;done))
 all_goals
  simp only[Option.some.injEq,Prod.mk.injEq] at h
  obtain⟨rfl,rfl⟩:=h
  simp only[bE] at hx
  subst hx
  obtain⟨ms,ht⟩:=hC
  refine⟨_,by simp only[bE];rfl,?_⟩
  rw[Sem.run_bind,aDz,Result.andThen_ok]
  simp only[binOp,Sem.run_bind]
  first
   | (rw[(nO ht _ _).1];rfl)
   | (rw[(nO ht 0 .nilIface).2];rfl)
def aNb:Value→AV
 | .agg a=>.agg (a.toList.map cav)
 | v=>cav v
theorem aGs (E:Env) (v:Value):bE E (aNb v) v:=by
 unfold aNb
 split
 ·simp only[bE]
  exact⟨_,by simp,oH E _⟩
 ·exact aCV E v
def aIF (P:Program) (x:AV) (t:TypeId) (ok:Bool):Option (Prop×AV):=
 match P.underlying t with
 | some (.interface _)=>none
 | none=>none
 | some _=>match x with
  | .val (.iface d v)=>some (d=t,if ok then .tup [aNb v,.val (.bool true)] else aNb v)
  | _=>none
theorem aFA {P:Program} {E:Env} {t xT:TypeId} {x v:AV} {ok:Bool} {C:Prop} {u:Value} (h:aIF P x t ok=some (C,v)) (hC:C) (hx:bE E x u) :
  ∃ r,bE E v r∧(Instr.typeAssert u xT t ok).run P E.w=.ok r E.w:=by
 unfold aIF at h
 split at h
 ·cases h
 ·cases h
 ·rename_i d hne ht
  split at h
  case h_2=>cases h
  rename_i d' v'
  simp only[Option.some.injEq,Prod.mk.injEq] at h
  obtain⟨rfl,rfl⟩:=h
  simp only[bE] at hx
  subst hx hC
  have hv:=aGs E v'
  cases ok with
  | true=>
   refine⟨.tuple #[v',.bool true],by simp only[if_true,bE,bY];exact⟨[v',.bool true],rfl,v',_,rfl,hv,_,_,rfl,rfl,rfl⟩,?_⟩
   unfold Instr.typeAssert
   simp only[Sem.run_bind,run_underlying ht,Result.andThen_ok]
   cases d<;>first|(rename_i ms;exact absurd ht (by simpa using hne ms))|simp
  | false=>
   refine⟨v',by simpa using hv,?_⟩
   unfold Instr.typeAssert
   simp only[Sem.run_bind,run_underlying ht,Result.andThen_ok]
   cases d<;>first|(rename_i ms;exact absurd ht (by simpa using hne ms))|simp
def R.ofO (objs:List AObj):Option (Prop×AV)→R
 | some (C,v)=>.ok C v objs
 | none=>.bad
def R.ofV (objs:List AObj):Option AV→R
 | some v=>.ok True v objs
 | none=>.bad
def aCi:List AV→Option (List Value)
 | []=>some []
 | .val v::cs=>(aCi cs).map (v :: ·)
 | _=>none
theorem zO {E:Env}:∀ {cs:List AV} {l vs:List Value},aCi cs=some l→bY E cs vs→vs=l
 | [],l,vs,h,hr=>by
  simp only[aCi,Option.some.injEq] at h
  simp only[bY] at hr
  rw[hr,h]
 | c::cs,l,vs,h,hr=>by
  cases c with
  | val v=>
   simp only[aCi,Option.map_eq_some_iff] at h
   obtain⟨l',h1,rfl⟩:=h
   simp only[bY] at hr
   obtain⟨x,vs',rfl,h2,h3⟩:=hr
   simp only[bE] at h2
   rw[h2,zO h1 h3]
  | _=>simp[aCi] at h
def aDf (P:Program) (t:TypeId) (x:AV):Option AV:=
 match P.underlying t with
 | some (.interface _)=>none
 | none=>none
 | some _=>match x with
  | .val v=>some (.val (.iface t v))
  | .agg cs=>match aCi cs with
   | some l=>some (.val (.iface t (.agg l.toArray)))
   | none=>none
  | _=>none
theorem aDg {P:Program} {E:Env} {t:TypeId} {x v:AV} {u:Value} (h:aDf P t x=some v) (hx:bE E x u):∃ y,bE E v y∧(Instr.makeInterface t u).run P E.w=.ok y E.w:=by
 unfold aDf at h
 split at h
 ·cases h
 ·cases h
 ·rename_i d hne ht
  have hrun:(Instr.makeInterface t u).run P E.w=.ok (.iface t u) E.w:=by
   unfold Instr.makeInterface
   simp only[Sem.run_bind,run_underlying ht,Result.andThen]
   cases d<;>first|rfl|(rename_i ms;exact absurd ht (by simpa using hne ms))
  split at h
  ·injection h with h
   subst h
   simp only[bE] at hx
   subst hx
   exact⟨_,by simp only[bE],hrun⟩
  ·split at h
   case h_2=>cases h
   rename_i cs l hl
   injection h with h
   subst h
   simp only[bE] at hx
   obtain⟨vs,rfl,hr⟩:=hx
   have:=zO hl hr
   subst this
   exact⟨_,by simp only[bE],hrun⟩
  ·cases h
def qJ (fn:Fn) (first:Array Operand) (caps:List AV) (objs:List AObj):R:=
 match fn with
 | .func f=>if first=#[] then .ok True (.clo f caps) objs else .bad
 | _=>.bad
def eF (x:AV) (objs:List AObj):R:=if (bB x).all dC=true then .ok True (.cptr (bB x)) objs else .bad
theorem aEm {P:Program} {E:Env} {t:TypeId} {objs objs':List AObj} {C:Prop} {x v:AV} {u0:Value} (h:eF x objs=.ok C v objs') (ho:bP E objs) (hx0:bE E x u0) :
  ∃ E' u,(Instr.box t u0).run P E.w=.ok u E'.w∧bE E' v u∧bP E' objs'∧Ext E objs E' objs':=by
 unfold eF at h
 split at h
 case isFalse=>cases h
 rename_i hone
 injection h with h1 h2 h3
 subst h2 h3
 obtain⟨hl,_⟩:=nZ hx0 hone
 have hpush:Pushed E.w (E.w.alloc (.cells u0.cells.toList.toArray t)) (.cells u0.cells.toList.toArray t):=.alloc E.w _
 obtain⟨hx,ho'⟩:=tG ho hpush (bB x).length
 refine⟨_,.pointer (some ⟨E.w.heap.size,0,none⟩),?_,?_,ho',hx⟩
 ·simp[Instr.box,newVar,newRow,Env.push]
 ·simp only[bE]
  refine⟨E.w.heap.size,0,rfl,?_,?_,?_⟩
  ·show _<(E.w.alloc _).heap.size
   rw[hpush.size]
   omega
  ·simp[Env.push]
  ·refine eD.of_cell fun i a ha=>?_
   obtain⟨v,hv,hr⟩:=(bY.mono hx.toExt0 _ _ hl).get i a ha
   refine⟨v,?_,hr⟩
   show (E.w.alloc _).cell? _=_
   rw[cell_of_row _ _ _ _ _ _ hpush.new]
   simpa using hv
def aDa (P:Program) (t:TypeId) (x:AV) (objs:List AObj):R:=
 match P.underlying t,x with
 | some (.slice e),.osl r off n cap=>match tsz P e,dS P e,objs[r]? with
  | some sz,some z,some (.cells cs)=>
   .ok (z.length=sz∧0<n∧0<sz∧off+n*sz≤cs.length∧(kZ z n).all dC=true) (.tup []) (objs.set r (.cells (spl cs off (kZ z n))))
  | _,_,_=>.bad
 | _,_=>.bad
theorem aDb {P:Program} {E:Env} {t ty:TypeId} {x v:AV} {objs objs':List AObj} {C:Prop} {u:Value} (h:aDa P t x objs=.ok C v objs') (hC:C) (ho:bP E objs) (hx:bE E x u) :
  ∃ E' y,(Builtin.clear_ #[t] ty #[u]).run P E.w=.ok y E'.w∧bE E' v y∧bP E' objs'∧Ext E objs E' objs':=by
 unfold aDa at h
 split at h
 case h_2=>cases h
 rename_i e r off n cap ht
 split at h
 case h_2=>cases h
 rename_i sz z cs hsz hz hr
 injection h with h1 h2 h3
 subst h1 h2 h3
 obtain⟨c1,c2,c3,c4,c5⟩:=hC
 simp only[bE] at hx
 obtain⟨hk,A,c,rfl,hn,hcap,hpos⟩:=hx
 obtain⟨g,hg,rfl⟩:=hpos (by omega)
 have hzl:(kZ z n).length=n*sz:=by rw[nK,c1]
 have hp:0<n*sz:=Nat.mul_pos c2 c3
 obtain⟨E',hst,ho',hx'⟩:=uS (P:=P) (us:=fX z n) (new:=kZ z n) (off:=off) ho hr hg (by omega) (by omega) (lO E z n) (aAm (lO E z n) c5)
 obtain⟨zv,hzv,hzc⟩:=iO (P:=P) hz E.w
 refine⟨E',.tuple #[],?_,by simp only[bE,bY];exact⟨[],rfl,rfl⟩,ho',hx'⟩
 have hn0:n≠0:=by omega
 obtain⟨m,rfl⟩:∃ m,n=m+1:=⟨n - 1,by omega⟩
 have hzt:(Builtin.zeroCells z.toArray (m+1)).toList=fX z (m+1):=by simpa using sL z (m+1)
 simp[Builtin.clear_,run_underlying ht,hzv,hzc,hzt,hst,Result.andThen]
def bI (P:Program) (mt:Bool) (objs:List AObj) (b:Builtin) (ts:List TypeId) (as_:List AV):R:=
 match b,ts,as_ with
 | .len,[t],[x]=>if mt=true then R.ofV objs (bV P t objs x) else R.ofV objs (eN P t x)
 | .min,_,[x,y]=>R.ofV objs (wP true x y)
 | .max,_,[x,y]=>R.ofV objs (wP false x y)
 | .append,[sT,xT],[s,x]=>fP P sT xT mt s x objs
 | .copy,[dT,sT],[d,s]=>aCK P dT d s objs
 | .clear,[t],[x]=>aDa P t x objs
 | _,_,_=>.bad
def lZ (P:Program) (mt:Bool) (f:Operand→AV) (objs:List AObj):Op→R
 | .move x=>.ok True (f x) objs
 | .assign x=>.ok True (f x) objs
 | .pick c a b=>R.ofV objs (bU (f c) (f a) (f b))
 | .alloc t=>dF P t objs
 | .box t x=>if mt=true then eF (f x) objs else fN P (f x) objs
 | .build t parts=>R.ofO objs (fA P t (dO f parts))
 | .buildSlice t n parts=>if mt=true then dV P t n (dO f parts) objs else dL P t n (dO f parts) objs
 | .load t x=>R.ofO objs (aY P t (f x) (if mt=true then [] else objs))
 | .store t x y=>bX P t (f x) (f y) objs
 | .nilCheck x=>R.ofV objs (fY (f x))
 | .binOp op t x y _=>R.ofO objs (sM P op t y (f x) (f y))
 | .typeAssert x _ t ok=>R.ofO objs (aIF P (f x) t ok)
 | .unOp op _ x=>R.ofV objs (aun op (f x))
 | .convert s d x=>match P.underlying d with
  | some (.slice _)=>mG P s d (f x) objs
  | _=>if mt=true then R.ofO objs (eG P s d (f x) objs) else R.ofO objs (fF P s d (f x))
 | .sliceToArrayPointer t x=>R.ofO objs (qI P t (f x))
 | .makeSlice t l c=>aCO P t mt (f l) (f c) objs
 | .slice t x lo hi mx=>R.ofO objs (eY P t (f x) (lo.map f) (hi.map f) (mx.map f))
 | .fieldAddr t x i=>R.ofO objs (aN P t (f x) i)
 | .field t x i=>R.ofO objs (aDd P t (f x) i)
 | .indexAddr t x i=>R.ofO objs (dN P t (f x) (f i))
 | .index t x i=>R.ofO objs (uU P t (f x) (f i))
 | .extract x i=>R.ofV objs (gW (f x) i)
 | .lookup t x k ok=>R.ofO objs (pI P t objs (f x) (f k) ok)
 | .mapUpdate t m k x=>uD P t objs (f m) (f k) (f x)
 | .makeMap t r=>tE P t r objs
 | .range t x=>aAr P t objs (f x)
 | .next it b=>aCP objs (f it) b
 | .makeFunc fn first captured=>qJ fn first (captured.toList.map f) objs
 | .makeInterface t x=>R.ofV objs (aDf P t (f x))
 | .call { callee:=.builtin b,args,argTypes }=>bI P mt objs b argTypes.toList (args.toList.map f)
 | _=>.bad
theorem kD {objs objs':List AObj} {o:Option (Prop×AV)} {C:Prop} {v:AV} (h:R.ofO objs o=.ok C v objs'):o=some (C,v)∧objs'=objs:=by
 unfold R.ofO at h
 split at h
 ·injection h with h1 h2 h3
  subst h1 h2 h3
  exact⟨rfl,rfl⟩
 ·cases h
theorem pY {objs objs':List AObj} {o:Option AV} {C:Prop} {v:AV} (h:R.ofV objs o=.ok C v objs'):o=some v∧objs'=objs:=by
 unfold R.ofV at h
 split at h
 ·injection h with h1 h2 h3
  subst h1 h2 h3
  exact⟨rfl,rfl⟩
 ·cases h
theorem aIr {P:Program} {t:TypeId} {x:AV} {objs:List AObj} {r:Prop×AV} (h:aY P t x []=some r):aY P t x objs=some r:=by
 unfold aY at *
 split at h<;>first|exact h|(simp at h)|cases h
theorem aKq {P:Program} {t:TypeId} {x:AV} {objs:List AObj} {mt:Bool} {r:Prop×AV} (h:aY P t x (if mt=true then [] else objs)=some r):aY P t x objs=some r:=by
 cases mt with
 | true=>exact aIr h
 | false=>exact h
theorem vD {P:Program} {w:World} {t el:TypeId} (ht:P.underlying t=some (.pointer el)) (a:Addr):(Op.equal t (.pointer (some a)) (.pointer none)).run P w=.ok false w:=by
 show (Op.equalIn (9999+1) t (.pointer (some a)) (.pointer none)).run P w=_
 unfold Op.equalIn
 simp only[Sem.run_bind,run_underlying ht,Result.andThen_ok]
 rfl
theorem aFs {P:Program} {w:World} {t el:TypeId} (ht:P.underlying t=some (.pointer el)) (a:Addr) (op:BinOp) {X Y:Operand} (h:op=.eql∨op=.neq):(do eqGuard op t X Y (.pointer (some a)) (.pointer none);binOp op t (.pointer (some a)) (.pointer none):Sem Value).run P w=.ok (.bool (op == .neq)) w:=by
 have h1:(eqGuard op t X Y (.pointer (some a)) (.pointer none)).run P w=.ok () w:=by
  rcases h with rfl|rfl<;>rfl
 rw[Sem.run_bind,h1,Result.andThen_ok]
 rcases h with rfl|rfl
 ·show (do pure (.bool (← Op.equal t (.pointer (some a)) (.pointer none))):Sem Value).run P w=_
  rw[Sem.run_bind,vD ht,Result.andThen_ok]
  rfl
 ·show (do pure (.bool (!(← Op.equal t (.pointer (some a)) (.pointer none)))):Sem Value).run P w=_
  rw[Sem.run_bind,vD ht,Result.andThen_ok]
  rfl
theorem aGU {P:Program} {E:Env} {op:BinOp} {t:TypeId} {x y v:AV} {C:Prop} {u u':Value} (h:tA P op t x y=some (C,v)) (hC:C) (hx:bE E x u) (hy:bE E y u') (X Y:Operand) :
  ∃ r,bE E v r∧(do eqGuard op t X Y u u';binOp op t u u':Sem Value).run P E.w=.ok r E.w:=by
 unfold tA at h
 split at h
 ·simp only[bE] at hx hy
  subst hx hy
  obtain⟨r,rfl,hr⟩:=aGd (P:=P) (w:=E.w) t h hC
  exact⟨r,by simp only[bE],by simp only[eqGuard_at_int,Sem.run_bind,Sem.run_pure,Result.andThen_ok,hr]⟩
 ·simp only[bE] at hx hy
  subst hx hy
  obtain⟨r,rfl,hr⟩:=aEl (P:=P) (w:=E.w) h hC
  exact⟨r,by simp only[bE],by simp only[eqGuard_at_bool,Sem.run_bind,Sem.run_pure,Result.andThen_ok,hr]⟩
 ·simp only[bE] at hx hy
  subst hx hy
  obtain⟨r,rfl,hr⟩:=aGl (P:=P) (w:=E.w) t h hC
  exact⟨r,by simp only[bE],by simp only[eqGuard_at_string,Sem.run_bind,Sem.run_pure,Result.andThen_ok,hr]⟩
 ·simp only[bE] at hx hy
  obtain⟨us,rfl,hx⟩:=hx
  obtain⟨vs,rfl,hy⟩:=hy
  exact aGT h hC hx hy X Y
 ·simp only[bE] at hx hy
  subst hy
  obtain⟨_,g,_,rfl⟩:=hx
  unfold aPJ at h
  split at h
  case h_2=>cases h
  rename_i el ht
  cases op<;>simp only[seval,Option.some.injEq,Prod.mk.injEq] at h
  all_goals
   obtain⟨_,rfl⟩:=h
   refine⟨_,by simp only[bE];rfl,?_⟩
   exact aFs ht _ _ (by simp)
 ·simp only[bE] at hx hy
  subst hx hy
  obtain⟨r,rfl,hr⟩:=aGa (P:=P) (w:=E.w) t X Y h hC
  exact⟨r,by simp only[bE],hr⟩
 ·cases h
theorem aGn {P:Program} {mt:Bool} {E:Env} {objs objs':List AObj} {f:Operand→AV} {g:Operand→Value} (hfg:∀ x,bE E (f x) (g x)) (hgc:∀ v,g (.const v)=v) {o:Oper} {C:Prop} {v:AV} (h:lZ P mt f objs o.op=.ok C v objs') (hC:C)
  (ho:bP E objs):aKi E objs ((execOp g o).run P E.w) v objs':=by
 obtain⟨dst,op,ty,pos,after,guard⟩:=o
 have pure1:∀ {s:Sem Value} {v:AV},(∃ u,bE E v u∧s.run P E.w=.ok u E.w)→aKi E objs ((do pure (.value (← s)):Sem Next).run P E.w) v objs:=by
  rintro s v ⟨u,h1,h2⟩
  exact .pure (u:=u) (by simp only[Sem.run_bind,h2,Result.andThen_ok,Sem.run_pure]) h1 ho
 have eff1:∀ {s:Sem Value} {v:AV} {objs':List AObj},(∃ E' u,s.run P E.w=.ok u E'.w∧bE E' v u∧bP E' objs'∧Ext E objs E' objs')→aKi E objs ((do pure (.value (← s)):Sem Next).run P E.w) v objs':=by
  rintro s v objs' ⟨E',u,h1,h2,h3,h4⟩
  exact⟨E',u,.inl (by simp only[Sem.run_bind,h1,Result.andThen_ok,Sem.run_pure]),h2,h3,h4⟩
 cases op<;>simp only[lZ] at h
 case move x=>injection h with h1 h2 h3;subst h1 h2 h3;exact .pure (u:=g x) rfl (hfg x) ho
 case assign x=>injection h with h1 h2 h3;subst h1 h2 h3;exact .pure (u:=g x) rfl (hfg x) ho
 case pick c a b=>
  obtain⟨hh,rfl⟩:=pY h;replace h:=hh;clear hh
  obtain⟨u,h1,h2⟩:=aEy (P:=P) h (hfg c) (hfg a) (hfg b)
  exact .pure h2 h1 ho
 case alloc t=>exact eff1 (aDX h ho _)
 case box t x=>
  split at h
  ·exact eff1 (aEm h ho (hfg x))
  ·exact eff1 (aGV h ho (hfg x))
 case build t parts=>
  obtain⟨hh,rfl⟩:=kD h;replace h:=hh;clear hh
  exact pure1 (aDY hfg h hC)
 case buildSlice t n parts=>
  cases mt with
  | true=>exact eff1 (aAB hfg h hC ho)
  | false=>exact eff1 (wM hfg h hC ho)
 case load t x=>
  obtain⟨hh,rfl⟩:=kD h;replace h:=hh;clear hh
  exact pure1 (tD (aKq h) hC ho (hfg x))
 case store t x y=>
  obtain⟨E',h1,rfl,h2,h3⟩:=aDq (P:=P) h hC ho (hfg x) (hfg y)
  exact⟨E',undef,.inr ⟨by simp only[execOp,Sem.run_bind,h1,Result.andThen_ok,Sem.run_pure],rfl⟩,by simp only[bE],h2,h3⟩
 case nilCheck x=>
  obtain⟨hh,rfl⟩:=pY h;replace h:=hh;clear hh
  have hx:=hfg x
  unfold fY at h
  split at h
  ·rename_i r off e
   injection h with h
   subst h
   rw[e] at hx
   refine .pure (u:=g x) ?_ hx ho
   simp only[bE] at hx
   obtain⟨_,_,_,hv⟩:=hx
   simp only[execOp,hv,Sem.run_pure]
  ·rename_i cells e
   injection h with h
   subst h
   rw[e] at hx
   refine .pure (u:=g x) ?_ hx ho
   simp only[bE] at hx
   obtain⟨_,_,hv,_⟩:=hx
   simp only[execOp,hv,Sem.run_pure]
  ·cases h
 case binOp op t x y yt=>
  obtain⟨hh,rfl⟩:=kD h;replace h:=hh;clear hh
  unfold sM at h
  split at h
  ·rename_i hy
   have hy':y=.const .nilIface:=by
    unfold aLp at hy
    split at hy
    ·rfl
    ·cases hy
   subst hy'
   have:=aGc x h hC (hfg x)
   simp only[execOp,hgc]
   exact pure1 this
  ·exact pure1 (aGU h hC (hfg x) (hfg y) x y)
 case typeAssert x xT t ok=>
  obtain⟨hh,rfl⟩:=kD h;replace h:=hh;clear hh
  exact pure1 (aFA h hC (hfg x))
 case unOp op t x=>
  obtain⟨hh,rfl⟩:=pY h;replace h:=hh;clear hh
  exact pure1 (aIx h (hfg x))
 case convert s d x=>
  split at h
  ·exact eff1 (aDZ h hC ho (hfg x))
  ·split at h
   ·obtain⟨hh,rfl⟩:=kD h;replace h:=hh;clear hh
    exact pure1 (aDc ho h hC (hfg x))
   ·obtain⟨hh,rfl⟩:=kD h;replace h:=hh;clear hh
    exact pure1 (zF h hC (hfg x))
 case sliceToArrayPointer t x=>
  obtain⟨hh,rfl⟩:=kD h;replace h:=hh;clear hh
  exact pure1 (aAb h hC (hfg x))
 case makeSlice t l c=>exact eff1 (aEt h hC ho (hfg l) (hfg c))
 case slice t x lo hi mx=>
  obtain⟨hh,rfl⟩:=kD h;replace h:=hh;clear hh
  exact pure1 (aDp hfg h hC (hfg x))
 case fieldAddr t x i=>
  obtain⟨hh,rfl⟩:=kD h;replace h:=hh;clear hh
  exact pure1 (yF h hC (hfg x))
 case field t x i=>
  obtain⟨hh,rfl⟩:=kD h;replace h:=hh;clear hh
  exact pure1 (aDe h hC (hfg x))
 case indexAddr t x i=>
  obtain⟨hh,rfl⟩:=kD h;replace h:=hh;clear hh
  exact pure1 (aAj h hC (hfg x) (hfg i))
 case index t x i=>
  obtain⟨hh,rfl⟩:=kD h;replace h:=hh;clear hh
  exact pure1 (aGb h hC (hfg x) (hfg i))
 case extract x i=>
  obtain⟨hh,rfl⟩:=pY h;replace h:=hh;clear hh
  exact pure1 (aGZ h (hfg x))
 case lookup t x k ok=>
  obtain⟨hh,rfl⟩:=kD h;replace h:=hh;clear hh
  exact pure1 (aBw h hC ho (hfg x) (hfg k))
 case mapUpdate t m k x=>
  obtain⟨E',h1,rfl,h2,h3⟩:=aBy h hC ho (hfg m) (hfg k) (hfg x)
  exact⟨E',undef,.inr ⟨by simp only[execOp,Sem.run_bind,h1,Result.andThen_ok,Sem.run_pure],rfl⟩,by simp only[bE],h2,h3⟩
 case makeMap t r=>exact eff1 (aAn h ho)
 case range t x=>exact eff1 (aDn h ho (hfg x))
 case next it b=>exact eff1 (aEx h ho (hfg it))
 case makeFunc fn first captured=>
  unfold qJ at h
  split at h
  ·rename_i fn'
   split at h
   case isFalse=>cases h
   rename_i hfirst
   subst hfirst
   injection h with h1 h2 h3
   subst h1 h2 h3
   refine pure1 ⟨.func (.func fn') #[] (captured.map g),?_,by simp[Instr.makeFunc]⟩
   simp only[bE]
   refine⟨captured.toList.map g,by rw[← Array.toList_map],?_⟩
   induction captured.toList with
   | nil=>simp only[List.map_nil,bY]
   | cons x l ih=>simp only[List.map_cons,bY];exact⟨_,_,rfl,hfg x,ih⟩
  ·cases h
 case makeInterface t x=>
  obtain⟨hh,rfl⟩:=pY h;replace h:=hh;clear hh
  exact pure1 (aDg h (hfg x))
 case call c=>
  obtain⟨callee,args,argTypes⟩:=c
  cases callee with
  | builtin b=>
   obtain⟨args⟩:=args
   obtain⟨argTypes⟩:=argTypes
   simp only at h
   unfold bI at h
   split at h
   ·rename_i t x e2
    obtain⟨X,rfl,rfl⟩:∃ X,args=[X]∧x=f X:=by
     match args,e2 with
     | [X],e2=>simp at e2;exact⟨X,rfl,e2.symm⟩
    split at h
    ·obtain⟨hh,rfl⟩:=pY h;replace h:=hh;clear hh
     have:=aBx (P:=P) (ty:=ty) h ho (hfg X)
     simpa[execOp,resolve,invoke,builtin] using pure1 this
    ·obtain⟨hh,rfl⟩:=pY h;replace h:=hh;clear hh
     have:=aGe (P:=P) (ty:=ty) h (hfg X)
     simpa[execOp,resolve,invoke,builtin] using pure1 this
   ·rename_i x y e2
    obtain⟨hh,rfl⟩:=pY h;replace h:=hh;clear hh
    obtain⟨X,Y,rfl,rfl,rfl⟩:∃ X Y,args=[X,Y]∧x=f X∧y=f Y:=by
     match args,e2 with
     | [X,Y],e2=>simp at e2;exact⟨X,Y,rfl,e2.1.symm,e2.2.symm⟩
    have:=fun (ts:Array TypeId)=>aGi (P:=P) (ts:=ts) (ty:=ty) h (hfg X) (hfg Y)
    simpa[execOp,resolve,invoke,builtin] using pure1 (this _)
   ·rename_i x y e2
    obtain⟨hh,rfl⟩:=pY h;replace h:=hh;clear hh
    obtain⟨X,Y,rfl,rfl,rfl⟩:∃ X Y,args=[X,Y]∧x=f X∧y=f Y:=by
     match args,e2 with
     | [X,Y],e2=>simp at e2;exact⟨X,Y,rfl,e2.1.symm,e2.2.symm⟩
    have:=fun (ts:Array TypeId)=>aGh (P:=P) (ts:=ts) (ty:=ty) h (hfg X) (hfg Y)
    simpa[execOp,resolve,invoke,builtin] using pure1 (this _)
   ·rename_i sT xT x y e2
    obtain⟨X,Y,rfl,rfl,rfl⟩:∃ X Y,args=[X,Y]∧x=f X∧y=f Y:=by
     match args,e2 with
     | [X,Y],e2=>simp at e2;exact⟨X,Y,rfl,e2.1.symm,e2.2.symm⟩
    have:=aBu (P:=P) (ty:=ty) h hC ho (hfg X) (hfg Y)
    simpa[execOp,resolve,invoke,builtin] using eff1 this
   ·rename_i dT sT x y e2
    obtain⟨X,Y,rfl,rfl,rfl⟩:∃ X Y,args=[X,Y]∧x=f X∧y=f Y:=by
     match args,e2 with
     | [X,Y],e2=>simp at e2;exact⟨X,Y,rfl,e2.1.symm,e2.2.symm⟩
    have:=aEr (P:=P) (sT:=sT) (ty:=ty) h hC ho (hfg X) (hfg Y)
    simpa[execOp,resolve,invoke,builtin] using eff1 this
   ·rename_i tt x e2
    obtain⟨X,rfl,rfl⟩:∃ X,args=[X]∧x=f X:=by
     match args,e2 with
     | [X],e2=>simp at e2;exact⟨X,rfl,e2.symm⟩
    have:=aDb (P:=P) (ty:=ty) h hC ho (hfg X)
    simpa[execOp,resolve,invoke,builtin] using eff1 this
   ·cases h
  | value f'=>simp only[seval] at h
  | invoke r n=>simp only[seval] at h
 all_goals (first|cases h|simp only[seval] at h)
def St.put (st:St) (d:Option Tmp) (v:AV) (objs:List AObj):St:=
 match d with
 | some d=>⟨st.nt,(d,v)::st.slots,objs⟩
 | none=>⟨st.nt,st.slots,objs⟩
def dOk (st:St):Option Tmp→Prop
 | some d=>d<st.nt
 | none=>True
theorem Rep.put {G:Gl} {E E':Env} {st:St} {a:Act} (hr:Rep G E st a) {objs':List AObj} (hx:Ext E st.objs E' objs') (ho:bP E' objs') {d:Option Tmp} {v:AV} {u:Value} (hv:bE E' v u) (hd:dOk st d) :
  Rep G E' (st.put d v objs') (a.put d u):=by
 cases d with
 | none=>exact⟨hr.size,fun i=>bE.mono hx.toExt0 _ _ (hr.slots i),hr.defers,ho,hr.glob.mono hx.toExt0⟩
 | some d=>
  refine⟨by simpa[St.put,Act.put] using hr.size,fun i=>?_,hr.defers,ho,hr.glob.mono hx.toExt0⟩
  simp only[St.put,Act.put,lk]
  split
  ·rename_i e
   subst e
   have hlt:d<a.tmps.size:=by rw[hr.size];exact hd
   simp only[Array.getD_eq_getD_getElem?,Array.getElem?_setIfInBounds,if_true,hlt,Option.getD_some]
   exact hv
  ·rename_i e
   have:(a.tmps.setIfInBounds d u).getD i undef=a.tmps.getD i undef:=by
    simp only[Array.getD_eq_getD_getElem?,Array.getElem?_setIfInBounds]
    rw[if_neg e]
   rw[this]
   exact bE.mono hx.toExt0 _ _ (hr.slots i)
def bT (ops:Array Oper) (j:Nat):Option Tmp:=(ops[j]?).bind (·.dst)
def vI:AV→Option FuncId
 | .val (.func (.func f) a b)=>if a.size=0∧b.size=0 then some f else none
 | .clo f _=>some f
 | _=>none
def mY:AV→List AV
 | .clo _ caps=>caps
 | _=>[]
def aMz (P:Program) (f:FuncId) (as_:List AV) (v:Value):Prop:=∀ (E:Env) (vs:List Value),bY E as_ vs→(callFunc f vs.toArray).run P E.w=.ok (.value v) E.w
def uW (P:Program) (G:Gl) (f:Option FuncId) (vw:Option (Prop×Bool×List AV)) (K:AV→Prop):Prop:=
 match f,vw with
 | some f,some (C,b,as_)=>C∧((∃ Q,ACalls P G f as_ [] Q∧(∃ r,Q r [])∧∀ r os,Q r os→os=[]∧(if b then flat r else aH r)=true∧K r)∨∃ v,aMz P f as_ v∧K (.val v))
 | _,_=>False
def uav:AV:=.val (.tuple #[])
def aAC:AV→Bool→Option Bool
 | .val (.bool true),w=>some w
 | .val (.bool false),w=>some (!w)
 | .val (.tuple _),_=>some false
 | _,_=>none
theorem aJW {a:AV} {w c:Bool} (h:aAC a w=some c):(∃ b,a=.val (.bool b)∧c=(b == w))∨(∃ x,a=.val (.tuple x)∧c=false):=by
 unfold aAC at h
 split at h
 ·injection h with h;subst h;exact .inl ⟨true,rfl,by cases w<;>rfl⟩
 ·injection h with h;subst h;exact .inl ⟨false,rfl,by cases w<;>rfl⟩
 ·injection h with h;subst h;exact .inr ⟨_,rfl,rfl⟩
 ·cases h
def xM (M:List Nat) (d:Option Tmp) (objs:List AObj):List AObj:=if (d.map (M.contains ·)).getD false then [] else objs
theorem aIz {P:Program} {objs:List AObj} {t:TypeId} {a:AV} {x:Prop×Bool×AV} (h:bA P [] t a=some x):bA P objs t a=some x:=by
 unfold bA at *
 cases a<;>simp_all
theorem aAv {P:Program} {objs:List AObj}:∀ (as_:List AV) (ts:List TypeId) (x:Prop×Bool×List AV),aT P [] ts as_=some x→aT P objs ts as_=some x
 | [],ts,x,h=>by simpa[aT] using h
 | a::as_,ts,x,h=>by
  unfold aT at h ⊢
  split at h
  case h_2=>cases h
  rename_i C b a' C' b' as' h1 h2
  rw[aIz h1,aAv as_ _ _ h2]
  exact h
theorem wT {P:Program} {M:List Nat} {d:Option Tmp} {objs:List AObj} {as_:List AV} {ts:List TypeId} {x:Prop×Bool×List AV} (h:aT P (xM M d objs) ts as_=some x):aT P objs ts as_=some x:=by
 unfold xM at h
 split at h
 ·exact aAv as_ ts x h
 ·exact h
def aFU (M:List Nat) (d:Option Tmp):Bool:=M.contains (match d with|some t=>t+1000000|none=>999999)
def tI (M:List Nat) (d:Option Tmp):Bool:=match d with|some t=>M.contains (t+2000000)|none=>false
def mH (P:Program) (G:Gl) (f:Option FuncId) (as_:List AV) (objs:List AObj) (K:AV→List AObj→Prop):Prop:=
 match f with
 | some f=>
  (∃ as' Q,fH none as_=some as'∧ACalls P G f as' [] Q∧(∃ r os,Q r os)∧∀ r os,Q r os→(∀ o∈os,eH o=true)∧∃ r',iL (fun i=>objs.length+i) os.length r=some r'∧K r' (objs++os))∨
  (∃ h x as' Q,objs[h]? = some x∧eH x=true∧fH (some h) as_=some as'∧ACalls P G f as' [x] Q∧(∃ r os,Q r os)∧
   ∀ r os,Q r os→(∀ o∈os,eH o=true)∧∃ y os',os=y::os'∧∃ r',iL (fun i=>if i=0 then h else objs.length+(i - 1)) os.length r=some r'∧K r' (objs.set h y++os'))∨
  (∃ hs b C ts as' Q,aKc objs hs∧gT P objs hs ts as_=some (C,b,as')∧C∧ACalls P G f as' (GHd objs hs) Q∧(∃ r os,Q r os)∧∀ r os,Q r os→aNJ hs b r os∧K (ren (σn objs hs) r) (jD objs hs os))
 | none=>False
theorem pH {P:Program} {G:Gl} {f:Option FuncId} {as_:List AV} {objs:List AObj} {K K':AV→List AObj→Prop} (hk:∀ r os,K r os→K' r os) (h:mH P G f as_ objs K):mH P G f as_ objs K':=by
 unfold mH at *
 cases f with
 | none=>exact h
 | some f=>
  rcases h with⟨as',Q,h1,h2,h3,h4⟩|⟨hh,x,as',Q,h0,hx,h1,h2,h3,h4⟩|⟨hs,b,C,ts,as',Q,h1,h2,h3,h4,h5,h6⟩
  ·exact .inl ⟨as',Q,h1,h2,h3,fun r os hq=>⟨(h4 r os hq).1,by obtain⟨r',e,k⟩:=(h4 r os hq).2;exact⟨r',e,hk _ _ k⟩⟩⟩
  ·exact .inr (.inl ⟨hh,x,as',Q,h0,hx,h1,h2,h3,fun r os hq=>⟨(h4 r os hq).1,by obtain⟨y,os',e0,r',e,k⟩:=(h4 r os hq).2;exact⟨y,os',e0,r',e,hk _ _ k⟩⟩⟩)
  ·exact .inr (.inr ⟨hs,b,C,ts,as',Q,h1,h2,h3,h4,h5,fun r os hq=>⟨(h6 r os hq).1,hk _ _ (h6 r os hq).2⟩⟩)
theorem aEo {P:Program} {G:Gl} {f:Option FuncId} {as_:List AV} {objs:List AObj} {K:AV→List AObj→Prop} (h:mH P G f as_ objs K):∃ r os,K r os:=by
 unfold mH at h
 cases f with
 | none=>exact h.elim
 | some f=>
  rcases h with⟨as',Q,h1,h2,⟨r,os,hq⟩,h4⟩|⟨hh,x,as',Q,h0,hx,h1,h2,⟨r,os,hq⟩,h4⟩|⟨hs,b,C,ts,as',Q,h1,h2,h3,h4,⟨r,os,hq⟩,h6⟩
  ·obtain⟨_,r',_,k⟩:=h4 r os hq
   exact⟨_,_,k⟩
  ·obtain⟨_,y,os',_,r',_,k⟩:=h4 r os hq
   exact⟨_,_,k⟩
  ·exact⟨_,_,(h6 r os hq).2⟩
def lR (P:Program) (G:Gl) (M:List Nat) (d:Option Tmp) (f:Option FuncId) (as_:List AV) (ts:List TypeId) (objs:List AObj) (K:AV→List AObj→Prop):Prop:=
 if aFU M d=true then mH P G f as_ objs K else if tI M d=true then mH P G f as_ objs (fun r os=>os.length=objs.length∧K r os) else uW P G f (aT P (xM M d objs) ts as_) fun r=>K r objs
theorem wN {P:Program} {G:Gl} {M:List Nat} {d:Option Tmp} {f:Option FuncId} {as_:List AV} {ts:List TypeId} {objs:List AObj} {K:AV→List AObj→Prop} (h:lR P G M d f as_ ts objs K) :
  if (aFU M d || tI M d)=true then mH P G f as_ objs K else uW P G f (aT P (xM M d objs) ts as_) fun r=>K r objs:=by
 unfold lR at h
 cases h1:aFU M d with
 | true=>rw[if_pos h1] at h;simpa using h
 | false=>
  rw[if_neg (by simp[h1])] at h
  cases h2:tI M d with
  | true=>rw[if_pos h2] at h;simpa using pH (fun r os h=>h.2) h
  | false=>rw[if_neg (by simp[h2])] at h;simpa using h
def dG (P:Program) (G:Gl) (M:List Nat) (ops:Array Oper):List Oper→St→(St→Prop)→Prop
 | [],st,K=>K st
 | o::rest,st,K=>
  let run:Prop:=match o.op with
   | .call { callee:=.value f,args,argTypes }=>dOk st o.dst∧lR P G M o.dst (vI (ev G st.slots f)) (args.toList.map (ev G st.slots)++mY (ev G st.slots f)) argTypes.toList st.objs fun r os=>dG P G M ops rest (st.put o.dst r os) K
   | _=>match lZ P ((o.dst.map (M.contains ·)).getD false) (ev G st.slots) st.objs o.op with
    | .ok C v objs'=>C∧dOk st o.dst∧dG P G M ops rest (st.put o.dst v objs') K
    | .bad=>False
  match o.guard with
  | none=>run
  | some (j,want)=>match bT ops j with
   | some t=>match aAC (lk st.slots t) want with
    | some c=>t<st.nt∧(c=true→run)∧(c=false→dOk st o.dst∧dG P G M ops rest (st.put o.dst uav st.objs) K)
    | none=>False
   | none=>False
def RQ (P:Program) (G:Gl) (E:Env) (objs:List AObj) (Q:Exit→St→Prop):Exit→Act→World→Prop:=
 fun e a' w'=>∃ st' E',E'.w=w'∧Q e st'∧Rep G E' st' a'∧Ext E objs E' st'.objs
theorem tZ {P:Program} {ops:Array Oper} {Q Q':Exit→Act→World→Prop} (hq:∀ e a w,Q e a w→Q' e a w):∀ (l:List Oper) (a:Act) (w:World),wpList P ops Q l a w→wpList P ops Q' l a w
 | [],a,w,h=>hq _ _ _ h
 | o::rest,a,w,h=>by
  unfold wpList at h ⊢
  have ih:=tZ (P:=P) (ops:=ops) hq rest
  split
  ·rename_i hw
   rw[if_pos hw] at h
   rcases h with h|⟨h1,a0,w0,h2⟩
   ·left
    unfold Oper.wp at h ⊢
    cases hr:(execOp a.eval o).run P w with
    | ok n w'=>
     rw[hr] at h
     cases n<;>simp only[Oper.upon] at h ⊢ <;> first
      | exact ih _ _ h
      | (refine Calls.mono h ?_
         intro e w'' hh
         cases e with
         | returned v=>exact ih _ _ hh
         | panicked chain=>exact hq _ _ _ hh
         | outgrown=>obtain⟨a1,w1,h1⟩:=hh;exact⟨a1,w1,hq _ _ _ h1⟩)
      | exact Rows.mono h fun _ _ hh=>ih _ _ hh
    | halt x w'=>
     rw[hr] at h
     cases x<;>simp only[Oper.upon] at h ⊢ <;> exact hq _ _ _ h
   ·exact .inr ⟨h1,a0,w0,hq _ _ _ h2⟩
  ·rename_i hw
   rw[if_neg hw] at h
   exact ih _ _ h
theorem oD {P:Program} {f:FuncId} {fn:Func} (hf:P.funcs[f]? = some fn) (hb:fn.body.isSome=true) (hn:(fn.name == "runtime.NumGoroutine")=false) (args:Array Value) (w:World) :
  (callFunc f args).run P w=.ok (.enter f args) w:=by
 have h1:¬ fn.body=none:=by cases h:fn.body<;>simp_all
 have h2:¬ fn.name = "runtime.NumGoroutine" := by simpa using hn
 simp[callFunc,hf,h1,h2]
theorem jL {P:Program} {G:Gl} {M:List Nat} {ops:Array Oper} {Q:Exit→St→Prop}:∀ (l:List Oper) (st:St) (E:Env) (a:Act),Rep G E st a→dG P G M ops l st (Q .normal)→
  wpList P ops (RQ P G E st.objs Q) l a E.w
 | [],st,E,a,hr,h=>⟨st,E,rfl,h,hr,.refl _ _⟩
 | o::rest,st,E,a,hr,h=>by
  -- the rest,from a later state
  have later:∀ (st':St) (E':Env) (a':Act),Rep G E' st' a'→Ext E st.objs E' st'.objs→dG P G M ops rest st' (Q .normal)→wpList P ops (RQ P G E st.objs Q) rest a' E'.w:=fun st' E' a' hr' hx' h'=>
   tZ (fun e a w ⟨s,E2,e1,e2,e3,e4⟩=>⟨s,E2,e1,e2,e3,hx'.trans e4⟩) rest a' E'.w (jL rest st' E' a' hr' h')
  -- the operation is carried out
  have run:(match o.op with
   | .call { callee:=.value f,args,argTypes }=>dOk st o.dst∧lR P G M o.dst (vI (ev G st.slots f)) (args.toList.map (ev G st.slots)++mY (ev G st.slots f)) argTypes.toList st.objs fun r os=>dG P G M ops rest (st.put o.dst r os) (Q .normal)
   | _=>match lZ P ((o.dst.map (M.contains ·)).getD false) (ev G st.slots) st.objs o.op with
    | .ok C v objs'=>C∧dOk st o.dst∧dG P G M ops rest (st.put o.dst v objs') (Q .normal)
    | .bad=>False)→o.wp P a E.w (wpList P ops (RQ P G E st.objs Q) rest) (RQ P G E st.objs Q):=by
   intro h
   split at h
   ·rename_i f args argTypes hop
    obtain⟨hd,h⟩:=h
    have hargs0:bY E (args.toList.map (ev G st.slots)) (args.map a.eval).toList:=by
     rw[Array.toList_map]
     generalize args.toList=l
     induction l with
     | nil=>simp[bY]
     | cons x l ih=>simp only[List.map_cons,bY];exact⟨_,_,rfl,aBG hr x,ih⟩
    have go0:∃ cv:List Value,bY E (mY (ev G st.slots f)) cv∧∀ f',vI (ev G st.slots f)=some f'→(execOp a.eval o).run P E.w=(callFunc f' (args.map a.eval++cv.toArray)).run P E.w:=by
     obtain⟨cv,hcv,hval⟩:∃ cv:List Value,bY E (mY (ev G st.slots f)) cv∧∀ f',vI (ev G st.slots f)=some f'→a.eval f=.func (.func f') #[] cv.toArray:=by
      have hfv:=aBG hr f
      cases he:ev G st.slots f with
      | clo g caps=>
       rw[he] at hfv
       simp only[bE] at hfv
       obtain⟨vs,hv,hl⟩:=hfv
       refine⟨vs,by simpa only[mY] using hl,fun f' hf=>?_⟩
       simp only[vI,Option.some.injEq] at hf
       subst hf
       exact hv
      | val v=>
       rw[he] at hfv
       refine⟨[],by simp only[mY,bY],fun f' hf=>?_⟩
       unfold vI at hf
       split at hf
       ·rename_i f0 a0 b0 e
        injection e with e
        subst e
        simp only[bE] at hfv
        split at hf
        case isFalse=>cases hf
        rename_i hab
        injection hf with hf
        subst hf
        have e1:a0=#[]:=Array.eq_empty_of_size_eq_zero hab.1
        have e2:b0=#[]:=Array.eq_empty_of_size_eq_zero hab.2
        rw[hfv,e1,e2]
       ·rename_i e;cases e
       ·cases hf
      | _=>exact⟨[],by simp only[mY,bY],fun f' hf=>by simp[vI] at hf⟩
     refine⟨cv,hcv,fun f' hf=>?_⟩
     have hfv:=hval f' hf
     obtain⟨dst,op,ty,pos,after,guard⟩:=o
     simp only at hop
     subst hop
     simp[execOp,resolve,hfv,Deferred.ofValue,invoke]
    obtain⟨cv,hcv,goF⟩:=go0
    have go:∀ f',vI (ev G st.slots f)=some f'→(∃ fn,P.funcs[f']? = some fn∧fn.body.isSome=true∧(fn.name == "runtime.NumGoroutine")=false)→(execOp a.eval o).run P E.w=.ok (.enter f' (args.map a.eval++cv.toArray)) E.w:=fun f' hf hc1=>by
     obtain⟨fn,hfn,hb,hn⟩:=hc1
     rw[goF f' hf,oD hfn hb hn]
    have hargs:bY E (args.toList.map (ev G st.slots)++mY (ev G st.slots f)) ((args.map a.eval).toList++cv):=hargs0.append hcv
    have harr:((args.map a.eval).toList++cv).toArray=args.map a.eval++cv.toArray:=by simp
    replace h:=wN h
    split at h
    ·unfold mH at h
     split at h
     case h_2=>exact h.elim
     rename_i f' hf
     rcases h with⟨as',Q',hv',hcalls,_,hQ⟩|⟨hh,x,as',Q',hx0,hxo,hv',hcalls,_,hQ⟩|⟨hs,b,C,ts',as',Q',hask,hv',hC',hcalls,_,hQ⟩
     ·unfold Oper.wp
      rw[go f' hf hcalls.1]
      simp only[Oper.upon]
      have hcall:=aLK (P:=P) (R:=fun r os=>dG P G M ops rest (st.put o.dst r os) (Q Exit.normal)) hr.objs hr.glob hv' hargs hcalls hQ
      rw[harr] at hcall
      refine hcall.mono ?_
      rintro e w' ⟨E',v,r',objs',rfl,rfl,hk,hv,ho',hx'⟩
      exact later _ E' _ (hr.put hx' ho' hv hd) (by cases o.dst<;>exact hx') hk
     ·unfold Oper.wp
      rw[go f' hf hcalls.1]
      simp only[Oper.upon]
      have hcall:=aLL (P:=P) (R:=fun r os=>dG P G M ops rest (st.put o.dst r os) (Q Exit.normal)) hr.objs hr.glob hx0 hxo hv' hargs hcalls hQ
      rw[harr] at hcall
      refine hcall.mono ?_
      rintro e w' ⟨E',v,r',objs',rfl,rfl,hk,hv,ho',hx'⟩
      exact later _ E' _ (hr.put hx' ho' hv hd) (by cases o.dst<;>exact hx') hk
     ·unfold Oper.wp
      rw[go f' hf hcalls.1]
      simp only[Oper.upon]
      have hcall:=aLJ (P:=P) (R:=fun r os=>dG P G M ops rest (st.put o.dst r os) (Q Exit.normal)) hr.objs hr.glob hask hv' hC' hargs hcalls hQ
      rw[harr] at hcall
      refine hcall.mono ?_
      rintro e w' ⟨E',v,r',objs',rfl,rfl,hk,hv,ho',hx'⟩
      exact later _ E' _ (hr.put hx' ho' hv hd) (by cases o.dst<;>exact hx') hk
    ·unfold uW at h
     split at h
     case h_2=>exact h.elim
     rename_i f' C b as_ hf hvw
     obtain⟨hC,⟨Q',hcalls,_,hQ⟩|⟨v,hext,hK⟩⟩:=h
     rotate_left
     ·obtain⟨h1,_⟩:=rJ (P:=P) hr.objs (wT hvw) hC hargs
      have he:=hext _ _ h1
      rw[harr] at he
      have he':(callFunc f' (args.map a.eval++cv.toArray)).run P E.w=.ok (.value v) E.w:=he
      unfold Oper.wp
      rw[goF f' hf,he']
      exact later _ E _ (hr.put (.refl _ _) hr.objs (by simp only[bE]) hd) (by cases o.dst<;>exact .refl _ _) hK
     unfold Oper.wp
     rw[go f' hf hcalls.1]
     simp only[Oper.upon]
     have hcall:=aJH (P:=P) hr.objs hr.glob (wT hvw) hC hargs hcalls (fun r os hq=>⟨(hQ r os hq).1,(hQ r os hq).2.1⟩)
     rw[harr] at hcall
     refine hcall.mono ?_
     rintro e w' ⟨E',v,r,rfl,rfl,hq,hv,ho',hx'⟩
     exact later _ E' _ (hr.put hx' ho' hv hd) (by cases o.dst<;>exact hx') (hQ r [] hq).2.2
   ·split at h
    case h_2=>exact h.elim
    rename_i C v objs' hav
    obtain⟨hC,hd,h⟩:=h
    obtain⟨E',u,hrun,hv,ho',hx'⟩:=aGn (P:=P) (g:=a.eval) (fun x=>aBG hr x) (fun _=>rfl) hav hC hr.objs
    unfold Oper.wp
    have hl:=later _ E' _ (hr.put hx' ho' hv hd) (by cases o.dst<;>exact hx') h
    rcases hrun with e|⟨e,rfl⟩
    ·rw[e];exact hl
    ·rw[e];exact hl
  unfold dG at h
  simp only at h
  unfold wpList
  split at h
  ·rename_i hg
   rw[if_pos (by simp[Region.wanted,hg])]
   exact .inl (run h)
  ·rename_i j want hg
   split at h
   case h_2=>exact h.elim
   rename_i t ht
   split at h
   case h_2=>exact h.elim
   rename_i c hc
   obtain⟨hlt,h1,h2⟩:=h
   have hs:=hr.slots t
   have hlt':t<a.tmps.size:=by rw[hr.size];exact hlt
   have hwant:Region.wanted o (yielded ops a.tmps)=c:=by
    simp only[Region.wanted,hg]
    unfold bT at ht
    simp only[yielded,ht,Option.bind_some]
    rw[Array.getElem?_eq_getElem hlt']
    have e0:a.tmps.getD t undef=a.tmps[t]:=by simp[Array.getD_eq_getD_getElem?,Array.getElem?_eq_getElem hlt']
    rcases aJW hc with⟨b,hb,rfl⟩|⟨x,hb,rfl⟩
    ·rw[hb] at hs
     simp only[bE] at hs
     rw[← e0,hs]
     cases b<;>cases want<;>rfl
    ·rw[hb] at hs
     simp only[bE] at hs
     rw[← e0,hs]
     rfl
   rw[hwant]
   cases c with
   | true=>
    rw[if_pos rfl]
    exact .inl (run (h1 rfl))
   | false=>
    rw[if_neg (by simp)]
    obtain⟨hd,h⟩:=h2 rfl
    exact later _ E _ (hr.put (.refl _ _) hr.objs (by simp only[uav,bE];rfl) hd) (by cases o.dst<;>exact .refl _ _) h
section
variable {P:Program} {G:Gl} {st:St} {Q:Exit→St→Prop}
theorem aA (M:List Nat) {id:Nat} {l:List Oper} (h:dG P G M l.toArray l st (Q .normal)):awp P G (.region id l.toArray false) st Q:=fun E a hr=>
 wp_region_lit (jL l st E a hr h)
end
def aZ:Nat→List AV→List (Nat×AV)
 | _,[]=>[]
 | i,a::as_=>(i,a)::aZ (i+1) as_
theorem pM (E:Env):∀ (args:List AV) (vs:List Value) (i j:Nat),bY E args vs→bE E (lk (aZ i args) j) (if i≤j then (vs[j - i]?).getD undef else undef)
 | [],vs,i,j,h=>by simp only[aZ,lk,bE]
 | a::as_,vs,i,j,h=>by
  simp only[bY] at h
  obtain⟨v,vs',rfl,h1,h2⟩:=h
  simp only[aZ,lk]
  split
  ·rename_i e
   subst e
   simpa using h1
  ·rename_i e
   have:=pM E as_ vs' (i+1) j h2
   by_cases hle:i≤j
   ·have h3:i+1≤j:=by omega
    rw[if_pos h3] at this
    rw[if_pos hle]
    obtain⟨d,rfl⟩:∃ d,j=i+1+d:=⟨j - (i+1),by omega⟩
    have e1:i+1+d - (i+1)=d:=by omega
    have e2:i+1+d - i=d+1:=by omega
    rw[e1] at this
    rw[e2]
    simpa using this
   ·rw[if_neg (by omega)] at this
    rw[if_neg hle]
    exact this
def dA (P:Program) (objs:List AObj) (t:TypeId) (a:AV):Option (Prop×AV):=
 match a with
 | .sl n cells p=>some (aM cells=true,.sl n cells (bW p))
 | .osl r off n cap=>match objs[r]?,P.underlying t with
  | some (.cells cs),some (.slice e)=>match tsz P e with
   | some sz=>some (off+n*sz≤cs.length∧aM ((cs.drop off).take (n*sz))=true,.sl n ((cs.drop off).take (n*sz)) .no)
   | none=>none
  | _,_=>none
 | .ptr ..=>none
 | a=>some (aH a=true,a)
def bO (P:Program) (st:St) (t:TypeId):ResultVar→Option (Prop×AV)
 | .tmp x=>dA P st.objs t (lk st.slots x)
 | .cell x ty=>match aY P ty (lk st.slots x) st.objs with
  | some (C,v)=>match dA P st.objs t v with
   | some (C',v')=>some (C∧C',v')
   | none=>none
  | none=>none
def bN (P:Program) (st:St):List TypeId→List ResultVar→Option (Prop×List AV)
 | _,[]=>some (True,[])
 | ts,r::rs=>match bO P st (ts.headD 0) r,bN P st ts.tail rs with
  | some (C,v),some (C',vs)=>some (C∧C',v::vs)
  | _,_=>none
def eU (P:Program) (ts:List TypeId) (rvs:List ResultVar) (st:St):Option (Prop×AV):=
 match bN P st ts rvs with
 | some (C,[v])=>some (C,v)
 | some (C,vs)=>some (C,.tup vs)
 | none=>none
theorem aAf {P:Program} {E:Env} {objs:List AObj} (ho:bP E objs) {t:TypeId} {a a':AV} {C:Prop} {v:Value} (h:dA P objs t a=some (C,a')) (hC:C) (hv:bE E a v):bE (E.lend objs) a' v:=by
 unfold dA at h
 split at h
 ·simp only[Option.some.injEq,Prod.mk.injEq] at h
  obtain⟨rfl,rfl⟩:=h
  rename_i n cells p
  exact(nB (P:=P) (t:=t) (a:=.sl n cells p) ho rfl hC hv).1
 ·rename_i r off n cap
  split at h
  case h_2=>cases h
  rename_i cs e hr ht
  split at h
  case h_2=>cases h
  rename_i sz hsz
  simp only[Option.some.injEq,Prod.mk.injEq] at h
  obtain⟨rfl,rfl⟩:=h
  exact(nB (P:=P) (t:=t) (a:=.osl r off n cap) (a':=.sl n ((cs.drop off).take (n*sz)) .no) (b:=true) ho (by simp only[bA,hr,ht,hsz]) hC hv).1
 ·cases h
 ·simp only[Option.some.injEq,Prod.mk.injEq] at h
  obtain⟨rfl,rfl⟩:=h
  exact gI (E:=E) (E':=E.lend objs) rfl (fun g _=>mU ho g) _ _ hC hv
def sQ (tmps:Array Value):ResultVar→Sem Value
 | .tmp t=>pure (tmps.getD t undef)
 | .cell a t=>do loadVar t (← asAddr (tmps.getD a undef))
theorem jY (fn:Func) (tmps:Array Value):results fn tmps=(do
  let vs ← fn.results.mapM (sQ tmps)
  pure (if h:vs.size=1 then vs[0] else .tuple vs)):=rfl
theorem aEz {P:Program} {G:Gl} {E:Env} {st:St} {a:Act} (hr:Rep G E st a) {t:TypeId} {rv:ResultVar} {C:Prop} {v:AV} (h:bO P st t rv=some (C,v)) (hC:C) :
  ∃ u,bE (E.lend st.objs) v u∧(sQ a.tmps rv).run P E.w=.ok u E.w:=by
 cases rv with
 | tmp x=>exact⟨_,aAf hr.objs h hC (hr.slots x),rfl⟩
 | cell x ty=>
  simp only[bO] at h
  split at h
  case h_2=>cases h
  rename_i C1 v1 hl
  split at h
  case h_2=>cases h
  rename_i C2 v2 hf
  simp only[Option.some.injEq,Prod.mk.injEq] at h
  obtain⟨rfl,rfl⟩:=h
  obtain⟨u,hu,hrun⟩:=tD (P:=P) hl hC.1 hr.objs (hr.slots x)
  refine⟨u,aAf hr.objs hf hC.2 hu,?_⟩
  have hp:∃ ad,a.tmps.getD x undef=.pointer (some ad):=by
   have:=hr.slots x
   unfold aY at hl
   split at hl
   ·rename_i e;rw[e] at this;simp only[bE] at this;obtain⟨_,_,_,h⟩:=this;exact⟨_,h⟩
   ·rename_i e;rw[e] at this;simp only[bE] at this;obtain⟨_,_,h,_⟩:=this;exact⟨_,h⟩
   ·cases hl
  obtain⟨ad,had⟩:=hp
  rw[had] at hrun
  simp only[sQ]
  rw[had]
  simpa[Instr.loadAt,Instr.sureAddr,asAddr] using hrun
theorem zI {P:Program} {G:Gl} {E:Env} {st:St} {a:Act} (hr:Rep G E st a):∀ {rvs:List ResultVar} {ts:List TypeId} {C:Prop} {vs:List AV},bN P st ts rvs=some (C,vs)→C→
  ∃ us,bY (E.lend st.objs) vs us∧(rvs.mapM (m:=Sem) (sQ a.tmps)).run P E.w=.ok us E.w
 | [],ts,C,vs,h,hC=>by
  simp only[bN,Option.some.injEq,Prod.mk.injEq] at h
  obtain⟨rfl,rfl⟩:=h
  exact⟨[],by simp only[bY],rfl⟩
 | rv::rvs,ts,C,vs,h,hC=>by
  unfold bN at h
  split at h
  case h_2=>cases h
  rename_i C1 v1 C2 vs2 h1 h2
  simp only[Option.some.injEq,Prod.mk.injEq] at h
  obtain⟨rfl,rfl⟩:=h
  obtain⟨u,hu,hrun⟩:=aEz hr h1 hC.1
  obtain⟨us,hus,hruns⟩:=zI hr h2 hC.2
  refine⟨u::us,by simp only[bY];exact⟨u,us,rfl,hu,hus⟩,?_⟩
  simp only[List.mapM_cons,Sem.run_bind]
  rw[hrun]
  simp only[Result.andThen_ok]
  rw[hruns]
  rfl
theorem vM {P:Program} {G:Gl} {E:Env} {st:St} {a:Act} (hr:Rep G E st a) {fn:Func} {C:Prop} {v:AV} (h:eU P fn.resultTypes.toList fn.results.toList st=some (C,v)) (hC:C) :
  ∃ u,bE (E.lend st.objs) v u∧(results fn a.tmps).run P E.w=.ok u E.w:=by
 unfold eU at h
 have key:∀ {C:Prop} {vs:List AV},bN P st fn.resultTypes.toList fn.results.toList=some (C,vs)→C→∃ us,bY (E.lend st.objs) vs us∧
   (fn.results.mapM (m:=Sem) (sQ a.tmps)).run P E.w=.ok us.toArray E.w:=by
  intro C vs h hC
  obtain⟨us,h1,h2⟩:=zI hr h hC
  refine⟨us,h1,?_⟩
  rw[Array.mapM_eq_mapM_toList]
  simp only[Sem.run_map]
  rw[h2]
  rfl
 split at h
 ·rename_i C1 v1 h1
  simp only[Option.some.injEq,Prod.mk.injEq] at h
  obtain⟨rfl,rfl⟩:=h
  obtain⟨us,hus,hrun⟩:=key h1 hC
  simp only[bY] at hus
  obtain⟨u,us',rfl,hu,rfl⟩:=hus
  refine⟨u,hu,?_⟩
  rw[jY]
  simp only[Sem.run_bind]
  rw[hrun]
  simp
 ·rename_i C1 vs1 hne h1
  simp only[Option.some.injEq,Prod.mk.injEq] at h
  obtain⟨rfl,rfl⟩:=h
  obtain⟨us,hus,hrun⟩:=key h1 hC
  refine⟨.tuple us.toArray,by simp only[bE];exact⟨us,rfl,hus⟩,?_⟩
  rw[jY]
  simp only[Sem.run_bind]
  rw[hrun]
  have:us.length≠1:=by
   rw[hus.length]
   intro e
   match vs1,e with
   | [x],_=>exact hne x rfl
  simp[this]
 ·cases h
def Fin (P:Program) (ts:List TypeId) (rvs:List ResultVar) (Q:AV→List AObj→Prop):Exit→St→Prop
 | .normal,st=>∃ C r,eU P ts rvs st=some (C,r)∧C∧Q r []
 | .ret,st=>∃ C r,eU P ts rvs st=some (C,r)∧C∧Q r []
 | _,_=>False
theorem aQ {P:Program} {G:Gl} {f:FuncId} {fn:Func} {c:Code} {args:List AV} {Q:AV→List AObj→Prop} (hf:P.funcs[f]? = some fn) (hb:fn.body=some c) (hn:(fn.name == "runtime.NumGoroutine")=false)
  {nt:Nat} {rts:Array TypeId} {rvs:Array ResultVar} (hnt:fn.ntmps=nt) (hrt:fn.resultTypes=rts) (hrv:fn.results=rvs) (hle:args.length≤nt)
  (h:awp P G c ⟨nt,aZ 0 args,[]⟩ (Fin P rts.toList rvs.toList Q)) (hds:G.ds=[]:=by rfl):ACalls P G f args [] Q:=by
 subst hnt hrt hrv
 refine⟨⟨fn,hf,by simp[hb],hn⟩,fun E vs hl ho hG=>?_⟩
 refine calls_of_wp hf hb ?_
 have hlen:=hl.length
 have hrep:Rep G E ⟨fn.ntmps,aZ 0 args,[]⟩ { tmps:=vs.toArray++Array.replicate (fn.ntmps - vs.toArray.size) undef,defers:=[] }:=by
  refine⟨by simp;omega,fun i=>?_,hds.symm,ho,hG⟩
  have:=pM E args vs 0 i hl
  simp only[Nat.zero_le,if_true,Nat.sub_zero] at this
  have e:(vs.toArray++Array.replicate (fn.ntmps - vs.toArray.size) undef).getD i undef=(vs[i]?).getD undef:=by
   rw[Array.getD_eq_getD_getElem?,Array.getElem?_append]
   split
   ·simp
   ·rename_i hge
    have:vs.length≤i:=by simpa using hge
    rw[List.getElem?_eq_none this]
    simp only[Array.getElem?_replicate]
    split<;>rfl
  rw[e]
  exact this
 refine wp_mono (h E _ hrep) ?_
 rintro e a' w' ⟨st',E',rfl,hfinq,hr',hx'⟩
 have he:e=.normal∨e=.ret:=by cases e<;>first|exact .inl rfl|exact .inr rfl|exact hfinq.elim
 obtain⟨C,r,iL,hC,hq⟩:∃ C r,eU P fn.resultTypes.toList fn.results.toList st'=some (C,r)∧C∧Q r []:=by rcases he with rfl|rfl<;>exact hfinq
 obtain⟨u,hu,hrun⟩:=vM (P:=P) hr' iL hC
 have hfin:∃ E2 v r' outs',E2.w=E'.w∧Ending.returned u=.returned v∧Q r' outs'∧bE E2 r' v∧bP E2 outs'∧Ext E [] E2 outs':=by
  refine⟨E'.lend st'.objs,u,r,[],rfl,rfl,hq,hu,⟨rfl,fun r o h=>by simp at h,fun r r' o o' g h=>by simp at h⟩,?_⟩
  have hnow:∀ g,¬ Ow E ([]:List AObj) g:=by rintro g ⟨r,o,h,_⟩;simp at h
  refine { size:=hx'.size,lim:=fun g hg=>Nat.le_trans (hx'.lim g hg) (mU hr'.objs g),cell:=hx'.cell,k:=by have:=ho.1;simp[this],ρ:=fun r hr=>by have:=ho.1;simp[this] at hr,os:=hx'.os,tape:=hx'.tape,output:=hx'.output,frame:=fun g hg hn=>?_,own:=fun g hw _=>?_ }
  ·have h1:=hx'.frame g hg (hnow g)
   refine⟨h1.1,?_⟩
   rw[xH (fun ⟨r,cs,h2,h3⟩=>hnow g (hx'.own g ⟨r,_,h2,h3⟩ hg))]
   exact h1.2
  ·obtain⟨r,o,h,_⟩:=hw
   simp at h
 rcases he with rfl|rfl
 ·exact⟨(hr'.defers.trans hds),u,hrun,hfin⟩
 ·exact⟨(hr'.defers.trans hds),u,hrun,hfin⟩
def gS (o:Option (Prop×AV)) (k:AV→Prop):Prop:=match o with|some (C,v)=>C∧k v|none=>False
def yG (o:Option AV) (k:AV→Prop):Prop:=match o with|some v=>k v|none=>False
def lG (o:R) (k:AV→List AObj→Prop):Prop:=match o with | .ok C v objs=>C∧k v objs | .bad=>False
def aIs (P:Program) (G:Gl) (f:Option FuncId) (vw:Option (Prop×Bool×List AV)) (k:AV→Prop):Prop:=uW P G f vw k
def wQ (P:Program) (G:Gl) (f:Option FuncId) (as_:List AV) (objs:List AObj) (k:AV→List AObj→Prop):Prop:=mH P G f as_ objs k
@[congr] theorem aPF {P:Program} {G:Gl} {f f':Option FuncId} {as_ as':List AV} {objs objs':List AObj} {k:AV→List AObj→Prop} (h:f=f') (h':as_=as') (h'':objs=objs'):wQ P G f as_ objs k=wQ P G f' as' objs' k:=by rw[h,h',h'']
@[congr] theorem aPG {o o':Option (Prop×AV)} {k:AV→Prop} (h:o=o'):gS o k=gS o' k:=by rw[h]
@[congr] theorem aPI {o o':Option AV} {k:AV→Prop} (h:o=o'):yG o k=yG o' k:=by rw[h]
@[congr] theorem aPH {o o':R} {k:AV→List AObj→Prop} (h:o=o'):lG o k=lG o' k:=by rw[h]
@[congr] theorem aPE {P:Program} {G:Gl} {f f':Option FuncId} {vw vw':Option (Prop×Bool×List AV)} {k:AV→Prop} (h:f=f') (h':vw=vw'):aIs P G f vw k=aIs P G f' vw' k:=by rw[h,h']
def aKk (P:Program) (G:Gl) (M:List Nat) (ops:Array Oper) (rest:List Oper) (st:St) (K:St→Prop) (d:Option Tmp) (r:AV):Prop:=dG P G M ops rest (st.put d r st.objs) K
def aKl (P:Program) (G:Gl) (M:List Nat) (ops:Array Oper) (rest:List Oper) (st:St) (K:St→Prop) (d:Option Tmp) (r:AV) (os:List AObj):Prop:=dG P G M ops rest (st.put d r os) K
def aOh (P:Program) (G:Gl) (M:List Nat) (ops:Array Oper) (rest:List Oper) (st:St) (K:St→Prop) (d:Option Tmp) (r:AV) (os:List AObj):Prop:=os.length=st.objs.length∧dG P G M ops rest (st.put d r os) K
section
variable (P:Program) (G:Gl) (M:List Nat) (ops:Array Oper) (rest:List Oper) (nt:Nat) (s:List (Nat×AV)) (os:List AObj) (K:St→Prop) (d:Nat) (ty:TypeId) (pos:String) (af:Array Edge)
theorem aG (st:St):dG P G M ops [] st K=K st:=rfl
theorem aDS (op:Op) (hne:∀ f args ts,op≠.call ⟨.value f,args,ts⟩) :
  dG P G M ops (⟨some d,op,ty,pos,af,none⟩::rest) ⟨nt,s,os⟩ K=lG (lZ P (M.contains d) (ev G s) os op) fun v os'=>d<nt∧dG P G M ops rest ⟨nt,(d,v)::s,os'⟩ K:=by
 have key:∀ r:R,(match r with | .ok C v objs'=>C∧dOk ⟨nt,s,os⟩ (some d)∧dG P G M ops rest ((⟨nt,s,os⟩:St).put (some d) v objs') K | .bad=>False) =
   lG r fun v os'=>d<nt∧dG P G M ops rest ⟨nt,(d,v)::s,os'⟩ K:=fun r=>by cases r<;>rfl
 have k0:=key (lZ P (M.contains d) (ev G s) os op)
 conv=>lhs;unfold dG
 cases op with
 | call c=>
  obtain⟨callee,args,ts⟩:=c
  cases callee with
  | value f=>exact absurd rfl (hne f args ts)
  | builtin b=>exact k0
  | invoke r n=>rfl
 | _=>exact k0
theorem aKe (op:Op) (hne:∀ f args ts,op≠.call ⟨.value f,args,ts⟩) :
  dG P G M ops (⟨none,op,ty,pos,af,none⟩::rest) ⟨nt,s,os⟩ K=lG (lZ P false (ev G s) os op) fun v os'=>dG P G M ops rest ⟨nt,s,os'⟩ K:=by
 have key:∀ r:R,(match r with | .ok C v objs'=>C∧dOk ⟨nt,s,os⟩ none∧dG P G M ops rest ((⟨nt,s,os⟩:St).put none v objs') K | .bad=>False) =
   lG r fun v os'=>dG P G M ops rest ⟨nt,s,os'⟩ K:=fun r=>by cases r<;>simp[lG,dOk,St.put]
 have k0:=key (lZ P false (ev G s) os op)
 conv=>lhs;unfold dG
 cases op with
 | call c=>
  obtain⟨callee,args,ts⟩:=c
  cases callee with
  | value f=>exact absurd rfl (hne f args ts)
  | builtin b=>exact k0
  | invoke r n=>rfl
 | _=>exact k0
theorem aU (f:Operand) (args:Array Operand) (ts:Array TypeId) :
  dG P G M ops (⟨some d,.call ⟨.value f,args,ts⟩,ty,pos,af,none⟩::rest) ⟨nt,s,os⟩ K =
   (d<nt∧if M.contains (d+1000000)=true then wQ P G (vI (ev G s f)) (args.toList.map (ev G s)++mY (ev G s f)) os (aKl P G M ops rest ⟨nt,s,os⟩ K (some d))
    else if M.contains (d+2000000)=true then wQ P G (vI (ev G s f)) (args.toList.map (ev G s)++mY (ev G s f)) os (aOh P G M ops rest ⟨nt,s,os⟩ K (some d))
    else aIs P G (vI (ev G s f)) (aT P (if M.contains d=true then [] else os) ts.toList (args.toList.map (ev G s)++mY (ev G s f))) (aKk P G M ops rest ⟨nt,s,os⟩ K (some d))):=by
 conv=>lhs;unfold dG
 simp only[dOk,lR]
 rfl
end
theorem aF :
  (∀ (P:Program) (G:Gl) (M:List Nat) (ops:Array Oper) (rest:List Oper) (nt:Nat) (s:List (Nat×AV)) (os:List AObj) (K:St→Prop) (d:Nat) (ty:TypeId) (pos:String) (af:Array Edge),(∀ x,dG P G M ops (⟨some d,.move x,ty,pos,af,none⟩::rest) ⟨nt,s,os⟩ K=(d<nt∧dG P G M ops rest ⟨nt,(d,ev G s x)::s,os⟩ K))∧
   (∀ x,dG P G M ops (⟨some d,.assign x,ty,pos,af,none⟩::rest) ⟨nt,s,os⟩ K=(d<nt∧dG P G M ops rest ⟨nt,(d,ev G s x)::s,os⟩ K))∧
   (∀ c a b,dG P G M ops (⟨some d,.pick c a b,ty,pos,af,none⟩::rest) ⟨nt,s,os⟩ K=yG (bU (ev G s c) (ev G s a) (ev G s b)) fun v=>d<nt∧dG P G M ops rest ⟨nt,(d,v)::s,os⟩ K)∧
   (∀ t,dG P G M ops (⟨some d,.alloc t,ty,pos,af,none⟩::rest) ⟨nt,s,os⟩ K=lG (dF P t os) fun v os'=>d<nt∧dG P G M ops rest ⟨nt,(d,v)::s,os'⟩ K)∧
   (∀ t x,dG P G M ops (⟨some d,.box t x,ty,pos,af,none⟩::rest) ⟨nt,s,os⟩ K=lG (if M.contains d=true then eF (ev G s x) os else fN P (ev G s x) os) fun v os'=>d<nt∧dG P G M ops rest ⟨nt,(d,v)::s,os'⟩ K)∧
   (∀ t ps,dG P G M ops (⟨some d,.build t ps,ty,pos,af,none⟩::rest) ⟨nt,s,os⟩ K=gS (fA P t (dO (ev G s) ps)) fun v=>d<nt∧dG P G M ops rest ⟨nt,(d,v)::s,os⟩ K)∧
   (∀ t n ps,dG P G M ops (⟨some d,.buildSlice t n ps,ty,pos,af,none⟩::rest) ⟨nt,s,os⟩ K=lG (if M.contains d=true then dV P t n (dO (ev G s) ps) os else dL P t n (dO (ev G s) ps) os) fun v os'=>d<nt∧dG P G M ops rest ⟨nt,(d,v)::s,os'⟩ K)∧
   (∀ t x,dG P G M ops (⟨some d,.load t x,ty,pos,af,none⟩::rest) ⟨nt,s,os⟩ K=gS (aY P t (ev G s x) (if M.contains d=true then [] else os)) fun v=>d<nt∧dG P G M ops rest ⟨nt,(d,v)::s,os⟩ K)∧
   (∀ t x y,dG P G M ops (⟨none,.store t x y,ty,pos,af,none⟩::rest) ⟨nt,s,os⟩ K=lG (bX P t (ev G s x) (ev G s y) os) fun _ os'=>dG P G M ops rest ⟨nt,s,os'⟩ K)∧
   (∀ x,dG P G M ops (⟨some d,.nilCheck x,ty,pos,af,none⟩::rest) ⟨nt,s,os⟩ K=yG (fY (ev G s x)) fun v=>d<nt∧dG P G M ops rest ⟨nt,(d,v)::s,os⟩ K)∧
   (∀ x,dG P G M ops (⟨none,.nilCheck x,ty,pos,af,none⟩::rest) ⟨nt,s,os⟩ K=yG (fY (ev G s x)) fun _=>dG P G M ops rest ⟨nt,s,os⟩ K)∧
   (∀ op t x y yt,dG P G M ops (⟨some d,.binOp op t x y yt,ty,pos,af,none⟩::rest) ⟨nt,s,os⟩ K=gS (sM P op t y (ev G s x) (ev G s y)) fun v=>d<nt∧dG P G M ops rest ⟨nt,(d,v)::s,os⟩ K)∧
   (∀ op t x,dG P G M ops (⟨some d,.unOp op t x,ty,pos,af,none⟩::rest) ⟨nt,s,os⟩ K=yG (aun op (ev G s x)) fun v=>d<nt∧dG P G M ops rest ⟨nt,(d,v)::s,os⟩ K)∧
   (∀ t x,dG P G M ops (⟨some d,.sliceToArrayPointer t x,ty,pos,af,none⟩::rest) ⟨nt,s,os⟩ K=gS (qI P t (ev G s x)) fun v=>d<nt∧dG P G M ops rest ⟨nt,(d,v)::s,os⟩ K)∧
   (∀ t l c,dG P G M ops (⟨some d,.makeSlice t l c,ty,pos,af,none⟩::rest) ⟨nt,s,os⟩ K=lG (aCO P t (M.contains d) (ev G s l) (ev G s c) os) fun v os'=>d<nt∧dG P G M ops rest ⟨nt,(d,v)::s,os'⟩ K)∧
   (∀ t x lo hi mx,dG P G M ops (⟨some d,.slice t x lo hi mx,ty,pos,af,none⟩::rest) ⟨nt,s,os⟩ K=gS (eY P t (ev G s x) (lo.map (ev G s)) (hi.map (ev G s)) (mx.map (ev G s))) fun v=>d<nt∧dG P G M ops rest ⟨nt,(d,v)::s,os⟩ K)∧
   (∀ t x i,dG P G M ops (⟨some d,.fieldAddr t x i,ty,pos,af,none⟩::rest) ⟨nt,s,os⟩ K=gS (aN P t (ev G s x) i) fun v=>d<nt∧dG P G M ops rest ⟨nt,(d,v)::s,os⟩ K)∧
   (∀ t x i,dG P G M ops (⟨some d,.field t x i,ty,pos,af,none⟩::rest) ⟨nt,s,os⟩ K=gS (aDd P t (ev G s x) i) fun v=>d<nt∧dG P G M ops rest ⟨nt,(d,v)::s,os⟩ K)∧
   (∀ t x i,dG P G M ops (⟨some d,.indexAddr t x i,ty,pos,af,none⟩::rest) ⟨nt,s,os⟩ K=gS (dN P t (ev G s x) (ev G s i)) fun v=>d<nt∧dG P G M ops rest ⟨nt,(d,v)::s,os⟩ K)∧
   (∀ t x i,dG P G M ops (⟨some d,.index t x i,ty,pos,af,none⟩::rest) ⟨nt,s,os⟩ K=gS (uU P t (ev G s x) (ev G s i)) fun v=>d<nt∧dG P G M ops rest ⟨nt,(d,v)::s,os⟩ K)∧
   (∀ x i,dG P G M ops (⟨some d,.extract x i,ty,pos,af,none⟩::rest) ⟨nt,s,os⟩ K=yG (gW (ev G s x) i) fun v=>d<nt∧dG P G M ops rest ⟨nt,(d,v)::s,os⟩ K)∧
   (∀ b args ts,dG P G M ops (⟨some d,.call ⟨.builtin b,args,ts⟩,ty,pos,af,none⟩::rest) ⟨nt,s,os⟩ K=lG (bI P (M.contains d) os b ts.toList (args.toList.map (ev G s))) fun v os'=>d<nt∧dG P G M ops rest ⟨nt,(d,v)::s,os'⟩ K)∧
   (∀ b args ts,dG P G M ops (⟨none,.call ⟨.builtin b,args,ts⟩,ty,pos,af,none⟩::rest) ⟨nt,s,os⟩ K=lG (bI P false os b ts.toList (args.toList.map (ev G s))) fun v os'=>dG P G M ops rest ⟨nt,s,os'⟩ K)):=by
 intro P G M ops rest nt s os K d ty pos af
 have ofO:∀ (o:Option (Prop×AV)) (k:AV→List AObj→Prop),lG (R.ofO os o) k=gS o fun v=>k v os:=fun o k=>by cases o<;>rfl
 have ofV:∀ (o:Option AV) (k:AV→List AObj→Prop),lG (R.ofV os o) k=yG o fun v=>k v os:=fun o k=>by cases o<;>simp[R.ofV,lG,yG]
 refine⟨?_,?_,?_,?_,?_,?_,?_,?_,?_,?_,?_,?_,?_,?_,?_,?_,?_,?_,?_,?_,?_,?_,?_⟩<;>intros <;>
  first
  | (rw[aDS _ _ _ _ _ _ _ _ _ _ _ _ _ _ (fun _ _ _=>by simp)];simp only[lZ,ofO,ofV];done)
  | (rw[aDS _ _ _ _ _ _ _ _ _ _ _ _ _ _ (fun _ _ _=>by simp)];simp only[lZ,lG,true_and];done)
  | (rw[aKe _ _ _ _ _ _ _ _ _ _ _ _ _ (fun _ _ _=>by simp)];simp only[lZ,ofO,ofV];done)
theorem vG :
  (∀ (P:Program) (G:Gl) (M:List Nat) (ops:Array Oper) (rest:List Oper) (nt:Nat) (s:List (Nat×AV)) (os:List AObj) (K:St→Prop) (d:Nat) (ty:TypeId) (pos:String) (af:Array Edge),(∀ t x k ok,dG P G M ops (⟨some d,.lookup t x k ok,ty,pos,af,none⟩::rest) ⟨nt,s,os⟩ K=gS (pI P t os (ev G s x) (ev G s k) ok) fun v=>d<nt∧dG P G M ops rest ⟨nt,(d,v)::s,os⟩ K)∧
   (∀ t m k x,dG P G M ops (⟨none,.mapUpdate t m k x,ty,pos,af,none⟩::rest) ⟨nt,s,os⟩ K=lG (uD P t os (ev G s m) (ev G s k) (ev G s x)) fun _ os'=>dG P G M ops rest ⟨nt,s,os'⟩ K)∧
   (∀ t r,dG P G M ops (⟨some d,.makeMap t r,ty,pos,af,none⟩::rest) ⟨nt,s,os⟩ K=lG (tE P t r os) fun v os'=>d<nt∧dG P G M ops rest ⟨nt,(d,v)::s,os'⟩ K)∧
   (∀ t x,dG P G M ops (⟨some d,.range t x,ty,pos,af,none⟩::rest) ⟨nt,s,os⟩ K=lG (aAr P t os (ev G s x)) fun v os'=>d<nt∧dG P G M ops rest ⟨nt,(d,v)::s,os'⟩ K)∧
   (∀ it b,dG P G M ops (⟨some d,.next it b,ty,pos,af,none⟩::rest) ⟨nt,s,os⟩ K=lG (aCP os (ev G s it) b) fun v os'=>d<nt∧dG P G M ops rest ⟨nt,(d,v)::s,os'⟩ K)∧
   (∀ fn first cap,dG P G M ops (⟨some d,.makeFunc fn first cap,ty,pos,af,none⟩::rest) ⟨nt,s,os⟩ K=lG (qJ fn first (cap.toList.map (ev G s)) os) fun v os'=>d<nt∧dG P G M ops rest ⟨nt,(d,v)::s,os'⟩ K)∧
   (∀ t x,dG P G M ops (⟨some d,.makeInterface t x,ty,pos,af,none⟩::rest) ⟨nt,s,os⟩ K=yG (aDf P t (ev G s x)) fun v=>d<nt∧dG P G M ops rest ⟨nt,(d,v)::s,os⟩ K)∧
   (∀ x xT t ok,dG P G M ops (⟨some d,.typeAssert x xT t ok,ty,pos,af,none⟩::rest) ⟨nt,s,os⟩ K=gS (aIF P (ev G s x) t ok) fun v=>d<nt∧dG P G M ops rest ⟨nt,(d,v)::s,os⟩ K)):=by
 intro P G M ops rest nt s os K d ty pos af
 have ofO:∀ (o:Option (Prop×AV)) (k:AV→List AObj→Prop),lG (R.ofO os o) k=gS o fun v=>k v os:=fun o k=>by cases o<;>rfl
 have ofV:∀ (o:Option AV) (k:AV→List AObj→Prop),lG (R.ofV os o) k=yG o fun v=>k v os:=fun o k=>by cases o<;>simp[R.ofV,lG,yG]
 refine⟨?_,?_,?_,?_,?_,?_,?_,?_⟩<;>intros <;>
  first
  | (rw[aDS _ _ _ _ _ _ _ _ _ _ _ _ _ _ (fun _ _ _=>by simp)];simp only[lZ,ofO,ofV];done)
  | (rw[aKe _ _ _ _ _ _ _ _ _ _ _ _ _ (fun _ _ _=>by simp)];simp only[lZ,ofO,ofV];done)
theorem bF:(∀ f c,vI (.clo f c)=some f)∧(∀ f c,mY (.clo f c)=c)∧(∀ v,mY (.val v)=[]):=⟨fun _ _=>rfl,fun _ _=>rfl,fun _=>rfl⟩
theorem eL (P:Program) (G:Gl) (M:List Nat) (ops:Array Oper) (rest:List Oper) (nt:Nat) (s:List (Nat×AV)) (os:List AObj) (K:St→Prop) (d:Nat) (ty:TypeId) (pos:String) (af:Array Edge)
  (src dst:TypeId) (x:Operand):dG P G M ops (⟨some d,.convert src dst x,ty,pos,af,none⟩::rest) ⟨nt,s,os⟩ K =
   lG (match P.underlying dst with|some (.slice _)=>mG P src dst (ev G s x) os|_=>if M.contains d=true then R.ofO os (eG P src dst (ev G s x) os) else R.ofO os (fF P src dst (ev G s x))) fun v os'=>d<nt∧dG P G M ops rest ⟨nt,(d,v)::s,os'⟩ K:=by
 rw[aDS _ _ _ _ _ _ _ _ _ _ _ _ _ _ (fun _ _ _=>by simp)];rfl
theorem aB :
  (∀ C v k,gS (some (C,v)) k=(C∧k v))∧(∀ v k,yG (some v) k=k v)∧(∀ C v os k,lG (.ok C v os) k=(C∧k v os))∧
  (∀ os C v,R.ofO os (some (C,v))=.ok C v os)∧(∀ os v,R.ofV os (some v)=.ok True v os)∧
  (∀ G s t,ev G s (.tmp t)=lk s t)∧(∀ G s v,ev G s (.const v)=cav v)∧(∀ G s g,ev G s (.global g)=gav G g)∧(∀ G s f,ev G s (.func f)=.val (.func (.func f) #[] #[]))∧
  (cav (.slice none 0 0)=.sl 0 [] .full)∧(∀ k n,cav (.int k n)=.val (.int k n))∧(∀ b,cav (.bool b)=.val (.bool b))∧(∀ x,cav (.string x)=.val (.string x))∧
  (∀ f,vI (.val (.func (.func f) #[] #[]))=some f)∧(∀ i a r j,lk ((i,a)::r) j=if i=j then a else lk r j)∧
  (∀ nt s os t,dOk ⟨nt,s,os⟩ (some t)=(t<nt))∧(∀ nt s os os' t v,(⟨nt,s,os⟩:St).put (some t) v os'=⟨nt,(t,v)::s,os'⟩):=by
 refine⟨?_,?_,?_,?_,?_,?_,?_,?_,?_,?_,?_,?_,?_,?_,?_,?_,?_⟩<;>intros<;>rfl
theorem aNT {P:Program} {G:Gl} {f:FuncId} {C:Prop} {b:Bool} {as_:List AV} {k:AV→Prop} {Q:AV→List AObj→Prop} (hC:C) (h:ACalls P G f as_ [] Q) (hx:∃ r,Q r [])
  (hQ:∀ r os,Q r os→os=[]∧(if b then flat r else aH r)=true∧k r):aIs P G (some f) (some (C,b,as_)) k:=⟨hC,.inl ⟨Q,h,hx,hQ⟩⟩
theorem aV {P:Program} {G:Gl} {f:FuncId} {C:Prop} {b:Bool} {as_:List AV} {k:AV→Prop} {v:AV} (hC:C) (h:ACalls P G f as_ [] (fun r os=>os=[]∧r=v))
  (hf:(if b then flat v else aH v)=true) (hk:k v):aIs P G (some f) (some (C,b,as_)) k:=⟨hC,.inl ⟨_,h,⟨v,rfl,rfl⟩,fun r os ⟨h1,h2⟩=>by subst h1 h2;exact⟨rfl,hf,hk⟩⟩⟩
theorem iT {P:Program} {G:Gl} {f:FuncId} {C:Prop} {b:Bool} {as_:List AV} {k:AV→Prop} {v:Value} (hC:C) (h:aMz P f as_ v) (hk:k (.val v)):aIs P G (some f) (some (C,b,as_)) k:=⟨hC,.inr ⟨v,h,hk⟩⟩
theorem aEu {P:Program} {G:Gl} {f:FuncId} {as_ as':List AV} {objs:List AObj} {k:AV→List AObj→Prop} {v:AV} {os:List AObj} {v':AV} (hv:fH none as_=some as') (h:ACalls P G f as' [] (fun r o=>o=os∧r=v))
  (ho:(∀ o∈os,eH o=true)) (hr:iL (fun i=>objs.length+i) os.length v=some v') (hk:k v' (objs++os)):wQ P G (some f) as_ objs k:=
 .inl ⟨as',_,hv,h,⟨v,os,rfl,rfl⟩,fun r o ⟨h1,h2⟩=>by subst h1 h2;exact⟨ho,v',hr,hk⟩⟩
theorem gR {P:Program} {G:Gl} {f:FuncId} {as_ as':List AV} {objs:List AObj} {k:AV→List AObj→Prop} {v:AV} {os':List AObj} {y:AObj} {v':AV} (h:Nat) (x:AObj) (hx:objs[h]? = some x) (hxo:eH x=true) (hv:fH (some h) as_=some as')
  (hc:ACalls P G f as' [x] (fun r o=>o=y::os'∧r=v)) (ho:(∀ o∈y::os',eH o=true)) (hr:iL (fun i=>if i=0 then h else objs.length+(i - 1)) (y::os').length v=some v') (hk:k v' (objs.set h y++os')):wQ P G (some f) as_ objs k:=
 .inr (.inl ⟨h,x,as',_,hx,hxo,hv,hc,⟨v,y::os',rfl,rfl⟩,fun r o ⟨h1,h2⟩=>by subst h1 h2;exact⟨ho,y,os',rfl,v',hr,hk⟩⟩)
theorem gF {P:Program} {G:Gl} {f:FuncId} {as_ as':List AV} {objs:List AObj} {k:AV→List AObj→Prop} {v:AV} {os:List AObj} {C:Prop} (hs:List Nat) (b:Bool) (ts:List TypeId) (hask:aKc objs hs) (hv:gT P objs hs ts as_=some (C,b,as')) (hC:C)
  (hc:ACalls P G f as' (GHd objs hs) (fun r o=>o=os∧r=v)) (hr:aNJ hs b v os) (hk:k (ren (σn objs hs) v) (jD objs hs os)):wQ P G (some f) as_ objs k:=
 .inr (.inr ⟨hs,b,C,ts,as',_,hask,hv,hC,hc,⟨v,os,rfl,rfl⟩,fun r o ⟨h1,h2⟩=>by subst h1 h2;exact⟨hr,hk⟩⟩)
theorem dE:(∀ P G M ops rest nt s os K d r os',aKl P G M ops rest ⟨nt,s,os⟩ K (some d) r os'=dG P G M ops rest ⟨nt,(d,r)::s,os'⟩ K)∧
  (∀ P G M ops rest nt s os K r os',aKl P G M ops rest ⟨nt,s,os⟩ K none r os'=dG P G M ops rest ⟨nt,s,os'⟩ K):=⟨fun _ _ _ _ _ _ _ _ _ _ _ _=>rfl,fun _ _ _ _ _ _ _ _ _ _ _=>rfl⟩
theorem uC:∀ P G M ops rest nt s os K d r os',aOh P G M ops rest ⟨nt,s,os⟩ K (some d) r os'=(os'.length=os.length∧dG P G M ops rest ⟨nt,(d,r)::s,os'⟩ K):=fun _ _ _ _ _ _ _ _ _ _ _ _=>rfl
theorem aK:(∀ P G M ops rest nt s os K d r,aKk P G M ops rest ⟨nt,s,os⟩ K (some d) r=dG P G M ops rest ⟨nt,(d,r)::s,os⟩ K)∧
  (∀ P G M ops rest nt s os K r,aKk P G M ops rest ⟨nt,s,os⟩ K none r=dG P G M ops rest ⟨nt,s,os⟩ K):=⟨fun _ _ _ _ _ _ _ _ _ _ _=>rfl,fun _ _ _ _ _ _ _ _ _ _=>rfl⟩
theorem aL (P:Program) (op:BinOp) (t:TypeId) (x y:AV):(∀ i,sM P op t (.tmp i) x y=tA P op t x y)∧(∀ k n,sM P op t (.const (.int k n)) x y=tA P op t x y)∧(∀ b,sM P op t (.const (.bool b)) x y=tA P op t x y)∧
  (∀ s,sM P op t (.const (.string s)) x y=tA P op t x y)∧(∀ p,sM P op t (.const (.pointer p)) x y=tA P op t x y)∧(∀ k n,sM P op t (.const (.float k n)) x y=tA P op t x y)∧(∀ g,sM P op t (.global g) x y=tA P op t x y)∧(∀ A n c,sM P op t (.const (.slice A n c)) x y=tA P op t x y)∧
  sM P op t (.const .nilIface) x y=aNS P op t x:=by
 refine⟨?_,?_,?_,?_,?_,?_,?_,?_,?_⟩<;>intros<;>rfl
theorem aP (P:Program) (t:TypeId) :
  (∀ op k a k' b,tA P op t (.val (.int k a)) (.val (.int k' b))=bH op k a k' b)∧(∀ op a b,tA P op t (.val (.bool a)) (.val (.bool b))=aAc P op t a b)∧(∀ op a b,tA P op t (.val (.string a)) (.val (.string b))=gL op a b)∧(∀ op xs ys,tA P op t (.agg xs) (.agg ys)=aDW P op t xs ys)∧(∀ op r off,tA P op t (.ptr r off) (.val (.pointer none))=aPJ P op t)∧(∀ op k a k' b,tA P op t (.val (.float k a)) (.val (.float k' b))=rH op k a k' b):=by
 refine⟨?_,?_,?_,?_,?_,?_⟩<;>intros<;>rfl
theorem bR (P:Program) (ts:List TypeId) (rvs:List ResultVar) (Q:AV→List AObj→Prop) (st:St) :
  (Fin P ts rvs Q .ret st=gS (eU P ts rvs st) fun r=>Q r [])∧(Fin P ts rvs Q .normal st=gS (eU P ts rvs st) fun r=>Q r []):=by
 have:(∃ C r,eU P ts rvs st=some (C,r)∧C∧Q r [])=gS (eU P ts rvs st) fun r=>Q r []:=by
  cases h:eU P ts rvs st with
  | none=>simp[gS]
  | some x=>
   obtain⟨C,r⟩:=x
   simp only[gS]
   apply propext
   constructor
   ·rintro⟨C',r',e,h1,h2⟩
    injection e with e
    injection e with e1 e2
    subst e1 e2
    exact⟨h1,h2⟩
   ·rintro⟨h1,h2⟩;exact⟨C,r,rfl,h1,h2⟩
 exact⟨this,this⟩
def aAD (ls:List Nat) (s:List (Nat×AV)):List (Nat×AV):=ls.map fun i=>(i,lk s i)
theorem aE {P:Program} {G:Gl} {c:Code} {nt:Nat} {s:List (Nat×AV)} {os:List AObj} {Q:Exit→St→Prop} (ls:List Nat) (h:awp P G c ⟨nt,aAD ls s,os⟩ Q):awp P G c ⟨nt,s,os⟩ Q:=
 eX (.sub fun p hp=>by
  simp only[aAD,List.mem_map] at hp
  obtain⟨i,_,rfl⟩:=hp
  rfl) h
theorem gE.of_keep {G:Gl} {nt:Nat} {s s':List (Nat×AV)} {os:List AObj} (ls:List Nat) (h:aAD ls s=s'):gE G ⟨nt,s,os⟩ ⟨nt,s',os⟩:=by
 subst h
 exact .sub fun p hp=>by
  simp only[aAD,List.mem_map] at hp
  obtain⟨i,_,rfl⟩:=hp
  rfl
theorem aD:(∀ s,aAD [] s=[])∧(∀ i r s,aAD (i::r) s=(i,lk s i)::aAD r s):=⟨fun _=>rfl,fun _ _ _=>rfl⟩
theorem aX (l:List UInt8):(Bs l).length=l.length:=by simp[Bs]
theorem iD (a b:List UInt8):Bs (a++b)=Bs a++Bs b:=by simp[Bs]
theorem eS (l:List UInt8) (n:Nat):(Bs l).take n=Bs (l.take n):=by simp[Bs]
theorem eA (l:List UInt8) (n:Nat):(Bs l).drop n=Bs (l.drop n):=by simp[Bs]
theorem eR (l:List UInt8):(Bs l).all dC=true:=by
 induction l with
 | nil=>rfl
 | cons x l ih=>simp only[Bs,List.map_cons,List.all_cons] at *;rw[ih];rfl
theorem jG (l:List UInt8):(Bs l).all aEF=true:=by
 induction l with
 | nil=>rfl
 | cons x l ih=>simp only[Bs,List.map_cons,List.all_cons] at *;rw[ih];rfl
theorem kJ (l:List UInt8):(Bs l).map yJ=l:=by
 induction l with
 | nil=>rfl
 | cons x l ih=>
  simp only[Bs,List.map_cons] at *
  rw[ih]
  simp[B,yJ]
theorem gE.tok {G:Gl} {nt:Nat} {s:List (Nat×AV)} {os:List AObj} (sz i n:Nat) (cells:List AV) (h:lk s i=.sl n cells .full):gE G ⟨nt,s,os⟩ ⟨nt,(i,.sl n cells (.tok os.length))::s,os++[.tok sz n]⟩:=fun E a hr=>by
 have hi:=hr.slots i
 simp only at hi
 rw[h] at hi
 simp only[bE] at hi
 obtain⟨A,cap,hv,hn,hc,hp⟩:=hi
 have hcap:cap=n:=hp
 subst hcap
 have hadd:=nD E (.slice A cap cap)
 obtain⟨hx2,ho2⟩:=rG (o:=.tok sz cap) (u:=.slice A cap cap) (.refl E os) hr.objs ⟨A,cap,rfl,Nat.le_refl _,fun h=>by omega⟩ (by intro g hg;cases A<;>simp[dI] at hg)
 have hk:=hr.objs.1
 simp only at hk
 refine⟨E.add (.slice A cap cap),rfl,⟨hr.size,fun j=>?_,hr.defers,ho2,hr.glob.mono hadd⟩,hx2⟩
 simp only[lk]
 split
 ·rename_i e
  subst e
  rw[hv]
  simp only[bE]
  refine⟨A,cap,rfl,Nat.le_refl _,?_,lF (by simp[Env.add,hk]) (by simp[Env.add,hk]) rfl⟩
  rcases hc with e'|⟨g,o,hA,hg,hl,hat⟩
  ·exact .inl e'
  ·exact .inr ⟨g,o,hA,hg,hl,eD.mono hadd g hg cells o hl hat⟩
 ·exact bE.mono hadd _ _ (hr.slots j)
theorem oA {P:Program} {G:Gl} {c:Code} {nt:Nat} {s:List (Nat×AV)} {os:List AObj} {Q:Exit→St→Prop} (sz i:Nat) {n:Nat} {cells:List AV} (h:lk s i=.sl n cells .full)
  (hq:awp P G c ⟨nt,(i,.sl n cells (.tok os.length))::s,os++[.tok sz n]⟩ Q):awp P G c ⟨nt,s,os⟩ Q:=eX (.tok sz i n cells h) hq
theorem bZ {α:Type} {P:Program} {G:Gl} {c:Code} {st:St} {Q:Exit→St→Prop} (S:α→St) (I:α→Prop) (μ:α→Nat) (x:α) (h₀:I x) (hw:gE G st (S x))
  (round:∀ x,I x→awp P G c (S x) (aI (fun s=>∃ y,I y∧μ y<μ x∧gE G s (S y)) Q)):awp P G (.loop c) st Q:=eX hw (aLA S I μ x h₀ round)
theorem gV:Bs []=[]:=rfl
theorem jJ (m:Nat):kZ [.int .u8 0] m=Bs (List.replicate m 0):=by
 induction m with
 | zero=>rfl
 | succ m ih=>
  unfold kZ at *
  simp only[List.replicate_succ,List.flatten_cons,ih]
  rfl
def zvs (k:IntKind) (n:Nat):List Value:=List.replicate n (Value.int k 0)
def Z (n:Nat):List UInt8:=List.replicate n 0
theorem eZ (n:Nat):(Z n).length=n:=by simp[Z]
theorem jK (n:Nat):(zvs .u8 n).map cav=Bs (Z n):=by
 simp only[zvs,Z,Bs,List.map_replicate]
 rfl
theorem aBs (k:IntKind) (n:Nat):(zvs k n).length=n:=by simp[zvs]
theorem qR {objs:List AObj} {r:Nat} {o x:AObj} (h:objs[r]? = some o):(objs++[x])[r]? = some o:=by
 rw[List.getElem?_append_left (List.getElem?_eq_some_iff.1 h).1];exact h
theorem aGg {P:Program} {t:TypeId} {a:AV} {objs:List AObj} {x:AObj} {y:Prop×AV} (h:aY P t a objs=some y):aY P t a (objs++[x])=some y:=by
 unfold aY at *
 cases a<;>simp only at h ⊢ <;> try exact h
 split at h
 ·rename_i e;rw[qR e];exact h
 ·cases h
theorem aDj {P:Program} {t:TypeId} {a k:AV} {ok:Bool} {objs:List AObj} {x:AObj} {y:Prop×AV} (h:pI P t objs a k ok=some y):pI P t (objs++[x]) a k ok=some y:=by
 unfold pI at *
 split at h
 case h_2=>cases h
 rename_i r k
 split at h
 case h_2=>cases h
 rename_i es kt et hr ht
 simp only[qR hr,ht]
 exact h
theorem aDk {P:Program} {t:TypeId} {a:AV} {objs:List AObj} {x:AObj} {y:AV} (h:bV P t objs a=some y):bV P t (objs++[x]) a=some y:=by
 unfold bV at *
 split at h
 case h_2=>cases h
 split at h
 case h_2=>cases h
 rename_i es kt et hr ht
 simp only[qR hr,ht]
 exact h
theorem aAu {P:Program} {t:TypeId} {a:AV} {objs:List AObj} {x:AObj} {y:Prop×Bool×AV} (h:bA P objs t a=some y):bA P (objs++[x]) t a=some y:=by
 unfold bA at *
 cases a<;>simp only at h ⊢ <;> try exact h
 split at h
 ·rename_i e1 e2
  rw[qR e1,e2]
  exact h
 ·cases h
theorem zJ {P:Program} {objs:List AObj} {x:AObj}:∀ (as_:List AV) (ts:List TypeId) (y:Prop×Bool×List AV),aT P objs ts as_=some y→aT P (objs++[x]) ts as_=some y
 | [],ts,y,h=>by simpa[aT] using h
 | a::as_,ts,y,h=>by
  unfold aT at h ⊢
  split at h
  ·rename_i e1 e2
   rw[aAu e1,zJ as_ _ _ e2]
   exact h
  ·cases h
theorem zE {P:Program} {s d:TypeId} {a:AV} {objs:List AObj} {x:AObj} {y:Prop×AV} (h:eG P s d a objs=some y):eG P s d a (objs++[x])=some y:=by
 unfold eG at *
 split at h
 case h_2=>cases h
 rename_i e
 rw[aAu e]
 exact h
theorem aHB {P:Program} {t:TypeId} {a:AV} {objs:List AObj} {hs:List Nat} {x:AObj} {y:Prop×Bool×AV} (h:nR P objs hs t a=some y):nR P (objs++[x]) hs t a=some y:=by
 unfold nR at *
 cases a<;>simp only at h ⊢ <;> try exact h
 split at h
 ·rename_i hc;rw[if_pos hc];exact h
 ·rename_i hc
  rw[if_neg hc]
  split at h
  ·rename_i e1 e2
   rw[qR e1,e2]
   exact h
  ·cases h
theorem zP {P:Program} {objs:List AObj} {hs:List Nat} {x:AObj}:∀ (as_:List AV) (ts:List TypeId) (y:Prop×Bool×List AV),gT P objs hs ts as_=some y→gT P (objs++[x]) hs ts as_=some y
 | [],ts,y,h=>by simpa[gT] using h
 | a::as_,ts,y,h=>by
  unfold gT at h ⊢
  split at h
  ·rename_i e1 e2
   rw[aHB e1,zP as_ _ _ e2]
   exact h
  ·cases h
theorem aCh {objs:List AObj} {r:Nat} {x:AObj} (h:r<objs.length):(objs++[x]).getD r .dead=objs.getD r .dead:=by
 rw[List.getD_eq_getElem?_getD,List.getD_eq_getElem?_getD,List.getElem?_append_left h]
theorem zX {x:AObj}:∀ (objs:List AObj) (hs:List Nat) (os:List AObj),(∀ h∈hs,h<objs.length)→gG (objs++[x]) hs os=gG objs hs os++[x]
 | objs,[],os,_=>rfl
 | objs,h::hs,os,hh=>by
  simp only[gG]
  rw[List.set_append_left _ _ (hh h (List.mem_cons_self ..)),zX _ hs _ (fun i hi=>by rw[List.length_set];exact hh i (List.mem_cons_of_mem _ hi))]
mutual
theorem aBb {σ τ:Nat→Nat} {p:Nat→Bool} (h:∀ r,p r=true→σ r=τ r):∀ a:AV,ref p a=true→ren σ a=ren τ a
 | .top,_=>rfl
 | .val _,_=>rfl
 | .agg cs,hr=>by simp only[ren,mN h cs hr]
 | .tup cs,hr=>by simp only[ren,mN h cs hr]
 | .sl n cells q,hr=>by
  simp only[ref,Bool.and_eq_true] at hr
  simp only[ren,mN h cells hr.2]
  cases q with
  | tok r=>simp only[rB,h r hr.1]
  | _=>rfl
 | .osl r off n cap,hr=>by simp only[ren,h r hr]
 | .ptr r off,hr=>by simp only[ren,h r hr]
 | .cptr cells,hr=>by simp only[ren,mN h cells hr]
 | .clo f caps,hr=>by simp only[ren,mN h caps hr]
 | .mref r,hr=>by simp only[ren,h r hr]
theorem mN {σ τ:Nat→Nat} {p:Nat→Bool} (h:∀ r,p r=true→σ r=τ r):∀ cs:List AV,eV p cs=true→gH σ cs=gH τ cs
 | [],_=>rfl
 | c::cs,hr=>by
  simp only[eV,Bool.and_eq_true] at hr
  simp only[gH,aBb h c hr.1,mN h cs hr.2]
end
theorem aJy {σ τ:Nat→Nat} {p:Nat→Bool} (h:∀ r,p r=true→σ r=τ r) (o:AObj) (hr:fU p o=true):gJ σ o=gJ τ o:=by
 cases o with
 | cells cs=>simp only[gJ,mN h cs hr]
 | map es=>
  simp only[fU] at hr
  simp only[gJ]
  congr 1
  induction es with
  | nil=>rfl
  | cons e es ih=>
   simp only[List.map_cons,eV,Bool.and_eq_true] at hr
   simp only[List.map_cons,aBb h e.2 hr.1,ih hr.2]
 | _=>rfl
theorem aCk {σ τ:Nat→Nat} {n:Nat} {a r:AV} (h:iL σ n a=some r) (hs:∀ i,i<n→σ i=τ i):iL τ n a=some r:=by
 cases a with
 | ptr i off=>
  simp only[iL] at h ⊢
  split at h
  ·rename_i hlt;rw[if_pos hlt,← hs _ hlt];exact h
  ·cases h
 | sl m cells q=>
  cases q with
  | tok i=>
   simp only[iL] at h ⊢
   split at h
   ·rename_i hlt;rw[if_pos hlt,← hs _ hlt.1];exact h
   ·cases h
  | _=>exact h
 | _=>exact h
theorem aEn {P:Program} {G:Gl} {f:Option FuncId} {as_:List AV} {objs:List AObj} {x:AObj} {K:AV→List AObj→Prop} (h:mH P G f as_ objs (fun r os=>os.length=objs.length∧K r os)) :
  mH P G f as_ (objs++[x]) (fun r os=>∃ os0,os=os0++[x]∧os0.length=objs.length∧K r os0):=by
 unfold mH at *
 cases f with
 | none=>exact h
 | some f=>
  rcases h with⟨as',Q,h1,h2,h3,h4⟩|⟨hh,y,as',Q,h0,hx,h1,h2,h3,h4⟩|⟨hs,b,C,ts,as',Q,h1,h2,h3,h4,h5,h6⟩
  ·refine .inl ⟨as',Q,h1,h2,h3,fun r os hq=>⟨(h4 r os hq).1,?_⟩⟩
   obtain⟨r',e,hl,k⟩:=(h4 r os hq).2
   have:os=[]:=by rw[List.length_append] at hl;exact List.length_eq_zero_iff.1 (by omega)
   subst this
   refine⟨r',?_,objs,by simp,rfl,by simpa using k⟩
   exact aCk e fun i hi=>absurd hi (Nat.not_lt_zero i)
  ·refine .inr (.inl ⟨hh,y,as',Q,qR h0,hx,h1,h2,h3,fun r os hq=>⟨(h4 r os hq).1,?_⟩⟩)
   obtain⟨z,os',e0,r',e,hl,k⟩:=(h4 r os hq).2
   have:os'=[]:=by rw[List.length_append,List.length_set] at hl;exact List.length_eq_zero_iff.1 (by omega)
   subst this
   subst e0
   have hlt:=(List.getElem?_eq_some_iff.1 h0).1
   refine⟨z,[],rfl,r',?_,objs.set hh z,by rw[List.append_nil,List.set_append_left _ _ hlt],by rw[List.length_set],by simpa using k⟩
   exact aCk e fun i hi=>by
    have:i=0:=by simpa using hi
    simp[this]
  ·obtain⟨hnd,hlt,href⟩:=h1
   have hG:GHd (objs++[x]) hs=GHd objs hs:=by
    unfold GHd
    apply List.map_congr_left
    intro i hi
    rw[aCh (hlt i hi)]
   refine .inr (.inr ⟨hs,b,C,ts,as',Q,⟨hnd,fun i hi=>by rw[List.length_append];exact Nat.lt_of_lt_of_le (hlt i hi) (Nat.le_add_right ..),fun i hi=>by rw[aCh (hlt i hi)];exact href i hi⟩,zP _ _ _ h2,h3,by rw[hG];exact h4,h5,fun r os hq=>⟨(h6 r os hq).1,?_⟩⟩)
   obtain⟨⟨g1,g2,g3,g4⟩,hl,k⟩:=h6 r os hq
   have hle:os.length=hs.length:=by
    simp only[jD,List.length_append,jC,List.length_drop,List.length_map] at hl
    omega
   have hσ:∀ i,decide (i<os.length)=true→σn (objs++[x]) hs i=σn objs hs i:=fun i hi=>by
    have:i<hs.length:=by rw[← hle];simpa using hi
    simp[σn,this]
   have hmap:os.map (gJ (σn (objs++[x]) hs))=os.map (gJ (σn objs hs)):=List.map_congr_left fun o ho=>aJy hσ o (g2 o ho)
   have hdrop:∀ l:List AObj,l.length=hs.length→l.drop hs.length=[]:=fun l e=>List.drop_eq_nil_of_le (by omega)
   refine⟨jD objs hs os,?_,hl,?_⟩
   ·unfold jD
    rw[hmap,zX _ _ _ hlt,hdrop _ (by rw[List.length_map];exact hle),List.append_nil,List.append_nil]
   ·rw[aBb hσ r g3]
    exact k
def Run (P:Program) (G:Gl) (M:List Nat) (o:Oper) (st:St) (R:AV→List AObj→Prop):Prop:=
 match o.op with
 | .call { callee:=.value f,args,argTypes }=>dOk st o.dst∧lR P G M o.dst (vI (ev G st.slots f)) (args.toList.map (ev G st.slots)++mY (ev G st.slots f)) argTypes.toList st.objs R
 | _=>match lZ P ((o.dst.map (M.contains ·)).getD false) (ev G st.slots) st.objs o.op with
  | .ok C v objs'=>C∧dOk st o.dst∧R v objs'
  | .bad=>False
def Mid (P:Program) (G:Gl) (M:List Nat) (ops:Array Oper) (o:Oper) (st:St) (R:AV→List AObj→Prop):Prop:=
 match o.guard with
 | none=>Run P G M o st R
 | some (j,want)=>match bT ops j with
  | some t=>match aAC (lk st.slots t) want with
   | some c=>t<st.nt∧(c=true→Run P G M o st R)∧(c=false→dOk st o.dst∧R uav st.objs)
   | none=>False
  | none=>False
section
variable {P:Program} {G:Gl} {M:List Nat} {ops:Array Oper}
theorem oP {o:Oper} {rest:List Oper} {st:St} {K:St→Prop}:dG P G M ops (o::rest) st K=Mid P G M ops o st (fun v objs'=>dG P G M ops rest (st.put o.dst v objs') K):=by
 conv=>lhs;unfold dG
 unfold Mid Run
 rfl
theorem vH {f:Option FuncId} {vw:Option (Prop×Bool×List AV)} {K K':AV→Prop} (hk:∀ r,K r→K' r) (h:uW P G f vw K):uW P G f vw K':=by
 unfold uW at *
 split at h
 ·obtain⟨h1,⟨Q,h2,h3,h4⟩|⟨v,h2,h3⟩⟩:=h
  ·exact⟨h1,.inl ⟨Q,h2,h3,fun r os hq=>⟨(h4 r os hq).1,(h4 r os hq).2.1,hk _ (h4 r os hq).2.2⟩⟩⟩
  ·exact⟨h1,.inr ⟨v,h2,hk _ h3⟩⟩
 ·exact h
theorem aGX {f:Option FuncId} {vw:Option (Prop×Bool×List AV)} {K:AV→Prop} (h:uW P G f vw K):∃ r,K r:=by
 unfold uW at h
 split at h
 ·obtain⟨h1,⟨Q,h2,⟨r,h3⟩,h4⟩|⟨v,h2,h3⟩⟩:=h
  ·exact⟨r,(h4 r [] h3).2.2⟩
  ·exact⟨_,h3⟩
 ·exact h.elim
theorem aEp {d:Option Tmp} {f:Option FuncId} {as_:List AV} {ts:List TypeId} {objs:List AObj} {K K':AV→List AObj→Prop} (hk:∀ r os,K r os→K' r os) (h:lR P G M d f as_ ts objs K):lR P G M d f as_ ts objs K':=by
 unfold lR at *
 split
 ·rename_i hm
  rw[if_pos hm] at h
  exact pH hk h
 ·rename_i hm
  rw[if_neg hm] at h
  split
  ·rename_i hm2
   rw[if_pos hm2] at h
   exact pH (fun r os h=>⟨h.1,hk _ _ h.2⟩) h
  ·rename_i hm2
   rw[if_neg hm2] at h
   exact vH (fun r=>hk r _) h
theorem aEq {d:Option Tmp} {f:Option FuncId} {as_:List AV} {ts:List TypeId} {objs:List AObj} {K:AV→List AObj→Prop} (h:lR P G M d f as_ ts objs K):∃ r os,K r os:=by
 replace h:=wN h
 split at h
 ·exact aEo h
 ·obtain⟨r,h⟩:=aGX h
  exact⟨r,_,h⟩
def jS (o:Oper):Bool:=match o.op with | .call { callee:=.value _,.. }=>true|_=>false
theorem kL {o:Oper} (h:jS o=true):∃ f args ts,o.op=.call { callee:=.value f,args:=args,argTypes:=ts }:=by
 unfold jS at h
 split at h
 ·rename_i e;exact⟨_,_,_,e⟩
 ·cases h
theorem qG {o:Oper} {st:St} {R:AV→List AObj→Prop} {f:Operand} {args:Array Operand} {ts:Array TypeId} (h:o.op=.call { callee:=.value f,args:=args,argTypes:=ts }) :
  Run P G M o st R=(dOk st o.dst∧lR P G M o.dst (vI (ev G st.slots f)) (args.toList.map (ev G st.slots)++mY (ev G st.slots f)) ts.toList st.objs R):=by
 unfold Run
 rw[h]
def Val (o:Oper) (st:St) (r:V.R) (R:AV→List AObj→Prop):Prop:=match r with | .ok C v objs'=>C∧dOk st o.dst∧R v objs' | .bad=>False
theorem pG {o:Oper} {st:St} {R:AV→List AObj→Prop} (hc:jS o=false):Run P G M o st R=Val o st (lZ P ((o.dst.map (M.contains ·)).getD false) (ev G st.slots) st.objs o.op) R:=by
 unfold Run
 split
 ·rename_i e
  simp[jS,e] at hc
 ·rfl
theorem mX {o:Oper} {st:St} {R:AV→List AObj→Prop} (h:o.guard=none):Mid P G M ops o st R=Run P G M o st R:=by
 unfold Mid
 rw[h]
theorem mF {o:Oper} {st:St} {R:AV→List AObj→Prop} {j:Nat} {want:Bool} (h:o.guard=some (j,want)) (hm:Mid P G M ops o st R) :
  ∃ t c,bT ops j=some t∧aAC (lk st.slots t) want=some c∧∀ R',Mid P G M ops o st R'=(t<st.nt∧(c=true→Run P G M o st R')∧(c=false→dOk st o.dst∧R' uav st.objs)):=by
 have key:∀ R',Mid P G M ops o st R'=match bT ops j with
  | some t=>match aAC (lk st.slots t) want with
   | some c=>t<st.nt∧(c=true→Run P G M o st R')∧(c=false→dOk st o.dst∧R' uav st.objs)
   | none=>False
  | none=>False:=fun R'=>by
   unfold Mid
   rw[h]
 rw[key] at hm
 cases ht:bT ops j with
 | none=>rw[ht] at hm;exact hm.elim
 | some t=>
  rw[ht] at hm
  simp only[ht] at key
  simp only at hm
  split at hm
  case h_2=>exact hm.elim
  rename_i b hb
  refine⟨t,b,rfl,hb,fun R'=>?_⟩
  rw[key,hb]
theorem aEh {o:Oper} {st:St} {R R':AV→List AObj→Prop} (hr:∀ v os,R v os→R' v os) (h:Run P G M o st R):Run P G M o st R':=by
 cases hc:jS o with
 | true=>
  obtain⟨f,args,ts,e⟩:=kL hc
  rw[qG e] at h ⊢
  exact⟨h.1,aEp (fun r os=>hr r os) h.2⟩
 | false=>
  rw[pG hc] at h ⊢
  unfold Val at *
  split at h
  ·exact⟨h.1,h.2.1,hr _ _ h.2.2⟩
  ·exact h.elim
theorem iX {o:Oper} {st:St} {R R':AV→List AObj→Prop} (hr:∀ v os,R v os→R' v os) (h:Mid P G M ops o st R):Mid P G M ops o st R':=by
 cases hg:o.guard with
 | none=>
  rw[mX hg] at h ⊢
  exact aEh hr h
 | some g=>
  obtain⟨t,b,_,_,hd⟩:=mF hg h
  rw[hd] at h ⊢
  exact⟨h.1,fun e=>aEh hr (h.2.1 e),fun e=>⟨(h.2.2 e).1,hr _ _ (h.2.2 e).2⟩⟩
theorem aEj {o:Oper} {st:St} {R:AV→List AObj→Prop} (h:Run P G M o st R):∃ v os,R v os:=by
 cases hc:jS o with
 | true=>
  obtain⟨f,args,ts,e⟩:=kL hc
  rw[qG e] at h
  exact aEq h.2
 | false=>
  rw[pG hc] at h
  unfold Val at h
  split at h
  ·exact⟨_,_,h.2.2⟩
  ·exact h.elim
theorem wL {o:Oper} {st:St} {R:AV→List AObj→Prop} (h:Mid P G M ops o st R):∃ v os,R v os:=by
 cases hg:o.guard with
 | none=>
  rw[mX hg] at h
  exact aEj h
 | some g=>
  obtain⟨t,b,_,_,hd⟩:=mF hg h
  rw[hd] at h
  obtain⟨h1,h2,h3⟩:=h
  by_cases e:b=true
  ·exact aEj (h2 e)
  ·exact⟨_,_,(h3 (by simpa using e)).2⟩
theorem aIB {o:Oper} {st:St} {R:AV→List AObj→Prop} (hc:jS o=false) (h:Run P G M o st R):∃ v os,∀ R',Run P G M o st R'↔R' v os:=by
 simp only[pG hc] at h ⊢
 unfold Val at *
 cases hv:lZ P ((o.dst.map (M.contains ·)).getD false) (ev G st.slots) st.objs o.op with
 | bad=>rw[hv] at h;exact h.elim
 | ok C v os=>
  rw[hv] at h
  exact⟨v,os,fun R'=>⟨fun h=>h.2.2,fun h'=>⟨h.1,h.2.1,h'⟩⟩⟩
theorem aDT {o:Oper} {st:St} {R:AV→List AObj→Prop} (hc:jS o=false) (h:Mid P G M ops o st R):∃ v os,∀ R',Mid P G M ops o st R'↔R' v os:=by
 cases hg:o.guard with
 | none=>
  simp only[mX hg] at h ⊢
  exact aIB hc h
 | some g=>
  obtain⟨t,b,_,_,hd⟩:=mF hg h
  rw[hd] at h
  simp only[hd]
  obtain⟨h1,h2,h3⟩:=h
  by_cases e:b=true
  ·obtain⟨v,os,hv⟩:=aIB hc (h2 e)
   exact⟨v,os,fun R'=>⟨fun h=>(hv R').1 (h.2.1 e),fun h=>⟨h1,fun _=>(hv R').2 h,fun e'=>by rw[e] at e';cases e'⟩⟩⟩
  ·exact⟨uav,st.objs,fun R'=>⟨fun h=>(h.2.2 (by simpa using e)).2,fun h=>⟨h1,fun e''=>absurd e'' e,fun _=>⟨(h3 (by simpa using e)).1,h⟩⟩⟩⟩
theorem vK {K K':St→Prop} (hk:∀ s,K s→K' s):∀ (l:List Oper) (st:St),dG P G M ops l st K→dG P G M ops l st K'
 | [],st,h=>hk _ h
 | o::l,st,h=>by
  rw[oP] at h ⊢
  exact iX (fun v os h=>vK hk l _ h) h
def cls (M:List Nat) (o:Oper):Nat:=match o.op with
 | .move _ | .assign _ | .pick .. | .build .. | .nilCheck _ | .binOp .. | .unOp .. | .sliceToArrayPointer .. | .slice .. | .fieldAddr .. | .field .. | .indexAddr .. | .index .. | .extract ..=>0
 | .makeFunc .. | .makeInterface .. | .typeAssert ..=>0
 | .lookup ..=>1
 | .alloc ..=>3
 | .call { callee:=.builtin .len,.. }=>if (o.dst.map (M.contains ·)).getD false then 1 else 0
 | .call { callee:=.builtin .min,.. } | .call { callee:=.builtin .max,.. }=>0
 | .box ..=>if (o.dst.map (M.contains ·)).getD false then 0 else 2
 | .buildSlice ..=>if (o.dst.map (M.contains ·)).getD false then 2 else 0
 | .makeSlice ..=>if (o.dst.map (M.contains ·)).getD false then 2 else 0
 | .convert ..=>if (o.dst.map (M.contains ·)).getD false then 1 else 0
 | .load ..=>if (o.dst.map (M.contains ·)).getD false then 0 else 1
 | .call { callee:=.value _,.. }=>if aFU M o.dst then 2 else if tI M o.dst then 4 else if (o.dst.map (M.contains ·)).getD false then 0 else 1
 | _=>2
theorem aAR {objs:List AObj} {o:Option (Prop×AV)} {C:Prop} {v:AV} {objs':List AObj}:R.ofO objs o=.ok C v objs'→objs'=objs∧∀ o2,R.ofO o2 o=.ok C v o2:=by
 intro h
 obtain⟨rfl,rfl⟩:=kD h
 exact⟨rfl,fun _=>rfl⟩
theorem aEN {objs:List AObj} {o:Option AV} {C:Prop} {v:AV} {objs':List AObj}:R.ofV objs o=.ok C v objs'→objs'=objs∧∀ o2,R.ofV o2 o=.ok C v o2:=by
 intro h
 cases o with
 | none=>cases h
 | some x=>
  unfold R.ofV at h
  injection h with h1 h2 h3
  subst h1 h2 h3
  exact⟨rfl,fun _=>rfl⟩
theorem yH {o:Oper} {mt:Bool} (hmt:mt=(o.dst.map (M.contains ·)).getD false) {f:Operand→AV} {objs objs':List AObj} {C:Prop} {v:AV} (hc:cls M o=0) (h:lZ P mt f objs o.op=.ok C v objs'):objs'=objs∧∀ o2,lZ P mt f o2 o.op=.ok C v o2:=by
 obtain⟨dst,op,ty,pos,af,g⟩:=o
 cases op<;>simp only[cls] at hc<;>(try (exact absurd hc (by decide)))<;>simp only[lZ] at h ⊢
 case convert s d x=>
  have hm:mt=false:=by
   rw[hmt]
   cases hq:(dst.map (M.contains ·)).getD false with
   | false=>rfl
   | true=>simp only[hq] at hc;simp at hc
  simp only[hm,Bool.false_eq_true,if_false] at h ⊢
  cases hd:P.underlying d with
  | none=>
   rw[hd] at h
   simp only at h ⊢
   exact aAR h
  | some td=>
   rw[hd] at h
   cases td<;>simp only at h ⊢
   case slice e=>
    unfold mG at h ⊢
    cases hx:f x with
    | val u=>
     rw[hx] at h
     cases u<;>simp only at h ⊢ <;> (try cases h)
     rw[hd] at h
     rw[hd]
     cases hs:P.underlying s with
     | none=>rw[hs] at h;cases h
     | some ts=>
      rw[hs] at h
      cases ts<;>simp only at h ⊢ <;> (try cases h)
      exact⟨rfl,fun _=>rfl⟩
    | _=>rw[hx] at h;cases h
   all_goals exact aAR h
 case load t x=>
  have hm:mt=true:=by
   rw[hmt]
   cases hq:(dst.map (M.contains ·)).getD false with
   | true=>rfl
   | false=>simp only[hq] at hc;simp at hc
  simp only[hm,if_true] at h ⊢
  exact aAR h
 case box t x=>
  have hm:mt=true:=by
   rw[hmt]
   cases hq:(dst.map (M.contains ·)).getD false with
   | true=>rfl
   | false=>simp only[hq] at hc;simp at hc
  simp only[hm,if_true] at h ⊢
  unfold eF at h ⊢
  split at h
  ·rename_i hf
   injection h with e1 e2 e3
   subst e1 e2 e3
   exact⟨rfl,fun _=>if_pos hf⟩
  ·cases h
 case buildSlice t n ps=>
  have hm:mt=false:=by
   rw[hmt]
   cases hq:(dst.map (M.contains ·)).getD false with
   | false=>rfl
   | true=>simp only[hq] at hc;simp at hc
  simp only[hm,Bool.false_eq_true,if_false] at h ⊢
  unfold dL at h ⊢
  split at h
  case h_2=>cases h
  split at h
  case h_2=>cases h
  split at h
  case h_2=>cases h
  injection h with e1 e2 e3
  subst e1 e2 e3
  exact⟨rfl,fun o2=>rfl⟩
 case makeSlice t l c=>
  have hm:mt=false:=by
   rw[hmt]
   cases hq:(dst.map (M.contains ·)).getD false with
   | false=>rfl
   | true=>simp only[hq] at hc;simp at hc
  simp only[hm] at h ⊢
  unfold aCO at h ⊢
  split at h
  case h_2=>cases h
  split at h
  case h_2=>cases h
  simp only[Bool.false_eq_true,if_false] at h ⊢
  injection h with e1 e2 e3
  subst e1 e2 e3
  exact⟨rfl,fun o2=>rfl⟩
 case call c=>
  obtain⟨callee,args,ts⟩:=c
  cases callee with
  | value f=>cases h
  | invoke r n=>simp at hc
  | builtin b=>
   simp only at h ⊢
   cases b<;>simp at hc
   case len=>
    have hm:mt=false:=by
     rw[hmt]
     cases hq:(dst.map (M.contains ·)).getD false with
     | false=>rfl
     | true=>exact absurd hc (by simp only[List.contains_eq_mem] at hq;simp[hq])
    subst hm
    unfold bI at h ⊢
    split at h<;>first|(simp only[Bool.false_eq_true,if_false] at h ⊢;exact aEN h)|cases h|contradiction
   all_goals
    unfold bI at h ⊢
    split at h<;>first|exact aEN h|cases h|contradiction
 case makeFunc fn first captured=>
  unfold qJ at h ⊢
  split at h
  ·split at h
   ·rename_i hf
    injection h with e1 e2 e3
    subst e1 e2 e3
    exact⟨rfl,fun _=>if_pos hf⟩
   ·cases h
  ·cases h
 all_goals first
  | exact aAR h
  | exact aEN h
  | (injection h with e1 e2 e3;subst e1 e2 e3;exact⟨rfl,fun _=>rfl⟩)
theorem wR {f f':Operand→AV} (ps:Array (Nat×Operand)) (h:∀ x∈((ps.toList.map (·.2)).toArray:Array Operand),f x=f' x):dO f ps=dO f' ps:=by
 unfold dO
 apply List.map_congr_left
 intro p hp
 rw[h p.2 (by simp only[List.mem_toArray,List.mem_map];exact⟨p,hp,rfl⟩)]
theorem aGm {mt:Bool} {f f':Operand→AV} {objs:List AObj} (op:Op) (h:∀ x∈op.operands,f x=f' x):lZ P mt f objs op=lZ P mt f' objs op:=by
 cases op<;>simp only[Op.operands] at h<;>simp only[lZ]
 case build t ps=>rw[wR ps h]
 case buildSlice t n ps=>rw[wR ps h]
 case slice t x lo hi mx=>cases lo<;>cases hi<;>cases mx<;>simp_all
 case makeFunc fn first captured=>
  have:captured.toList.map f=captured.toList.map f':=List.map_congr_left fun x hx=>h x (by simp;right;simpa using hx)
  rw[this]
 case call c=>
  obtain⟨callee,args,ts⟩:=c
  cases callee with
  | builtin b=>
   simp only[Call.operands] at h
   have:args.toList.map f=args.toList.map f':=List.map_congr_left fun x hx=>h x (by simpa using hx)
   show bI P mt objs b ts.toList (args.toList.map f)=bI P mt objs b ts.toList (args.toList.map f')
   rw[this]
  | _=>rfl
 all_goals (first|rfl|(simp_all;done))
theorem aJc {o:Oper} {t:Tmp} (h:Operand.tmp t∈o.op.operands):t∈o.looksAt ops:=List.mem_append_left _ (List.mem_filterMap.2 ⟨.tmp t,by simpa using h,rfl⟩)
theorem aLY {s s':List (Nat×AV)} {x:Operand} (h:∀ t,x=.tmp t→lk s t=lk s' t):ev G s x=ev G s' x:=by
 cases x with
 | tmp t=>exact h t rfl
 | _=>rfl
theorem aCI {o:Oper} {st st':St} {R:AV→List AObj→Prop} (hn:st.nt=st'.nt) (ho:st.objs=st'.objs) (hl:∀ t∈o.looksAt ops,lk st.slots t=lk st'.slots t) (h:Run P G M o st R):Run P G M o st' R:=by
 have he:∀ x∈o.op.operands,ev G st.slots x=ev G st'.slots x:=fun x hx=>aLY fun t e=>hl t (aJc (e ▸ hx))
 have hd:dOk st o.dst→dOk st' o.dst:=fun h=>by
  unfold dOk at *
  split at h<;>simp_all
 cases hc:jS o with
 | true=>
  obtain⟨f,args,ts,e⟩:=kL hc
  rw[qG e] at h ⊢
  have e1:ev G st'.slots f=ev G st.slots f:=(he f (by simp[e,Op.operands,Call.operands])).symm
  have e2:args.toList.map (ev G st'.slots)=args.toList.map (ev G st.slots):=List.map_congr_left fun x hx=>(he x (by simp[e,Op.operands,Call.operands];simp at hx;simp[hx])).symm
  rw[e1,e2,← ho]
  exact⟨hd h.1,h.2⟩
 | false=>
  rw[pG hc] at h ⊢
  rw[aGm o.op he,ho] at h
  unfold Val at *
  split at h
  ·exact⟨h.1,hd h.2.1,h.2.2⟩
  ·exact h.elim
theorem lN {o:Oper} {st st':St} {R:AV→List AObj→Prop} (hn:st.nt=st'.nt) (ho:st.objs=st'.objs) (hl:∀ t∈o.looksAt ops,lk st.slots t=lk st'.slots t) (h:Mid P G M ops o st R):Mid P G M ops o st' R:=by
 have hd:dOk st o.dst→dOk st' o.dst:=fun h=>by
  unfold dOk at *
  split at h<;>simp_all
 cases hg:o.guard with
 | none=>
  rw[mX hg] at h ⊢
  exact aCI hn ho hl h
 | some g=>
  obtain⟨t,b,ht,hb,hd'⟩:=mF hg h
  rw[hd'] at h
  have hlt:aAC (lk st'.slots t) g.2=some b:=by
   rw[← hb]
   refine congrArg (aAC · g.2) (hl t (List.mem_append_right _ ?_)).symm
   rw[hg]
   unfold bT at ht
   simp[ht]
  have:Mid P G M ops o st' R=(t<st'.nt∧(b=true→Run P G M o st' R)∧(b=false→dOk st' o.dst∧R uav st'.objs)):=by
   unfold Mid
   rw[hg]
   simp only[ht]
   rw[hlt]
  rw[this]
  exact⟨hn ▸ h.1,fun e=>aCI hn ho hl (h.2.1 e),fun e=>⟨hd (h.2.2 e).1,ho ▸ (h.2.2 e).2⟩⟩
theorem aCR {o:Oper} {mt:Bool} (hmt:mt=(o.dst.map (M.contains ·)).getD false) {f:Operand→AV} {objs objs':List AObj} {C:Prop} {v:AV} (hc:cls M o≤1) (h:lZ P mt f objs o.op=.ok C v objs'):objs'=objs:=by
 by_cases h0:cls M o=0
 ·exact(yH hmt h0 h).1
 ·obtain⟨dst,op,ty,pos,af,g⟩:=o
  cases op<;>simp only[cls] at hc h0<;>(try (exact absurd trivial h0))<;>(try (exact absurd rfl h0))<;>(try (exact absurd hc (by decide)))<;>simp only[lZ] at h
  case load t x=>exact(kD h).2
  case lookup t x k ok=>exact(kD h).2
  case buildSlice t n ps=>exact absurd hc (by split at hc<;>simp_all)
  case box t x=>exact absurd hc (by split at hc<;>simp_all)
  case makeSlice t n c=>exact absurd hc (by split at hc<;>simp_all)
  case convert s d x=>
   have hq:∀ o:Option (Prop×AV),R.ofO objs o=.ok C v objs'→objs'=objs:=fun o h=>(kD h).2
   split at h
   ·unfold mG at h
    split at h
    case h_2=>cases h
    split at h
    case h_2=>cases h
    injection h with _ _ h
    exact h.symm
   ·split at h
    ·exact hq _ h
    ·exact hq _ h
  case call c=>
   obtain⟨callee,args,ts⟩:=c
   cases callee with
   | value f=>simp at h
   | invoke r n=>simp at h
   | builtin b=>
    cases b<;>simp at hc h0
    case len=>
     simp only at h
     unfold bI at h
     split at h<;>first|(split at h<;>exact(pY h).2)|cases h|contradiction
theorem wW {o:Oper} (h:jS o=true) (hc:cls M o≤1):(aFU M o.dst=false∧tI M o.dst=false)∧(cls M o=0→(o.dst.map (M.contains ·)).getD false=true):=by
 obtain⟨f,args,ts,e⟩:=kL h
 simp only[cls,e] at hc ⊢
 cases hh:aFU M o.dst with
 | true=>rw[hh] at hc;simp at hc
 | false=>
  cases hh2:tI M o.dst with
  | true=>rw[hh,hh2] at hc;simp at hc
  | false=>
  refine⟨⟨rfl,rfl⟩,?_⟩
  cases (o.dst.map (M.contains ·)).getD false<;>simp
theorem aEg {o:Oper} {st:St} {R:AV→List AObj→Prop} (hc:cls M o≤1) (h:Run P G M o st R):Run P G M o st (fun v os=>os=st.objs∧R v os):=by
 cases hcl:jS o with
 | true=>
  obtain⟨f,args,ts,e⟩:=kL hcl
  have hm:=(wW hcl hc).1
  rw[qG e] at h ⊢
  unfold lR at h ⊢
  rw[hm.1,hm.2] at h ⊢
  simp only[Bool.false_eq_true,if_false] at h ⊢
  exact⟨h.1,vH (fun r hr=>⟨trivial,hr⟩) h.2⟩
 | false=>
  rw[pG hcl] at h ⊢
  unfold Val at *
  split at h
  ·rename_i hv
   exact⟨h.1,h.2.1,aCR rfl hc hv,h.2.2⟩
  ·exact h.elim
theorem wJ {o:Oper} {st:St} {R:AV→List AObj→Prop} (hc:cls M o≤1) (h:Mid P G M ops o st R):Mid P G M ops o st (fun v os=>os=st.objs∧R v os):=by
 cases hg:o.guard with
 | none=>
  rw[mX hg] at h ⊢
  exact aEg hc h
 | some g=>
  obtain⟨t,b,_,_,hd⟩:=mF hg h
  rw[hd] at h ⊢
  exact⟨h.1,fun e=>aEg hc (h.2.1 e),fun e=>⟨(h.2.2 e).1,rfl,(h.2.2 e).2⟩⟩
theorem aEi {o:Oper} {st:St} {R:AV→List AObj→Prop} (hc:cls M o=0) (h:Run P G M o st R) (o2:List AObj):Run P G M o ⟨st.nt,st.slots,o2⟩ (fun v os=>os=o2∧R v st.objs):=by
 cases hcl:jS o with
 | true=>
  obtain⟨f,args,ts,e⟩:=kL hcl
  have hm:=(wW hcl (by omega)).2 hc
  have hm1:=(wW (M:=M) hcl (by omega)).1
  rw[qG e] at h ⊢
  have ho:∀ os,xM M o.dst os=[]:=fun os=>by unfold xM;rw[hm];rfl
  unfold lR at h ⊢
  rw[hm1.1,hm1.2] at h ⊢
  simp only[Bool.false_eq_true,if_false] at h ⊢
  rw[ho] at h ⊢
  exact⟨h.1,vH (fun r hr=>⟨trivial,hr⟩) h.2⟩
 | false=>
  rw[pG hcl] at h ⊢
  unfold Val at *
  split at h
  ·rename_i hv
   obtain⟨h1,h2⟩:=yH rfl hc hv
   rw[h2 o2]
   exact⟨h.1,h.2.1,rfl,h1 ▸ h.2.2⟩
  ·exact h.elim
theorem wK {o:Oper} {st:St} {R:AV→List AObj→Prop} (hc:cls M o=0) (h:Mid P G M ops o st R) (o2:List AObj):Mid P G M ops o ⟨st.nt,st.slots,o2⟩ (fun v os=>os=o2∧R v st.objs):=by
 cases hg:o.guard with
 | none=>
  rw[mX hg] at h ⊢
  exact aEi hc h o2
 | some g=>
  obtain⟨t,b,ht,hb,hd⟩:=mF hg h
  rw[hd] at h
  have:∀ R',Mid P G M ops o ⟨st.nt,st.slots,o2⟩ R'=(t<st.nt∧(b=true→Run P G M o ⟨st.nt,st.slots,o2⟩ R')∧(b=false→dOk st o.dst∧R' uav o2)):=fun R'=>by
   unfold Mid
   rw[hg]
   simp only[ht,hb]
   rfl
  rw[this]
  exact⟨h.1,fun e=>aEi hc (h.2.1 e) o2,fun e=>⟨(h.2.2 e).1,rfl,(h.2.2 e).2⟩⟩
theorem aIy {o:Oper} {mt:Bool} (hmt:mt=(o.dst.map (M.contains ·)).getD false) {f:Operand→AV} {objs objs':List AObj} {x:AObj} {C:Prop} {v:AV} (hc:cls M o≤1) (h:lZ P mt f objs o.op=.ok C v objs'):lZ P mt f (objs++[x]) o.op=.ok C v (objs++[x]):=by
 by_cases h0:cls M o=0
 ·exact(yH hmt h0 h).2 _
 ·obtain⟨dst,op,ty,pos,af,g⟩:=o
  have ho:∀ {o o':Option (Prop×AV)},R.ofO objs o=.ok C v objs'→(∀ y,o=some y→o'=some y)→R.ofO (objs++[x]) o'=.ok C v (objs++[x]):=by
   intro o o' h hh
   obtain⟨e,_⟩:=kD h
   rw[hh _ e]
   rfl
  have hv:∀ {o o':Option AV},R.ofV objs o=.ok C v objs'→(∀ y,o=some y→o'=some y)→R.ofV (objs++[x]) o'=.ok C v (objs++[x]):=by
   intro o o' h hh
   cases o with
   | none=>cases h
   | some y=>
    rw[hh _ rfl]
    simp only[R.ofV,R.ok.injEq] at h ⊢
    exact⟨h.1,h.2.1,trivial⟩
  cases op<;>simp only[cls] at hc h0<;>(try (exact absurd trivial h0))<;>(try (exact absurd rfl h0))<;>(try (exact absurd hc (by decide)))<;>simp only[lZ] at h ⊢
  case load t y=>
   refine ho h fun z hz=>?_
   split at hz
   ·rename_i e;rw[if_pos e];exact hz
   ·rename_i e;rw[if_neg e];exact aGg hz
  case lookup t y k ok=>exact ho h fun z hz=>aDj hz
  case buildSlice t n ps=>exact absurd hc (by split at hc<;>simp_all)
  case box t y=>exact absurd hc (by split at hc<;>simp_all)
  case makeSlice t n c=>exact absurd hc (by split at hc<;>simp_all)
  case convert s d y=>
   cases hd:P.underlying d with
   | none=>
    rw[hd] at h
    simp only at h ⊢
    split at h
    ·rename_i e;rw[if_pos e];exact ho h fun z hz=>zE hz
    ·rename_i e;rw[if_neg e];exact ho h fun z hz=>hz
   | some td=>
    rw[hd] at h
    cases td<;>simp only at h ⊢
    case slice e=>
     unfold mG at h ⊢
     cases hy:f y with
     | val u=>
      rw[hy] at h
      cases u<;>simp only at h ⊢ <;> (try cases h)
      rw[hd] at h ⊢
      cases hs:P.underlying s with
      | none=>rw[hs] at h;cases h
      | some ts=>
       rw[hs] at h
       cases ts<;>simp only at h ⊢ <;> (try cases h)
       rfl
     | _=>rw[hy] at h;cases h
    all_goals
     split at h
     ·rename_i e;rw[if_pos e];exact ho h fun z hz=>zE hz
     ·rename_i e;rw[if_neg e];exact ho h fun z hz=>hz
  case call c=>
   obtain⟨callee,args,ts⟩:=c
   cases callee with
   | value f=>simp at h
   | invoke r n=>simp at h
   | builtin b=>
    cases b<;>simp at hc h0
    case len=>
     simp only at h ⊢
     unfold bI at h ⊢
     split at h<;>first|(split at h<;>first|(rename_i e;simp only[e];exact hv h fun z hz=>aDk hz)|(rename_i e;simp only[e];exact hv h fun z hz=>hz))|cases h|contradiction
theorem aCX {o:Oper} (h:cls M o=4):jS o=true∧aFU M o.dst=false∧tI M o.dst=true:=by
 obtain⟨dst,op,ty,pos,af,g⟩:=o
 cases op<;>simp only[cls] at h<;>(try cases h)<;>(try (split at h<;>cases h))
 case call c=>
  obtain⟨callee,args,ts⟩:=c
  cases callee with
  | value f=>
   simp only at h
   refine⟨rfl,?_⟩
   simp only
   split at h
   ·cases h
   ·rename_i h1
    split at h
    ·rename_i h2;exact⟨by simpa using h1,h2⟩
    ·split at h<;>cases h
  | invoke r n=>simp at h
  | builtin b=>cases b<;>simp at h<;>(try (split at h<;>cases h))
theorem aEf {o:Oper} {st:St} {x:AObj} {R:AV→List AObj→Prop} (hc:cls M o≤1∨cls M o=4) (h:Run P G M o st R):Run P G M o ⟨st.nt,st.slots,st.objs++[x]⟩ (fun v os=>∃ os0,os=os0++[x]∧os0.length=st.objs.length∧R v os0):=by
 cases hcl:jS o with
 | true=>
  obtain⟨f,args,ts,e⟩:=kL hcl
  rw[qG e] at h ⊢
  refine⟨h.1,?_⟩
  replace h:=h.2
  have ht:aFU M o.dst=false:=by
   rcases hc with hc|hc
   ·exact(wW hcl hc).1.1
   ·exact(aCX hc).2.1
  unfold lR at h ⊢
  rw[ht] at h ⊢
  simp only[Bool.false_eq_true,if_false] at h ⊢
  cases hk:tI M o.dst with
  | true=>
   rw[hk] at h
   simp only[if_true] at h ⊢
   refine pH ?_ (aEn h)
   rintro r os ⟨os0,rfl,hl,hr⟩
   exact⟨by simp[hl],os0,rfl,hl,hr⟩
  | false=>
   rw[hk] at h
   simp only[Bool.false_eq_true,if_false] at h ⊢
   have hv:∀ y,aT P (xM M o.dst st.objs) ts.toList (args.toList.map (ev G st.slots)++mY (ev G st.slots f))=some y→aT P (xM M o.dst (st.objs++[x])) ts.toList (args.toList.map (ev G st.slots)++mY (ev G st.slots f))=some y:=by
    intro y hy
    unfold xM at hy ⊢
    split at hy
    ·rename_i e;rw[if_pos e];exact hy
    ·rename_i e;rw[if_neg e];exact zJ _ _ _ hy
   unfold uW at h ⊢
   split at h
   ·rename_i e1 e2
    rw[e1,hv _ e2]
    obtain⟨h1,⟨Q,h2,h3,h4⟩|⟨v,h2,h3⟩⟩:=h
    ·exact⟨h1,.inl ⟨Q,h2,h3,fun r os hq=>⟨(h4 r os hq).1,(h4 r os hq).2.1,st.objs,rfl,rfl,(h4 r os hq).2.2⟩⟩⟩
    ·exact⟨h1,.inr ⟨v,h2,st.objs,rfl,rfl,h3⟩⟩
   ·exact h.elim
 | false=>
  have hc1:cls M o≤1:=by
   rcases hc with hc|hc
   ·exact hc
   ·rw[(aCX hc).1] at hcl;cases hcl
  rw[pG hcl] at h ⊢
  unfold Val at *
  split at h
  ·rename_i hv
   have:=aCR rfl hc1 hv
   subst this
   rw[aIy (x:=x) rfl hc1 hv]
   exact⟨h.1,h.2.1,st.objs,rfl,rfl,h.2.2⟩
  ·exact h.elim
theorem aKg {o:Oper} {st:St} {x:AObj} {R:AV→List AObj→Prop} (hc:cls M o≤1∨cls M o=4) (h:Mid P G M ops o st R):Mid P G M ops o ⟨st.nt,st.slots,st.objs++[x]⟩ (fun v os=>∃ os0,os=os0++[x]∧os0.length=st.objs.length∧R v os0):=by
 cases hg:o.guard with
 | none=>
  rw[mX hg] at h ⊢
  exact aEf hc h
 | some g=>
  obtain⟨t,b,ht,hb,hd⟩:=mF hg h
  rw[hd] at h
  have:∀ R',Mid P G M ops o ⟨st.nt,st.slots,st.objs++[x]⟩ R'=(t<st.nt∧(b=true→Run P G M o ⟨st.nt,st.slots,st.objs++[x]⟩ R')∧(b=false→dOk st o.dst∧R' uav (st.objs++[x]))):=fun R'=>by
   unfold Mid
   rw[hg]
   simp only[ht,hb]
   rfl
  rw[this]
  exact⟨h.1,fun e=>aEf hc (h.2.1 e),fun e=>⟨(h.2.2 e).1,st.objs,rfl,rfl,(h.2.2 e).2⟩⟩
theorem aGt {o:Oper} (h:cls M o=3):∃ t,o.op=.alloc t:=by
 obtain⟨dst,op,ty,pos,af,g⟩:=o
 cases op<;>simp only[cls] at h<;>(try cases h)<;>(try (split at h<;>cases h))<;>(try exact⟨_,rfl⟩)
 case call c=>
  obtain⟨callee,args,ts⟩:=c
  cases callee with
  | value f=>
   simp only at h
   split at h
   ·cases h
   ·split at h
    ·cases h
    ·split at h<;>cases h
  | invoke r n=>simp at h
  | builtin b=>cases b<;>simp at h<;>(try (split at h<;>cases h))
theorem yD {o:Oper} {st:St} {R:AV→List AObj→Prop} {t:TypeId} (hg:o.guard=none) (ho:o.op=.alloc t):Mid P G M ops o st R↔∃ z,dS P t=some z∧dOk st o.dst∧R (.ptr st.objs.length 0) (st.objs++[.cells (z.map cav)]):=by
 rw[mX hg,pG (by simp[jS,ho])]
 unfold Val
 rw[ho]
 simp only[lZ,dF]
 cases dS P t with
 | none=>simp
 | some z=>simp
def qH (s s':St):Prop:=s.nt=s'.nt∧s.objs=s'.objs∧∀ i,lk s.slots i=lk s'.slots i
theorem qA (st:St) (d:Option Tmp) (v:AV) (os:List AObj):(st.put d v os).nt=st.nt:=by cases d<;>rfl
theorem lA (st:St) (d:Option Tmp) (v:AV) (os:List AObj):(st.put d v os).objs=os:=by cases d<;>rfl
theorem aMb (st:St) (d:Option Tmp) (v:AV) (os:List AObj) (t:Tmp) (h:∀ e,d=some e→e≠t):lk (st.put d v os).slots t=lk st.slots t:=by
 cases d with
 | none=>rfl
 | some e=>simp only[St.put,lk];rw[if_neg (h e rfl)]
theorem oX (st:St) (d e:Option Tmp) (v u:AV) (o1 o2 o3 o4:List AObj) (h:∀ x,d=some x→e≠some x) (ho:o2=o4):qH ((st.put d v o1).put e u o2) ((st.put e u o3).put d v o4):=by
 subst ho
 refine⟨by simp only[qA],by simp only[lA],fun i=>?_⟩
 cases d with
 | none=>cases e<;>rfl
 | some x=>cases e with
  | none=>rfl
  | some y=>
   have:y≠x:=fun e=>h x rfl (by rw[e])
   simp only[St.put,lk]
   by_cases h1:y=i
   ·subst h1
    rw[if_pos rfl,if_neg (Ne.symm this),if_pos rfl]
   ·rw[if_neg h1,if_neg h1]
def aIL (M:List Nat) (ops:Array Oper) (x y:Oper):Bool:=
 x.apart ops y&&(cls M x == 0 || cls M y == 0 || (cls M x≤1&&cls M y≤1) || (cls M y == 3&&y.guard.isNone&&(cls M x≤1 || cls M x == 4)))&&(!jS x || !jS y)
theorem aNc {oi oj:Oper} {st:St} {K:St→Prop} (hi:aIL M ops oi oj=true) (hK:∀ s s',qH s s'→K s→K s')
  (h:Mid P G M ops oi st (fun v os=>Mid P G M ops oj (st.put oi.dst v os) (fun u os'=>K ((st.put oi.dst v os).put oj.dst u os')))) :
  Mid P G M ops oj st (fun u os'=>Mid P G M ops oi (st.put oj.dst u os') (fun v os=>K ((st.put oj.dst u os').put oi.dst v os))):=by
 unfold aIL at hi
 simp only[Bool.and_eq_true,Bool.or_eq_true,beq_iff_eq,Bool.not_eq_true',decide_eq_true_eq] at hi
 obtain⟨⟨hap,hcl⟩,hcall⟩:=hi
 obtain⟨a1,a2,a3⟩:=Oper.apart_spec hap
 have lj:∀ v os,∀ t∈oj.looksAt ops,lk (st.put oi.dst v os).slots t=lk st.slots t:=fun v os t ht=>aMb _ _ _ _ _ fun e he h=>a1 e he (h ▸ ht)
 have li:∀ v os,∀ t∈oi.looksAt ops,lk (st.put oj.dst v os).slots t=lk st.slots t:=fun v os t ht=>aMb _ _ _ _ _ fun e he h=>a3 e he (h ▸ ht)
 have toj:∀ v R,Mid P G M ops oj (st.put oi.dst v st.objs) R→Mid P G M ops oj st R:=fun v R h=>lN (qA ..) (lA ..) (lj v _) h
 have toi:∀ v R,Mid P G M ops oi st R→Mid P G M ops oi (st.put oj.dst v st.objs) R:=fun v R h=>lN (qA ..).symm (lA ..).symm (fun t ht=>(li v _ t ht).symm) h
 rcases hcl with hcl|⟨⟨hc3,hgn⟩,hx⟩
 rotate_left
 ·obtain⟨t,ht⟩:=aGt hc3
  have hg:oj.guard=none:=by cases hq:oj.guard with
   | none=>rfl
   | some _=>rw[hq] at hgn;cases hgn
  obtain⟨v1,os1,hj⟩:=wL h
  obtain⟨z,hz,hd,_⟩:=(yD hg ht).1 hj
  refine(yD hg ht).2 ⟨z,hz,by unfold dOk at hd ⊢;split at hd<;>simp_all [qA],?_⟩
  have g:=aKg (x:=.cells (z.map cav)) hx h
  have g':=lN (st:=⟨st.nt,st.slots,st.objs++[.cells (z.map cav)]⟩) (st':=st.put oj.dst (.ptr st.objs.length 0) (st.objs++[.cells (z.map cav)])) (qA ..).symm (lA ..).symm (fun t ht=>(li _ _ t ht).symm) g
  refine iX ?_ g'
  rintro v os ⟨os0,rfl,hl,hm⟩
  obtain⟨z',hz',_,hk⟩:=(yD hg ht).1 hm
  rw[hz] at hz'
  injection hz' with hz'
  subst hz'
  rw[lA,hl] at hk
  exact hK _ _ (oX _ _ _ _ _ _ _ _ _ a2 rfl) hk
 cases hci:jS oi with
 | false=>
  obtain⟨v0,o0,hd⟩:=aDT hci h
  have h':=(hd _).1 h
  by_cases hj0:cls M oj=0
  ·have h2:=wK hj0 h' st.objs
   rw[lA,qA] at h2
   have h3:=lN (st:=⟨st.nt,(st.put oi.dst v0 o0).slots,st.objs⟩) (st':=st) rfl rfl (lj v0 o0) h2
   refine iX ?_ h3
   rintro u os' ⟨rfl,hk⟩
   refine toi u _ ((hd _).2 (hK _ _ (oX _ _ _ _ _ _ _ _ _ a2 rfl) hk))
  ·have hi1:cls M oi≤1:=by omega
   have ho:o0=st.objs:=((hd _).1 (wJ hi1 h)).1
   subst ho
   have h2:=toj _ _ h'
   by_cases hi0:cls M oi=0
   ·refine iX ?_ h2
    intro u os' hk
    have h3:=wK hi0 ((hd (fun v os=>v=v0∧os=st.objs)).2 ⟨rfl,rfl⟩) os'
    have h4:=lN (st:=⟨st.nt,st.slots,os'⟩) (st':=st.put oj.dst u os') (qA ..).symm (lA ..).symm (fun t ht=>(li u _ t ht).symm) h3
    refine iX ?_ h4
    rintro v os ⟨rfl,rfl,_⟩
    exact hK _ _ (oX _ _ _ _ _ _ _ _ _ a2 rfl) hk
   ·have hj1:cls M oj≤1:=by omega
    refine iX ?_ (wJ hj1 h2)
    rintro u os' ⟨rfl,hk⟩
    exact toi u _ ((hd _).2 (hK _ _ (oX _ _ _ _ _ _ _ _ _ a2 rfl) hk))
 | true=>
  have hcj:jS oj=false:=by rcases hcall with h|h<;>simp_all
  by_cases hbig:¬ cls M oi≤1
  ·have hj0:cls M oj=0:=by omega
   have conv:∀ v os R,Mid P G M ops oj (st.put oi.dst v os) R→Mid P G M ops oj st (fun u os'=>os'=st.objs∧R u os):=fun v os R h=>by
    have h2:=wK hj0 h st.objs
    rw[lA,qA] at h2
    exact lN (st:=⟨st.nt,(st.put oi.dst v os).slots,st.objs⟩) (st':=st) rfl rfl (lj v os) h2
   obtain⟨v1,os1,hj⟩:=wL h
   obtain⟨u0,o0,hd⟩:=aDT hcj (conv v1 os1 _ hj)
   refine(hd _).2 ?_
   have ho:o0=st.objs:=((hd _).1 (conv v1 os1 _ hj)).1
   subst ho
   refine toi _ _ (iX ?_ h)
   intro v os hm
   have hq:=(hd _).1 (conv v os _ hm)
   exact hK _ _ (oX _ _ _ _ _ _ _ _ _ a2 rfl) hq.2
  have hi1:cls M oi≤1:=Classical.not_not.1 hbig
  have hk:=wJ hi1 h
  obtain⟨v1,os1,e1,hj⟩:=wL hk
  subst e1
  obtain⟨u0,o0,hd⟩:=aDT hcj (toj _ _ hj)
  refine(hd _).2 ?_
  by_cases hj1:cls M oj≤1
  ·have ho:o0=st.objs:=((hd _).1 (wJ hj1 (toj _ _ hj))).1
   subst ho
   refine toi _ _ (iX ?_ hk)
   rintro v os ⟨rfl,hm⟩
   exact hK _ _ (oX _ _ _ _ _ _ _ _ _ a2 rfl) ((hd _).1 (toj _ _ hm))
  ·have hi0:cls M oi=0:=by omega
   have h4:=lN (st:=⟨st.nt,st.slots,o0⟩) (st':=st.put oj.dst u0 o0) (qA ..).symm (lA ..).symm (fun t ht=>(li u0 _ t ht).symm) (wK hi0 hk o0)
   refine iX ?_ h4
   rintro v os ⟨rfl,_,hm⟩
   exact hK _ _ (oX _ _ _ _ _ _ _ _ _ a2 rfl) ((hd _).1 (toj _ _ hm))
theorem qH.symm {s s':St} (h:qH s s'):qH s' s:=⟨h.1.symm,h.2.1.symm,fun i=>(h.2.2 i).symm⟩
theorem qH.trans {s s' s'':St} (h:qH s s') (h':qH s' s''):qH s s'':=⟨h.1.trans h'.1,h.2.1.trans h'.2.1,fun i=>(h.2.2 i).trans (h'.2.2 i)⟩
theorem qH.put {s s':St} (h:qH s s') (d:Option Tmp) (v:AV) (os:List AObj):qH (s.put d v os) (s'.put d v os):=by
 refine⟨by simp only[qA];exact h.1,by simp only[lA],fun i=>?_⟩
 cases d with
 | none=>exact h.2.2 i
 | some d=>simp only[St.put,lk];split<;>first|rfl|exact h.2.2 i
def aOp (P:Program) (G:Gl) (M:List Nat) (ops:Array Oper) (i:Nat) (K:St→Prop) (st:St):Prop:=
 match ops[i]? with
 | none=>K st
 | some o=>Mid P G M ops o st fun v os=>K (st.put o.dst v os)
def aDV (P:Program) (G:Gl) (M:List Nat) (ops:Array Oper) (Q:St→Prop):Nat→Array Bool→St→Prop
 | 0,listed,st=>Region.ready .any ops listed=[]∧Q st
 | fuel+1,listed,st=>(Region.ready .any ops listed=[]→Q st)∧∀ i∈Region.ready .any ops listed,aOp P G M ops i (aDV P G M ops Q fuel (listed.setIfInBounds i true)) st
theorem aKn {i:Nat} {K:St→Prop} {s s':St} (hk:∀ s s',qH s s'→K s→K s') (hs:qH s s') (h:aOp P G M ops i K s):aOp P G M ops i K s':=by
 unfold aOp at *
 cases ho:ops[i]? with
 | none=>rw[ho] at h;exact hk _ _ hs h
 | some o=>
  rw[ho] at h
  exact lN hs.1 hs.2.1 (fun t _=>hs.2.2 t) (iX (fun v os=>hk _ _ (hs.put _ _ _)) h)
theorem aCJ {Q:St→Prop} (hQ:∀ s s',qH s s'→Q s→Q s'):∀ (fuel:Nat) (listed:Array Bool) (s s':St),qH s s'→aDV P G M ops Q fuel listed s→aDV P G M ops Q fuel listed s'
 | 0,listed,s,s',hs,h=>⟨h.1,hQ _ _ hs h.2⟩
 | fuel+1,listed,s,s',hs,h=>⟨fun e=>hQ _ _ hs (h.1 e),fun i hi=>aKn (aCJ hQ fuel _) hs (h.2 i hi)⟩
theorem aGS {Q:St→Prop} (hQ:∀ s s',qH s s'→Q s→Q s') {i:Nat} {oi:Oper} (hi:ops[i]? = some oi) (W:Nat→Bool) (hWi:W i=true) :
  ∀ (fuel:Nat) (listed:Array Bool) (st:St),(∀ k,W k=true→listed.getD k true=false∧(k=i∨∃ o,ops[k]? = some o∧∃ e∈o.after,Region.binds .any e=true∧W e.on=true))→
   (∀ k o,ops[k]? = some o→W k=false→listed.getD k true=false→aIL M ops oi o=true)→i∈Region.ready .any ops listed→
   aOp P G M ops i (aDV P G M ops Q fuel (listed.setIfInBounds i true)) st→aDV P G M ops Q (fuel+1) listed st:=by
 intro fuel
 induction fuel with
 | zero=>
  intro listed st hW hind hr h
  refine⟨fun e=>(by rw[e] at hr;cases hr),fun j hj=>?_⟩
  by_cases hji:j=i
  ·subst hji;exact h
  ·exfalso
   have hm:=ready_mono hj hji
   unfold aOp at h
   rw[hi] at h
   obtain⟨v,os,h0⟩:=wL h
   rw[h0.1] at hm
   cases hm
 | succ fuel ih=>
  intro listed st hW hind hr h
  refine⟨fun e=>(by rw[e] at hr;cases hr),fun j hj=>?_⟩
  by_cases hji:j=i
  ·subst hji;exact h
  ·obtain⟨hjun,oj,hoj,hall⟩:=mem_ready.1 hj
   have hWj:W j=false:=by
    cases hw:W j with
    | false=>rfl
    | true=>
     obtain⟨h1,h2⟩:=hW j hw
     rcases h2 with h2|⟨o,ho,e,he,hb,hwe⟩
     ·exact absurd h2 hji
     ·rw[hoj] at ho
      injection ho with ho
      subst ho
      have h3:=hall e he hb
      have h4:=(hW _ hwe).1
      rcases Nat.lt_or_ge e.on listed.size with h'|h'
      ·simp[h'] at h3 h4;rw[h3] at h4;cases h4
      ·simp[Array.getElem?_eq_none h'] at h3
   have hin:=hind j oj hoj hWj hjun
   have h1:Mid P G M ops oi st fun v os=>Mid P G M ops oj (st.put oi.dst v os) fun u os'=>aDV P G M ops Q fuel ((listed.setIfInBounds i true).setIfInBounds j true) ((st.put oi.dst v os).put oj.dst u os'):=by
    unfold aOp at h
    rw[hi] at h
    refine iX (fun v os hk=>?_) h
    have h2:=hk.2 j (ready_mono hj hji)
    unfold aOp at h2
    rw[hoj] at h2
    exact h2
   have h2:=aNc hin (aCJ hQ fuel _) h1
   unfold aOp
   rw[hoj]
   refine iX (fun u os hk=>?_) h2
   refine ih (listed.setIfInBounds j true) _ (fun k hk=>?_) (fun k o hk hw hun=>hind k o hk hw ?_) (ready_mono hr (Ne.symm hji)) ?_
   ·refine⟨?_,(hW k hk).2⟩
    have hne:j≠k:=fun e=>by subst e;rw[hWj] at hk;cases hk
    rw[getD_set_ne true hne]
    exact(hW k hk).1
   ·by_cases hjk:j=k
    ·subst hjk;exact hjun
    ·rw[getD_set_ne true hjk] at hun;exact hun
   ·unfold aOp
    rw[hi]
    rw[Array.setIfInBounds_comm _ _ (Ne.symm hji)] at hk
    exact hk
def aMt (ops:Array Oper) (i:Nat):Array Bool:=
 (List.range ops.size).foldl (fun acc k=>acc.push (k == i || ((ops[k]?).map (·.after.any fun e=>Region.binds .any e&&acc.getD e.on false)).getD false)) #[]
def aOl (M:List Nat) (ops:Array Oper) (listed:Array Bool) (i:Nat) (oi:Oper) (W:Array Bool):Bool:=
 W.getD i false&&decide (W.size≤ops.size)&&(List.range ops.size).all fun k=>match ops[k]? with
  | none=>true
  | some o=>if W.getD k false then !listed.getD k true&&(k == i || o.after.any fun e=>Region.binds .any e&&W.getD e.on false) else listed.getD k true || aIL M ops oi o
def aLw (M:List Nat) (ops:Array Oper):Nat→Nat→Array Bool→Bool
 | 0,_,listed=>(Region.ready .any ops listed).isEmpty
 | fuel+1,k,listed=>(Region.ready .any ops listed).contains k&&(match ops[k]? with|some o=>aOl M ops listed k o (aMt ops k)|none=>false)&&aLw M ops fuel (k+1) (listed.setIfInBounds k true)
theorem aEk {Q:St→Prop} (hQ:∀ s s',qH s s'→Q s→Q s'):∀ (l:List Oper) (k:Nat) (listed:Array Bool) (st:St),(∀ j,l[j]? = ops[k+j]?)→aLw M ops l.length k listed=true→dG P G M ops l st Q→aDV P G M ops Q l.length listed st
 | [],k,listed,st,hl,hB,h=>⟨by simpa[aLw] using hB,h⟩
 | o::l,k,listed,st,hl,hB,h=>by
  have h0:ops[k]? = some o:=by simpa using(hl 0).symm
  simp only[List.length_cons,aLw,Bool.and_eq_true,h0] at hB
  obtain⟨⟨hr,hf⟩,hB'⟩:=hB
  unfold aOl at hf
  simp only[Bool.and_eq_true,decide_eq_true_eq,List.all_eq_true,List.mem_range] at hf
  obtain⟨⟨hWk,hsz⟩,hall⟩:=hf
  refine aGS hQ h0 (fun k'=>(aMt ops k).getD k' false) hWk l.length listed st (fun j hj=>?_) (fun j o' hj hw hun=>?_) (by simpa using hr) ?_
  ·have hlt:j<ops.size:=by
    rcases Nat.lt_or_ge j (aMt ops k).size with h'|h'
    ·omega
    ·simp[Array.getElem?_eq_none h'] at hj
   have:=hall j hlt
   rw[Array.getElem?_eq_getElem hlt] at this
   simp only[hj,if_true,Bool.and_eq_true,Bool.not_eq_true',Bool.or_eq_true,beq_iff_eq] at this
   refine⟨this.1,this.2.imp id fun h=>?_⟩
   rw[← Array.any_toList,List.any_eq_true] at h
   obtain⟨e,he,hb⟩:=h
   simp only[Bool.and_eq_true] at hb
   exact⟨_,Array.getElem?_eq_getElem hlt,e,by simpa using he,hb⟩
  ·have hlt:j<ops.size:=(Array.getElem?_eq_some_iff.1 hj).1
   have:=hall j hlt
   rw[hj] at this
   simp only[hw,hun,Bool.false_or,if_false,Bool.false_eq_true] at this
   exact this
  ·rw[oP] at h
   unfold aOp
   rw[h0]
   exact iX (fun v os hk=>aEk hQ l (k+1) _ _ (fun j=>by have:=hl (j+1);simpa[Nat.add_assoc,Nat.add_comm 1 j] using this) hB' hk) h
theorem Rep.same {E:Env} {s s':St} {a:Act} (hs:qH s s') (h:Rep G E s a):Rep G E s' a:=
 ⟨hs.1 ▸ h.size,fun i=>hs.2.2 i ▸ h.slots i,h.defers,hs.2.1 ▸ h.objs,h.glob⟩
theorem aEe {o:Oper} {a:Act} {w:World} {K K':Act→World→Prop} {Q Q':Exit→Act→World→Prop} (hk:∀ a w,K a w→K' a w) (hq:∀ e a w,e≠.normal→Q e a w→Q' e a w) (h:o.wp P a w K Q):o.wp P a w K' Q':=by
 unfold Oper.wp at h ⊢
 cases hr:(execOp a.eval o).run P w with
 | ok n w'=>
  rw[hr] at h
  cases n<;>simp only[Oper.upon] at h ⊢ <;> first
   | exact hk _ _ h
   | (refine Calls.mono h ?_
      intro e w'' hh
      cases e with
      | returned v=>exact hk _ _ hh
      | panicked chain=>exact hq _ _ _ (by simp) hh
      | outgrown=>obtain⟨a1,w1,h1⟩:=hh;exact⟨a1,w1,hq _ _ _ (by simp) h1⟩)
   | exact Rows.mono h fun _ _ hh=>hk _ _ hh
 | halt x w'=>
  rw[hr] at h
  cases x<;>simp only[Oper.upon] at h ⊢ <;> exact hq _ _ _ (by simp) h
theorem aIp {Q:Exit→Act→World→Prop} {i:Nat} {K:St→Prop} {K':Act→World→Prop} {st:St} {E:Env} {a:Act} (hr:Rep G E st a)
  (hk:∀ s E' a',K s→Rep G E' s a'→Ext E st.objs E' s.objs→K' a' E'.w) (h:aOp P G M ops i K st):wpOp P ops Q i K' a E.w:=by
 unfold aOp at h
 unfold wpOp
 cases ho:ops[i]? with
 | none=>
  rw[ho] at h
  exact hk _ E a h hr (.refl _ _)
 | some o=>
  rw[ho] at h
  simp only at h ⊢
  have h1:dG P G M ops [o] st ((fun (e:Exit) (s:St)=>e=.normal∧K s) .normal):=by
   rw[oP]
   exact iX (fun v os hk=>⟨rfl,hk⟩) h
  have h2:=jL (Q:=fun (e:Exit) (s:St)=>e=.normal∧K s) [o] st E a hr h1
  unfold wpList at h2
  have none':∀ e a w,RQ P G E st.objs (fun (e:Exit) (s:St)=>e=.normal∧K s) e a w→K' a w:=by
   rintro e a w ⟨s,E',rfl,⟨_,h1⟩,h2,h3⟩
   exact hk s E' a h1 h2 h3
  split
  ·rename_i hw
   rw[if_pos hw] at h2
   rcases h2 with h2|⟨_,a0,w0,s,E',_,⟨h3,_⟩,_⟩
   ·refine .inl ?_
    exact aEe (fun a w h=>none' _ a w h) (fun e a w hne ⟨s,E',_,⟨h,_⟩,_⟩=>absurd h hne) h2
   ·cases h3
  ·rename_i hw
   rw[if_neg hw] at h2
   exact none' _ _ _ h2
theorem aAa {Q:Exit→Act→World→Prop} {Q':St→Prop}:∀ (fuel:Nat) (listed:Array Bool) (st:St) (E:Env) (a:Act),Rep G E st a→
  (∀ s E' a',Q' s→Rep G E' s a'→Ext E st.objs E' s.objs→Q .normal a' E'.w)→aDV P G M ops Q' fuel listed st→wpAny P .any ops Q fuel listed a E.w
 | 0,listed,st,E,a,hr,hq,h=>⟨h.1,hq st E a h.2 hr (.refl _ _)⟩
 | fuel+1,listed,st,E,a,hr,hq,h=>⟨fun e=>hq st E a (h.1 e) hr (.refl _ _),fun i hi=>
   aIp hr (fun s E' a' hk hr' hx=>aAa fuel _ s E' a' hr' (fun s' E'' a'' h1 h2 h3=>hq s' E'' a'' h1 h2 (hx.trans h3)) hk) (h.2 i hi)⟩
def Env.drew (E:Env):Env:={ E with w:={ E.w with drawn:=E.w.drawn+1 } }
theorem qP (E:Env):Ext0 E E.drew:=⟨Nat.le_refl _,fun _ _=>Nat.le_refl _,fun _ _ _ _=>rfl,Nat.le_refl _,fun _ _=>.refl _⟩
theorem aJP {E:Env} {objs:List AObj} (h:bP E objs):bP E.drew objs:=by
 refine⟨h.1,fun r o hr=>?_,h.2.2⟩
 have:=h.2.1 r o hr
 cases o with
 | cells cs=>
  rcases this with e|⟨g,vs,t,fz,h1,h2,h3,h4,h5,h6⟩
  ·exact .inl e
  ·exact .inr ⟨g,vs,t,fz,h1,h2,h3,h4,h5,bY.mono (qP E) _ _ h6⟩
 | tok sz n=>exact this
 | map es=>
  obtain⟨g,ents,clock,h1,h2,h3,h4,h5⟩:=this
  exact⟨g,ents,clock,h1,h2,h3,h4,bY.mono (qP E) _ _ h5⟩
 | siter str pos=>exact this
 | dead=>exact this
theorem aLU {E:Env} {objs:List AObj}:Ext E objs E.drew objs:=
 { qP E with os:=rfl,tape:=rfl,output:=rfl,frame:=fun _ _ _=>⟨rfl,rfl⟩,own:=fun _ h _=>h }
theorem Rep.drew {E:Env} {st:St} {a:Act} (h:Rep G E st a):Rep G E.drew st a:=
 ⟨h.size,fun i=>bE.mono (qP E) _ _ (h.slots i),h.defers,aJP h.objs,h.glob.mono (qP E)⟩
theorem dW (M:List Nat) {st:St} {Q:Exit→St→Prop} {id:Nat} {l:List Oper} (hm:P.follows .mixedOrders=true) (hB:aLw M l.toArray l.length 0 (Array.replicate l.length false)=true)
  (h:dG P G M l.toArray l st (Q .normal)):awp P G (.region id l.toArray true) st Q:=fun E a hr=>by
 refine wp_region_any hm ?_
 have h1:aDV P G M l.toArray (fun s=>∃ s',qH s' s∧Q .normal s') l.length (Array.replicate l.length false) st:=by
  refine aEk (fun s s' hs ⟨s0,h1,h2⟩=>⟨s0,h1.trans hs,h2⟩) l 0 _ st (by simp) hB ?_
  exact vK (fun s h=>⟨s,⟨rfl,rfl,fun _=>rfl⟩,h⟩) l st h
 have h2:=aAa (P:=P) (Q:=fun e a' w'=>∃ st' E',E'.w=w'∧Q e st'∧Rep G E' st' a'∧Ext E st.objs E' st'.objs) l.length _ st E.drew a hr.drew (fun s E' a' ⟨s',hs,hq⟩ hr' hx=>by
  exact⟨s',E',rfl,hq,hr'.same ⟨hs.1.symm,hs.2.1.symm,fun i=>(hs.2.2 i).symm⟩,aLU.trans (hs.2.1 ▸ hx)⟩) h1
 simp only[List.size_toArray]
 exact h2
end
def dD (ops:Array Oper) (s:List (Nat×AV)) (j:Nat) (w:Bool):Option Bool:=match bT ops j with
 | some t=>aAC (lk s t) w
 | none=>none
def gok (ops:Array Oper) (nt j:Nat):Prop:=match bT ops j with
 | some t=>t<nt
 | none=>False
theorem aW:(∀ w,aAC (.val (.bool true)) w=some w)∧(∀ w,aAC (.val (.bool false)) w=some (!w))∧(∀ w x,aAC (.val (.tuple x)) w=some false)∧uav=.val (.tuple #[]):=by
 refine⟨?_,?_,?_,?_⟩<;>intros<;>rfl
theorem K_g {P:Program} {G:Gl} {M:List Nat} {ops:Array Oper} {rest:List Oper} {nt:Nat} {s:List (Nat×AV)} {os:List AObj} {K:St→Prop} {dst:Option Tmp} {op:Op} {ty:TypeId} {pos:String} {af:Array Edge} {j:Nat} {w c:Bool}
  (h:dD ops s j w=some c) :
  dG P G M ops (⟨dst,op,ty,pos,af,some (j,w)⟩::rest) ⟨nt,s,os⟩ K=(gok ops nt j∧(c=true→dG P G M ops (⟨dst,op,ty,pos,af,none⟩::rest) ⟨nt,s,os⟩ K)∧(c=false→dOk ⟨nt,s,os⟩ dst∧dG P G M ops rest ((⟨nt,s,os⟩:St).put dst uav os) K)):=by
 rw[oP,oP]
 unfold dD at h
 unfold gok Mid
 cases ht:bT ops j with
 | none=>rw[ht] at h;cases h
 | some t=>
  rw[ht] at h
  simp only[ht,h]
  rfl
theorem dQ {P:Program} {G:Gl} {M:List Nat} {ops:Array Oper} {rest:List Oper} {nt:Nat} {s:List (Nat×AV)} {os:List AObj} {K:St→Prop} {dst:Option Tmp} {op:Op} {ty:TypeId} {pos:String} {af:Array Edge} {j:Nat} {w:Bool}
  (h:dD ops s j w=some true) :
  dG P G M ops (⟨dst,op,ty,pos,af,some (j,w)⟩::rest) ⟨nt,s,os⟩ K=(gok ops nt j∧dG P G M ops (⟨dst,op,ty,pos,af,none⟩::rest) ⟨nt,s,os⟩ K):=by
 rw[K_g h];simp
theorem eW {P:Program} {G:Gl} {M:List Nat} {ops:Array Oper} {rest:List Oper} {nt:Nat} {s:List (Nat×AV)} {os:List AObj} {K:St→Prop} {dst:Option Tmp} {op:Op} {ty:TypeId} {pos:String} {af:Array Edge} {j:Nat} {w:Bool}
  (h:dD ops s j w=some false) :
  dG P G M ops (⟨dst,op,ty,pos,af,some (j,w)⟩::rest) ⟨nt,s,os⟩ K=(gok ops nt j∧dOk ⟨nt,s,os⟩ dst∧dG P G M ops rest ((⟨nt,s,os⟩:St).put dst uav os) K):=by
 rw[K_g h];simp
theorem kP {l:List UInt8} {i:Nat} (h:i<l.length):(Bs l).getD i .top=B (l.getD i 0):=by
 simp[Bs,List.getD_eq_getElem?_getD,List.getElem?_map,List.getElem?_eq_getElem h]
theorem fL {α:Type} (l:List α) (k i:Nat) (d:α):(l.drop k).getD i d=l.getD (k+i) d:=by simp[List.getD_eq_getElem?_getD,List.getElem?_drop]
theorem bG {P:Program} {G:Gl} {st:St} {Q:Exit→St→Prop} {t:Nat} {x y:Code} (h:lk st.slots t=.val (.bool true)) (hx:awp P G x st Q):awp P G (.cond (.tmp t) x y) st Q:=
 fB rfl h (fun _=>hx) (fun e=>by cases e)
theorem aR {P:Program} {G:Gl} {st:St} {Q:Exit→St→Prop} {t:Nat} {x y:Code} (h:lk st.slots t=.val (.bool false)) (hy:awp P G y st Q):awp P G (.cond (.tmp t) x y) st Q:=
 fB rfl h (fun e=>by cases e) (fun _=>hy)
theorem bQ (P:Program) (G:Gl) (M:List Nat) (ops:Array Oper) (rest:List Oper) (nt:Nat) (s:List (Nat×AV)) (os:List AObj) (K:St→Prop) (ty:TypeId) (pos:String) (af:Array Edge) (t:TypeId) (x y:Operand) :
  dG P G M ops (⟨none,.store t x y,ty,pos,af,none⟩::rest) ⟨nt,s,os⟩ K=lG (bX P t (ev G s x) (ev G s y) os) fun _ os'=>dG P G M ops rest ⟨nt,s,os'⟩ K:=
 (aF P G M ops rest nt s os K 0 ty pos af).2.2.2.2.2.2.2.2.1 t x y
theorem aOz (P:Program) (G:Gl) (M:List Nat) (ops:Array Oper) (rest:List Oper) (nt:Nat) (s:List (Nat×AV)) (os:List AObj) (K:St→Prop) (ty:TypeId) (pos:String) (af:Array Edge) (b:Builtin) (args:Array Operand) (ts:Array TypeId) :
  dG P G M ops (⟨none,.call ⟨.builtin b,args,ts⟩,ty,pos,af,none⟩::rest) ⟨nt,s,os⟩ K=lG (bI P false os b ts.toList (args.toList.map (ev G s))) fun v os'=>dG P G M ops rest ⟨nt,s,os'⟩ K:=
 (aF P G M ops rest nt s os K 0 ty pos af).2.2.2.2.2.2.2.2.2.2.2.2.2.2.2.2.2.2.2.2.2.2 b args ts
end Go.V
namespace Go.V
open Go.RowKit
set_option linter.unusedVariables false
def Env.start (w:World) (N:Nat):Env:=⟨w,fun _=>N,0,fun _=>undef⟩
theorem aEd (w:World) (N:Nat):bP (Env.start w N) []:=⟨rfl,fun r o h=>by simp at h,fun r r' o o' g h=>by simp at h⟩
theorem gE.noperm {G:Gl} {nt:Nat} {s:List (Nat×AV)} {os:List AObj} (i n:Nat) (cells:List AV) (p:Perm) (h:lk s i=.sl n cells p):gE G ⟨nt,s,os⟩ ⟨nt,(i,.sl n cells .no)::s,os⟩:=fun E a hr=>by
 refine⟨E,rfl,⟨hr.size,fun j=>?_,hr.defers,hr.objs,hr.glob⟩,.refl _ _⟩
 simp only[lk]
 split
 ·rename_i e
  subst e
  have hi:=hr.slots i
  simp only at hi
  rw[h] at hi
  simp only[bE] at hi ⊢
  obtain⟨A,cap,e1,e2,e3,_⟩:=hi
  exact⟨A,cap,e1,e2,e3,trivial⟩
 ·exact hr.slots j
theorem lH {P:Program} {G:Gl} {c:Code} {nt:Nat} {s:List (Nat×AV)} {os:List AObj} {Q:Exit→St→Prop} (i:Nat) {n:Nat} {cells:List AV} {p:Perm} (h:lk s i=.sl n cells p)
  (hq:awp P G c ⟨nt,(i,.sl n cells .no)::s,os⟩ Q):awp P G c ⟨nt,s,os⟩ Q:=eX (.noperm i n cells p h) hq
end Go.V
namespace Go.V
theorem aHJ (a n:Nat):Int.tmod (a:Int) (no_index (@OfNat.ofNat Int n _))=((a%(@OfNat.ofNat Nat n _):Nat):Int):=rfl
theorem gO (a n:Nat):(a:Int)+(no_index (@OfNat.ofNat Int n _))=((a+(@OfNat.ofNat Nat n _):Nat):Int):=rfl
theorem aMG (a n:Nat):(no_index (@OfNat.ofNat Int n _))+(a:Int)=(((@OfNat.ofNat Nat n _)+a:Nat):Int):=rfl
theorem aPe (a n:Nat):(no_index (@OfNat.ofNat Int n _))*(a:Int)=(((@OfNat.ofNat Nat n _)*a:Nat):Int):=rfl
theorem oW (a b:Nat):(a:Int)+(b:Int)=((a+b:Nat):Int):=rfl
theorem aTS (a b:Nat):(a:Int)*(b:Int)=((a*b:Nat):Int):=rfl
theorem rV (a k:Nat):Int.fdiv (a:Int) (2^k)=((a/2^k:Nat):Int):=by
 rw[Int.fdiv_eq_ediv_of_nonneg _ (by exact Int.le_of_lt (Int.pow_pos (by omega)))]
 rw[show (2:Int)^k=((2^k:Nat):Int) from by simp]
 rfl
theorem aCq (a k:Nat):(a:Int)*2^k=((a*2^k:Nat):Int):=by simp
theorem aPf (k n:Nat):(no_index (@OfNat.ofNat Int n _))*(2:Int)^k=(((@OfNat.ofNat Nat n _)*2^k:Nat):Int):=by
 have:=aCq (@OfNat.ofNat Nat n _) k
 exact this
theorem aJf (n:Nat):IntKind.u8.wrap (n:Int)=((n%256:Nat):Int):=by simp[IntKind.wrap,IntKind.bits,IntKind.signed]
theorem aTi (n:Nat):IntKind.u16.wrap (n:Int)=((n%65536:Nat):Int):=by simp[IntKind.wrap,IntKind.bits,IntKind.signed]
theorem qV (n:Nat):IntKind.u32.wrap (n:Int)=((n%4294967296:Nat):Int):=by simp[IntKind.wrap,IntKind.bits,IntKind.signed]
theorem tN (n:Nat):IntKind.u64.wrap (n:Int)=((n%18446744073709551616:Nat):Int):=by simp[IntKind.wrap,IntKind.bits,IntKind.signed]
theorem fD {n:Nat} (h:n<9223372036854775808):IntKind.i64.wrap (n:Int)=(n:Int):=by
 simp[IntKind.wrap,IntKind.bits,IntKind.signed]
 omega
theorem lY {n:Int} (h0:-9223372036854775808≤n) (h1:n≤9223372036854775807):IntKind.i64.wrap n=n:=by
 simp[IntKind.wrap,IntKind.bits,IntKind.signed]
 omega
theorem nM (k:IntKind) (a b:Nat) (hs:∀ n:Nat,n<2^k.bits→k.wrap (n:Int)=(n:Int)) :
  bits .and k a b=(((a &&& b)%2^k.bits:Nat):Int)∧bits .or k a b=(((a ||| b)%2^k.bits:Nat):Int)∧bits .xor k a b=(((a ^^^ b)%2^k.bits:Nat):Int):=by
 refine⟨?_,?_,?_⟩
 all_goals
  simp only[bits,BitVec.ofInt_natCast,BitVec.toNat_and,BitVec.toNat_or,BitVec.toNat_xor,BitVec.toNat_ofNat]
  rw[hs]
 ·rw[Nat.and_mod_two_pow]
 ·exact Nat.and_lt_two_pow _ (Nat.mod_lt _ (Nat.two_pow_pos _))
 ·rw[Nat.or_mod_two_pow]
 ·exact Nat.or_lt_two_pow (Nat.mod_lt _ (Nat.two_pow_pos _)) (Nat.mod_lt _ (Nat.two_pow_pos _))
 ·rw[Nat.xor_mod_two_pow]
 ·exact Nat.xor_lt_two_pow (Nat.mod_lt _ (Nat.two_pow_pos _)) (Nat.mod_lt _ (Nat.two_pow_pos _))
theorem hs8 (n:Nat) (h:n<2^IntKind.u8.bits):IntKind.u8.wrap (n:Int)=(n:Int):=by
 rw[aJf];simp[IntKind.bits] at h;omega
theorem aPT (n:Nat) (h:n<2^IntKind.u32.bits):IntKind.u32.wrap (n:Int)=(n:Int):=by
 rw[qV];simp[IntKind.bits] at h;omega
theorem uV (n:Nat) (h:n<2^IntKind.u64.bits):IntKind.u64.wrap (n:Int)=(n:Int):=by
 rw[tN];simp[IntKind.bits] at h;omega
theorem aPc (a b:Nat):bits .and .u8 (a:Int) (b:Int)=(((a &&& b)%256:Nat):Int):=(nM .u8 a b hs8).1
theorem aOo (a b:Nat):bits .or .u8 (a:Int) (b:Int)=(((a ||| b)%256:Nat):Int):=(nM .u8 a b hs8).2.1
theorem aMH (a b:Nat):bits .xor .u8 (a:Int) (b:Int)=(((a ^^^ b)%256:Nat):Int):=(nM .u8 a b hs8).2.2
theorem aIQ (a b:Nat):bits .and .u32 (a:Int) (b:Int)=(((a &&& b)%4294967296:Nat):Int):=(nM .u32 a b aPT).1
theorem aME (a b:Nat):bits .or .u32 (a:Int) (b:Int)=(((a ||| b)%4294967296:Nat):Int):=(nM .u32 a b aPT).2.1
theorem oF (a b:Nat):bits .xor .u32 (a:Int) (b:Int)=(((a ^^^ b)%4294967296:Nat):Int):=(nM .u32 a b aPT).2.2
theorem aOF (a b:Nat):bits .and .u64 (a:Int) (b:Int)=(((a &&& b)%18446744073709551616:Nat):Int):=(nM .u64 a b uV).1
theorem aPd (a b:Nat):bits .or .u64 (a:Int) (b:Int)=(((a ||| b)%18446744073709551616:Nat):Int):=(nM .u64 a b uV).2.1
theorem aMF (a n:Nat):bits .or .u8 (a:Int) (no_index (@OfNat.ofNat Int n _))=(((a ||| (@OfNat.ofNat Nat n _))%256:Nat):Int):=aOo a n
theorem aNB (n:Nat):AV.val (.int .u8 ((n%256:Nat):Int))=B (UInt8.ofNat n):=by
 simp[B]
theorem aHy (l:List UInt8) (b:UInt8):Bs l++[B b]=Bs (l++[b]):=by simp[Bs]
theorem aCB (a n:Nat):decide ((a:Int)<(no_index (@OfNat.ofNat Int n _)))=decide (a<(@OfNat.ofNat Nat n _)):=by
 apply decide_eq_decide.2
 exact Int.ofNat_lt
theorem yM (a n:Nat):decide ((a:Int) > (no_index (@OfNat.ofNat Int n _)))=decide ((@OfNat.ofNat Nat n _)<a):=by
 apply decide_eq_decide.2
 exact Int.ofNat_lt
theorem aLQ (a n:Nat):decide ((a:Int)≤(no_index (@OfNat.ofNat Int n _)))=decide (a≤(@OfNat.ofNat Nat n _)):=by
 apply decide_eq_decide.2
 exact Int.ofNat_le
theorem jM (a b:Nat):decide ((a:Int)<(b:Int))=decide (a<b):=by
 apply decide_eq_decide.2
 exact Int.ofNat_lt
theorem wY (a n:Nat):((a:Int) == (no_index (@OfNat.ofNat Int n _)))=(a == (@OfNat.ofNat Nat n _)):=by
 rw[Bool.eq_iff_iff]
 simp only[beq_iff_eq]
 exact Int.ofNat_inj
theorem aOj (a b:Nat):((a:Int) == (b:Int))=(a == b):=by
 rw[Bool.eq_iff_iff]
 simp only[beq_iff_eq]
 exact Int.ofNat_inj
theorem aLR (a n:Nat):((a:Int) != (no_index (@OfNat.ofNat Int n _)))=(a != (@OfNat.ofNat Nat n _)):=by unfold bne;rw[wY]
theorem aLS (a b:Nat):((a:Int) != (b:Int))=(a != b):=by unfold bne;rw[aOj]
theorem dJ (l:List UInt8):(ByteArray.mk l.toArray).size=l.length:=by simp[ByteArray.size]
theorem jQ (l:List UInt8) (i j:Nat):(ByteArray.mk l.toArray).extract i j=⟨((l.drop i).take (j - i)).toArray⟩:=by
 apply ByteArray.ext
 rw[ByteArray.data_extract]
 simp
end Go.V
namespace Go.V
set_option linter.unusedVariables false
def aOf (k:IntKind) (w:World) (a:Option Addr) (len cap:Nat) (zs:List Int):Prop:=
 (a=none∧len=0∧cap=0∧zs=[])∨
 ∃ x,a=some x∧len≤cap∧cap≤maxLen∧zs.length=cap∧(∀ i,i<zs.length→w.cell? (x.add i)=some (.int k (zs.getD i 0)))∧∀ n∈zs,(Lit.int k n).wf=true
theorem aDs {w:World} {g o:Nat} {v:Value} (h:w.cell? ⟨g,o,none⟩=some v):g<w.heap.size:=by
 rcases Nat.lt_or_ge g w.heap.size with h'|h'
 ·exact h'
 ·simp[World.cell?,Array.getElem?_eq_none h'] at h
theorem aOf.bytes {w:World} {a:Option Addr} {len cap:Nat} {zs:List Int} (h:aOf .u8 w a len cap zs) :
  ∃ (l:List UInt8) (N:Nat),l.length=len∧len≤9223372036854775807∧∀ M,N≤M→bE (Env.start w M) (.sl l.length (Bs l) .no) (.slice a len cap):=by
 rcases h with⟨rfl,rfl,rfl,rfl⟩|⟨x,rfl,hl,hm,hz,hcell,hwf⟩
 ·refine⟨[],0,rfl,by omega,fun M _=>?_⟩
  simp only[bE]
  exact⟨none,0,rfl,Nat.le_refl _,.inl rfl,trivial⟩
 ·have hm':cap≤9223372036854775807:=hm
  by_cases h0:len=0
  ·subst h0
   refine⟨[],0,rfl,by omega,fun M _=>?_⟩
   simp only[bE]
   exact⟨_,cap,rfl,hl,.inl rfl,trivial⟩
  ·obtain⟨b,off,rfl,hc⟩:=ints_at hcell (by omega)
   refine⟨(zs.take len).map fun z=>UInt8.ofNat z.toNat,off+len,by simp;omega,by omega,fun M hM=>?_⟩
   simp only[bE]
   have hlen:((zs.take len).map fun z=>UInt8.ofNat z.toNat).length=len:=by simp;omega
   refine⟨_,cap,by rw[hlen],by rw[hlen];exact hl,.inr ⟨b,off,rfl,aDs (hc 0 (by omega)),?_,eD.of_cell fun i c hi=>?_⟩,trivial⟩
   ·simp only[Bs,List.length_map]
    simp only[Env.start]
    rw[List.length_take]
    omega
   ·have hi':i<len:=by
     have:=(List.getElem?_eq_some_iff.1 hi).1
     simp only[Bs,List.length_map,List.length_take] at this
     omega
    refine⟨_,hc i (by omega),?_⟩
    simp only[Bs,List.map_map,List.getElem?_map,List.getElem?_take,hi',if_true] at hi
    have hz':zs[i]? = some (zs.getD i 0):=by
     rw[List.getD_eq_getElem?_getD,List.getElem?_eq_getElem (show i<zs.length by omega)]
     rfl
    rw[hz'] at hi
    simp only[Option.map_some,Option.some.injEq] at hi
    subst hi
    have hb:=bounds_u8 (hwf (zs.getD i 0) (by
     rw[List.getD_eq_getElem?_getD,List.getElem?_eq_getElem (show i<zs.length by omega)]
     exact List.getElem_mem _))
    simp only[Function.comp,B,bE]
    congr 1
    simp only[UInt8.toNat_ofNat']
    omega
def I (k:IntKind) (z:Int):AV:=.val (.int k z)
def Is (k:IntKind) (l:List Int):List AV:=l.map (I k)
theorem dZ (k:IntKind) (l:List Int):(Is k l).length=l.length:=by simp[Is]
theorem aAY (k:IntKind):Is k []=[]:=rfl
theorem aNL (k:IntKind) (z:Int) (l:List Int):I k z::Is k l=Is k (z::l):=rfl
theorem aIl (k:IntKind) (a b:List Int):Is k (a++b)=Is k a++Is k b:=by simp[Is]
theorem nX (k:IntKind) (l:List Int) (n:Nat):(Is k l).take n=Is k (l.take n):=by simp[Is]
theorem mS (k:IntKind) (l:List Int) (n:Nat):(Is k l).drop n=Is k (l.drop n):=by simp[Is]
theorem aTv {k:IntKind} {l:List Int} {i:Nat} (h:i<l.length):(Is k l).getD i .top=I k (l.getD i 0):=by
 simp[Is,List.getD_eq_getElem?_getD,List.getElem?_map,List.getElem?_eq_getElem h]
theorem vF (k:IntKind) (l:List Int):(Is k l).all dC=true:=by
 induction l with
 | nil=>rfl
 | cons x l ih=>simp only[Is,List.map_cons,List.all_cons] at *;rw[ih];rfl
theorem eC (k:IntKind) (l:List Int):aM (Is k l)=true:=by induction l<;>simp_all [Is,I,aM,aH]
theorem fC (k:IntKind) (l:List Int):jE (Is k l)=true:=by induction l<;>simp_all [Is,I,jE,flat]
theorem aGO {k:IntKind} {l:List Int} {i:Nat} {z:Int} (h:i<l.length):Is k (l.take i)++[AV.val (.int k z)]++Is k (l.drop (i+1))=Is k (l.set i z):=by
 rw[List.set_eq_take_append_cons_drop,if_pos h,aIl,← aNL]
 simp[I]
theorem aQL (k:IntKind) (z:Int):I k z=.val (.int k z):=rfl
def aAe (place:Nat→Option (Nat×Nat)) (cells:List AV):List (Nat×AV)→Option (List AV)
 | []=>some cells
 | (i,v)::rest=>match place i with
  | none=>none
  | some (off,size)=>if ((bB v).length == size&&decide (off+size≤cells.length)&&(bB v).all dC)=true then aAe place (spl cells off (bB v)) rest else none
theorem wO {place:Nat→Option (Nat×Nat)}:∀ {parts:List (Nat×AV)} {cells r:List AV},aAe place cells parts=some r→∃ C:Prop,eM place cells parts=some (C,r)∧C
 | [],cells,r,h=>by
  simp only[aAe,Option.some.injEq] at h
  subst h
  exact⟨True,rfl,trivial⟩
 | (i,v)::rest,cells,r,h=>by
  unfold aAe at h
  unfold eM
  cases hp:place i with
  | none=>rw[hp] at h;cases h
  | some x=>
   obtain⟨off,size⟩:=x
   rw[hp] at h
   simp only at h ⊢
   split at h
   case isFalse=>cases h
   rename_i hc
   simp only[Bool.and_eq_true,beq_iff_eq,decide_eq_true_eq] at hc
   obtain⟨C,h1,h2⟩:=wO h
   rw[h1]
   exact⟨_,rfl,⟨hc.1.1,hc.1.2,hc.2⟩,h2⟩
theorem aEZ (k:IntKind) (n:Nat):(zvs k n).map cav=Is k (List.replicate n 0):=by
 simp only[zvs,Is,List.map_replicate]
 rfl
theorem aNY {P:Program} {t e:TypeId} {n sz:Nat} {z:List Value} {parts:List (Nat×AV)} {k:AV→Prop} (cells:List AV) (hu:P.underlying t=some (.array n e)) (hs:tsz P e=some sz) (hz:dS P t=some z)
  (hB:aAe (fun i=>some (i*sz,sz)) (z.map cav) parts=some cells) (hk:k (.agg cells)):gS (fA P t parts) k:=by
 obtain⟨C,h1,h2⟩:=wO hB
 unfold fA
 rw[hu]
 simp only[hs,hz]
 rw[h1]
 exact⟨h2,hk⟩
theorem ACalls.g {P:Program} {G:Gl} {f:FuncId} {args:List AV} {outs:List AObj} {Q:AV→List AObj→Prop} (h:ACalls P G0 f args outs Q):ACalls P G f args outs Q:=
 ⟨h.1,fun E vs h1 h2 _=>h.2 E vs h1 h2 (fun g cells hm=>by simp[G0] at hm)⟩
open RowKit in
theorem aFX {P:Program} {G:Gl} {f:FuncId} {args:List AV} {vs:List Value} (h:ACalls P G f args [] (fun r os=>os=[]∧r=.val (.bool true))) (w:World) (N:Nat) (hG:GOk (Env.start w N) G) (hr:bY (Env.start w N) args vs) :
  Calls P f vs.toArray w fun e w'=>e=.returned (.bool true)∧Below w.heap.size w w':=by
 refine(h.2 (Env.start w N) vs hr (aEd w N) hG).mono ?_
 rintro e w' ⟨E',v,r,outs',rfl,rfl,⟨rfl,rfl⟩,hv,ho,hx⟩
 simp only[bE] at hv
 subst hv
 refine⟨rfl,hx.os,hx.tape,hx.output,hx.size,fun k hk=>(hx.frame k hk ?_).1⟩
 rintro⟨r,o,h1,_⟩
 simp at h1
end Go.V
namespace Go.V
set_option linter.unusedVariables false
set_option linter.unusedSimpArgs false
theorem gE.freeze {G:Gl} {nt:Nat} {s:List (Nat×AV)} {os:List AObj} (i r:Nat) (c:AV) (cs:List AV) (h:lk s i=.ptr r 0) (ho:os[r]? = some (.cells (c::cs))) (hn:aM (c::cs)=true) :
  gE G ⟨nt,s,os⟩ ⟨nt,(i,.cptr (c::cs))::s,os.set r .dead⟩:=fun E a hr=>by
 have hi:=hr.slots i
 simp only at hi
 rw[h] at hi
 simp only[bE] at hi
 obtain⟨hrk,g0,hρ0,hv⟩:=hi
 obtain⟨hk,hobj,hdis⟩:=hr.objs
 rcases hobj r _ ho with e|⟨g,vs,t,fz,hρ,hh,hfz,hlim,hlen,hrep⟩
 ·cases e
 have eg:g0=g:=by
  rw[hρ0] at hρ
  injection hρ with hρ
  injection hρ with hρ
  injection hρ with hρ
 subst eg
 have hown:dI (.cells (c::cs)) (E.ρ r)=some g0:=by rw[hρ];rfl
 have hgs:g0<E.w.heap.size:=vV hh
 let E':Env:={ E with lim:=fun x=>if x=g0 then (c::cs).length else E.lim x }
 have hle:∀ x,E.lim x≤E'.lim x:=fun x=>by
  show E.lim x≤if x=g0 then _ else _
  split
  ·rename_i e;subst e;rw[hlim];exact Nat.zero_le _
  ·exact Nat.le_refl _
 have hne:∀ x,x≠g0→E'.lim x=E.lim x:=fun x hx=>if_neg hx
 have hx:Ext0 E E':=⟨Nat.le_refl _,fun x _=>hle x,fun _ _ _ _=>rfl,Nat.le_refl _,fun _ _=>.refl _⟩
 have hset:∀ (r':Nat) (o:AObj),(os.set r .dead)[r']? = some o→o=.dead∨(r'≠r∧os[r']? = some o):=by
  intro r' o h'
  rw[List.getElem?_set] at h'
  split at h'
  ·split at h'
   ·injection h' with h';exact .inl h'.symm
   ·cases h'
  ·rename_i hne';exact .inr ⟨fun e=>hne' e.symm,h'⟩
 refine⟨E',rfl,⟨hr.size,fun j=>?_,hr.defers,⟨by simpa using hk,fun r' o h'=>?_,fun r1 r2 o1 o2 x h1 h2 b1 b2=>?_⟩,hr.glob.mono hx⟩,?_⟩
 ·simp only[lk]
  split
  ·rename_i e
   subst e
   rw[hv]
   simp only[bE]
   refine⟨g0,0,rfl,hgs,?_,?_⟩
   ·show 0+(c::cs).length≤if g0=g0 then _ else _
    rw[if_pos rfl,Nat.zero_add]
    exact Nat.le_refl _
   ·have h1:eD E g0 0 (c::cs):=hrep.at_ (off:=0) hh
    exact jB (E:=E) (E':=E') rfl (fun x _=>hle x) g0 _ _ hn h1
  ·exact bE.mono hx _ _ (hr.slots j)
 ·rcases hset r' o h' with rfl|⟨hne',h''⟩
  ·trivial
  ·refine(hobj r' o h'').stay hx fun x hb=>⟨rfl,hne x fun e=>?_⟩
   subst e
   exact hne' (hdis r' r o _ x h'' ho hb hown)
 ·rcases hset r1 o1 h1 with rfl|⟨_,h1'⟩
  ·simp[dI] at b1
  ·rcases hset r2 o2 h2 with rfl|⟨_,h2'⟩
   ·simp[dI] at b2
   ·exact hdis r1 r2 o1 o2 x h1' h2' b1 b2
 ·refine { hx with os:=rfl,tape:=rfl,output:=rfl,frame:=fun x hx' hno=>⟨rfl,hne x fun e=>hno ?_⟩,own:=fun x hw _=>?_ }
  ·subst e
   exact⟨r,_,ho,hown⟩
  ·obtain⟨r',o,h',hb⟩:=hw
   rcases hset r' o h' with rfl|⟨_,h''⟩
   ·simp[dI] at hb
   ·exact⟨r',o,h'',hb⟩
theorem iH {P:Program} {G:Gl} {c:Code} {nt:Nat} {s:List (Nat×AV)} {os:List AObj} {Q:Exit→St→Prop} (i r:Nat) (cs:List AV) (h:lk s i=.ptr r 0) (ho:os[r]? = some (.cells cs)) (hp:0<cs.length) (hn:aM cs=true)
  (hq:awp P G c ⟨nt,(i,.cptr cs)::s,os.set r .dead⟩ Q):awp P G c ⟨nt,s,os⟩ Q:=by
 cases cs with
 | nil=>simp at hp
 | cons c0 cs=>exact eX (.freeze i r c0 cs h ho hn) hq
theorem ACalls.args {P:Program} {G:Gl} {f:FuncId} {as_ as':List AV} {outs:List AObj} {Q:AV→List AObj→Prop} (h:ACalls P G f as_ outs Q) (ha:∀ E vs,bY E as' vs→bY E as_ vs):ACalls P G f as' outs Q:=
 ⟨h.1,fun E vs hl ho hG=>h.2 E vs (ha E vs hl) ho hG⟩
theorem bE.noperm {E:Env} {n:Nat} {cells:List AV} {p:Perm} {v:Value} (h:bE E (.sl n cells p) v):bE E (.sl n cells .no) v:=by
 simp only[bE] at h ⊢
 obtain⟨A,cap,h1,h2,h3,_⟩:=h
 exact⟨A,cap,h1,h2,h3,trivial⟩
theorem bY.noperm {E:Env} {n:Nat} {cells:List AV} {p:Perm} {r:List AV} {vs:List Value} (h:bY E (.sl n cells p::r) vs):bY E (.sl n cells .no::r) vs:=by
 simp only[bY] at h ⊢
 obtain⟨v,vs',h1,h2,h3⟩:=h
 exact⟨v,vs',h1,h2.noperm,h3⟩
theorem gE.dead {G:Gl} {nt:Nat} {s:List (Nat×AV)} {os:List AObj} (r:Nat):gE G ⟨nt,s,os⟩ ⟨nt,s,os.set r .dead⟩:=fun E a hr=>by
 obtain⟨hk,hobj,hdis⟩:=hr.objs
 have hset:∀ (r':Nat) (o:AObj),(os.set r .dead)[r']? = some o→o=.dead∨os[r']? = some o:=by
  intro r' o h'
  rw[List.getElem?_set] at h'
  split at h'
  ·split at h'
   ·injection h' with h';exact .inl h'.symm
   ·cases h'
  ·exact .inr h'
 refine⟨E,rfl,⟨hr.size,hr.slots,hr.defers,⟨by simpa using hk,fun r' o h'=>?_,fun r1 r2 o1 o2 x h1 h2 b1 b2=>?_⟩,hr.glob⟩,?_⟩
 ·rcases hset r' o h' with rfl|h''
  ·trivial
  ·exact hobj r' o h''
 ·rcases hset r1 o1 h1 with rfl|h1'
  ·simp[dI] at b1
  ·rcases hset r2 o2 h2 with rfl|h2'
   ·simp[dI] at b2
   ·exact hdis r1 r2 o1 o2 x h1' h2' b1 b2
 ·refine { Ext0.refl E with os:=rfl,tape:=rfl,output:=rfl,frame:=fun x hx' hno=>⟨rfl,rfl⟩,own:=fun x hw _=>?_ }
  obtain⟨r',o,h',hb⟩:=hw
  rcases hset r' o h' with rfl|h''
  ·simp[dI] at hb
  ·exact⟨r',o,h'',hb⟩
theorem lT {P:Program} {G:Gl} {c:Code} {nt:Nat} {s:List (Nat×AV)} {os:List AObj} {Q:Exit→St→Prop} (r:Nat) (hq:awp P G c ⟨nt,s,os.set r .dead⟩ Q):awp P G c ⟨nt,s,os⟩ Q:=eX (.dead r) hq
def dd (n:Nat):List AObj:=List.replicate n .dead
theorem iS (n:Nat):(dd n).length=n:=List.length_replicate ..
theorem oR (n:Nat) (x:AObj):(dd n++[x])[n]? = some x:=by
 rw[List.getElem?_append_right (by rw[iS];exact Nat.le_refl _),iS,Nat.sub_self]
 rfl
theorem lU (n:Nat) (x y:AObj):(dd n++[x]).set n y=dd n++[y]:=by
 rw[List.set_append_right _ _ (by rw[iS];exact Nat.le_refl _),iS,Nat.sub_self]
 rfl
theorem rN (n:Nat):dd n++[.dead]=dd (n+1):=by
 unfold dd
 rw[List.replicate_succ']
abbrev eK:=UInt8×List UInt8
def FA (f:eK):List AV:=[B f.1,.val (.string ⟨f.2.toArray⟩)]
def Fs (l:List eK):List AV:=l.flatMap FA
theorem lM (f:eK):(FA f).length=2:=rfl
theorem qE (l:List eK):(Fs l).length=l.length*2:=by
 induction l with
 | nil=>rfl
 | cons f l ih=>simp only[Fs,List.flatMap_cons,List.length_append,List.length_cons] at *;rw[ih,lM];omega
theorem aIk (a b:List eK):Fs (a++b)=Fs a++Fs b:=by simp[Fs]
theorem aOw (f:eK):Fs [f]=FA f:=by simp[Fs]
theorem aNI (l:List eK):∀ i,(Fs l).drop (i*2)=Fs (l.drop i):=by
 induction l with
 | nil=>intro i;simp[Fs]
 | cons f l ih=>
  intro i
  cases i with
  | zero=>simp
  | succ i=>
   have:=ih i
   simp only[Fs,List.flatMap_cons,List.drop_succ_cons] at *
   rw[show (i+1)*2=i*2+1+1 by omega]
   exact this
theorem aKb (f:eK) (l:List eK):(Fs (f::l)).take 2=FA f:=rfl
theorem aKa {l:List eK} {i:Nat} (h:i<l.length) (d:eK):((Fs l).drop (i*2)).take 2=FA (l.getD i d):=by
 rw[aNI]
 have:l.drop i=l.getD i d::l.drop (i+1):=by
  rw[List.getD_eq_getElem?_getD,List.getElem?_eq_getElem h]
  exact List.drop_eq_getElem_cons h
 rw[this,aKb]
theorem yU (f:eK):aM (FA f)=true:=rfl
theorem qX (l:List eK):aM (Fs l)=true:=by
 induction l with
 | nil=>rfl
 | cons f l ih=>rw[show Fs (f::l)=FA f++Fs l from rfl,dK,ih];rfl
theorem wH (f:eK):(FA f).all dC=true:=rfl
def aJt (is:List Nat):AV→Option AV
 | .ptr r off=>if is.contains r then some (.ptr (is.idxOf r) off) else none
 | .sl m cells (.tok r)=>if is.contains r=true∧aM cells=true then some (.sl m cells (.tok (is.idxOf r))) else none
 | a=>if aH a=true then some a else none
theorem aHS {E E2:Env} {is:List Nat} (hw:E2.w=E.w) (hl:E2.lim=E.lim) (hk:E2.k=is.length) (hρ:∀ i,i<is.length→E2.ρ i=E.ρ (is.getD i 0)) {a a':AV} {v:Value} (h:aJt is a=some a') (hr:bE E a v):bE E2 a' v:=by
 have at':∀ r,is.contains r=true→is.idxOf r<E2.k∧E2.ρ (is.idxOf r)=E.ρ r:=fun r hc=>by
  have hm:r∈is:=by simpa using hc
  have hlt:=List.idxOf_lt_length_iff.2 hm
  refine⟨by rw[hk];exact hlt,?_⟩
  rw[hρ _ hlt,List.getD_eq_getElem?_getD,List.getElem?_eq_getElem hlt]
  simp
 unfold aJt at h
 split at h
 ·rename_i r off
  split at h
  case isFalse=>cases h
  rename_i hc
  injection h with h
  subst h
  simp only[bE] at hr ⊢
  obtain⟨_,g,hg,hv⟩:=hr
  exact⟨(at' r hc).1,g,by rw[(at' r hc).2];exact hg,hv⟩
 ·rename_i m cells r
  split at h
  case isFalse=>cases h
  rename_i hc
  injection h with h
  subst h
  simp only[bE] at hr ⊢
  obtain⟨A,cap,hv,hn,hcs,hp⟩:=hr
  refine⟨A,cap,hv,hn,?_,?_⟩
  ·rcases hcs with e|⟨g,o,hA,hg,ho,hat⟩
   ·exact .inl e
   ·exact .inr ⟨g,o,hA,by rw[hw];exact hg,by rw[hl];exact ho,jB (E:=E) (E':=E2) hw (fun g _=>by rw[hl];exact Nat.le_refl _) g cells o hc.2 hat⟩
  ·obtain⟨_,A',m',c,e,hle,heq⟩:=hp
   exact⟨(at' r hc.1).1,A',m',c,by rw[(at' r hc.1).2];exact e,hle,fun hm=>by rw[(at' r hc.1).2];exact heq hm⟩
 ·split at h
  case isFalse=>cases h
  rename_i hn
  injection h with h
  subst h
  exact gI (E:=E) (E':=E2) hw (fun g _=>by rw[hl];exact Nat.le_refl _) _ _ hn hr
def aQr (P:Program) (ts:List TypeId) (rvs:List ResultVar) (is:List Nat) (st:St) (r:AV):Prop:=
 (∃ C,eU P ts rvs st=some (C,r)∧C∧flat r=true)∨(∃ x,rvs=[.tmp x]∧aJt is (lk st.slots x)=some r)
def aKY (P:Program) (ts:List TypeId) (rvs:List ResultVar) (n0:Nat) (Q:AV→List AObj→Prop):Exit→St→Prop
 | e,st=>(e=.normal∨e=.ret)∧∃ (is:List Nat) (os:List AObj) (r:AV),n0≤is.length∧(∀ i,i<n0→is.getD i 0=i)∧(∀ i j,i<is.length→j<is.length→is.getD i 0=is.getD j 0→i=j)∧os.length=is.length∧
   (∀ i,i<is.length→st.objs[is.getD i 0]? = os[i]?)∧(∀ o∈os,eH o=true)∧aQr P ts rvs is st r∧Q r os
theorem gQ {P:Program} {G:Gl} {f:FuncId} {fn:Func} {c:Code} {args:List AV} {outs:List AObj} {Q:AV→List AObj→Prop} (hf:P.funcs[f]? = some fn) (hb:fn.body=some c) (hn:(fn.name == "runtime.NumGoroutine")=false)
  {nt:Nat} {rts:Array TypeId} {rvs:Array ResultVar} (hnt:fn.ntmps=nt) (hrt:fn.resultTypes=rts) (hrv:fn.results=rvs) (hle:args.length≤nt)
  (h:awp P G c ⟨nt,aZ 0 args,outs⟩ (aKY P rts.toList rvs.toList outs.length Q)) (hds:G.ds=[]:=by rfl):ACalls P G f args outs Q:=by
 subst hnt hrt hrv
 refine⟨⟨fn,hf,by simp[hb],hn⟩,fun E vs hl ho hG=>?_⟩
 refine calls_of_wp hf hb ?_
 have hlen:=hl.length
 have hrep:Rep G E ⟨fn.ntmps,aZ 0 args,outs⟩ { tmps:=vs.toArray++Array.replicate (fn.ntmps - vs.toArray.size) undef,defers:=[] }:=by
  refine⟨by simp;omega,fun i=>?_,hds.symm,ho,hG⟩
  have:=pM E args vs 0 i hl
  simp only[Nat.zero_le,if_true,Nat.sub_zero] at this
  have e:(vs.toArray++Array.replicate (fn.ntmps - vs.toArray.size) undef).getD i undef=(vs[i]?).getD undef:=by
   rw[Array.getD_eq_getD_getElem?,Array.getElem?_append]
   split
   ·simp
   ·rename_i hge
    have:vs.length≤i:=by simpa using hge
    rw[List.getElem?_eq_none this]
    simp only[Array.getElem?_replicate]
    split<;>rfl
  rw[e]
  exact this
 refine wp_mono (h E _ hrep) ?_
 rintro e a' w' ⟨st',E',rfl,⟨he,is,os,r,hn0,hid,hinj,hol,hos,hok,iL,hq⟩,hr',hx'⟩
 obtain⟨hk',hobj',hdis'⟩:=hr'.objs
 let E2:Env:={ w:=E'.w,lim:=E'.lim,k:=is.length,ρ:=fun i=>E'.ρ (is.getD i 0) }
 have hro:∀ i o,os[i]? = some o→i<is.length∧st'.objs[is.getD i 0]? = some o:=fun i o hi=>by
  have hlt:i<is.length:=by rw[← hol];exact(List.getElem?_eq_some_iff.1 hi).1
  exact⟨hlt,(hos i hlt).trans hi⟩
 have ho2:bP E2 os:=by
  refine⟨hol.symm,fun i o hi=>?_,fun i j o o' g hi hj b1 b2=>?_⟩
  ·exact fM.move (E:=E') (E':=E2) rfl rfl (hok o (List.mem_of_getElem? hi)) (hobj' _ o (hro i o hi).2)
  ·exact hinj i j (hro i o hi).1 (hro j o' hj).1 (hdis' _ _ o o' g (hro i o hi).2 (hro j o' hj).2 b1 b2)
 have hx2:Ext E outs E2 os:=by
  refine { size:=hx'.size,lim:=hx'.lim,cell:=hx'.cell,k:=by rw[ho.1];exact hn0,ρ:=fun i hi=>?_,os:=hx'.os,tape:=hx'.tape,output:=hx'.output,frame:=hx'.frame,own:=fun g hw hg=>?_ }
  ·show pF (E.ρ i) (E'.ρ (is.getD i 0))
   rw[ho.1] at hi
   rw[hid i hi]
   exact hx'.ρ i (by rw[ho.1];exact hi)
  ·obtain⟨i,o,hi,hb'⟩:=hw
   exact hx'.own g ⟨_,o,(hro i o hi).2,hb'⟩ hg
 obtain⟨u,hu,hrun⟩:∃ u,bE E2 r u∧(results fn a'.tmps).run P E'.w=.ok u E'.w:=by
  rcases iL with⟨C,h1,hC,hflat⟩|⟨x,hx,ho'⟩
  ·obtain⟨u,hu,hrun⟩:=vM (P:=P) hr' h1 hC
   exact⟨u,uI r u hflat hu,hrun⟩
  ·refine⟨a'.tmps.getD x undef,aHS (E:=E') (E2:=E2) rfl rfl rfl (fun i _=>rfl) ho' (hr'.slots x),?_⟩
   have e:fn.results=#[.tmp x]:=by
    apply Array.ext'
    rw[hx]
   have hm:((#[ResultVar.tmp x]:Array ResultVar).mapM (m:=Sem) (sQ a'.tmps)).run P E'.w=.ok #[a'.tmps.getD x undef] E'.w:=by
    rw[Array.mapM_eq_mapM_toList]
    simp only[Sem.run_map]
    rfl
   rw[jY,e]
   simp only[Sem.run_bind]
   rw[hm]
   simp
 have hfin:∃ E2 v r' outs',E2.w=E'.w∧Ending.returned u=.returned v∧Q r' outs'∧bE E2 r' v∧bP E2 outs'∧Ext E outs E2 outs':=⟨E2,u,r,os,rfl,rfl,hq,hu,ho2,hx2⟩
 rcases he with rfl|rfl
 ·exact⟨(hr'.defers.trans hds),u,hrun,hfin⟩
 ·exact⟨(hr'.defers.trans hds),u,hrun,hfin⟩
theorem oM {P:Program} {ts:List TypeId} {Q:AV→List AObj→Prop} {nt:Nat} {s:List (Nat×AV)} {os:List AObj} (x i sz:Nat) {n:Nat} {cells:List AV} (h:lk s x=.sl n cells (.tok i)) (ho:os[i]? = some (.tok sz n)) (hn:aM cells=true)
  (hq:Q (.sl n cells (.tok 0)) [.tok sz n]):aKY P ts [.tmp x] 0 Q .ret ⟨nt,s,os⟩:=
 ⟨.inr rfl,[i],[.tok sz n],_,Nat.zero_le _,fun j h=>absurd h (Nat.not_lt_zero j),fun a b ha hb _=>by simp at ha hb;omega,rfl,fun j hj=>by
  have:j=0:=by simpa using hj
  subst this
  exact ho,fun o ho=>by simp at ho;subst ho;rfl,.inr ⟨x,rfl,by simp[h,aJt,hn]⟩,hq⟩
theorem aKZ {P:Program} {ts:List TypeId} {Q:AV→List AObj→Prop} {nt:Nat} {s:List (Nat×AV)} {os:List AObj} (x i off:Nat) {y:AObj} (h:lk s x=.ptr i off) (ho:os[i]? = some y) (hn:eH y=true)
  (hq:Q (.ptr 0 off) [y]):aKY P ts [.tmp x] 0 Q .ret ⟨nt,s,os⟩:=
 ⟨.inr rfl,[i],[y],_,Nat.zero_le _,fun j h=>absurd h (Nat.not_lt_zero j),fun a b ha hb _=>by simp at ha hb;omega,rfl,fun j hj=>by
  have:j=0:=by simpa using hj
  subst this
  exact ho,fun o ho=>by simp at ho;subst ho;exact hn,.inr ⟨x,rfl,by simp[h,aJt]⟩,hq⟩
theorem aEc {P:Program} {ts:List TypeId} {rvs:List ResultVar} {Q:AV→List AObj→Prop} {e:Exit} {nt:Nat} {s:List (Nat×AV)} {os:List AObj} {y:AObj} {C:Prop} {r:AV} (he:e=.normal∨e=.ret) (ho:os[0]? = some y) (hn:eH y=true)
  (hr:eU P ts rvs ⟨nt,s,os⟩=some (C,r)) (hC:C) (hf:flat r=true) (hq:Q r [y]):aKY P ts rvs 1 Q e ⟨nt,s,os⟩:=
 ⟨he,[0],[y],r,Nat.le_refl _,fun j hj=>by
  have:j=0:=by omega
  subst this
  rfl,fun a b ha hb _=>by simp at ha hb;omega,rfl,fun j hj=>by
  have:j=0:=by simpa using hj
  subst this
  exact ho,fun o ho=>by simp at ho;subst ho;exact hn,.inl ⟨C,hr,hC,hf⟩,hq⟩
theorem oO {P:Program} {G:Gl} {f:FuncId} {as_ as':List AV} {objs:List AObj} {k:AV→List AObj→Prop} {n sz:Nat} {cells:List AV} (hv:fH none as_=some as') (h:ACalls P G f as' [] (fun r o=>o=[.tok sz n]∧r=.sl n cells (.tok 0))) (hn:aM cells=true)
  (hk:k (.sl n cells (.tok objs.length)) (objs++[.tok sz n])):wQ P G (some f) as_ objs k:=
 aEu hv h (fun o ho=>by simp at ho;subst ho;rfl) (by simp[iL,hn]) hk
theorem aAp {P:Program} {G:Gl} {f:FuncId} {as_ as':List AV} {objs:List AObj} {k:AV→List AObj→Prop} {off:Nat} {y:AObj} (hv:fH none as_=some as') (h:ACalls P G f as' [] (fun r o=>o=[y]∧r=.ptr 0 off)) (hn:eH y=true)
  (hk:k (.ptr objs.length off) (objs++[y])):wQ P G (some f) as_ objs k:=
 aEu hv h (fun o ho=>by simp at ho;subst ho;exact hn) (by simp[iL]) hk
def fR (P:Program) (st:St):ResultVar→Option (Prop×AV)
 | .tmp x=>some (True,lk st.slots x)
 | .cell x ty=>aY P ty (lk st.slots x) st.objs
def fJ (P:Program) (st:St):List ResultVar→Option (Prop×List AV)
 | []=>some (True,[])
 | rv::rvs=>match fR P st rv,fJ P st rvs with
  | some (C,v),some (C',vs)=>some (C∧C',v::vs)
  | _,_=>none
def gB (P:Program) (rvs:List ResultVar) (st:St):Option (Prop×AV):=
 match fJ P st rvs with
 | some (C,[v])=>some (C,v)
 | some (C,vs)=>some (C,.tup vs)
 | none=>none
theorem aDo {P:Program} {G:Gl} {E:Env} {st:St} {a:Act} (hr:Rep G E st a) {rv:ResultVar} {C:Prop} {v:AV} (h:fR P st rv=some (C,v)) (hC:C) :
  ∃ u,bE E v u∧(sQ a.tmps rv).run P E.w=.ok u E.w:=by
 cases rv with
 | tmp x=>
  simp only[fR,Option.some.injEq,Prod.mk.injEq] at h
  obtain⟨rfl,rfl⟩:=h
  exact⟨_,hr.slots x,rfl⟩
 | cell x ty=>
  have hl:aY P ty (lk st.slots x) st.objs=some (C,v):=h
  obtain⟨u,hu,hrun⟩:=tD (P:=P) hl hC hr.objs (hr.slots x)
  refine⟨u,hu,?_⟩
  have hp:∃ ad,a.tmps.getD x undef=.pointer (some ad):=by
   have:=hr.slots x
   unfold aY at hl
   split at hl
   ·rename_i e;rw[e] at this;simp only[bE] at this;obtain⟨_,_,_,h⟩:=this;exact⟨_,h⟩
   ·rename_i e;rw[e] at this;simp only[bE] at this;obtain⟨_,_,h,_⟩:=this;exact⟨_,h⟩
   ·cases hl
  obtain⟨ad,had⟩:=hp
  rw[had] at hrun
  simp only[sQ]
  rw[had]
  simpa[Instr.loadAt,Instr.sureAddr,asAddr] using hrun
theorem wS {P:Program} {G:Gl} {E:Env} {st:St} {a:Act} (hr:Rep G E st a):∀ {rvs:List ResultVar} {C:Prop} {vs:List AV},fJ P st rvs=some (C,vs)→C→
  ∃ us,bY E vs us∧(rvs.mapM (m:=Sem) (sQ a.tmps)).run P E.w=.ok us E.w
 | [],C,vs,h,hC=>by
  simp only[fJ,Option.some.injEq,Prod.mk.injEq] at h
  obtain⟨rfl,rfl⟩:=h
  exact⟨[],by simp only[bY],rfl⟩
 | rv::rvs,C,vs,h,hC=>by
  unfold fJ at h
  split at h
  case h_2=>cases h
  rename_i C1 v1 C2 vs2 h1 h2
  simp only[Option.some.injEq,Prod.mk.injEq] at h
  obtain⟨rfl,rfl⟩:=h
  obtain⟨u,hu,hrun⟩:=aDo hr h1 hC.1
  obtain⟨us,hus,hruns⟩:=wS hr h2 hC.2
  refine⟨u::us,by simp only[bY];exact⟨u,us,rfl,hu,hus⟩,?_⟩
  simp only[List.mapM_cons,Sem.run_bind]
  rw[hrun]
  simp only[Result.andThen_ok]
  rw[hruns]
  rfl
theorem zH {P:Program} {G:Gl} {E:Env} {st:St} {a:Act} (hr:Rep G E st a) {fn:Func} {C:Prop} {v:AV} (h:gB P fn.results.toList st=some (C,v)) (hC:C) :
  ∃ u,bE E v u∧(results fn a.tmps).run P E.w=.ok u E.w:=by
 unfold gB at h
 have key:∀ {C:Prop} {vs:List AV},fJ P st fn.results.toList=some (C,vs)→C→∃ us,bY E vs us∧
   (fn.results.mapM (m:=Sem) (sQ a.tmps)).run P E.w=.ok us.toArray E.w:=by
  intro C vs h hC
  obtain⟨us,h1,h2⟩:=wS hr h hC
  refine⟨us,h1,?_⟩
  rw[Array.mapM_eq_mapM_toList]
  simp only[Sem.run_map]
  rw[h2]
  rfl
 split at h
 ·rename_i C1 v1 h1
  simp only[Option.some.injEq,Prod.mk.injEq] at h
  obtain⟨rfl,rfl⟩:=h
  obtain⟨us,hus,hrun⟩:=key h1 hC
  simp only[bY] at hus
  obtain⟨u,us',rfl,hu,rfl⟩:=hus
  refine⟨u,hu,?_⟩
  rw[jY]
  simp only[Sem.run_bind]
  rw[hrun]
  simp
 ·rename_i C1 vs1 hne h1
  simp only[Option.some.injEq,Prod.mk.injEq] at h
  obtain⟨rfl,rfl⟩:=h
  obtain⟨us,hus,hrun⟩:=key h1 hC
  refine⟨.tuple us.toArray,by simp only[bE];exact⟨us,rfl,hus⟩,?_⟩
  rw[jY]
  simp only[Sem.run_bind]
  rw[hrun]
  have:us.length≠1:=by
   rw[hus.length]
   intro e
   match vs1,e with
   | [x],_=>exact hne x rfl
  simp[this]
 ·cases h
def aKj (objs:List AObj) (n0:Nat) (is:List Nat):Prop:=
 n0≤is.length∧(∀ i,i<n0→is.getD i 0=i)∧aKc objs is
def aBt (P:Program) (ts:List TypeId) (rvs:List ResultVar) (n0:Nat) (Q:AV→List AObj→Prop):Exit→St→Prop
 | e,st=>(e=.normal∨e=.ret)∧∃ (is:List Nat) (C:Prop) (r0:AV),aKj st.objs n0 is∧gB P rvs st=some (C,r0)∧C∧ref (fun r=>is.contains r) r0=true∧Q (ren (fun r=>is.idxOf r) r0) (GHd st.objs is)
theorem aDA {E':Env} {objs outs:List AObj} {E:Env} {is:List Nat} (ho:bP E outs) (hE':bP E' objs) (hx':Ext E outs E' objs) (hout:aKj objs outs.length is) :
  bP { w:=E'.w,lim:=E'.lim,k:=is.length,ρ:=fun i=>E'.ρ (is.getD i 0) } (GHd objs is)∧Ext E outs { w:=E'.w,lim:=E'.lim,k:=is.length,ρ:=fun i=>E'.ρ (is.getD i 0) } (GHd objs is)∧
   ∀ a v,ref (fun r=>is.contains r) a=true→bE E' a v→bE { w:=E'.w,lim:=E'.lim,k:=is.length,ρ:=fun i=>E'.ρ (is.getD i 0) } (ren (fun r=>is.idxOf r) a) v:=by
 obtain⟨hn0,hid,hnd,hlt,href⟩:=hout
 obtain⟨hk',hobj',hdis'⟩:=hE'
 let E2:Env:={ w:=E'.w,lim:=E'.lim,k:=is.length,ρ:=fun i=>E'.ρ (is.getD i 0) }
 have hkk:∀ r,is.contains r=true→is.idxOf r<E2.k∧E2.ρ (is.idxOf r)=E'.ρ r:=fun r hr=>by
  have hm:r∈is:=by simpa using hr
  have h1:=List.idxOf_lt_length_iff.2 hm
  refine⟨h1,?_⟩
  show E'.ρ (is.getD (is.idxOf r) 0)=_
  rw[List.getD_eq_getElem?_getD,List.getElem?_eq_getElem h1]
  simp
 have hgl:(GHd objs is).length=is.length:=by show (is.map _).length=_;rw[List.length_map]
 have hdi:∀ i,i<is.length→∃ o,objs[is.getD i 0]? = some o∧(GHd objs is)[i]? = some (gJ (fun r=>is.idxOf r) o)∧fU (fun r=>is.contains r) o=true:=fun i h=>by
  have hm:is.getD i 0∈is:=by
   rw[List.getD_eq_getElem?_getD,List.getElem?_eq_getElem h]
   exact List.getElem_mem h
  have h1:=hlt _ hm
  refine⟨objs[is.getD i 0]'h1,List.getElem?_eq_getElem h1,?_,?_⟩
  ·show (is.map _)[i]? = _
   rw[List.getElem?_map,List.getElem?_eq_getElem h]
   simp only[Option.map_some]
   have e:is[i]'h=is.getD i 0:=by rw[List.getD_eq_getElem?_getD,List.getElem?_eq_getElem h];rfl
   rw[e,List.getD_eq_getElem?_getD (l:=objs),List.getElem?_eq_getElem h1]
   rfl
  ·have:=href _ hm
   rw[List.getD_eq_getElem?_getD (l:=objs),List.getElem?_eq_getElem h1] at this
   exact this
 have hinj:∀ i j,i<is.length→j<is.length→is.getD i 0=is.getD j 0→i=j:=fun i j h1 h2 e=>by
  rw[List.getD_eq_getElem?_getD,List.getElem?_eq_getElem h1,List.getD_eq_getElem?_getD,List.getElem?_eq_getElem h2] at e
  have e':is[i]=is[j]:=e
  have hp:=List.pairwise_iff_getElem.1 hnd
  rcases Nat.lt_trichotomy i j with h|h|h
  ·exact absurd e' (hp i j h1 h2 h)
  ·exact h
  ·exact absurd e'.symm (hp j i h2 h1 h)
 have hil:∀ i o,(GHd objs is)[i]? = some o→i<is.length:=fun i o hi=>by
  have:=(List.getElem?_eq_some_iff.1 hi).1
  rwa [hgl] at this
 refine⟨⟨hgl.symm,fun i o hi=>?_,fun i j o o' g hi hj b1 b2=>?_⟩,?_,fun a v ha hv=>aTt (E:=E') (E':=E2) rfl (fun _ _=>Nat.le_refl _) hkk a v ha hv⟩
 ·obtain⟨x,q1,q2,q3⟩:=hdi i (hil i o hi)
  rw[q2] at hi
  injection hi with hi
  subst hi
  exact fM.ren (p:=fun r=>is.contains r) (E:=E') (E':=E2) rfl (fun _ _=>Nat.le_refl _) hkk (fun _ _=>rfl) q3 (hobj' _ x q1)
 ·obtain⟨x,q1,q2,q3⟩:=hdi i (hil i o hi)
  obtain⟨y,p1,p2,p3⟩:=hdi j (hil j o' hj)
  rw[q2] at hi
  injection hi with hi
  subst hi
  rw[p2] at hj
  injection hj with hj
  subst hj
  rw[jW] at b1 b2
  exact hinj i j (hil i _ q2) (hil j _ p2) (hdis' _ _ x y g q1 p1 b1 b2)
 ·refine { size:=hx'.size,lim:=hx'.lim,cell:=hx'.cell,k:=by rw[ho.1];exact hn0,ρ:=fun i hi=>?_,os:=hx'.os,tape:=hx'.tape,output:=hx'.output,frame:=hx'.frame,own:=fun g hw hg=>?_ }
  ·show pF (E.ρ i) (E'.ρ (is.getD i 0))
   rw[ho.1] at hi
   rw[hid i hi]
   exact hx'.ρ i (by rw[ho.1];exact hi)
  ·obtain⟨i,o,hi,hb'⟩:=hw
   obtain⟨x,q1,q2,q3⟩:=hdi i (hil i o hi)
   rw[q2] at hi
   injection hi with hi
   subst hi
   rw[jW] at hb'
   exact hx'.own g ⟨_,x,q1,hb'⟩ hg
theorem uM {G:Gl} {fn:Func} {args:List AV} {outs:List AObj} {E:Env} {vs:List Value} (hds:G.ds=[]) (hle:args.length≤fn.ntmps) (hl:bY E args vs) (ho:bP E outs) (hG:GOk E G) :
  Rep G E ⟨fn.ntmps,aZ 0 args,outs⟩ { tmps:=vs.toArray++Array.replicate (fn.ntmps - vs.toArray.size) undef,defers:=[] }:=by
 have hlen:=hl.length
 refine⟨by simp;omega,fun i=>?_,hds.symm,ho,hG⟩
 have:=pM E args vs 0 i hl
 simp only[Nat.zero_le,if_true,Nat.sub_zero] at this
 have e:(vs.toArray++Array.replicate (fn.ntmps - vs.toArray.size) undef).getD i undef=(vs[i]?).getD undef:=by
  rw[Array.getD_eq_getD_getElem?,Array.getElem?_append]
  split
  ·simp
  ·rename_i hge
   have:vs.length≤i:=by simpa using hge
   rw[List.getElem?_eq_none this]
   simp only[Array.getElem?_replicate]
   split<;>rfl
 rw[e]
 exact this
theorem dB {P:Program} {G:Gl} {f:FuncId} {fn:Func} {c:Code} {args:List AV} {outs:List AObj} {Q:AV→List AObj→Prop} (hf:P.funcs[f]? = some fn) (hb:fn.body=some c) (hn:(fn.name == "runtime.NumGoroutine")=false)
  {nt:Nat} {rts:Array TypeId} {rvs:Array ResultVar} (hnt:fn.ntmps=nt) (hrt:fn.resultTypes=rts) (hrv:fn.results=rvs) (hle:args.length≤nt)
  (h:awp P G c ⟨nt,aZ 0 args,outs⟩ (aBt P rts.toList rvs.toList outs.length Q)) (hds:G.ds=[]:=by rfl):ACalls P G f args outs Q:=by
 subst hnt hrt hrv
 refine⟨⟨fn,hf,by simp[hb],hn⟩,fun E vs hl ho hG=>?_⟩
 refine calls_of_wp hf hb ?_
 refine wp_mono (h E _ (uM hds hle hl ho hG)) ?_
 rintro e a' w' ⟨st',E',rfl,⟨he,is,C,r0,hout,iL,hC,href,hq⟩,hr',hx'⟩
 obtain⟨h1,h2,h3⟩:=aDA ho hr'.objs hx' hout
 obtain⟨u,hu,hrun⟩:=zH (P:=P) hr' iL hC
 have hfin:∃ E2 v r' outs',E2.w=E'.w∧Ending.returned u=.returned v∧Q r' outs'∧bE E2 r' v∧bP E2 outs'∧Ext E outs E2 outs':=⟨{ w:=E'.w,lim:=E'.lim,k:=is.length,ρ:=fun i=>E'.ρ (is.getD i 0) },u,_,_,rfl,rfl,hq,h3 _ _ href hu,h1,h2⟩
 rcases he with rfl|rfl
 ·exact⟨hr'.defers.trans hds,u,hrun,hfin⟩
 ·exact⟨hr'.defers.trans hds,u,hrun,hfin⟩
-- less is known of an object's cells
theorem gE.objw {G:Gl} {nt:Nat} {s:List (Nat×AV)} {os:List AObj} (r:Nat) (cs cs':List AV) (hr:os[r]? = some (.cells cs)) (hl:cs'.length=cs.length) (hw:∀ E vs,bY E cs vs→bY E cs' vs) :
  gE G ⟨nt,s,os⟩ ⟨nt,s,os.set r (.cells cs')⟩:=fun E a hrep=>by
 obtain⟨hk,hobj,hdis⟩:=hrep.objs
 have hown:∀ u,dI (.cells cs') u=dI (.cells cs) u:=fun u=>by
  cases cs with
  | nil=>
   have:cs'=[]:=List.length_eq_zero_iff.1 (by simpa using hl)
   rw[this]
  | cons c cs=>
   cases cs' with
   | nil=>simp at hl
   | cons c' cs'=>cases u<;>first|rfl|(rename_i a;cases a<;>rfl)
 have hget:∀ i o,(os.set r (.cells cs'))[i]? = some o→(i=r∧o=.cells cs')∨(os[i]? = some o):=fun i o hi=>by
  rcases fI hi with⟨rfl,rfl,_⟩|⟨_,h⟩
  ·exact .inl ⟨rfl,rfl⟩
  ·exact .inr h
 have hblk:∀ i o g,(os.set r (.cells cs'))[i]? = some o→dI o (E.ρ i)=some g→∃ o',os[i]? = some o'∧dI o' (E.ρ i)=some g:=fun i o g hi hb=>by
  rcases hget i o hi with⟨rfl,rfl⟩|h
  ·exact⟨_,hr,by rw[← hown];exact hb⟩
  ·exact⟨o,h,hb⟩
 refine⟨E,rfl,⟨hrep.size,hrep.slots,hrep.defers,⟨by simpa using hk,fun i o hi=>?_,fun i j o o' g hi hj b1 b2=>?_⟩,hrep.glob⟩,{ Ext0.refl E with os:=rfl,tape:=rfl,output:=rfl,frame:=fun _ _ _=>⟨rfl,rfl⟩,own:=fun g hw _=>?_ }⟩
 ·rcases hget i o hi with⟨rfl,rfl⟩|h
  ·rcases hobj i _ hr with rfl|⟨g,vs,t,fz,e,hh,hfz,hlim,hlen,hrep'⟩
   ·have:cs'=[]:=List.length_eq_zero_iff.1 (by simpa using hl)
    exact .inl this
   ·exact .inr ⟨g,vs,t,fz,e,hh,hfz,hlim,by rw[hl];exact hlen,by rw[hl];exact hw E _ hrep'⟩
  ·exact hobj i o h
 ·obtain⟨x,q1,q2⟩:=hblk i o g hi b1
  obtain⟨y,p1,p2⟩:=hblk j o' g hj b2
  exact hdis i j x y g q1 p1 q2 p2
 ·obtain⟨i,o,hi,hb⟩:=hw
  obtain⟨x,q1,q2⟩:=hblk i o g hi hb
  exact⟨i,x,q1,q2⟩
theorem aLD {P:Program} {G:Gl} {c:Code} {nt:Nat} {s:List (Nat×AV)} {os:List AObj} {Q:Exit→St→Prop} (r:Nat) (cs cs':List AV) (hr:os[r]? = some (.cells cs)) (hl:cs'.length=cs.length) (hw:∀ E vs,bY E cs vs→bY E cs' vs)
  (hq:awp P G c ⟨nt,s,os.set r (.cells cs')⟩ Q):awp P G c ⟨nt,s,os⟩ Q:=eX (.objw r cs cs' hr hl hw) hq
end Go.V
namespace Go.V
set_option linter.unusedVariables false
def aFo (x k:Nat):Nat:=(x*2^k%4294967296) ||| (x/2^(32 - k))
theorem aFp {x k:Nat} (hx:x<4294967296) (hk:k<32) (i:Nat):(aFo x k).testBit i=(decide (i<32)&&x.testBit ((i+(32 - k))%32)):=by
 unfold aFo
 rw[show (4294967296:Nat)=2^32 from rfl,Nat.testBit_or,Nat.testBit_mod_two_pow,← Nat.shiftLeft_eq,← Nat.shiftRight_eq_div_pow,Nat.testBit_shiftLeft,Nat.testBit_shiftRight]
 by_cases hi:i<32
 ·by_cases hki:k≤i
  ·have e:(i+(32 - k))%32=i - k:=by omega
   have hz:x.testBit (32 - k+i)=false:=Nat.testBit_lt_two_pow (Nat.lt_of_lt_of_le hx (by rw[show (4294967296:Nat)=2^32 from rfl];exact Nat.pow_le_pow_right (by omega) (by omega)))
   simp[hi,hki,e,hz]
  ·have e:(i+(32 - k))%32=32 - k+i:=by omega
   simp[hi,hki,e]
 ·have hz:x.testBit (32 - k+i)=false:=Nat.testBit_lt_two_pow (Nat.lt_of_lt_of_le hx (by rw[show (4294967296:Nat)=2^32 from rfl];exact Nat.pow_le_pow_right (by omega) (by omega)))
  simp[hi,hz]
theorem fT {x:Nat} (h:∀ i,32≤i→x.testBit i=false):x<4294967296:=by
 rw[show (4294967296:Nat)=2^32 from rfl]
 exact Nat.lt_pow_two_of_testBit x h
theorem iJ {x:Nat} (hx:x<4294967296) {i:Nat} (hi:32≤i):x.testBit i=false:=
 Nat.testBit_lt_two_pow (Nat.lt_of_lt_of_le hx (by rw[show (4294967296:Nat)=2^32 from rfl];exact Nat.pow_le_pow_right (by omega) hi))
theorem aOR {x k:Nat} (hx:x<4294967296) (hk:k<32):aFo x k<4294967296:=
 fT fun i hi=>by rw[aFp hx hk];simp[show ¬ i<32 by omega]
def jF (x:Nat) (n:Int):Nat:=aFo x ((-n)%32).toNat
theorem aMp {x:Nat} (hx:x<4294967296) (n:Int) (i:Nat):(jF x n).testBit i=(decide (i<32)&&x.testBit (((i:Int)+n)%32).toNat):=by
 have h0:(0:Int)≤(-n)%32:=Int.emod_nonneg _ (by omega)
 have h1:(-n)%32<32:=Int.emod_lt_of_pos _ (by omega)
 unfold jF
 rw[aFp hx (by omega)]
 congr 2
 omega
theorem lD {x:Nat} (hx:x<4294967296) (n:Int):jF x n<4294967296:=
 fT fun i hi=>by rw[aMp hx];simp[show ¬ i<32 by omega]
def choose (x y z:Nat):Nat:=(x &&& y) ^^^ ((4294967295 ^^^ x) &&& z)
def most (x y z:Nat):Nat:=((x &&& y) ^^^ (x &&& z)) ^^^ (y &&& z)
def aBr (x y z:Nat):Nat:=(x ^^^ y) ^^^ z
theorem aMP (i:Nat):(4294967295:Nat).testBit i=decide (i<32):=by
 rw[show (4294967295:Nat)=2^32 - 1 from rfl,Nat.testBit_two_pow_sub_one]
theorem aJK {x y z:Nat} (hx:x<4294967296) (hy:y<4294967296) (hz:z<4294967296):choose x y z<4294967296:=
 fT fun i hi=>by simp[choose,Nat.testBit_xor,Nat.testBit_and,iJ hx hi,iJ hz hi]
theorem aOC {x y z:Nat} (hx:x<4294967296) (hy:y<4294967296) (hz:z<4294967296):most x y z<4294967296:=
 fT fun i hi=>by simp[most,Nat.testBit_xor,Nat.testBit_and,iJ hx hi,iJ hy hi]
theorem aAV {x y z:Nat} (hx:x<4294967296) (hy:y<4294967296) (hz:z<4294967296):aBr x y z<4294967296:=
 fT fun i hi=>by simp[aBr,Nat.testBit_xor,iJ hx hi,iJ hy hi,iJ hz hi]
def nQ (i:Int) (x:Nat):Nat:=if i=0 then aBr (jF x 2) (jF x 13) (jF x 22) else if i=1 then aBr (jF x 6) (jF x 11) (jF x 25) else 0
def small (i:Int) (x:Nat):Nat:=if i=0 then aBr (jF x 7) (jF x 18) (x/8) else if i=1 then aBr (jF x 17) (jF x 19) (x/1024) else 0
theorem aAU (a b c:Nat):(a ^^^ b) ^^^ c=aBr a b c:=rfl
theorem aPw (x:Nat):small 0 x=aBr (jF x 7) (jF x 18) (x/8):=if_pos rfl
theorem aPx (x:Nat):small 1 x=aBr (jF x 17) (jF x 19) (x/1024):=(if_neg (by omega)).trans (if_pos rfl)
theorem aPy {i:Int} (x:Nat) (h0:i≠0) (h1:i≠1):small i x=0:=(if_neg h0).trans (if_neg h1)
theorem aPQ (x:Nat):nQ 0 x=aBr (jF x 2) (jF x 13) (jF x 22):=if_pos rfl
theorem aPR (x:Nat):nQ 1 x=aBr (jF x 6) (jF x 11) (jF x 25):=(if_neg (by omega)).trans (if_pos rfl)
theorem aPS {i:Int} (x:Nat) (h0:i≠0) (h1:i≠1):nQ i x=0:=(if_neg h0).trans (if_neg h1)
def gw (b:List UInt8):Nat:=(b.getD 0 0).toNat*16777216+(b.getD 1 0).toNat*65536+(b.getD 2 0).toNat*256+(b.getD 3 0).toNat
theorem aQV (b:List UInt8):gw b<4294967296:=by
 have h0:=(b.getD 0 0).toNat_lt
 have h1:=(b.getD 1 0).toNat_lt
 have h2:=(b.getD 2 0).toNat_lt
 have h3:=(b.getD 3 0).toNat_lt
 unfold gw
 omega
theorem aEO {a b k:Nat} (hb:b<2^k):(a*2^k) ||| b=a*2^k+b:=by
 rw[Nat.mul_comm]
 exact(Nat.two_pow_add_eq_or_of_lt hb a).symm
theorem aQW (a b c d:Nat) (ha:a<256) (hb:b<256) (hc:c<256) (hd:d<256) :
  (((a*2^24 ||| b*2^16) ||| c*2^8) ||| d)=a*16777216+b*65536+c*256+d:=by
 rw[show (a*2^24 ||| b*2^16)=(a*2^8+b)*2^16 by rw[aEO (by omega)];omega]
 rw[show ((a*2^8+b)*2^16 ||| c*2^8)=((a*2^8+b)*2^8+c)*2^8 by rw[aEO (by omega)];omega]
 rw[aEO (by omega)]
 omega
theorem aPn {a b:Nat} (ha:a<4294967296) (hb:b<4294967296):a ||| b<4294967296:=by
 rw[show (4294967296:Nat)=2^32 from rfl] at *
 exact Nat.or_lt_two_pow ha hb
theorem aHg {a:Nat} (ha:a<256) (k:Nat) (hk:k≤24):a*2^k<4294967296:=by
 have h1:a*2^k<2^8*2^k:=Nat.mul_lt_mul_of_pos_right ha (Nat.pow_pos (by omega))
 rw[← Nat.pow_add] at h1
 have h2:(2:Nat)^(8+k)≤2^32:=Nat.pow_le_pow_right (by omega) (by omega)
 exact Nat.lt_of_lt_of_le h1 h2
theorem aNr (a b c d:Nat) (ha:a<256) (hb:b<256) (hc:c<256) (hd:d<256) :
  (((a%4294967296*2^24%4294967296 ||| b%4294967296*2^16%4294967296)%4294967296 ||| c%4294967296*2^8%4294967296)%4294967296 ||| d%4294967296)%4294967296=a*16777216+b*65536+c*256+d:=by
 have b0:=aHg ha 24 (by omega)
 have b1:=aHg hb 16 (by omega)
 have b2:=aHg hc 8 (by omega)
 have h1:(a*2^24 ||| b*2^16)<4294967296:=aPn b0 b1
 have h2:((a*2^24 ||| b*2^16) ||| c*2^8)<4294967296:=aPn h1 b2
 have h3:(((a*2^24 ||| b*2^16) ||| c*2^8) ||| d)<4294967296:=aPn h2 (Nat.lt_of_lt_of_le hd (by decide))
 rw[Nat.mod_eq_of_lt (Nat.lt_of_lt_of_le ha (by decide)),Nat.mod_eq_of_lt (Nat.lt_of_lt_of_le hb (by decide)),Nat.mod_eq_of_lt (Nat.lt_of_lt_of_le hc (by decide)),Nat.mod_eq_of_lt (Nat.lt_of_lt_of_le hd (by decide))]
 rw[Nat.mod_eq_of_lt b0,Nat.mod_eq_of_lt b1,Nat.mod_eq_of_lt b2,Nat.mod_eq_of_lt h1,Nat.mod_eq_of_lt h2,Nat.mod_eq_of_lt h3]
 exact aQW a b c d ha hb hc hd
def aMx (b:List UInt8) (i:Nat) (l:List Nat):Nat:=
 if i<16 then gw (b.drop (4*i)) else (small 1 (l.getD (i - 2) 0)+l.getD (i - 7) 0+small 0 (l.getD (i - 15) 0)+l.getD (i - 16) 0)%4294967296
def tY (b:List UInt8):Nat→List Nat
 | 0=>[]
 | i+1=>tY b i++[aMx b i (tY b i)]
def word (b:List UInt8) (i:Nat):Nat:=aMx b i (tY b i)
theorem xZ (b:List UInt8):∀ i,(tY b i).length=i
 | 0=>rfl
 | i+1=>by simp[tY,xZ b i]
theorem rE (b:List UInt8):∀ i j,j<i→(tY b i).getD j 0=word b j
 | 0,j,h=>by omega
 | i+1,j,h=>by
  have hl:=xZ b i
  rw[tY]
  by_cases e:j=i
  ·subst e
   rw[List.getD_eq_getElem?_getD,List.getElem?_append_right (by omega)]
   simp[hl,word]
  ·rw[List.getD_eq_getElem?_getD,List.getElem?_append_left (by omega),← List.getD_eq_getElem?_getD]
   exact rE b i j (by omega)
theorem aEX (b:List UInt8) (i:Nat):word b i<4294967296:=by
 unfold word aMx
 split
 ·exact aQV _
 ·exact Nat.mod_lt _ (by omega)
theorem aHq (b:List UInt8) (i:Nat) (h:i<16):word b i=gw (b.drop (4*i)):=if_pos h
theorem aMu (b:List UInt8) (i:Nat) (h:16≤i):word b i=(small 1 (word b (i - 2))+word b (i - 7)+small 0 (word b (i - 15))+word b (i - 16))%4294967296:=by
 have e:word b i=(small 1 ((tY b i).getD (i - 2) 0)+(tY b i).getD (i - 7) 0+small 0 ((tY b i).getD (i - 15) 0)+(tY b i).getD (i - 16) 0)%4294967296:=if_neg (by omega)
 rw[e,rE b i _ (by omega),rE b i _ (by omega),rE b i _ (by omega),rE b i _ (by omega)]
def arr (n:Nat) (W:Nat→Nat) (i:Nat):List Int:=(List.range n).map fun j=>if j<i then ((W j:Nat):Int) else 0
theorem aAs (n:Nat) (W:Nat→Nat) (i:Nat):(arr n W i).length=n:=by simp[arr]
theorem tF {n:Nat} (W:Nat→Nat) {i j:Nat} (h:j<i) (hn:j<n):(arr n W i).getD j 0=((W j:Nat):Int):=by
 simp[arr,List.getD_eq_getElem?_getD,hn,h]
theorem aIE {n:Nat} (W:Nat→Nat) (i:Nat):(arr n W i).set i ((W i:Nat):Int)=arr n W (i+1):=by
 apply List.ext_getElem?
 intro j
 simp only[arr,List.getElem?_set,List.length_map,List.length_range,List.getElem?_map,List.getElem?_range]
 by_cases e:i=j
 ·subst e
  by_cases h:i<n
  ·simp[h]
  ·simp[h]
 ·by_cases h:j<n
  ·by_cases h2:j<i
   ·simp[e,h,h2,show j<i+1 by omega]
   ·simp[e,h,h2,show ¬ j<i+1 by omega]
  ·simp[e,h]
theorem aKr (n:Nat) (W:Nat→Nat):List.replicate n (0:Int)=arr n W 0:=by
 apply List.ext_getElem?
 intro j
 simp only[arr,List.getElem?_replicate,List.getElem?_map]
 by_cases h:j<n<;>simp[h]
def rnd (s:List Nat) (k w:Nat):List Nat:=
 match s with
 | [a,b,c,d,e,f,g,h]=>[((h+nQ 1 e+V.choose e f g+k+w)%4294967296+(nQ 0 a+most a b c)%4294967296)%4294967296,a,b,c,(d+(h+nQ 1 e+V.choose e f g+k+w)%4294967296)%4294967296,e,f,g]
 | s=>s
def lK (s:List Nat) (K W:Nat→Nat):Nat→List Nat
 | 0=>s
 | i+1=>rnd (lK s K W i) (K i) (W i)
def kY (s:List Nat):Prop:=∃ a b c d e f g h,s=[a,b,c,d,e,f,g,h]∧a<4294967296∧b<4294967296∧c<4294967296∧d<4294967296∧e<4294967296∧f<4294967296∧g<4294967296∧h<4294967296
theorem oG {s:List Nat} (hs:kY s) (K W:Nat→Nat):∀ i,kY (lK s K W i)
 | 0=>hs
 | i+1=>by
  obtain⟨a,b,c,d,e,f,g,h,hr,ha,hb,hc,hd,he,hf,hg,hh⟩:=oG hs K W i
  simp only[lK,hr,rnd]
  exact⟨_,_,_,_,_,_,_,_,rfl,Nat.mod_lt _ (by omega),ha,hb,hc,Nat.mod_lt _ (by omega),he,hf,hg⟩
def aKo (s h:List Nat):List Nat:=List.zipWith (fun a b=>(a+b)%4294967296) s h
def mix (V A:Nat→Nat) (j:Nat):List Int:=(List.range 8).map fun p=>if p<j then ((A p:Nat):Int) else ((V p:Nat):Int)
theorem aHI (V A:Nat→Nat) (j:Nat):(mix V A j).length=8:=by simp[mix]
theorem aMC (V A:Nat→Nat) {j p:Nat} (hj:j≤p) (hp:p<8):(mix V A j).getD p 0=((V p:Nat):Int):=by
 simp[mix,List.getD_eq_getElem?_getD,hp,show ¬ p<j by omega]
theorem aOB (V A:Nat→Nat) (j:Nat):(mix V A j).set j ((A j:Nat):Int)=mix V A (j+1):=by
 apply List.ext_getElem?
 intro p
 simp only[mix,List.getElem?_set,List.length_map,List.length_range,List.getElem?_map]
 by_cases e:j=p
 ·subst e
  by_cases h:j<8
  ·simp[h]
  ·simp[h]
 ·by_cases h:p<8
  ·by_cases h2:p<j
   ·simp[e,h,h2,show p<j+1 by omega]
   ·simp[e,h,h2,show ¬ p<j+1 by omega]
  ·simp[e,h]
theorem aMD {l:List Nat} (hl:l.length=8) (A:Nat→Nat):l.map (fun n:Nat=>(n:Int))=mix (fun p=>l.getD p 0) A 0:=by
 apply List.ext_getElem?
 intro p
 simp only[mix,List.getElem?_map]
 by_cases h:p<8
 ·simp[h,List.getElem?_eq_getElem (show p<l.length by omega)]
 ·simp[h,List.getElem?_eq_none (show l.length≤p by omega)]
theorem aJd {l h:List Nat} (hl:l.length=8) (hh:h.length=8) (V:Nat→Nat):(aKo l h).map (fun n:Nat=>(n:Int))=mix V (fun p=>(l.getD p 0+h.getD p 0)%4294967296) 8:=by
 apply List.ext_getElem?
 intro p
 simp only[mix,aKo,List.getElem?_map,List.getElem?_zipWith]
 by_cases hp:p<8
 ·simp[hp,List.getElem?_eq_getElem (show p<l.length by omega),List.getElem?_eq_getElem (show p<h.length by omega)]
 ·simp[hp,List.getElem?_eq_none (show l.length≤p by omega)]
theorem iQ {s:List Nat} (h:kY s):s.length=8:=by
 obtain⟨a,b,c,d,e,f,g,h,rfl,_⟩:=h
 rfl
theorem aHc {s:List Nat} (hs:kY s) (K W:Nat→Nat) (i:Nat):∃ a b c d e f g h,lK s K W i=[a,b,c,d,e,f,g,h]∧(a<4294967296∧b<4294967296∧c<4294967296∧d<4294967296∧e<4294967296∧f<4294967296∧g<4294967296∧h<4294967296)∧
  lK s K W (i+1)=[(((((h+nQ 1 e)%4294967296+V.choose e f g)%4294967296+K i)%4294967296+W i)%4294967296+(nQ 0 a+most a b c)%4294967296)%4294967296,a,b,c,(d+((((h+nQ 1 e)%4294967296+V.choose e f g)%4294967296+K i)%4294967296+W i)%4294967296)%4294967296,e,f,g]:=by
 obtain⟨a,b,c,d,e,f,g,h,hr,ha,hb,hc,hd,he,hf,hg,hh⟩:=oG hs K W i
 refine⟨a,b,c,d,e,f,g,h,hr,⟨ha,hb,hc,hd,he,hf,hg,hh⟩,?_⟩
 simp only[lK,hr,rnd]
 generalize nQ 1 e=g1
 generalize V.choose e f g=ch
 generalize nQ 0 a=g0
 generalize most a b c=mo
 have e1:((((h+g1)%4294967296+ch)%4294967296+K i)%4294967296+W i)%4294967296=(h+g1+ch+K i+W i)%4294967296:=by omega
 rw[e1]
structure DS where
 h:List Nat
 rest:List UInt8
 many:Nat
section
variable (C:List Nat→List UInt8→List Nat)
def uY (s:DS) (c:UInt8):DS:=
 ⟨if s.many%64=63 then C s.h (s.rest.set (s.many%64) c) else s.h,s.rest.set (s.many%64) c,s.many+1⟩
def gU (s:DS) (l:List UInt8):DS:=l.foldl (uY C) s
theorem aFt (s:DS):gU C s []=s:=rfl
theorem pR (s:DS) (a b:List UInt8):gU C s (a++b)=gU C (gU C s a) b:=List.foldl_append
theorem mQ (s:DS) (l:List UInt8):(gU C s l).many=s.many+l.length:=by
 induction l generalizing s with
 | nil=>rfl
 | cons c l ih=>rw[show gU C s (c::l)=gU C (uY C s c) l from rfl,ih];simp only[uY,List.length_cons];omega
def DOk (s:DS):Prop:=kY s.h∧s.rest.length=64
variable {C}
theorem aLV (hC:∀ h b,kY h→b.length=64→kY (C h b)) {s:DS} (hs:DOk s) (c:UInt8):DOk (uY C s c):=by
 refine⟨?_,by simp[uY,hs.2]⟩
 simp only[uY]
 split
 ·exact hC _ _ hs.1 (by simp[hs.2])
 ·exact hs.1
theorem mV (hC:∀ h b,kY h→b.length=64→kY (C h b)) {s:DS} (hs:DOk s) (l:List UInt8):DOk (gU C s l):=by
 induction l generalizing s with
 | nil=>exact hs
 | cons c l ih=>exact ih (aLV hC hs c)
theorem aDG {r b:List UInt8} {at':Nat} (c:UInt8) (h:at'<r.length):(r.set at' c).take (at'+1)++b++(r.set at' c).drop (at'+1+b.length)=r.take at'++(c::b)++r.drop (at'+(c::b).length):=by
 have h1:(r.set at' c).take (at'+1)=r.take at'++[c]:=by
  rw[List.take_add_one,List.take_set_of_le (Nat.le_refl _)]
  simp[h]
 have h2:(r.set at' c).drop (at'+1+b.length)=r.drop (at'+(c::b).length):=by
  rw[List.drop_set_of_lt (by omega)]
  congr 1
  simp only[List.length_cons]
  omega
 rw[h1,h2]
 simp
theorem aHd (b:List UInt8):∀ (s:DS),s.rest.length=64→s.many%64+b.length≤64→0<b.length→
  gU C s b=⟨if s.many%64+b.length=64 then C s.h (s.rest.take (s.many%64)++b++s.rest.drop (s.many%64+b.length)) else s.h,s.rest.take (s.many%64)++b++s.rest.drop (s.many%64+b.length),s.many+b.length⟩:=by
 induction b with
 | nil=>intro s _ _ h;simp at h
 | cons c b ih=>
  intro s hr hle _
  have hat:s.many%64<64:=Nat.mod_lt _ (by omega)
  rw[show gU C s (c::b)=gU C (uY C s c) b from rfl]
  by_cases hb:b.length=0
  ·have hb':b=[]:=List.length_eq_zero_iff.1 hb
   subst hb'
   rw[aFt]
   have hch:=aDG (r:=s.rest) (b:=[]) c (by omega:s.many%64<s.rest.length)
   have hch':s.rest.set (s.many%64) c=s.rest.take (s.many%64)++[c]++s.rest.drop (s.many%64+[c].length):=by
    rw[← hch]
    simp
   simp only[uY]
   rw[hch']
   congr 1
   have:(s.many%64=63)=(s.many%64+[c].length=64):=by simp
   simp only[this]
  ·simp only[List.length_cons] at hle
   have hne:¬ s.many%64=63:=by omega
   have e:uY C s c=⟨s.h,s.rest.set (s.many%64) c,s.many+1⟩:=by simp only[uY,hne,if_false]
   have hm:(s.many+1)%64=s.many%64+1:=by omega
   rw[e,ih _ (by simp[hr]) (by simp only;omega) (by omega)]
   simp only[hm]
   rw[aDG c (by omega)]
   have e2:s.many%64+1+b.length=s.many%64+(c::b).length:=by simp only[List.length_cons];omega
   have e3:s.many+1+b.length=s.many+(c::b).length:=by simp only[List.length_cons];omega
   rw[e2,e3]
def aPL (C:List Nat→List UInt8→List Nat) (h:List Nat) (l:List UInt8):Nat→List Nat
 | 0=>h
 | i+1=>C (aPL C h l i) ((l.drop (64*i)).take 64)
end
end Go.V
namespace Go.V
set_option linter.unusedVariables false
set_option linter.unusedSimpArgs false
end Go.V
namespace Go.V
set_option linter.unusedVariables false
open Go.ChangeShapes
end Go.V
namespace Go.V
set_option linter.unusedVariables false
set_option linter.unusedSimpArgs false
def aOy (P:Program) (g:FuncId):Prop:=(∃ fn,P.funcs[g]? = some fn∧fn.body.isSome=true∧(fn.name == "runtime.NumGoroutine")=false)∧
 ∀ (cap:Value) (w:World),(∃ ad,cap=.pointer (some ad))→CallsD P g #[cap] .returning w fun e u' w'=>(∃ v,e=.returned v)∧u'=.returning∧w'=w
end Go.V
namespace Go.V
set_option linter.unusedVariables false
def aJO:List UInt8:=[48,49,50,51,52,53,54,55,56,57,97,98,99,100,101,102]
def aQX (c:UInt8):Int:=Lib.indexByte aJO c
def pb (s:List UInt8) (j:Nat):UInt8:=UInt8.ofNat ((aQX (s.getD (2*j) 0)).toNat*16+(aQX (s.getD (2*j+1) 0)).toNat)
def aPP (s:List UInt8) (j:Nat):Prop:=0≤aQX (s.getD (2*j) 0)∧0≤aQX (s.getD (2*j+1) 0)
def fby (f:eK):List UInt8:=f.1::(vb f.2.length++f.2)
def join (l:List eK):List UInt8:=l.flatMap fby
def kK (l:List eK):Nat:=(l.map fun f=>f.2.length+1).sum
def yQ (b:List UInt8):Option (eK×Nat):=
 if b.length=0∨(G (b.drop 1)).2=0∨b.length - 1 - (G (b.drop 1)).2<(G (b.drop 1)).1 then none
 else some ((b.getD 0 0,(b.drop (1+(G (b.drop 1)).2)).take (G (b.drop 1)).1),1+(G (b.drop 1)).2+(G (b.drop 1)).1)
def aAk:Nat→List UInt8→Option (List eK)
 | 0,b=>if b.length=0 then some [] else none
 | n+1,b=>if b.length=0 then some [] else match yQ b with
  | none=>none
  | some (f,k)=>(aAk n (b.drop k)).map (f :: ·)
def mB (b:List UInt8):Option (List eK):=aAk b.length b
theorem join_nil:join []=[]:=rfl
theorem join_cons (f:eK) (l:List eK):join (f::l)=fby f++join l:=rfl
theorem nF (a b:List eK):join (a++b)=join a++join b:=by simp[join]
theorem qO (f:eK) (l:List eK):kK (f::l)=f.2.length+1+kK l:=by simp[kK]
theorem aFC (a b:List eK):kK (a++b)=kK a+kK b:=by simp[kK]
theorem aFD {f:eK} {l:List eK} (h:f∈l):f.2.length+1≤kK l:=by
 induction l with
 | nil=>cases h
 | cons x l ih=>
  rw[qO]
  cases List.mem_cons.1 h with
  | inl e=>subst e;omega
  | inr e=>have:=ih e;omega
theorem tM (l:List eK):l.length≤kK l:=by
 induction l with
 | nil=>simp[kK]
 | cons f l ih=>rw[qO,List.length_cons];omega
theorem oC (l:List eK) (i:Nat):kK (l.take i)≤kK l:=by
 conv=>rhs;rw[← List.take_append_drop i l,aFC]
 omega
theorem aQJ (b:List UInt8):(G b).2≤b.length∧(G b).1<18446744073709551616:=by
 rcases aNK b with⟨h,_⟩|⟨n,hn,hp,h⟩
 ·rw[h];exact⟨Nat.zero_le _,by omega⟩
 ·rw[h];exact⟨hp.length_le,hn⟩
theorem yR {b:List UInt8} {f:eK} {k:Nat} (h:yQ b=some (f,k)):2≤k∧k≤b.length:=by
 unfold yQ at h
 split at h
 ·cases h
 ·rename_i hn
  injection h with h
  injection h with _ h
  have hg:=(aQJ (b.drop 1)).1
  rw[List.length_drop] at hg
  omega
theorem aEs:∀ (n:Nat) (b:List UInt8),b.length≤n→aAk n b=mB b:=by
 have key:∀ (m n:Nat) (b:List UInt8),b.length≤m→b.length≤n→aAk m b=aAk n b:=by
  intro m
  induction m with
  | zero=>
   intro n b hm hn
   have h0:b.length=0:=by omega
   cases n<;>simp[aAk,h0]
  | succ m ih=>
   intro n b hm hn
   by_cases h0:b.length=0
   ·cases n<;>simp[aAk,h0]
   ·cases n with
    | zero=>omega
    | succ n=>
     simp only[aAk,h0,if_false]
     cases hg:yQ b with
     | none=>rfl
     | some x=>
      obtain⟨f,k⟩:=x
      have:=yR hg
      simp only
      rw[ih n (b.drop k) (by rw[List.length_drop];omega) (by rw[List.length_drop];omega)]
 exact fun n b h=>key n b.length b h (Nat.le_refl _)
theorem aCN {b:List UInt8} (h:b.length=0):mB b=some []:=by
 unfold mB
 rw[h]
 simp[aAk,h]
theorem aGf {b:List UInt8} (h:b.length≠0) (hg:yQ b=none):mB b=none:=by
 unfold mB
 cases hb:b.length with
 | zero=>exact absurd hb h
 | succ n=>simp only[aAk,h,if_false,hg]
theorem aAl {b:List UInt8} {f:eK} {k:Nat} (hg:yQ b=some (f,k)):mB b=(mB (b.drop k)).map (f :: ·):=by
 have hk:=yR hg
 unfold mB
 cases hb:b.length with
 | zero=>omega
 | succ n=>
  have h0:¬ b.length=0:=by omega
  simp only[aAk,h0,if_false,hg]
  rw[aEs n (b.drop k) (by rw[List.length_drop];omega)]
  rfl
end Go.V
namespace Go.V
set_option linter.unusedVariables false
set_option linter.unusedSimpArgs false
theorem aCS {P:Program} {G:Gl} {id d0 d1 s n:Nat} {t yt e ty0 ty1:TypeId} {p0 p1:String} {a0 a1:Array Edge} {nt:Nat} {sl:List (Nat×AV)} {os:List AObj} {Q:Exit→St→Prop} {cells:List AV} {p:Perm}
  (ht:P.underlying t=some (.slice e)) (hs:lk sl s=.sl n cells p) (hd0:d0<nt) (hd1:d1<nt)
  (h:∀ b:Bool,(b=true→cells=[])→Q .normal ⟨nt,(d1,.val (.bool b))::(d0,.sl n cells p)::sl,os⟩) :
  awp P G (.region id #[⟨some d0,.move (.tmp s),ty0,p0,a0,none⟩,⟨some d1,.binOp .eql t (.tmp d0) (.const (.slice none 0 0)) yt,ty1,p1,a1,none⟩] false) ⟨nt,sl,os⟩ Q:=fun E a hr=>by
 refine wp_region_lit ?_
 have hsl:=hr.slots s
 simp only at hsl
 rw[hs] at hsl
 have hsl0:=hsl
 simp only[bE] at hsl
 obtain⟨A,cap,hv,hn,hc,_⟩:=hsl
 have hr1:=hr.put (d:=some d0) (v:=.sl n cells p) (u:=a.tmps.getD s undef) (.refl _ _) hr.objs hsl0 hd0
 have hr2:=hr1.put (d:=some d1) (v:=.val (.bool A.isNone)) (u:=.bool A.isNone) (.refl _ _) hr1.objs (by simp only[bE]) hd1
 unfold wpList
 rw[if_pos (by simp[Region.wanted])]
 refine .inl ?_
 unfold Oper.wp
 have e1:(execOp a.eval ⟨some d0,.move (.tmp s),ty0,p0,a0,none⟩).run P E.w=.ok (.value (a.tmps.getD s undef)) E.w:=by
  simp[execOp,Act.eval]
 rw[e1]
 simp only[Oper.upon]
 unfold wpList
 rw[if_pos (by simp[Region.wanted])]
 refine .inl ?_
 unfold Oper.wp
 have hlt:d0<a.tmps.size:=by rw[hr.size];exact hd0
 have e2:(a.put (some d0) (a.tmps.getD s undef)).eval (.tmp d0)=.slice A n cap:=by
  rw[← hv]
  simp[Act.eval,Act.put,Array.setIfInBounds,hlt]
 have e3:(execOp (a.put (some d0) (a.tmps.getD s undef)).eval ⟨some d1,.binOp .eql t (.tmp d0) (.const (.slice none 0 0)) yt,ty1,p1,a1,none⟩).run P E.w=.ok (.value (.bool A.isNone)) E.w:=by
  have e4:(a.put (some d0) (a.tmps.getD s undef)).eval (.const (.slice none 0 0))=.slice none 0 0:=rfl
  simp only[execOp,e2,e4]
  simp[eqGuard,binOp,run_equal_slice_nil _ t e A n cap ht]
 rw[e3]
 simp only[Oper.upon]
 unfold wpList
 refine⟨_,E,rfl,h A.isNone ?_,hr2,.refl _ _⟩
 intro hA
 cases A with
 | none=>
  rcases hc with rfl|⟨g,o,e,_⟩
  ·rfl
  ·cases e
 | some x=>cases hA
end Go.V
namespace Go.V
theorem aHu (z:List Value):kZ z 0=[]:=by simp[kZ]
theorem qC (z:List Value):kZ z 1=z.map cav:=by simp[kZ]
theorem aHv (z:List Value):kZ z 2=z.map cav++z.map cav:=by simp[kZ,List.replicate_succ]
theorem aQE (z:List Value):kZ z 3=z.map cav++(z.map cav++z.map cav):=by simp[kZ,List.replicate_succ]
theorem nW {P:Program} {ts:List TypeId} {rvs:List ResultVar} {n0:Nat} {Q:AV→List AObj→Prop} {st:St} (is:List Nat) (hok:aKj st.objs n0 is)
  (h:gS (gB P rvs st) fun r0=>ref (fun r=>is.contains r) r0=true∧Q (ren (fun r=>is.idxOf r) r0) (GHd st.objs is)):aBt P ts rvs n0 Q .ret st:=by
 cases hx:gB P rvs st with
 | none=>rw[hx] at h;exact h.elim
 | some x=>
  obtain⟨C,r0⟩:=x
  rw[hx] at h
  exact⟨.inr rfl,is,C,r0,hok,hx,h.1,h.2.1,h.2.2⟩
end Go.V
namespace Go.V
set_option linter.unusedVariables false
set_option linter.unusedSimpArgs false
mutual
def np:AV→AV
 | .top=>.top
 | .val v=>.val v
 | .agg cs=>.agg (nps cs)
 | .tup cs=>.tup (nps cs)
 | .sl n cells p=>.sl n (nps cells) (bW p)
 | .osl r off n cap=>.osl r off n cap
 | .ptr r off=>.ptr r off
 | .cptr cells=>.cptr (nps cells)
 | .clo f caps=>.clo f (nps caps)
 | .mref r=>.mref r
def nps:List AV→List AV
 | []=>[]
 | c::cs=>np c::nps cs
end
def npO:AObj→AObj
 | .cells cs=>.cells (nps cs)
 | .map es=>.map (es.map fun e=>(e.1,np e.2))
 | o=>o
theorem rY:∀ cs:List AV,(nps cs).length=cs.length
 | []=>rfl
 | c::cs=>by simp only[nps,List.length_cons,rY cs]
theorem aEM:∀ cs:List AV,nps cs=cs.map np
 | []=>rfl
 | c::cs=>by simp only[nps,List.map_cons,aEM cs]
theorem vZ (a b:List AV):nps (a++b)=nps a++nps b:=by simp[aEM]
mutual
theorem aBU {E:Env}:∀ (a:AV) (v:Value),bE E a v→bE E (np a) v
 | .top,_,_=>by simp only[np,bE]
 | .val u,v,h=>by simpa only[np,bE] using h
 | .agg cs,v,h=>by
  simp only[bE,np] at h ⊢
  obtain⟨vs,rfl,hl'⟩:=h
  exact⟨vs,rfl,oK cs vs hl'⟩
 | .tup cs,v,h=>by
  simp only[bE,np] at h ⊢
  obtain⟨vs,rfl,hl'⟩:=h
  exact⟨vs,rfl,oK cs vs hl'⟩
 | .sl n cells q,v,h=>by
  simp only[bE,np] at h ⊢
  obtain⟨A,cap,hv,hle,hc,hp⟩:=h
  refine⟨A,cap,hv,hle,?_,?_⟩
  ·rcases hc with rfl|⟨g,o,hA,hg,ho,hat⟩
   ·exact .inl rfl
   ·exact .inr ⟨g,o,hA,hg,by rw[rY];exact ho,tP g cells o hat⟩
  ·cases q with
   | no=>trivial
   | full=>exact hp
   | tok r=>trivial
 | .osl r off n cap,v,h=>by simpa only[np] using h
 | .ptr r off,v,h=>by simpa only[np] using h
 | .cptr cells,v,h=>by
  simp only[bE,np] at h ⊢
  obtain⟨g,o,hv,hg,ho,hat⟩:=h
  exact⟨g,o,hv,hg,by rw[rY];exact ho,tP g cells o hat⟩
 | .clo f caps,v,h=>by
  simp only[bE,np] at h ⊢
  obtain⟨vs,hv,hl'⟩:=h
  exact⟨vs,hv,oK caps vs hl'⟩
 | .mref r,v,h=>by simpa only[np] using h
theorem oK {E:Env}:∀ (cs:List AV) (vs:List Value),bY E cs vs→bY E (nps cs) vs
 | [],vs,h=>by simpa only[nps,bY] using h
 | c::cs,vs,h=>by
  simp only[bY,nps] at h ⊢
  obtain⟨v,vs',rfl,h1,h2⟩:=h
  exact⟨v,vs',rfl,aBU c v h1,oK cs vs' h2⟩
theorem tP {E:Env} (g:Nat):∀ (cs:List AV) (o:Nat),eD E g o cs→eD E g o (nps cs)
 | [],o,_=>by simp only[nps,eD]
 | c::cs,o,h=>by
  simp only[eD,nps] at h ⊢
  obtain⟨⟨v,h1,h2⟩,h3⟩:=h
  exact⟨⟨v,h1,aBU c v h2⟩,tP g cs (o+1) h3⟩
end
theorem aJm {E:Env} {u:Value}:∀ o:AObj,fM E u o→fM E u (npO o)
 | .cells cs,h=>by
  simp only[fM,npO,rY] at h ⊢
  rcases h with rfl|⟨g,vs,t,fz,h1,h2,h3,h4,h5,h6⟩
  ·exact .inl rfl
  ·exact .inr ⟨g,vs,t,fz,h1,h2,h3,h4,h5,oK _ _ h6⟩
 | .tok _ _,h=>h
 | .map es,h=>by
  simp only[fM,npO,List.map_map] at h ⊢
  obtain⟨g,ents,clock,h1,h2,h3,h4,h5⟩:=h
  refine⟨g,ents,clock,h1,h2,h3,h4,?_⟩
  have:=oK _ _ h5
  rwa [aEM,List.map_map] at this
 | .siter _ _,h=>h
 | .dead,h=>h
theorem aIR (o:AObj) (u:Value):dI (npO o) u=dI o u:=by
 have h1:∀ (x y:AV) (xs ys:List AV),dI (.cells (x::xs)) u=dI (.cells (y::ys)) u:=fun x y xs ys=>by
  cases u with
  | pointer a=>cases a<;>rfl
  | _=>rfl
 have h2:∀ e f:List (Value×AV),dI (.map e) u=dI (.map f) u:=fun e f=>by
  cases u with
  | map a=>cases a<;>rfl
  | _=>rfl
 cases o with
 | cells cs=>
  cases cs with
  | nil=>rfl
  | cons c cs=>exact h1 _ _ _ _
 | map es=>exact h2 _ _
 | _=>rfl
theorem aQY (s:List (Nat×AV)) (i:Nat):lk (s.map fun x=>(x.1,np x.2)) i=np (lk s i):=by
 induction s with
 | nil=>rfl
 | cons x s ih=>
  obtain⟨j,v⟩:=x
  simp only[List.map_cons,lk]
  split
  ·rfl
  ·exact ih
theorem gE.np {G:Gl} {nt:Nat} {s:List (Nat×AV)} {os:List AObj}:gE G ⟨nt,s,os⟩ ⟨nt,s.map fun x=>(x.1,np x.2),os.map npO⟩:=fun E a hr=>by
 obtain⟨hk,hobj,hdis⟩:=hr.objs
 have hget:∀ (r:Nat) (o:AObj),(os.map npO)[r]? = some o→∃ o',os[r]? = some o'∧o=npO o':=by
  intro r o h
  rw[List.getElem?_map] at h
  cases h':os[r]? with
  | none=>rw[h'] at h;cases h
  | some o'=>rw[h'] at h;injection h with h;exact⟨o',rfl,h.symm⟩
 have how:∀ g,Ow E (os.map npO) g→Ow E os g:=by
  rintro g ⟨r,o,h,hb⟩
  obtain⟨o',h',rfl⟩:=hget r o h
  rw[aIR] at hb
  exact⟨r,o',h',hb⟩
 refine⟨E,rfl,⟨hr.size,fun i=>?_,hr.defers,⟨by simpa using hk,fun r o h=>?_,fun r1 r2 o1 o2 x h1 h2 b1 b2=>?_⟩,hr.glob⟩,?_⟩
 ·have:=aBU _ _ (hr.slots i)
  rwa [← aQY] at this
 ·obtain⟨o',h',rfl⟩:=hget r o h
  exact aJm _ (hobj r o' h')
 ·obtain⟨p1,q1,rfl⟩:=hget r1 o1 h1
  obtain⟨p2,q2,rfl⟩:=hget r2 o2 h2
  rw[aIR] at b1 b2
  exact hdis _ _ _ _ x q1 q2 b1 b2
 ·exact { Ext0.refl E with os:=rfl,tape:=rfl,output:=rfl,frame:=fun _ _ _=>⟨rfl,rfl⟩,own:=fun g h _=>how g h }
theorem aLC {P:Program} {G:Gl} {c:Code} {nt:Nat} {s:List (Nat×AV)} {os:List AObj} {Q:Exit→St→Prop} (hq:awp P G c ⟨nt,s.map fun x=>(x.1,np x.2),os.map npO⟩ Q):awp P G c ⟨nt,s,os⟩ Q:=eX .np hq
mutual
theorem aML:∀ a:AV,aH a=true→np a=a
 | .top,_=>rfl
 | .val _,_=>rfl
 | .agg cs,h=>by simp only[np,iG cs h]
 | .tup cs,h=>by simp only[np,iG cs h]
 | .sl n cells q,h=>by
  cases q<;>simp_all [aH,np,bW,iG cells]
 | .osl ..,_=>rfl
 | .ptr ..,_=>rfl
 | .cptr cells,h=>by simp only[np,iG cells h]
 | .clo f caps,h=>by simp only[np,iG caps h]
 | .mref ..,_=>rfl
theorem iG:∀ cs:List AV,aM cs=true→nps cs=cs
 | [],_=>rfl
 | c::cs,h=>by
  simp only[aM,Bool.and_eq_true] at h
  simp only[nps,aML c h.1,iG cs h.2]
end
theorem aIt {P:Program} {G:Gl} {f:FuncId} {as_ as':List AV} {objs:List AObj} {k:AV→List AObj→Prop} {v:AV} {sz n:Nat} {C:Prop} (ts:List TypeId) (hv:gT P objs [] ts as_=some (C,false,as')) (hC:C)
  (hc:ACalls P G f as' [] (fun r o=>o=[.tok sz n]∧r=v)) (hr:ref (fun r=>decide (r<1)) v=true) (hk:k (ren (fun i=>objs.length+i) v) (objs++[.tok sz n])):wQ P G (some f) as_ objs k:=by
 refine gF [] false ts ⟨List.nodup_nil,by simp,by simp⟩ hv hC hc ⟨Nat.zero_le _,fun o ho=>?_,hr,fun h=>by cases h⟩ ?_
 ·simp at ho
  subst ho
  rfl
 ·have e:σn objs []=fun i=>objs.length+i:=by funext i;simp[σn]
  rw[e]
  simpa[jD,gG,gJ] using hk
mutual
theorem aAI (o:AObj) (σ:Nat→Nat) (h:eH o=true):gJ σ o=o:=by
 cases o with
 | cells cs=>simp only[gJ,cY σ cs h]
 | map es=>
  simp only[eH] at h
  simp only[gJ]
  congr 1
  induction es with
  | nil=>rfl
  | cons e es ih=>
   simp only[List.map_cons,aM,Bool.and_eq_true] at h
   simp only[List.map_cons,uL σ _ h.1,ih h.2]
 | _=>rfl
end
theorem aBa (o:AObj) (p:Nat→Bool) (h:eH o=true):fU p o=true:=by
 cases o with
 | cells cs=>exact bM p cs h
 | map es=>exact bM p _ h
 | _=>rfl
theorem sW {P:Program} {ts:List TypeId} {rvs:List ResultVar} {Q:AV→List AObj→Prop} {st:St} (x:AObj) (hx:st.objs[0]? = some x) (ho:eH x=true)
  (h:gS (gB P rvs st) fun r0=>aH r0=true∧Q r0 [x]):aBt P ts rvs 1 Q .ret st:=by
 have hlt:0<st.objs.length:=by
  rcases Nat.lt_or_ge 0 st.objs.length with h'|h'
  ·exact h'
  ·rw[List.getElem?_eq_none h'] at hx;cases hx
 have hget:st.objs.getD 0 .dead=x:=by rw[List.getD_eq_getElem?_getD,hx];rfl
 refine nW [0] ⟨by simp,fun i hi=>(by obtain rfl:i=0:=(by omega);rfl),by simp,fun i hi=>?_,fun i hi=>?_⟩ ?_
 ·simp at hi;subst hi;exact hlt
 ·simp at hi;subst hi;rw[hget];exact aBa x _ ho
 ·cases hr:gB P rvs st with
  | none=>rw[hr] at h;exact h.elim
  | some y=>
   obtain⟨C,r0⟩:=y
   rw[hr] at h
   refine⟨h.1,aDD _ _ h.2.1,?_⟩
   rw[uL _ _ h.2.1]
   have:GHd st.objs [0]=[x]:=by simp only[GHd,List.map_cons,List.map_nil,hget,aAI x _ ho]
   rw[this]
   exact h.2.2
end Go.V
namespace Go.V
set_option linter.unusedVariables false
theorem aLe (f:eK) (r:List UInt8) (h:f.2.length<18446744073709551616):yQ (fby f++r)=some (f,(fby f).length):=by
 obtain⟨k,v⟩:=f
 simp only at h
 have e0:fby (k,v)++r=k::(vb v.length++(v++r)):=by simp[fby]
 have hg:G ((fby (k,v)++r).drop 1)=(v.length,(vb v.length).length):=by
  rw[e0,List.drop_succ_cons,List.drop_zero]
  exact aQK _ h
 have hl:(fby (k,v)++r).length=1+(vb v.length).length+v.length+r.length:=by rw[e0];simp;omega
 have hp:=List.length_pos_iff.2 (aBp v.length)
 unfold yQ
 rw[hg]
 simp only
 rw[hl,if_neg (by omega)]
 have h1:(fby (k,v)++r).getD 0 0=k:=by rw[e0];rfl
 have h2:(fby (k,v)++r).drop (1+(vb v.length).length)=v++r:=by
  rw[e0,Nat.add_comm,List.drop_succ_cons,List.drop_left]
 rw[h1,h2,List.take_left]
 have h3:1+(vb v.length).length+v.length=(fby (k,v)).length:=by simp[fby];omega
 rw[h3]
theorem vJ:∀ l:List eK,kK l<18446744073709551616→mB (join l)=some l
 | [],_=>aCN rfl
 | f::l,h=>by
  rw[qO] at h
  rw[join_cons,aAl (aLe f (join l) (by omega)),List.drop_left,vJ l (by omega)]
  rfl
theorem aJD (l:List eK):kK l≤(join l).length:=by
 induction l with
 | nil=>exact Nat.le_refl _
 | cons f l ih=>
  rw[qO,join_cons,List.length_append]
  have:(fby f).length=f.2.length+(vb f.2.length).length+1:=by simp[fby];omega
  omega
end Go.V
namespace Go.V
set_option linter.unusedVariables false
set_option linter.unusedSimpArgs false
theorem gE.tokO {G:Gl} {nt:Nat} {s:List (Nat×AV)} {os:List AObj} (sz r n:Nat) (cells:List AV) (h:os[r]? = some (.cells [.sl n cells .full])):gE G ⟨nt,s,os⟩ ⟨nt,s,os.set r (.cells [.sl n cells (.tok os.length)])++[.tok sz n]⟩:=fun E a hr=>by
 have hlt:r<os.length:=by
  rcases Nat.lt_or_ge r os.length with h'|h'
  ·exact h'
  ·rw[List.getElem?_eq_none h'] at h;cases h
 have hk:=hr.objs.1
 simp only at hk
 have hob:=hr.objs.2.1 r _ h
 simp only[fM] at hob
 rcases hob with hob|⟨g,vs,t,fz,h1,h2,h3,h4,h5,h6⟩
 ·cases hob
 simp only[bY] at h6
 obtain⟨v,vs',e6,hv,e7⟩:=h6
 subst e7
 have hv0:=hv
 simp only[bE] at hv
 obtain⟨A,cap,rfl,hn,hc,hp⟩:=hv
 have hcap:cap=n:=hp
 subst hcap
 have hadd:=nD E (.slice A cap cap)
 obtain⟨hx2,ho2⟩:=rG (o:=.tok sz cap) (u:=.slice A cap cap) (.refl E os) hr.objs ⟨A,cap,rfl,Nat.le_refl _,fun h=>by omega⟩ (by intro g hg;cases A<;>simp[dI] at hg)
 have hρ:(E.add (.slice A cap cap)).ρ r=E.ρ r:=by simp[Env.add,hk];omega
 have hnew:fM (E.add (.slice A cap cap)) ((E.add (.slice A cap cap)).ρ r) (AObj.cells [AV.sl cap cells (Perm.tok os.length)]):=by
  rw[hρ]
  refine .inr ⟨g,vs,t,fz,h1,h2,h3,h4,h5,?_⟩
  rw[show ([AV.sl cap cells (.tok os.length)]).length=([AV.sl cap cells .full]).length from rfl,e6]
  simp only[bY]
  refine⟨_,_,rfl,?_,rfl⟩
  simp only[bE]
  refine⟨A,cap,rfl,Nat.le_refl _,?_,lF (by simp[Env.add,hk]) (by simp[Env.add,hk]) rfl⟩
  rcases hc with e'|⟨g,o,hA,hg,hl,hat⟩
  ·exact .inl e'
  ·exact .inr ⟨g,o,hA,hg,hl,eD.mono hadd g hg cells o hl hat⟩
 have hset:os.set r (AObj.cells [AV.sl cap cells (Perm.tok os.length)])++[AObj.tok sz cap]=(os++[AObj.tok sz cap]).set r (AObj.cells [AV.sl cap cells (Perm.tok os.length)]):=(List.set_append_left _ _ hlt).symm
 rw[hset]
 have hget:∀ (r':Nat) (o:AObj),((os++[AObj.tok sz cap]).set r (AObj.cells [AV.sl cap cells (Perm.tok os.length)]))[r']? = some o→(r'=r∧o=.cells [.sl cap cells (.tok os.length)])∨(os++[AObj.tok sz cap])[r']? = some o:=by
  intro r' o h'
  rw[List.getElem?_set] at h'
  split at h'
  ·split at h'
   ·injection h' with h';rename_i e _;exact .inl ⟨e.symm,h'.symm⟩
   ·cases h'
  ·exact .inr h'
 have hr0:(os++[AObj.tok sz cap])[r]? = some (AObj.cells [AV.sl cap cells Perm.full]):=by rw[List.getElem?_append_left hlt];exact h
 have hown:∀ u,dI (AObj.cells [AV.sl cap cells (Perm.tok os.length)]) u=dI (AObj.cells [AV.sl cap cells Perm.full]) u:=fun u=>by
  cases u with
  | pointer a=>cases a<;>rfl
  | _=>rfl
 refine⟨E.add (.slice A cap cap),rfl,⟨hr.size,fun j=>bE.mono hadd _ _ (hr.slots j),hr.defers,⟨by simpa using ho2.1,fun r' o h'=>?_,fun r1 r2 o1 o2 x q1 q2 b1 b2=>?_⟩,hr.glob.mono hadd⟩,?_⟩
 ·rcases hget r' o h' with⟨rfl,rfl⟩|h'
  ·exact hnew
  ·exact ho2.2.1 r' o h'
 ·rcases hget r1 o1 q1 with⟨rfl,rfl⟩|q1'<;>rcases hget r2 o2 q2 with⟨rfl,rfl⟩|q2'
  ·rfl
  ·rw[hown] at b1;exact ho2.2.2 _ _ _ _ x hr0 q2' b1 b2
  ·rw[hown] at b2;exact ho2.2.2 _ _ _ _ x q1' hr0 b1 b2
  ·exact ho2.2.2 _ _ _ _ x q1' q2' b1 b2
 ·refine hx2.trans ?_
  refine { Ext0.refl _ with os:=rfl,tape:=rfl,output:=rfl,frame:=fun _ _ _=>⟨rfl,rfl⟩,own:=fun g hw _=>?_ }
  obtain⟨r',o,q,hb⟩:=hw
  rcases hget r' o q with⟨rfl,rfl⟩|q'
  ·rw[hown] at hb;exact⟨_,_,hr0,hb⟩
  ·exact⟨_,_,q',hb⟩
theorem aLE {P:Program} {G:Gl} {c:Code} {nt:Nat} {s:List (Nat×AV)} {os:List AObj} {Q:Exit→St→Prop} (sz r:Nat) {n:Nat} {cells:List AV} (h:os[r]? = some (.cells [.sl n cells .full]))
  (hq:awp P G c ⟨nt,s,os.set r (.cells [.sl n cells (.tok os.length)])++[.tok sz n]⟩ Q):awp P G c ⟨nt,s,os⟩ Q:=eX (.tokO sz r n cells h) hq
theorem aKd (P:Program) (G:Gl) (M:List Nat) (ops:Array Oper) (rest:List Oper) (nt:Nat) (s:List (Nat×AV)) (os:List AObj) (K:St→Prop) (ty:TypeId) (pos:String) (af:Array Edge) (t:TypeId) (m k x:Operand) :
  dG P G M ops (⟨none,.mapUpdate t m k x,ty,pos,af,none⟩::rest) ⟨nt,s,os⟩ K=lG (uD P t os (ev G s m) (ev G s k) (ev G s x)) fun _ os'=>dG P G M ops rest ⟨nt,s,os'⟩ K:=
 (vG P G M ops rest nt s os K 0 ty pos af).2.1 t m k x
mutual
theorem aER {σ:Nat→Nat} {p:Nat→Bool} (h:∀ r,p r=true→σ r=r):∀ a:AV,ref p a=true→ren σ a=a
 | .top,_=>rfl
 | .val _,_=>rfl
 | .agg cs,hr=>by simp only[ren,sC h cs hr]
 | .tup cs,hr=>by simp only[ren,sC h cs hr]
 | .sl n cells q,hr=>by
  simp only[ref,Bool.and_eq_true] at hr
  simp only[ren,sC h cells hr.2]
  cases q with
  | tok r=>simp only[rB,h r hr.1]
  | _=>rfl
 | .osl r off n cap,hr=>by simp only[ren,h r hr]
 | .ptr r off,hr=>by simp only[ren,h r hr]
 | .cptr cells,hr=>by simp only[ren,sC h cells hr]
 | .clo f caps,hr=>by simp only[ren,sC h caps hr]
 | .mref r,hr=>by simp only[ren,h r hr]
theorem sC {σ:Nat→Nat} {p:Nat→Bool} (h:∀ r,p r=true→σ r=r):∀ cs:List AV,eV p cs=true→gH σ cs=cs
 | [],_=>rfl
 | c::cs,hr=>by
  simp only[eV,Bool.and_eq_true] at hr
  simp only[gH,aER h c hr.1,sC h cs hr.2]
end
theorem aIY {σ:Nat→Nat} {p:Nat→Bool} (h:∀ r,p r=true→σ r=r) (o:AObj) (hr:fU p o=true):gJ σ o=o:=by
 cases o with
 | cells cs=>simp only[gJ,sC h cs hr]
 | map es=>
  simp only[fU] at hr
  simp only[gJ]
  congr 1
  induction es with
  | nil=>rfl
  | cons e es ih=>
   simp only[List.map_cons,eV,Bool.and_eq_true] at hr
   simp only[List.map_cons,aER h e.2 hr.1,ih hr.2]
 | _=>rfl
theorem zQ {n r:Nat} (h:r<n):(List.range n).idxOf r=r:=by
 have h1:(List.range n).idxOf r<(List.range n).length:=List.idxOf_lt_length_iff.2 (List.mem_range.2 h)
 have h2:=List.getElem_idxOf h1
 rwa [List.getElem_range] at h2
theorem aCF {objs:List AObj} {n:Nat} (hn:n≤objs.length) (h:∀ i,i<n→fU (fun r=>decide (r<n)) (objs.getD i .dead)=true):GHd objs (List.range n)=objs.take n:=by
 unfold GHd
 apply List.ext_getElem?
 intro i
 rcases Nat.lt_or_ge i n with hi|hi
 ·rw[List.getElem?_map,List.getElem?_range hi,List.getElem?_take_of_lt hi]
  simp only[Option.map_some]
  rw[aIY (p:=fun r=>decide (r<n)) (fun r hr=>zQ (by simpa using hr)) _ (h i hi),List.getD_eq_getElem?_getD]
  have:i<objs.length:=by omega
  rw[List.getElem?_eq_getElem this]
  rfl
 ·rw[List.getElem?_eq_none (by simpa using hi),List.getElem?_eq_none (by rw[List.length_take];omega)]
theorem aIj {P:Program} {ts:List TypeId} {rvs:List ResultVar} {n:Nat} {Q:AV→List AObj→Prop} {st:St} (hn:n≤st.objs.length) (href:∀ i,i<n→fU (fun r=>decide (r<n)) (st.objs.getD i .dead)=true)
  (h:gS (gB P rvs st) fun r0=>ref (fun r=>decide (r<n)) r0=true∧Q r0 (st.objs.take n)):aBt P ts rvs n Q .ret st:=by
 have hc:(fun r=>(List.range n).contains r)=fun r=>decide (r<n):=by funext r;simp
 refine nW (List.range n) ⟨by simp,fun i hi=>by rw[List.getD_eq_getElem?_getD,List.getElem?_range hi];rfl,List.nodup_range,fun i hi=>?_,fun i hi=>?_⟩ ?_
 ·have:=List.mem_range.1 hi;omega
 ·rw[hc];exact href i (List.mem_range.1 hi)
 ·rw[hc]
  cases hr:gB P rvs st with
  | none=>rw[hr] at h;exact h.elim
  | some y=>
   obtain⟨C,r0⟩:=y
   rw[hr] at h
   refine⟨h.1,h.2.1,?_⟩
   rw[aCF hn href,aER (p:=fun r=>decide (r<n)) (fun r hr=>zQ (by simpa using hr)) _ h.2.1]
   exact h.2.2
theorem fE {P:Program} {ts:List TypeId} {rvs:List ResultVar} {n:Nat} {Q:AV→List AObj→Prop} {st:St} (hn:n≤st.objs.length) (href:∀ o∈st.objs.take n,fU (fun r=>decide (r<n)) o=true)
  (h:gS (gB P rvs st) fun r0=>ref (fun r=>decide (r<n)) r0=true∧Q r0 (st.objs.take n)):aBt P ts rvs n Q .ret st:=by
 refine aIj hn (fun i hi=>?_) h
 have hlt:i<st.objs.length:=by omega
 rw[List.getD_eq_getElem?_getD,List.getElem?_eq_getElem hlt]
 exact href _ (List.mem_take_iff_getElem.2 ⟨i,by omega,rfl⟩)
theorem aEU (objs rest os:List AObj) (h:os.length=objs.length):gG (objs++rest) (List.range objs.length) os=os++rest:=by
 apply List.ext_getElem?
 intro j
 have hlt:∀ i∈List.range objs.length,i<(objs++rest).length:=fun i hi=>by
  have:=List.mem_range.1 hi
  rw[List.length_append];omega
 rcases Nat.lt_or_ge j objs.length with hj|hj
 ·have h1:=yY (objs++rest) (List.range objs.length) os j List.nodup_range (by simpa using hj) (by omega) hlt
  rw[List.getD_eq_getElem?_getD,List.getElem?_range hj] at h1
  simp only[Option.getD_some] at h1
  rw[h1,List.getElem?_append_left (by omega)]
 ·rw[sD _ _ _ _ (by simpa using hj),List.getElem?_append_right hj,List.getElem?_append_right (by omega),h]
theorem iU {P:Program} {G:Gl} {f:FuncId} {as_ as':List AV} {objs rest os:List AObj} {k:AV→List AObj→Prop} {v:AV} {C:Prop} (ts:List TypeId) (href:∀ o∈objs,fU (fun r=>decide (r<objs.length)) o=true)
  (hv:gT P (objs++rest) (List.range objs.length) ts as_=some (C,false,as')) (hC:C) (hc:ACalls P G f as' objs (fun r o=>o=os∧r=v)) (hos:os.length=objs.length)
  (hor:∀ o∈os,fU (fun r=>decide (r<objs.length)) o=true) (hvr:ref (fun r=>decide (r<objs.length)) v=true) (hk:k v (os++rest)):wQ P G (some f) as_ (objs++rest) k:=by
 have href':∀ i,i<objs.length→fU (fun r=>decide (r<objs.length)) ((objs++rest).getD i .dead)=true:=fun i hi=>by
  rw[List.getD_eq_getElem?_getD,List.getElem?_append_left hi,List.getElem?_eq_getElem hi]
  exact href _ (List.getElem_mem hi)
 have hcont:(fun r=>(List.range objs.length).contains r)=fun r=>decide (r<objs.length):=by funext r;simp
 have hσ:∀ r,decide (r<objs.length)=true→σn (objs++rest) (List.range objs.length) r=r:=fun r hr=>by
  have hr':r<objs.length:=by simpa using hr
  unfold σn
  rw[if_pos (by simpa using hr'),List.getD_eq_getElem?_getD,List.getElem?_range hr']
  rfl
 refine gF (v:=v) (os:=os) (List.range objs.length) false ts ⟨List.nodup_range,fun i hi=>?_,fun i hi=>?_⟩ hv hC ?_ ⟨?_,?_,?_,fun h=>by cases h⟩ ?_
 ·have:=List.mem_range.1 hi;rw[List.length_append];omega
 ·rw[hcont];exact href' i (List.mem_range.1 hi)
 ·rw[aCF (by rw[List.length_append];omega) href',List.take_left];exact hc
 ·simp[hos]
 ·rw[hos];exact hor
 ·rw[hos];exact hvr
 ·have e1:os.map (gJ (σn (objs++rest) (List.range objs.length)))=os:=by
   conv=>rhs;rw[← List.map_id os]
   exact List.map_congr_left fun o ho=>aIY hσ o (hor o ho)
  have e2:jD (objs++rest) (List.range objs.length) os=os++rest:=by
   unfold jD
   rw[e1,aEU _ _ _ hos,List.drop_eq_nil_of_le (by simp[hos]),List.append_nil]
  rw[e2,aER hσ v hvr]
  exact hk

def Pn (v:Value):List PanicEntry:=[{ v:=v,recovered:=false }]
def APan (P:Program) (G:Gl) (f:FuncId) (args:List AV) (outs:List AObj) (Q:AV→List AObj→Prop):Prop:=
 (∃ fn,P.funcs[f]? = some fn∧fn.body.isSome=true∧(fn.name == "runtime.NumGoroutine")=false)∧
 ∀ (E:Env) (vs:List Value),bY E args vs→bP E outs→GOk E G→
  Calls P f vs.toArray E.w fun e w'=>∃ E' v r outs',E'.w=w'∧e=.panicked (Pn v)∧Q r outs'∧bE E' r v∧bP E' outs'∧Ext E outs E' outs'
section
variable {P:Program} {G:Gl}
theorem wF {ops:Array Oper} {Q Q':Exit→Act→World→Prop} (l':List Oper) (h1:∀ a w,Q .normal a w→wpList P ops Q' l' a w) (h2:∀ e a w,e≠.normal→Q e a w→Q' e a w) :
  ∀ (l:List Oper) (a:Act) (w:World),(LetsOut Q→LetsOut Q')→wpList P ops Q l a w→wpList P ops Q' (l++l') a w
 | [],a,w,_,h=>h1 a w h
 | o::rest,a,w,hL,h=>by
  simp only[List.cons_append]
  unfold wpList at h ⊢
  split
  ·rename_i hw
   rw[if_pos hw] at h
   rcases h with h|⟨q1,q2⟩
   ·exact .inl (aEe (fun a w h=>wF l' h1 h2 rest a w hL h) h2 h)
   ·exact .inr ⟨q1,hL q2⟩
  ·rename_i hw
   rw[if_neg hw] at h
   exact wF l' h1 h2 rest _ _ hL h
theorem aHr {M:List Nat} {ops:Array Oper} {l:List Oper} {n:Nat} {o:Oper} (hl:l=l.take n++o::l.drop (n+1)) {st:St} {Q:Exit→St→Prop} {E:Env} {a:Act} (hr:Rep G E st a) {K:St→Prop}
  (hK:∀ s E' a',K s→Rep G E' s a'→Ext E st.objs E' s.objs→wpList P ops (RQ P G E st.objs Q) (o::l.drop (n+1)) a' E'.w)
  (h:dG P G M ops (l.take n) st K):wpList P ops (RQ P G E st.objs Q) l a E.w:=by
 have h1:=jL (P:=P) (G:=G) (M:=M) (ops:=ops) (Q:=fun (e:Exit) (s:St)=>e=.normal∧K s) (l.take n) st E a hr (vK (fun s h=>⟨rfl,h⟩) _ _ h)
 rw[hl]
 generalize hg:l.drop (n+1)=post at *
 refine wF (P:=P) _ ?_ ?_ _ _ _ ?_ h1
 ·rintro a' w' ⟨s,E',rfl,⟨_,hk⟩,hr',hx⟩
  exact hK s E' a' hk hr' hx
 ·rintro e a' w' hne ⟨s,E',_,⟨he,_⟩,_⟩
  exact absurd he hne
 ·rintro⟨a0,w0,s,E',_,⟨he,_⟩,_⟩
  cases he
def aQl (P:Program) (G:Gl) (g:FuncId) (cap:AV) (objs:List AObj) (v:Value) (objs':List AObj):Prop:=
 ∀ (E:Env) (u:Value),bE E cap u→bP E objs→GOk E G→
  CallsD P g #[u] (.panicking (Pn v)) E.w fun e u' w'=>∃ E',E'.w=w'∧(∃ x,e=.returned x)∧u'=.panicking [{ v:=v,recovered:=true }]∧bP E' objs'∧Ext E objs E' objs'
def aQH (P:Program) (G:Gl) (g:FuncId) (cap:AV) (ts:List TypeId) (rvs:List ResultVar) (n0:Nat) (Q:AV→List AObj→Prop):Exit→St→Prop
 | .panic ch,st=>∃ v objs',ch=Pn v∧aQl P G g cap st.objs v objs'∧aBt P ts rvs n0 Q .ret ⟨st.nt,st.slots,objs'⟩
 | e,st=>aBt P ts rvs n0 Q e st
theorem jP {f g:FuncId} {fn:Func} {c0 rest:Code} {id tf tc:Nat} {ty0 ty1:TypeId} {p0 p1:String} {a0 a1:Array Edge} {args:List AV} {outs:List AObj} {Q:AV→List AObj→Prop} (hf:P.funcs[f]? = some fn)
  (hb:fn.body=some (.seq c0 (.seq (.region id #[⟨some tf,.makeFunc (.func g) #[] #[.tmp tc],ty0,p0,a0,none⟩,⟨none,.defer ⟨.value (.tmp tf),#[],#[]⟩,ty1,p1,a1,none⟩] false) rest))) (hn:(fn.name == "runtime.NumGoroutine")=false)
  {nt:Nat} {rts:Array TypeId} {rvs:Array ResultVar} (hnt:fn.ntmps=nt) (hrt:fn.resultTypes=rts) (hrv:fn.results=rvs) (hle:args.length≤nt) (hg:aOy P g) (hds:G.ds=[])
  (h:awp P G c0 ⟨nt,aZ 0 args,outs⟩ fun e s=>e=.normal∧tf<s.nt∧∃ r off,lk s.slots tc=.ptr r off∧
   ∀ d,awp P ⟨G.tab,[d]⟩ rest ⟨s.nt,(tf,.top)::s.slots,s.objs⟩ (aQH P G g (.ptr r off) rts.toList rvs.toList outs.length Q)):ACalls P G f args outs Q:=by
 subst hnt hrt hrv
 refine⟨⟨fn,hf,by simp[hb],hn⟩,fun E vs hl ho hG=>?_⟩
 refine calls_of_wp_defers hf hb ?_
 refine wp_seq (wp_mono (h E _ (uM hds hle hl ho hG)) ?_)
 rintro e a' w' ⟨st',E',rfl,⟨rfl,htf,r,off,hptr,hrest⟩,hr',hx'⟩
 obtain⟨hgfn,hidle⟩:=hg
 obtain⟨cap,hcap,hcapR,ad,had⟩:∃ cap,a'.tmps.getD tc undef=cap∧bE E' (.ptr r off) cap∧∃ ad,cap=.pointer (some ad):=by
  have:=hr'.slots tc
  rw[hptr] at this
  refine⟨_,rfl,this,?_⟩
  simp only[bE] at this
  obtain⟨_,_,_,hv⟩:=this
  exact⟨_,hv⟩
 let d:Deferred:=⟨.fn (.func g) #[cap],#[]⟩
 refine wp_seq ?_
 -- the region of the deferral
 have hlt:tf<a'.tmps.size:=by rw[hr'.size];exact htf
 have hev:a'.eval (.tmp tc)=cap:=hcap
 have hreg:∀ (R:Exit→Act→World→Prop),R .normal { tmps:=a'.tmps.set tf (.func (.func g) #[] #[cap]) hlt,defers:=d::a'.defers } E'.w→
   (Code.region id #[⟨some tf,.makeFunc (.func g) #[] #[.tmp tc],ty0,p0,a0,none⟩,⟨none,.defer ⟨.value (.tmp tf),#[],#[]⟩,ty1,p1,a1,none⟩] false).wp P R a' E'.w:=by
  intro R hR
  refine wp_region_lit ?_
  unfold wpList
  rw[if_pos (by simp[Region.wanted])]
  refine .inl ?_
  unfold Oper.wp
  have e1:(execOp a'.eval ⟨some tf,.makeFunc (.func g) #[] #[.tmp tc],ty0,p0,a0,none⟩).run P E'.w=.ok (.value (.func (.func g) #[] #[cap])) E'.w:=by
   simp[execOp,Instr.makeFunc,hev]
  rw[e1]
  simp only[Oper.upon]
  have e2:a'.put (some tf) (.func (.func g) #[] #[cap]) = { tmps:=a'.tmps.set tf (.func (.func g) #[] #[cap]) hlt,defers:=a'.defers }:=by
   simp[Act.put,Array.setIfInBounds,hlt]
  rw[e2]
  unfold wpList
  rw[if_pos (by simp[Region.wanted])]
  refine .inl ?_
  unfold Oper.wp
  have e3:({ tmps:=a'.tmps.set tf (.func (.func g) #[] #[cap]) hlt,defers:=a'.defers }:Act).eval (.tmp tf)=.func (.func g) #[] #[cap]:=by
   simp[Act.eval,hlt]
  have e4:(execOp ({ tmps:=a'.tmps.set tf (.func (.func g) #[] #[cap]) hlt,defers:=a'.defers }:Act).eval ⟨none,.defer ⟨.value (.tmp tf),#[],#[]⟩,ty1,p1,a1,none⟩).run P E'.w=.ok (.defer d) E'.w:=by
   simp[execOp,resolve,e3,Deferred.ofValue,d]
  rw[e4]
  simp only[Oper.upon]
  unfold wpList
  simpa[Act.put] using hR
 refine hreg _ ?_
 have hrep:Rep ⟨G.tab,[d]⟩ E' ⟨st'.nt,(tf,.top)::st'.slots,st'.objs⟩ { tmps:=a'.tmps.set tf (.func (.func g) #[] #[cap]) hlt,defers:=d::a'.defers }:=by
  refine⟨by simpa using hr'.size,fun i=>?_,by simp[hr'.defers,hds],hr'.objs,hr'.glob⟩
  simp only[lk]
  split
  ·simp only[bE]
  ·rename_i hne
   have:=hr'.slots i
   have e:(a'.tmps.set tf (.func (.func g) #[] #[cap]) hlt).getD i undef=a'.tmps.getD i undef:=by
    simp[Array.getD_eq_getD_getElem?,Array.getElem?_set,hne]
   rw[e]
   exact this
 refine wp_mono (hrest d E' _ hrep) ?_
 rintro e a2 w2 ⟨st2,E2,rfl,hfinR,hr2,hx2⟩
 have hx:=hx'.trans hx2
 have hd2:a2.defers=[d]:=hr2.defers
 obtain⟨gf,hgf,hgb,hgn⟩:=hgfn
 have hinv:(invoke (.fn (.func g) #[cap]) #[]).run P E2.w=.ok (.enter g #[cap]) E2.w:=by simp[invoke,oD hgf hgb hgn]
 -- what is handed back
 have hfin:∀ (E3:Env) (objs3:List AObj) (e:Exit),bP E3 objs3→Ext E outs E3 objs3→(∀ i,bE E3 (lk st2.slots i) (a2.tmps.getD i undef))→aBt P fn.resultTypes.toList fn.results.toList outs.length Q e ⟨st2.nt,st2.slots,objs3⟩→
   GOk E3 ⟨G.tab,[d]⟩→∃ u,(results fn a2.tmps).run P E3.w=.ok u E3.w∧∃ E4 v r' outs',E4.w=E3.w∧Ending.returned u=.returned v∧Q r' outs'∧bE E4 r' v∧bP E4 outs'∧Ext E outs E4 outs':=by
  rintro E3 objs3 e ho3 hx3 hsl ⟨he,is,C,r0,hout,iL,hC,href,hq⟩ hG3
  obtain⟨h1,h2,h3⟩:=aDA ho ho3 hx3 hout
  have hr3:Rep ⟨G.tab,[d]⟩ E3 ⟨st2.nt,st2.slots,objs3⟩ a2:=⟨hr2.size,hsl,hr2.defers,ho3,hG3⟩
  obtain⟨u,hu,hrun⟩:=zH (P:=P) hr3 iL hC
  exact⟨u,hrun,{ w:=E3.w,lim:=E3.lim,k:=is.length,ρ:=fun i=>E3.ρ (is.getD i 0) },u,_,_,rfl,rfl,hq,h3 _ _ href hu,h1,h2⟩
 have quiet:∀ e,aBt P fn.resultTypes.toList fn.results.toList outs.length Q e st2→Leaves P fn a2.tmps (fun e w'=>∃ E3 v r' outs',E3.w=w'∧e=.returned v∧Q r' outs'∧bE E3 r' v∧bP E3 outs'∧Ext E outs E3 outs') a2.defers .returning E2.w:=by
  intro e hF
  obtain⟨u,hrun,hf2⟩:=hfin E2 st2.objs e hr2.objs hx hr2.slots hF hr2.glob
  rw[hd2]
  refine leaves_cons (f:=g) (args:=#[cap]) (by simp) hinv ?_
  refine(hidle cap E2.w ⟨ad,had⟩).mono ?_
  rintro e' u' w' ⟨⟨v,rfl⟩,rfl,rfl⟩
  exact⟨u,hrun,hf2⟩
 cases e with
 | panic ch=>
  obtain⟨v,objs',rfl,hrec,hF⟩:=hfinR
  show Leaves P fn a2.tmps _ a2.defers (.panicking (Pn v)) E2.w
  rw[hd2]
  refine leaves_cons (f:=g) (args:=#[cap]) (by simp) hinv ?_
  refine(hrec E2 cap (bE.mono hx2.toExt0 _ _ hcapR) hr2.objs hr2.glob).mono ?_
  rintro e' u' w' ⟨E3,rfl,⟨x,rfl⟩,rfl,ho3,hx3⟩
  obtain⟨u,hrun,hf2⟩:=hfin E3 objs' .ret ho3 (hx.trans hx3) (fun i=>bE.mono hx3.toExt0 _ _ (hr2.slots i)) hF (hr2.glob.mono hx3.toExt0)
  exact⟨u,hrun,hf2⟩
 | normal=>exact quiet _ hfinR
 | ret=>exact quiet _ hfinR
 | _=>exact absurd hfinR.1 (by simp)
end
end Go.V
namespace Go.V
open Go.RowKit
set_option linter.unusedVariables false
set_option linter.unusedSimpArgs false
def Env.below (E:Env) (w':World) (L:Nat→Nat):Env:={ w:=w',lim:=fun g=>if g<E.w.heap.size then E.lim g else L g,k:=E.k,ρ:=E.ρ }
theorem aCd {E:Env} {w':World} (L:Nat→Nat) (hk:E.k=0) (h:Below E.w.heap.size E.w w'):Ext E [] (E.below w' L) []:=
 { size:=h.size
   lim:=fun g hg=>by simp only[Env.below,if_pos hg];exact Nat.le_refl _
   cell:=fun g o hg _=>h.cell (p:=⟨g,o,none⟩) hg
   k:=Nat.le_refl _
   ρ:=fun r hr=>by rw[hk] at hr;exact absurd hr (Nat.not_lt_zero _)
   os:=h.os,tape:=h.tape,output:=h.output
   frame:=fun g hg _=>⟨h.block g hg,by simp only[Env.below,if_pos hg]⟩
   own:=fun g ⟨r,o,hr,_⟩ _=>by simp at hr }
theorem aBV {E:Env} (hk:E.k=0):bP E []:=⟨hk,fun r o h=>by simp at h,fun r r' o o' g h=>by simp at h⟩
def aHz (P:Program) (f:FuncId):Prop:=∃ fn,P.funcs[f]? = some fn∧fn.body.isSome=true∧(fn.name == "runtime.NumGoroutine")=false
theorem jA {P:Program} {G:Gl} {f:FuncId} {args:List AV} {r:Value} (hfn:aHz P f)
  (h:∀ (E:Env) (vs:List Value),bY E args vs→GOk E G→Calls P f vs.toArray E.w fun e w'=>e=.returned r∧Below E.w.heap.size E.w w'):ACalls P G f args [] (fun x os=>os=[]∧x=.val r):=by
 refine⟨hfn,fun E vs hl ho hG=>(h E vs hl hG).mono ?_⟩
 rintro e w' ⟨rfl,hb⟩
 have hk:E.k=0:=ho.1
 exact⟨E.below w' (fun _=>0),r,.val r,[],rfl,rfl,⟨rfl,rfl⟩,by simp only[bE],aBV hk,aCd _ hk hb⟩
theorem aGY {P:Program} {G:Gl} {f:FuncId} {args:List AV} {a:AV} (hfn:aHz P f)
  (h:∀ (E:Env) (vs:List Value),bY E args vs→GOk E G→Calls P f vs.toArray E.w fun e w'=>∃ v L,e=.returned v∧Below E.w.heap.size E.w w'∧bE (E.below w' L) a v):ACalls P G f args [] (fun x os=>os=[]∧x=a):=by
 refine⟨hfn,fun E vs hl ho hG=>(h E vs hl hG).mono ?_⟩
 rintro e w' ⟨v,L,rfl,hb,hr⟩
 have hk:E.k=0:=ho.1
 exact⟨E.below w' L,v,a,[],rfl,rfl,⟨rfl,rfl⟩,hr,aBV hk,aCd _ hk hb⟩
theorem aOP {E:Env} {w':World} {vs:List Value} {cs:List AV} {t:TypeId} {fz:Nat×Nat} {n:Nat} (hb:Below E.w.heap.size E.w w') (hg:w'.heap[E.w.heap.size]? = some (.cells vs.toArray t fz))
  (hc:∀ E':Env,E'.w=w'→bY E' cs vs) (hn:cs=[]∨True):bE (E.below w' (fun _=>cs.length)) (.sl n cs .full) (.slice (some ⟨E.w.heap.size,0,none⟩) n n):=by
 simp only[bE]
 refine⟨_,n,rfl,Nat.le_refl _,?_,rfl⟩
 by_cases h0:cs=[]
 ·exact .inl h0
 ·refine .inr ⟨_,0,rfl,?_,?_,?_⟩
  ·exact(Array.getElem?_eq_some_iff.1 hg).1
  ·simp[Env.below]
  ·have hl:=hc (E.below w' (fun _=>cs.length)) rfl
   refine eD.of_cell fun i c hi=>?_
   obtain⟨v,hv,hr⟩:=hl.get i c hi
   refine⟨v,?_,hr⟩
   have:(E.below w' fun _=>cs.length).w.heap[E.w.heap.size]? = some (.cells vs.toArray t fz):=hg
   simp only[World.cell?,this]
   simpa using hv
theorem ACalls.calls {P:Program} {G:Gl} {f:FuncId} {args:List AV} {r:Value} (h:ACalls P G f args [] (fun x os=>os=[]∧x=.val r)) (w:World) (vs:List Value) (hl:∀ E:Env,E.w=w→bY E args vs)
  (hG:∃ E:Env,E.w=w∧E.k=0∧GOk E G):Calls P f vs.toArray w fun e w'=>e=.returned r∧Below w.heap.size w w':=by
 obtain⟨E,rfl,hk,hG⟩:=hG
 refine(h.2 E vs (hl E rfl) (aBV hk) hG).mono ?_
 rintro e w' ⟨E',v,x,os,rfl,rfl,⟨rfl,rfl⟩,hv,ho,hx⟩
 simp only[bE] at hv
 subst hv
 exact⟨rfl,hx.os,hx.tape,hx.output,hx.size,fun k hk'=>(hx.frame k hk' (by rintro⟨r,o,h,_⟩;simp at h)).1⟩
theorem ACalls.gmono {P:Program} {G G':Gl} {f:FuncId} {args:List AV} {outs:List AObj} {Q:AV→List AObj→Prop} (h:ACalls P G f args outs Q) (hs:∀ x∈G.tab,x∈G'.tab):ACalls P G' f args outs Q:=
 ⟨h.1,fun E vs h1 h2 h3=>h.2 E vs h1 h2 fun g cells hm=>h3 g cells (hs _ hm)⟩
end Go.V
namespace Go.V
open Go
set_option linter.unusedVariables false
set_option linter.unusedSimpArgs false
def dM (c:UInt8):List UInt8→List (List UInt8)
 | []=>[[]]
 | x::xs=>if x=c then []::dM c xs else (x::(dM c xs).headD [])::(dM c xs).tail
theorem uQ (c:UInt8) (s:List UInt8):dM c s≠[]:=by
 cases s with
 | nil=>simp[dM]
 | cons x xs=>unfold dM;split<;>simp
theorem aCj (c:UInt8) (s:List UInt8):(dM c s).headD []::(dM c s).tail=dM c s:=by
 have:=uQ c s
 cases h:dM c s with
 | nil=>exact absurd h this
 | cons a l=>rfl
theorem aLn (x c:UInt8) (l:List UInt8) (h:x≠c):Lib.index (x::l) [c]=if Lib.index l [c] == -1 then -1 else Lib.index l [c]+1:=by
 have hp:([c]:List UInt8).isPrefixOf (x::l)=false:=by simp[List.isPrefixOf,Ne.symm h]
 rw[Lib.index,hp];simp
theorem aLm (c:UInt8) (l:List UInt8):Lib.index (c::l) [c]=0:=by rw[Lib.index];simp[List.isPrefixOf]
theorem aBg (x c:UInt8) (l:List UInt8) (h:x≠c):∀ k,Lib.splitK [c] 0 k (x::l)=(x::(Lib.splitK [c] 0 k l).headD [])::(Lib.splitK [c] 0 k l).tail
 | 0=>by simp[Lib.splitK]
 | k+1=>by
  have hix:=aLn x c l h
  by_cases hm:Lib.index l [c]=-1
  ·have h2:Lib.index (x::l) [c]=-1:=by rw[hix,if_pos (beq_iff_eq.2 hm)]
   simp[Lib.splitK,hm,h2]
  ·have hge:=Lib.index_ge l [c]
   obtain⟨j,hj⟩:∃ j:Nat,Lib.index l [c]=j:=⟨(Lib.index l [c]).toNat,by omega⟩
   have h2:Lib.index (x::l) [c]=((j+1:Nat):Int):=by rw[hix,if_neg (fun e=>hm (beq_iff_eq.1 e)),hj];omega
   have e1:¬ ((j:Int) == -1)=true:=fun e=>by have:=beq_iff_eq.1 e;omega
   have e2:¬ (((j+1:Nat):Int) == -1)=true:=fun e=>by have:=beq_iff_eq.1 e;omega
   have e3:(((j+1:Nat):Int)).toNat=j+1:=by omega
   have e4:((j:Int)).toNat=j:=by omega
   simp only[Lib.splitK]
   rw[hj,h2,if_neg e1,if_neg e2,e3,e4]
   simp
theorem aBh (c:UInt8):∀ s:List UInt8,Lib.splitK [c] 0 (s.count c) s=dM c s
 | []=>rfl
 | x::l=>by
  by_cases h:x=c
  ·subst h
   rw[List.count_cons_self,Lib.splitK,aLm,if_neg (by decide)]
   simp only[dM,if_true]
   rw[← aBh x l]
   simp
  ·rw[List.count_cons_of_ne (by simpa using h),aBg x c l h,aBh c l]
   simp only[dM,if_neg h]
theorem aDI (c:UInt8) (s:List UInt8):(Lib.splitB ⟨#[c]⟩ 0 (Lib.countB ⟨s.toArray⟩ ⟨#[c]⟩) ⟨s.toArray⟩).map (·.data.toList)=dM c s:=by
 rw[Lib.splitB_data]
 have:Lib.countB ⟨s.toArray⟩ ⟨#[c]⟩=s.count c:=by
  have h:=Lib.count_one c s
  simpa[Lib.countB] using h
 rw[this]
 exact aBh c s
theorem aTr (c:UInt8) (s:List UInt8):(dM c s).length=s.count c+1:=by
 induction s with
 | nil=>rfl
 | cons x l ih=>
  unfold dM
  split
  ·rename_i h;subst h;rw[List.length_cons,ih,List.count_cons_self]
  ·rename_i h
   rw[List.length_cons,List.length_tail,ih,List.count_cons_of_ne (by simpa using h)]
   omega
theorem aHp (c:UInt8) (s:List UInt8):Lib.join (dM c s) [c]=s:=by
 have key:∀ l:List (List UInt8),l≠[]→Lib.join l [c]=(l.headD [])++Lib.joinTail [c] l.tail:=fun l hl=>by
  cases l with
  | nil=>exact absurd rfl hl
  | cons a r=>exact Lib.join_cons a r [c]
 induction s with
 | nil=>rfl
 | cons x l ih=>
  rw[key _ (uQ c l)] at ih
  unfold dM
  split
  ·rename_i h
   subst h
   rw[Lib.join_cons,← aCj x l]
   simp only[Lib.joinTail,List.map_cons,List.flatten_cons,List.nil_append,List.cons_append] at ih ⊢
   rw[ih]
  ·rw[Lib.join_cons,List.cons_append,ih]
theorem vS (c:UInt8):∀ (l:List (List UInt8)),l≠[]→(∀ w∈l,c∉w)→dM c (Lib.join l [c])=l:=by
 have cons:∀ (w:List UInt8) (r:List UInt8),c∉w→dM c (w++r)=(w++(dM c r).headD [])::(dM c r).tail:=by
  intro w
  induction w with
  | nil=>intro r _;simp only[List.nil_append];exact(aCj c r).symm
  | cons x w ih=>
   intro r h
   simp only[List.mem_cons,not_or] at h
   rw[List.cons_append]
   conv=>lhs;unfold dM
   rw[if_neg (Ne.symm h.1),ih r h.2]
   rfl
 intro l
 induction l with
 | nil=>intro h;exact absurd rfl h
 | cons a r ih=>
  intro _ h
  rw[Lib.join_cons]
  cases r with
  | nil=>
   rw[cons a _ (h a (by simp))]
   simp[Lib.joinTail,dM]
  | cons b r=>
   have ih':=ih (by simp) (fun w hw=>h w (by simp[hw]))
   rw[Lib.join_cons] at ih'
   have e:Lib.joinTail [c] (b::r)=c::(b++Lib.joinTail [c] r):=by simp[Lib.joinTail]
   rw[e,cons a _ (h a (by simp))]
   have e2:dM c (c::(b++Lib.joinTail [c] r))=[]::(b::r):=by
    conv=>lhs;unfold dM
    rw[if_pos rfl,ih']
   rw[e2]
   simp
-- runes
theorem aDy (s:ByteArray) (i:Nat) (h:(s.get! i).toNat<128):Utf8.decode s i=((s.get! i).toNat,1):=by
 unfold Utf8.decode
 simp only[Nat.add_zero]
 rw[if_pos h]
theorem aDx (s:ByteArray) (i:Nat) (h:¬ (s.get! i).toNat<128):128≤(Utf8.decode s i).1:=by
 unfold Utf8.decode
 simp only[Nat.add_zero]
 rw[if_neg h]
 repeat' split
 all_goals simp_all [Utf8.runeError]
 all_goals omega
theorem aIK (p:Nat→Bool) (hp:∀ r,128≤r→p r=true) (s:List UInt8):∀ (f pos:Nat),s.length - pos≤f→(0≤Lib.idxFuncFrom p true ⟨s.toArray⟩ f pos↔∃ b∈s.drop pos,p b.toNat=true)
 | 0,pos,h=>by
  simp only[Lib.idxFuncFrom]
  constructor
  ·intro h;omega
  ·rintro⟨b,hb,_⟩
   rw[List.drop_eq_nil_of_le (by omega)] at hb
   cases hb
 | f+1,pos,h=>by
  have hsz:(⟨s.toArray⟩:ByteArray).size=s.length:=by simp[ByteArray.size]
  unfold Lib.idxFuncFrom
  rw[hsz]
  split
  ·rename_i hlt
   have hg:(⟨s.toArray⟩:ByteArray).get! pos=s[pos]:=by
    show s.toArray[pos]! = _
    simp[hlt]
   have hd:s.drop pos=s[pos]::s.drop (pos+1):=List.drop_eq_getElem_cons hlt
   by_cases hs:(s[pos]).toNat<128
   ·have hdec:=aDy ⟨s.toArray⟩ pos (by rw[hg];exact hs)
    rw[hdec,hg,hd]
    have ih:=aIK p hp s f (pos+1) (by omega)
    split
    ·rename_i hpp
     exact⟨fun _=>⟨s[pos],List.mem_cons_self ..,hpp⟩,fun _=>by omega⟩
    ·rename_i hpp
     rw[ih]
     constructor
     ·rintro⟨b,hb,hpb⟩;exact⟨b,List.mem_cons_of_mem _ hb,hpb⟩
     ·rintro⟨b,hb,hpb⟩
      rcases List.mem_cons.1 hb with rfl|hb
      ·exact absurd hpb hpp
      ·exact⟨b,hb,hpb⟩
   ·have hdec:=aDx ⟨s.toArray⟩ pos (by rw[hg];exact hs)
    rw[if_pos (hp _ hdec),hd]
    exact⟨fun _=>⟨s[pos],List.mem_cons_self ..,hp _ (by omega)⟩,fun _=>by omega⟩
  ·rename_i hlt
   constructor
   ·intro h;omega
   ·rintro⟨b,hb,_⟩
    rw[List.drop_eq_nil_of_le (by omega)] at hb
    cases hb
theorem aNu (p:Nat→Bool) (hp:∀ r,128≤r→p r=true) (s:List UInt8):decide (0≤Lib.idxFunc p true ⟨s.toArray⟩)=s.any fun b=>p b.toNat:=by
 have h:=aIK p hp s s.length 0 (by omega)
 have hsz:(⟨s.toArray⟩:ByteArray).size=s.length:=by simp[ByteArray.size]
 unfold Lib.idxFunc
 rw[hsz,Bool.eq_iff_iff]
 simp only[decide_eq_true_eq,List.any_eq_true]
 simpa using h
end Go.V
namespace Go.V
set_option linter.unusedVariables false
set_option linter.unusedSimpArgs false
/-! ### A round's code -/
abbrev rF (r:Nat):Fence:=Fence.wide.inRound r
theorem aCA {P:Program} {r n:Nat} {f:FuncId} {args:Array Value} {w:World} {R:Ending→World→Prop} (h:Calls P f args w R):CallsIn (rF r) n P f args w R:=
 ⟨trivial,fun cs _=>let ⟨e,w',fr,q,s,x⟩:=h cs;⟨e,w',fr,q,comesIn_wide.2 s,x⟩⟩
theorem aET {P:Program} {r n:Nat} {row:String} {args:Array Value} {w:World} {R:Value→World→Prop} (h:Rows P row args w R):RowsIn (rF r) n P row args w R:=
 fun c cs _=>let ⟨v,w',q,s⟩:=h c cs;⟨v,w',q,stepsIn_wide.2 s⟩
theorem pB {P:Program} {r:Nat} {ops:Array Oper} {Q:Exit→Act→World→Prop} (hQ:∀ a w,¬ Q .outgrown a w):∀ (l:List Oper) (a:Act) (w:World),(∀ o∈l,∀ c,o.op≠.defer c)→
  wpList P ops Q l a w→wpListIn (rF r) 0 P ops Q l a w
 | [],a,w,_,h=>h
 | o::rest,a,w,hd,h=>by
  unfold wpList at h
  unfold wpListIn
  have ih:=fun a w=>pB (P:=P) (ops:=ops) (r:=r) hQ rest a w (fun o ho=>hd o (by simp[ho]))
  have hn:(rF r).depth.isSome=true→1≤0:=fun h=>by simp[Fence.inRound,Fence.wide] at h
  split
  ·rename_i hw
   rw[if_pos hw] at h
   rcases h with h|⟨_,a0,w0,h2⟩
   ·refine⟨fun _ _=>trivial,?_⟩
    have e:Oper.semAt (rF r).round a.eval o=execOp a.eval o:=Oper.semAt_some r _ o (hd o (by simp))
    rw[e]
    unfold Oper.wp at h
    cases hr:(execOp a.eval o).run P w with
    | ok n w'=>
     rw[hr] at h
     cases n<;>simp only[Oper.upon] at h<;>simp only[Oper.uponIn]<;>first
      | exact ih _ _ h
      | exact h.elim
      | (refine⟨hn,aCA (Calls.mono h ?_)⟩
         intro e w'' hh
         cases e with
         | returned v=>exact ih _ _ hh
         | panicked chain=>exact hh
         | outgrown=>exact hh)
      | exact⟨hn,aET (Rows.mono h fun _ _ hh=>ih _ _ hh)⟩
    | halt x w'=>
     rw[hr] at h
     cases x<;>simp only[Oper.upon] at h<;>simp only[Oper.uponIn]<;>exact h
   ·exact absurd h2 (hQ _ _)
  ·rename_i hw
   rw[if_neg hw] at h
   exact⟨fun _ _=>trivial,ih _ _ h⟩
def pC (P:Program) (G:Gl) (r:Nat) (c:Code) (st:St) (Q:Exit→St→Prop):Prop:=
 ∀ (E:Env) (a:Act),Rep G E st a→c.wpIn (rF r) 0 P (RQ P G E st.objs Q) a E.w
section
variable {P:Program} {G:Gl} {r:Nat} {st:St} {Q:Exit→St→Prop}
theorem yI {c:Code} {st':St} (hw:gE G st st') (h:pC P G r c st' Q):pC P G r c st Q:=fun E a hr=>by
 obtain⟨E',e,hr',hx⟩:=hw E a hr
 rw[← e]
 exact wpIn_mono (h E' a hr') fun e a w ⟨st'',E'',h1,h2,h3,h4⟩=>⟨st'',E'',h1,h2,h3,hx.trans h4⟩
theorem qN {c:Code} {nt:Nat} {s:List (Nat×AV)} {os:List AObj} (ls:List Nat) (h:pC P G r c ⟨nt,aAD ls s,os⟩ Q):pC P G r c ⟨nt,s,os⟩ Q:=
 yI (.of_keep ls rfl) h
theorem aJC (h:Q .normal st):pC P G r .skip st Q:=fun E a hr=>wpIn_skip ⟨st,E,rfl,h,hr,.refl _ _⟩
theorem aKy (h:Q .ret st):pC P G r .ret st Q:=fun E a hr=>wpIn_ret ⟨st,E,rfl,h,hr,.refl _ _⟩
theorem aKz {x y:Code} (h:pC P G r x st (aI (fun s=>pC P G r y s Q) Q)):pC P G r (.seq x y) st Q:=fun E a hr=>by
 refine wpIn_seq (wpIn_mono (h E a hr) ?_)
 rintro e a' w' ⟨st',E',rfl,hq,hr',hx⟩
 cases e with
 | normal=>
  refine wpIn_mono (hq E' a' hr') ?_
  rintro e a'' w'' ⟨st'',E'',h1,h2,h3,h4⟩
  exact⟨st'',E'',h1,h2,h3,hx.trans h4⟩
 | _=>exact⟨st',E',rfl,hq,hr',hx⟩
theorem rK {x y:Code} (h:∀ K:St→Prop,(∀ s,pC P G r y s Q→K s)→pC P G r x st (aI K Q)):pC P G r (.seq x y) st Q:=aKz (h _ fun _ h=>h)
theorem vO {t:Nat} {x y:Code} (hl:lk st.slots t=.val (.bool true)) (h:pC P G r x st Q):pC P G r (.cond (.tmp t) x y) st Q:=fun E a hr=>by
 have hs:=hr.slots t
 rw[hl] at hs
 simp only[bE] at hs
 exact wpIn_cond_true hs (h E a hr)
theorem vN {t:Nat} {x y:Code} (hl:lk st.slots t=.val (.bool false)) (h:pC P G r y st Q):pC P G r (.cond (.tmp t) x y) st Q:=fun E a hr=>by
 have hs:=hr.slots t
 rw[hl] at hs
 simp only[bE] at hs
 exact wpIn_cond_false hs (h E a hr)
theorem aAw {id:Nat} {c:Code} (h:pC P G r c st (bL id (Q .normal) Q)):pC P G r (.block id c) st Q:=fun E a hr=>by
 refine wpIn_block (wpIn_mono (h E a hr) ?_)
 rintro e a' w' ⟨st',E',rfl,hq,hr',hx⟩
 cases e with
 | exit j=>
  simp only[bL] at hq
  simp only[Exit.inBlock]
  split
  ·rename_i e;rw[if_pos e] at hq;exact⟨st',E',rfl,hq,hr',hx⟩
  ·rename_i e;rw[if_neg e] at hq;exact⟨st',E',rfl,hq,hr',hx⟩
 | _=>exact⟨st',E',rfl,hq,hr',hx⟩
def aAN:Op→Bool | .defer _=>true|_=>false
theorem iB (M:List Nat) {id:Nat} {l:List Oper} (hd:l.all (fun o=>!aAN o.op)=true) (hQ:∀ s,¬ Q .outgrown s) (h:dG P G M l.toArray l st (Q .normal)):pC P G r (.region id l.toArray false) st Q:=fun E a hr=>
 wpIn_region_lit (pB (fun a w ⟨s,_,_,hq,_⟩=>hQ s hq) l a E.w (fun o ho c e=>by
  have:=List.all_eq_true.1 hd o ho
  rw[e] at this
  simp[aAN] at this) (jL l st E a hr h))
end
/-! ### Two parties -/
theorem kE {E E':Env} {objs:List AObj} {g:Nat} (hρ:E'.ρ=E.ρ):Ow E' objs g↔Ow E objs g:=by unfold Ow;rw[hρ]
def Env.at (E:Env) (w:World) (lim:Nat→Nat):Env:={ E with w:=w,lim:=lim }
structure Side (E:Env) (objs:List AObj) (w':World) (lim':Nat→Nat):Prop where
 size:E.w.heap.size≤w'.heap.size
 lim:∀ g,g<E.w.heap.size→E.lim g≤lim' g
 cell:∀ g o,g<E.w.heap.size→o<E.lim g→w'.cell? ⟨g,o,none⟩=E.w.cell? ⟨g,o,none⟩
 os:w'.os=E.w.os
 tape:w'.tape=E.w.tape
 output:w'.output=E.w.output
 own:∀ g,Ow E objs g→w'.heap[g]? = E.w.heap[g]?∧lim' g=E.lim g
theorem Side.ext0 {E:Env} {objs:List AObj} {w':World} {lim':Nat→Nat} (h:Side E objs w' lim'):Ext0 E (E.at w' lim'):=
 ⟨h.size,h.lim,h.cell,Nat.le_refl _,fun _ _=>.refl _⟩
theorem Side.rep {G:Gl} {E:Env} {st:St} {a:Act} {w':World} {lim':Nat→Nat} (hr:Rep G E st a) (h:Side E st.objs w' lim'):Rep G (E.at w' lim') st a:=
 ⟨hr.size,fun i=>bE.mono h.ext0 _ _ (hr.slots i),hr.defers,hr.objs.stay h.ext0 rfl (fun _ _=>rfl) h.own,hr.glob.mono h.ext0⟩
theorem Side.objs {E:Env} {objs:List AObj} {w':World} {lim':Nat→Nat} (ho:bP E objs) (h:Side E objs w' lim'):bP (E.at w' lim') objs:=
 ho.stay h.ext0 rfl (fun _ _=>rfl) h.own
theorem Side.trans {E:Env} {objs:List AObj} {w1 w2:World} {l1 l2:Nat→Nat} (h:Side E objs w1 l1) (h':Side (E.at w1 l1) objs w2 l2):Side E objs w2 l2 where
 size:=Nat.le_trans h.size h'.size
 lim:=fun g hg=>Nat.le_trans (h.lim g hg) (h'.lim g (Nat.lt_of_lt_of_le hg h.size))
 cell:=fun g o hg ho=>(h'.cell g o (Nat.lt_of_lt_of_le hg h.size) (Nat.lt_of_lt_of_le ho (h.lim g hg))).trans (h.cell g o hg ho)
 os:=h'.os.trans h.os
 tape:=h'.tape.trans h.tape
 output:=h'.output.trans h.output
 own:=fun g hg=>by
  obtain⟨a1,a2⟩:=h.own g hg
  obtain⟨b1,b2⟩:=h'.own g hg
  exact⟨b1.trans a1,b2.trans a2⟩
theorem Side.of_ext {E E2 E2':Env} {objs o2 o2':List AObj} (ho:bP E objs) (hw:E2.w=E.w) (hl:E2.lim=E.lim) (hx:Ext E2 o2 E2' o2') (hd:∀ g,Ow E objs g→¬ Ow E2 o2 g):Side E objs E2'.w E2'.lim where
 size:=by rw[← hw];exact hx.size
 lim:=by rw[← hw,← hl];exact hx.lim
 cell:=by rw[← hw,← hl];exact hx.cell
 os:=by rw[← hw];exact hx.os
 tape:=by rw[← hw];exact hx.tape
 output:=by rw[← hw];exact hx.output
 own:=fun g hg=>by
  have:=hx.frame g (by rw[hw];exact qZ ho hg) (hd g hg)
  rw[hw,hl] at this
  exact this
def aAP:Obj→Bool
 | .cells ..=>false
 | _=>true
theorem wV {w:World} {l o:Nat} {x:Obj} (h:w.heap[l]? = some x) (hx:aAP x=true):w.cell? ⟨l,o,none⟩=none:=by
 cases x<;>simp_all [World.cell?,aAP]
theorem Side.put {E:Env} {objs:List AObj} {l:Nat} {x x':Obj} (h:E.w.heap[l]? = some x) (hx:aAP x=true) (hx':aAP x'=true) (hn:¬ Ow E objs l):Side E objs (E.w.putObj l x') E.lim where
 size:=by simp
 lim:=fun _ _=>Nat.le_refl _
 cell:=fun g o hg ho=>by
  by_cases e:g=l
  ·subst e
   rw[wV h hx,wV (World.putObj_heap_same hg) hx']
  ·exact iY (World.putObj_heap_other e)
 os:=rfl
 tape:=rfl
 output:=rfl
 own:=fun g hg=>⟨World.putObj_heap_other fun e=>hn (e ▸ hg),rfl⟩
structure JC (G:Gl) (E0:Env) (objs0:List AObj) (nt:Nat) (slots:List (Nat×AV)) (a:Act) (D l:Nat) (rc:Loop) (Ei:Env) (oi:List AObj) (Ec:Env) (oc:List AObj):Prop where
 w:Ec.w=Ei.w
 lim:Ec.lim=Ei.lim
 rep:Rep G Ec ⟨nt,slots,oc⟩ a
 hD:Ei.w.heap[D]? = some (.deferred (some []))
 hl:Ei.w.heap[l]? = some (.loop rc)
 nDc:¬ Ow Ec oc D
 nlc:¬ Ow Ec oc l
 nDi:¬ Ow Ei oi D
 nli:¬ Ow Ei oi l
 dis:∀ g,Ow Ei oi g→¬ Ow Ec oc g
 ext:Ext E0 objs0 Ec oc
 own:∀ g,Ow Ei oi g→g<E0.w.heap.size→Ow E0 objs0 g
theorem xB {E0 E:Env} {o0 o:List AObj} {w':World} {lim':Nat→Nat} (hx:Ext E0 o0 E o) (hs:Side E o w' lim')
  (hf:∀ g,g<E0.w.heap.size→¬ Ow E0 o0 g→w'.heap[g]? = E.w.heap[g]?∧lim' g=E.lim g):Ext E0 o0 (E.at w' lim') o:=
 { hx.toExt0.trans hs.ext0 with
   os:=hs.os.trans hx.os,tape:=hs.tape.trans hx.tape,output:=hs.output.trans hx.output
   frame:=fun g hg hn=>by
    obtain⟨a1,a2⟩:=hf g hg hn
    obtain⟨b1,b2⟩:=hx.frame g hg hn
    exact⟨a1.trans b1,a2.trans b2⟩
   own:=fun g hw hg=>hx.own g ((kE rfl).1 hw) hg }
section
variable {G:Gl} {E0:Env} {objs0:List AObj} {nt:Nat} {slots:List (Nat×AV)} {a:Act} {D l:Nat} {rc:Loop} {Ei:Env} {oi:List AObj} {Ec:Env} {oc:List AObj}
theorem kR {w:World} {g:Nat} {o:Obj} (h:w.heap[g]? = some o):g<w.heap.size:=(Array.getElem?_eq_some_iff.1 h).1
theorem JC.istep (h:JC G E0 objs0 nt slots a D l rc Ei oi Ec oc) {Ei':Env} {oi':List AObj} (hoi:bP Ei oi) (hx:Ext Ei oi Ei' oi') (hoi':bP Ei' oi') :
  JC G E0 objs0 nt slots a D l rc Ei' oi' (Ec.at Ei'.w Ei'.lim) oc:=by
 have hs:Side Ec oc Ei'.w Ei'.lim:=.of_ext h.rep.objs h.w.symm h.lim.symm hx (fun g hg hi=>h.dis g hi hg)
 have old:∀ g,g<Ei.w.heap.size→¬ Ow Ei oi g→¬ Ow Ei' oi' g:=fun g hg hn hw=>hn (hx.own g hw hg)
 refine⟨rfl,rfl,hs.rep h.rep,?_,?_,fun hw=>h.nDc ((kE rfl).1 hw),fun hw=>h.nlc ((kE rfl).1 hw),old D (kR h.hD) h.nDi,old l (kR h.hl) h.nli,?_,?_,?_⟩
 ·rw[(hx.frame D (kR h.hD) h.nDi).1];exact h.hD
 ·rw[(hx.frame l (kR h.hl) h.nli).1];exact h.hl
 ·intro g hg hc
  have hc:=(kE (E':=Ec.at Ei'.w Ei'.lim) (E:=Ec) rfl).1 hc
  have hlt:g<Ei.w.heap.size:=by rw[← h.w];exact qZ h.rep.objs hc
  exact h.dis g (hx.own g hg hlt) hc
 ·refine xB h.ext hs fun g hg hn=>?_
  have hlt:g<Ei.w.heap.size:=by rw[← h.w];exact Nat.lt_of_lt_of_le hg h.ext.size
  have:=hx.frame g hlt (fun hw=>hn (h.own g hw hg))
  rw[h.w,h.lim]
  exact this
 ·intro g hg hlt
  have hlt':g<Ei.w.heap.size:=by rw[← h.w];exact Nat.lt_of_lt_of_le hlt h.ext.size
  exact h.own g (hx.own g hg hlt') hlt
theorem JC.cstep (h:JC G E0 objs0 nt slots a D l rc Ei oi Ec oc) {Ec':Env} {oc':List AObj} (hoi:bP Ei oi) (hx:Ext Ec oc Ec' oc') (hr':Rep G Ec' ⟨nt,slots,oc'⟩ a) :
  JC G E0 objs0 nt slots a D l rc (Ei.at Ec'.w Ec'.lim) oi Ec' oc'∧Side Ei oi Ec'.w Ec'.lim:=by
 have hs:Side Ei oi Ec'.w Ec'.lim:=.of_ext hoi h.w h.lim hx (fun g hg=>h.dis g hg)
 have old:∀ g,g<Ei.w.heap.size→¬ Ow Ec oc g→¬ Ow Ec' oc' g:=fun g hg hn hw=>hn (hx.own g hw (by rw[h.w];exact hg))
 refine⟨⟨rfl,rfl,hr',?_,?_,old D (kR h.hD) h.nDc,old l (kR h.hl) h.nlc,fun hw=>h.nDi ((kE rfl).1 hw),fun hw=>h.nli ((kE rfl).1 hw),?_,h.ext.trans hx,?_⟩,hs⟩
 ·have:=(hx.frame D (by rw[h.w];exact kR h.hD) h.nDc).1
  rw[h.w] at this
  exact this.trans h.hD
 ·have:=(hx.frame l (by rw[h.w];exact kR h.hl) h.nlc).1
  rw[h.w] at this
  exact this.trans h.hl
 ·intro g hg
  have hg:=(kE (E':=Ei.at Ec'.w Ec'.lim) (E:=Ei) rfl).1 hg
  exact old g (qZ hoi hg) (h.dis g hg)
 ·intro g hg hlt
  exact h.own g ((kE (E':=Ei.at Ec'.w Ec'.lim) (E:=Ei) rfl).1 hg) hlt
theorem JC.put (h:JC G E0 objs0 nt slots a D l rc Ei oi Ec oc) (hoi:bP Ei oi) (hDl:D≠l) (hn:E0.w.heap.size≤l) (rc':Loop) :
  JC G E0 objs0 nt slots a D l rc' (Ei.at (Ei.w.putObj l (.loop rc')) Ei.lim) oi (Ec.at (Ei.w.putObj l (.loop rc')) Ei.lim) oc∧Side Ei oi (Ei.w.putObj l (.loop rc')) Ei.lim:=by
 have hs:Side Ei oi (Ei.w.putObj l (.loop rc')) Ei.lim:=.put h.hl rfl rfl h.nli
 have hsc:Side Ec oc (Ei.w.putObj l (.loop rc')) Ei.lim:=by
  have:Side Ec oc (Ec.w.putObj l (.loop rc')) Ec.lim:=.put (by rw[h.w];exact h.hl) rfl rfl h.nlc
  rw[h.w,h.lim] at this
  exact this
 refine⟨⟨rfl,rfl,hsc.rep h.rep,?_,World.putObj_heap_same (kR h.hl),fun hw=>h.nDc ((kE rfl).1 hw),fun hw=>h.nlc ((kE rfl).1 hw),fun hw=>h.nDi ((kE rfl).1 hw),fun hw=>h.nli ((kE rfl).1 hw),?_,?_,?_⟩,hs⟩
 ·exact(World.putObj_heap_other hDl).trans h.hD
 ·exact fun g hg hc=>h.dis g ((kE rfl).1 hg) ((kE rfl).1 hc)
 ·refine xB h.ext hsc fun g hg hno=>⟨?_,by rw[h.lim]⟩
  rw[World.putObj_heap_other (by omega),h.w]
 ·exact fun g hg hlt=>h.own g ((kE rfl).1 hg) hlt
end
def aKm (P:Program) (G:Gl) (f:FuncId) (args:List AV) (objs:List AObj) (xs:List Value):Prop:=
 (∃ fn,P.funcs[f]? = some fn∧fn.body.isSome=true∧(fn.name == "runtime.NumGoroutine")=false)∧
 ∀ (l:Nat) (J:Nat→Env→List AObj→Prop),(∀ k E o E' o',J k E o→bP E o→Ext E o E' o'→bP E' o'→J k E' o')→
  (∀ k E o (x:Value),xs[k]? = some x→J k E o→bP E o→
   ∃ fn tmps assign body,(Instr.yield l #[x]).run P E.w=.ok (.round l fn tmps assign body) E.w∧
    RoundIn Fence.wide 0 P l fn tmps assign body E.w fun e w'=>∃ b lim',e=.returned (.bool b)∧Side E o w' lim'∧J (if b then k+1 else xs.length+1) (E.at w' lim') o)→
  ∀ (E:Env) (vs:List Value),bY E args vs→bP E objs→GOk E G→J 0 E objs→
   Calls P f (#[.func (.yield l) #[] #[]]++vs.toArray) E.w fun e w'=>∃ v E' o' k,E'.w=w'∧e=.returned v∧bP E' o'∧J k E' o'∧(k=xs.length∨k=xs.length+1)
def aHF (D:Nat):Deferred:={ target:=.collected D,args:=#[] }
def aCH (n0:Nat) (E:Env) (objs:List AObj) (ds:List Deferred):Prop:=
 ds=[]∨∃ D,ds=[aHF D]∧n0≤D∧E.w.heap[D]? = some (.deferred (some []))∧¬ Ow E objs D
theorem aCH.ext {n0:Nat} {E E':Env} {o o':List AObj} {ds:List Deferred} (h:aCH n0 E o ds) (hx:Ext E o E' o'):aCH n0 E' o' ds:=by
 rcases h with rfl|⟨D,rfl,h1,h2,h3⟩
 ·exact .inl rfl
 ·have hlt:=kR h2
  exact .inr ⟨D,rfl,h1,(hx.frame D hlt h3).1.trans h2,fun hw=>h3 (hx.own D hw hlt)⟩
def wU (P:Program) (tab:List (Nat×List AV)) (n0:Nat) (ds:List Deferred) (c:Code) (st:St) (Q:Exit→List Deferred→St→Prop):Prop:=
 ∀ (E:Env) (a:Act),n0≤E.w.heap.size→Rep ⟨tab,ds⟩ E st a→aCH n0 E st.objs ds→
  c.wp P (fun e a' w'=>∃ st' E' ds',E'.w=w'∧Q e ds' st'∧Rep ⟨tab,ds'⟩ E' st' a'∧aCH n0 E' st'.objs ds'∧Ext E st.objs E' st'.objs) a E.w
section
variable {P:Program} {tab:List (Nat×List AV)} {n0:Nat} {ds:List Deferred} {st:St} {Q:Exit→List Deferred→St→Prop}
theorem zK {c:Code} (h:awp P ⟨tab,ds⟩ c st fun e s=>Q e ds s):wU P tab n0 ds c st Q:=fun E a hn hr hm=>
 wp_mono (h E a hr) fun e a' w' ⟨st',E',h1,h2,h3,h4⟩=>⟨st',E',ds,h1,h2,h3,hm.ext h4,h4⟩
def aQM (K:List Deferred→St→Prop) (Q:Exit→List Deferred→St→Prop):Exit→List Deferred→St→Prop
 | .normal,d,s=>K d s
 | e,d,s=>Q e d s
theorem aFB {x y:Code} (h:wU P tab n0 ds x st (aQM (fun d s=>wU P tab n0 d y s Q) Q)):wU P tab n0 ds (.seq x y) st Q:=fun E a hn hr hm=>by
 refine wp_seq (wp_mono (h E a hn hr hm) ?_)
 rintro e a' w' ⟨st',E',ds',rfl,hq,hr',hm',hx⟩
 cases e with
 | normal=>
  refine wp_mono (hq E' a' (Nat.le_trans hn hx.size) hr' hm') ?_
  rintro e a'' w'' ⟨st'',E'',ds'',h1,h2,h3,h4,h5⟩
  exact⟨st'',E'',ds'',h1,h2,h3,h4,hx.trans h5⟩
 | _=>exact⟨st',E',ds',rfl,hq,hr',hm',hx⟩
theorem qM {x y:Code} (h:∀ K:St→Prop,(∀ s,wU P tab n0 ds y s Q→K s)→awp P ⟨tab,ds⟩ x st (aI K fun e s=>Q e ds s)):wU P tab n0 ds (.seq x y) st Q:=
 aFB (zK (aLB (h _ fun _ h=>h) fun e s hq=>by cases e<;>exact hq))
theorem aGo {id:Nat} {c:Code} (h:wU P tab n0 ds c st fun e d s=>match e with
  | .exit j=>if j=id then Q .normal d s else Q (.exit j) d s
  | e=>Q e d s):wU P tab n0 ds (.block id c) st Q:=fun E a hn hr hm=>by
 refine wp_block (wp_mono (h E a hn hr hm) ?_)
 rintro e a' w' ⟨st',E',ds',rfl,hq,hr',hm',hx⟩
 cases e with
 | exit j=>
  simp only[Exit.inBlock]
  simp only at hq
  split
  ·rename_i e;rw[if_pos e] at hq;exact⟨st',E',ds',rfl,hq,hr',hm',hx⟩
  ·rename_i e;rw[if_neg e] at hq;exact⟨st',E',ds',rfl,hq,hr',hm',hx⟩
 | _=>exact⟨st',E',ds',rfl,hq,hr',hm',hx⟩
theorem aJA {c:Code} {st':St} (hw:gE ⟨tab,ds⟩ st st') (h:wU P tab n0 ds c st' Q):wU P tab n0 ds c st Q:=fun E a hn hr hm=>by
 obtain⟨E',e,hr',hx⟩:=hw E a hr
 rw[← e]
 refine wp_mono (h E' a (by rw[e];exact hn) hr' (hm.ext hx)) ?_
 rintro e a'' w'' ⟨st'',E'',ds'',h1,h2,h3,h4,h5⟩
 exact⟨st'',E'',ds'',h1,h2,h3,h4,hx.trans h5⟩
theorem qL {c:Code} {nt:Nat} {s:List (Nat×AV)} {os:List AObj} (ls:List Nat) (h:wU P tab n0 ds c ⟨nt,aAD ls s,os⟩ Q):wU P tab n0 ds c ⟨nt,s,os⟩ Q:=aJA (.of_keep ls rfl) h
def zR (os:List AObj) (i0 i1 i2:Nat):List AObj:=((os.set i0 .dead).set i1 .dead).set i2 .dead
theorem qT {os:List AObj} {i0 i1 i2 r:Nat} {o:AObj} (h:(zR os i0 i1 i2)[r]? = some o):o=.dead∨r≠i0∧r≠i1∧r≠i2∧os[r]? = some o:=by
 unfold zR at h
 rw[List.getElem?_set] at h
 split at h
 ·split at h
  ·injection h with h;exact .inl h.symm
  ·cases h
 ·rename_i n2
  rw[List.getElem?_set] at h
  split at h
  ·split at h
   ·injection h with h;exact .inl h.symm
   ·cases h
  ·rename_i n1
   rw[List.getElem?_set] at h
   split at h
   ·split at h
    ·injection h with h;exact .inl h.symm
    ·cases h
   ·rename_i n0
    exact .inr ⟨Ne.symm n0,Ne.symm n1,Ne.symm n2,h⟩
theorem aOT (t:Array Value) (p:Nat) (x:Value) (i:Nat) (hp:p<t.size):(t.setIfInBounds p x).getD i undef=if p=i then x else t.getD i undef:=by
 simp only[Array.getD_eq_getD_getElem?]
 by_cases e:p=i
 ·subst e
  rw[if_pos rfl]
  simp[hp]
 ·rw[if_neg e,Array.getElem?_setIfInBounds_ne e]
theorem oU {g:Nat} (w:World) (o:Obj) (h:g<w.heap.size):(w.alloc o).heap[g]? = w.heap[g]?:=by
 show (w.heap.push o)[g]? = _
 rw[Array.getElem?_push,if_neg (by omega)]
theorem aGp {tf p f i0 i1 i2 nt:Nat} {assign body:Code} {slots:List (Nat×AV)} {os:List AObj} {c0 c1 c2:Value} {xs:List Value} (hY:aKm P ⟨tab,[]⟩ f [.ptr 0 0,.ptr 1 0,.ptr 2 0] [.cells [.val c0],.cells [.val c1],.cells [.val c2]] xs)
  (ht:lk slots tf=.clo f [.ptr i0 0,.ptr i1 0,.ptr i2 0]) (h0:os[i0]? = some (.cells [.val c0])) (h1:os[i1]? = some (.cells [.val c1])) (h2:os[i2]? = some (.cells [.val c2]))
  (h01:i0≠i1) (h02:i0≠i2) (h12:i1≠i2) (hp:p<nt) (I:Nat→List AObj→Prop) (R:List AObj→Prop) (hI0:I 0 (zR os i0 i1 i2))
  (hround:∀ k x o,xs[k]? = some x→I k o→∀ r,pC P ⟨tab,[]⟩ r assign ⟨nt,(p,.val x)::slots,o⟩ fun e s=>e=.normal∧pC P ⟨tab,[]⟩ r body s fun e s'=>match e with
   | .normal=>I (k+1) s'.objs
   | .ret=>R s'.objs
   | _=>False)
  (hdone:∀ D o,I xs.length o→Q .normal [aHF D] ⟨nt,slots,o⟩) (hret:∀ D o,R o→Q .ret [aHF D] ⟨nt,slots,o⟩):wU P tab n0 [] (.rangeFunc (.tmp tf) #[p] assign body) ⟨nt,slots,os⟩ Q:=by
 intro E a hn hr hm
 obtain⟨tmps,dfs⟩:=a
 have hdf:dfs=[]:=hr.defers
 subst hdf
 obtain⟨⟨fn,hfn,hfb,hfN⟩,hY⟩:=hY
 -- the closure
 have hsl:=hr.slots tf
 rw[ht] at hsl
 simp only[bE] at hsl
 obtain⟨vs,hev,hvs⟩:=hsl
 have hevf:(⟨tmps,[]⟩:Act).eval (.tmp tf)=.func (.func f) #[] vs.toArray:=hev
 refine(wpIn_wide (n:=0)).1 (wpIn_rangeFunc ?_)
 intro fc _
 obtain⟨rec,hrec⟩:∃ rec:LoopState→Option Code→Loop,rec=fun s pe=>{ state:=s,pending:=pe,fn:=fc,tmps:=tmps,params:=#[p],assign,body,defers:=E.w.heap.size }:=⟨_,rfl⟩
 obtain⟨W1,hW1⟩:∃ W1,(E.w.alloc (.deferred (some []))).alloc (.loop (rec .ready none))=W1:=⟨_,rfl⟩
 have hsz:W1.heap.size=E.w.heap.size+2:=by rw[← hW1];simp
 have hL1:W1.heap[E.w.heap.size+1]? = some (.loop (rec .ready none)):=by
  rw[← hW1];have:=World.alloc_heap_new (E.w.alloc (.deferred (some []))) (.loop (rec .ready none));rwa [World.size_alloc] at this
 have hD1:W1.heap[E.w.heap.size]? = some (.deferred (some [])):=by
  rw[← hW1];exact(oU _ _ (by simp)).trans (World.alloc_heap_new E.w _)
 have hold:∀ g,g<E.w.heap.size→W1.heap[g]? = E.w.heap[g]?:=fun g hg=>by
  rw[← hW1];exact(oU _ _ (by simp;omega)).trans (oU _ _ hg)
 have hside:∀ o,bP E o→Side E o W1 E.lim:=fun o ho=>⟨by omega,fun _ _=>Nat.le_refl _,fun g o hg _=>iY (hold g hg),by rw[← hW1];rfl,by rw[← hW1];rfl,by rw[← hW1];rfl,fun g hg=>⟨hold g (qZ ho hg),rfl⟩⟩
 refine⟨E.w.heap.size+1,[{ target:=.collected E.w.heap.size,args:=#[] }],W1,{ target:=.fn (.func f) vs.toArray,args:=#[.func (.yield (E.w.heap.size+1)) #[] #[]] },W1,f,#[.func (.yield (E.w.heap.size+1)) #[] #[]]++vs.toArray,W1,?_,?_,fun _ _=>trivial,?_,fun h=>by simp[Fence.wide] at h,callsIn_wide.2 ?_⟩
 ·rw[← hW1,hrec];exact run_enterLoop_outer _ _ _ _ _
 ·simp only[resolve,hevf]
  simp[Deferred.ofValue,Act.eval]
 ·simp only[invoke]
  exact oD hfn hfb hfN _ _
 -- the two parties
 obtain⟨hEk,hEo,hEd⟩:=hr.objs
 have hb:∀ {i:Nat} {c:Value},os[i]? = some (.cells [.val c])→i<E.k∧∃ g,E.ρ i=.pointer (some ⟨g,0,none⟩)∧fM E (E.ρ i) (.cells [.val c])∧dI (.cells [.val c]) (E.ρ i)=some g:=fun {i c} h=>by
  have ho:=hEo i _ h
  rcases ho with e|⟨g,ws,t,fz,hu,hh,hfz,hl,hlen,hrep⟩
  ·cases e
  ·exact⟨by rw[hEk];exact(List.getElem?_eq_some_iff.1 h).1,g,hu,.inr ⟨g,ws,t,fz,hu,hh,hfz,hl,hlen,hrep⟩,by rw[hu];rfl⟩
 obtain⟨k0,g0,r0,o0,b0⟩:=hb h0
 obtain⟨k1,g1,r1,o1,b1⟩:=hb h1
 obtain⟨k2,g2,r2,o2,b2⟩:=hb h2
 let Ei:Env:={ w:=W1,lim:=E.lim,k:=3,ρ:=fun j=>match j with|0=>E.ρ i0|1=>E.ρ i1|_=>E.ρ i2 }
 let oi:List AObj:=[.cells [.val c0],.cells [.val c1],.cells [.val c2]]
 have hmv:∀ {u:Value} {c:Value},fM E u (.cells [.val c])→fM Ei u (.cells [.val c]):=fun {u c} h=>by
  rcases h with e|⟨g,ws,t,fz,hu,hh,hfz,hl,hlen,hrep⟩
  ·cases e
  ·refine .inr ⟨g,ws,t,fz,hu,(hold g (kR hh)).trans hh,hfz,hl,hlen,?_⟩
   simp only[List.length_cons,List.length_nil,bY,bE] at hrep ⊢
   exact hrep
 have hne01:g0≠g1:=fun e=>h01 (hEd i0 i1 _ _ g0 h0 h1 b0 (e ▸ b1))
 have hne02:g0≠g2:=fun e=>h02 (hEd i0 i2 _ _ g0 h0 h2 b0 (e ▸ b2))
 have hne12:g1≠g2:=fun e=>h12 (hEd i1 i2 _ _ g1 h1 h2 b1 (e ▸ b2))
 have hcase:∀ {r:Nat} {o:AObj} {g:Nat},oi[r]? = some o→dI o (Ei.ρ r)=some g→(r=0∧g=g0)∨(r=1∧g=g1)∨(r=2∧g=g2):=fun {r o g} ho hg=>by
  match r,ho with
  | 0,ho=>
   simp only[oi,List.getElem?_cons_zero,Option.some.injEq] at ho
   subst ho
   have:dI (.cells [.val c0]) (E.ρ i0)=some g:=hg
   rw[b0] at this
   injection this with this
   exact .inl ⟨rfl,this.symm⟩
  | 1,ho=>
   simp only[oi,List.getElem?_cons_succ,List.getElem?_cons_zero,Option.some.injEq] at ho
   subst ho
   have:dI (.cells [.val c1]) (E.ρ i1)=some g:=hg
   rw[b1] at this
   injection this with this
   exact .inr (.inl ⟨rfl,this.symm⟩)
  | 2,ho=>
   simp only[oi,List.getElem?_cons_succ,List.getElem?_cons_zero,Option.some.injEq] at ho
   subst ho
   have:dI (.cells [.val c2]) (E.ρ i2)=some g:=hg
   rw[b2] at this
   injection this with this
   exact .inr (.inr ⟨rfl,this.symm⟩)
  | n+3,ho=>simp[oi] at ho
 have hoi:bP Ei oi:=by
  refine⟨rfl,fun r o ho=>?_,fun r r' o o' g ho ho' hg hg'=>?_⟩
  ·match r,ho with
   | 0,ho=>simp only[oi,List.getElem?_cons_zero,Option.some.injEq] at ho;subst ho;exact hmv o0
   | 1,ho=>simp only[oi,List.getElem?_cons_succ,List.getElem?_cons_zero,Option.some.injEq] at ho;subst ho;exact hmv o1
   | 2,ho=>simp only[oi,List.getElem?_cons_succ,List.getElem?_cons_zero,Option.some.injEq] at ho;subst ho;exact hmv o2
   | n+3,ho=>simp[oi] at ho
  ·rcases hcase ho hg with⟨e1,e2⟩|⟨e1,e2⟩|⟨e1,e2⟩<;>rcases hcase ho' hg' with⟨e3,e4⟩|⟨e3,e4⟩|⟨e3,e4⟩<;>omega
 have howI:∀ g,Ow Ei oi g→g=g0∨g=g1∨g=g2:=fun g ⟨r,o,ho,hg⟩=>by
  rcases hcase ho hg with⟨_,e⟩|⟨_,e⟩|⟨_,e⟩<;>simp[e]
 have howE:∀ g,g=g0∨g=g1∨g=g2→Ow E os g:=by
  rintro g (rfl|rfl|rfl)
  ·exact⟨i0,_,h0,b0⟩
  ·exact⟨i1,_,h1,b1⟩
  ·exact⟨i2,_,h2,b2⟩
 -- the caller,the three given up
 have hW:gE ⟨tab,[]⟩ ⟨nt,slots,os⟩ ⟨nt,slots,zR os i0 i1 i2⟩:=((gE.dead i0).trans (gE.dead i1)).trans (gE.dead i2)
 have hrk:Rep ⟨tab,[]⟩ E ⟨nt,slots,zR os i0 i1 i2⟩ ⟨tmps,[]⟩:=by
  refine⟨hr.size,hr.slots,hr.defers,⟨by simpa[zR] using hEk,fun r o h=>?_,fun r r' o o' g h h' hg hg'=>?_⟩,hr.glob⟩
  ·rcases qT h with rfl|⟨_,_,_,h⟩
   ·trivial
   ·exact hEo r o h
  ·rcases qT h with rfl|⟨_,_,_,h⟩
   ·simp[dI] at hg
   ·rcases qT h' with rfl|⟨_,_,_,h'⟩
    ·simp[dI] at hg'
    ·exact hEd r r' o o' g h h' hg hg'
 have hxk:Ext E os E (zR os i0 i1 i2):=by
  refine { Ext0.refl E with os:=rfl,tape:=rfl,output:=rfl,frame:=fun _ _ _=>⟨rfl,rfl⟩,own:=fun g hw _=>?_ }
  obtain⟨r,o,h,hb⟩:=hw
  rcases qT h with rfl|⟨_,_,_,h⟩
  ·simp[dI] at hb
  ·exact⟨r,o,h,hb⟩
 have hsk:=hside _ hrk.objs
 have hJ0:JC ⟨tab,[]⟩ E os nt slots ⟨tmps,[]⟩ E.w.heap.size (E.w.heap.size+1) (rec .ready none) Ei oi (E.at W1 E.lim) (zR os i0 i1 i2):=by
  refine⟨rfl,rfl,hsk.rep hrk,hD1,hL1,fun h=>?_,fun h=>?_,fun h=>?_,fun h=>?_,fun g hg h=>?_,?_,fun g hg _=>howE g (howI g hg)⟩
  ·have:=qZ hrk.objs ((kE (E:=E) rfl).1 h);omega
  ·have:=qZ hrk.objs ((kE (E:=E) rfl).1 h);omega
  ·have:=qZ hr.objs (howE _ (howI _ h));omega
  ·have:=qZ hr.objs (howE _ (howI _ h));omega
  ·obtain⟨r,o,h,hb⟩:=(kE (E:=E) rfl).1 h
   rcases qT h with rfl|⟨q0,q1,q2,h⟩
   ·simp[dI] at hb
   ·rcases howI g hg with rfl|rfl|rfl
    ·exact q0 (hEd r i0 o _ _ h h0 hb b0)
    ·exact q1 (hEd r i1 o _ _ h h1 hb b1)
    ·exact q2 (hEd r i2 o _ _ h h2 hb b2)
  ·exact xB hxk hsk fun g hg _=>⟨hold g hg,rfl⟩
 have hvs':bY Ei [.ptr 0 0,.ptr 1 0,.ptr 2 0] vs:=by
  simp only[bY,bE] at hvs ⊢
  obtain⟨v0,_,rfl,⟨_,a0,e0,rfl⟩,v1,_,rfl,⟨_,a1,e1,rfl⟩,v2,_,rfl,⟨_,a2,e2,rfl⟩,rfl⟩:=hvs
  exact⟨_,_,rfl,⟨by simp[Ei],a0,e0,rfl⟩,_,_,rfl,⟨by simp[Ei],a1,e1,rfl⟩,_,_,rfl,⟨by simp[Ei],a2,e2,rfl⟩,rfl⟩
 have hGi:GOk Ei ⟨tab,[]⟩:=GOk.move (E:=E.at W1 E.lim) (E':=Ei) rfl (fun _ _=>Nat.le_refl _) (hr.glob.mono (hside _ hrk.objs).ext0)
 -- what holds behind k values
 let J:Nat→Env→List AObj→Prop:=fun k Ei' oi'=>∃ Ec oc,JC ⟨tab,[]⟩ E os nt slots ⟨tmps,[]⟩ E.w.heap.size (E.w.heap.size+1) (if k=xs.length+1 then rec .done (some .ret) else rec .ready none) Ei' oi' Ec oc∧(if k=xs.length+1 then R oc else I k oc)
 have hJs:∀ k E1 o1 E2 o2,J k E1 o1→bP E1 o1→Ext E1 o1 E2 o2→bP E2 o2→J k E2 o2:=fun k E1 o1 E2 o2 ⟨Ec,oc,hj,hi⟩ ho hx ho'=>⟨_,oc,hj.istep ho hx ho',hi⟩
 refine(hY (E.w.heap.size+1) J hJs ?_ Ei vs hvs' hoi hGi ⟨_,_,by rw[if_neg (by omega)];exact hJ0,by rw[if_neg (by omega)];exact hI0⟩).mono ?_
 ·-- one round
  rintro k Ek ok x hx ⟨Ec,oc,hj,hi⟩ hok
  have hkl:k<xs.length:=(List.getElem?_eq_some_iff.1 hx).1
  have hne:k≠xs.length+1:=by omega
  rw[if_neg hne] at hj hi
  have hy:=run_yield (P:=P) (args:=#[x]) hj.hl (by rw[hrec];rfl)
  rw[hrec] at hy
  refine⟨fc,_,assign,body,hy,?_⟩
  let ar:Act:={ tmps:=tmps.setIfInBounds p x,defers:=[] }
  have hpt:p<tmps.size:=by have:=hj.rep.size;simp only at this;rw[this];exact hp
  have hra:Rep ⟨tab,[]⟩ Ec ⟨nt,(p,.val x)::slots,oc⟩ ar:=by
   refine⟨by have:=hj.rep.size;simpa[ar] using this,fun i=>?_,rfl,hj.rep.objs,hj.rep.glob⟩
   show bE Ec (lk ((p,.val x)::slots) i) ((tmps.setIfInBounds p x).getD i undef)
   rw[aOT tmps p x i hpt]
   simp only[lk]
   split
   ·simp only[bE]
   ·exact hj.rep.slots i
  have htm:((#[p].zip #[x]).foldl (fun t (q:Nat×Value)=>t.setIfInBounds q.1 q.2) tmps)=tmps.setIfInBounds p x:=by simp
  have hA:=hround k x oc hx hi (E.w.heap.size+1) Ec ar hra
  rw[hj.w] at hA
  refine roundIn_of_wpIn (F:=Fence.wide) trivial ?_
  have htm':(Array.foldl (fun t (x:Tmp×Value)=>match x with|(t_1,a)=>t.setIfInBounds t_1 a) tmps (#[p].zip #[x]))=tmps.setIfInBounds p x:=by simp
  simp only[htm']
  refine wpIn_mono hA ?_
  rintro e a1 w1 ⟨st1,E1,rfl,⟨rfl,hbody⟩,hr1,hx1⟩
  -- the assignment done
  have hlt1:E.w.heap.size+1<Ec.w.heap.size:=by rw[hj.w];exact kR hj.hl
  have hl1:E1.w.heap[E.w.heap.size+1]? = some (.loop (rec .ready none)):=by
   rw[(hx1.frame _ hlt1 hj.nlc).1,hj.w];exact hj.hl
  have hrb:=run_beginRound (P:=P) hl1 (by rw[hrec])
  refine⟨_,hrb,?_⟩
  have hrep1:Rep ⟨tab,[]⟩ E1 ⟨nt,slots,st1.objs⟩ ⟨tmps,[]⟩:=⟨hj.rep.size,fun i=>bE.mono hx1.toExt0 _ _ (hj.rep.slots i),rfl,hr1.objs,hr1.glob⟩
  obtain⟨hj1,hs1⟩:=hj.cstep hok hx1 hrep1
  have hok1:=hs1.objs hok
  have eb:({ rec .ready none with state:=.busy }:Loop)=rec .busy none:=by rw[hrec]
  rw[eb]
  obtain⟨hj2,hs2⟩:=hj1.put hok1 (by omega) (by omega) (rec .busy none)
  have hok2:=hs2.objs hok1
  have hsc1:Side E1 st1.objs (E1.w.putObj (E.w.heap.size+1) (.loop (rec .busy none))) E1.lim:=.put hl1 rfl rfl hj1.nlc
  have hr2:Rep ⟨tab,[]⟩ (E1.at (E1.w.putObj (E.w.heap.size+1) (.loop (rec .busy none))) E1.lim) st1 a1:=hsc1.rep hr1
  refine wpIn_mono (hbody _ a1 hr2) ?_
  rintro e a3 w3 ⟨st3,E3,rfl,hq3,hr3,hx3⟩
  have hrep3:Rep ⟨tab,[]⟩ E3 ⟨nt,slots,st3.objs⟩ ⟨tmps,[]⟩:=⟨hj.rep.size,fun i=>bE.mono hx3.toExt0 _ _ (hj2.rep.slots i),rfl,hr3.objs,hr3.glob⟩
  obtain⟨hj3,hs3⟩:=hj2.cstep hok2 hx3 hrep3
  have hok3:=hs3.objs hok2
  have fin:∀ (jump:Option Code) (k':Nat),(if k'=xs.length+1 then rec .done (some .ret) else rec .ready none)=rec (if jump.isNone then .ready else .done) jump→(if k'=xs.length+1 then R st3.objs else I k' st3.objs)→(if jump.isNone then k+1 else xs.length+1)=k'→
    ∃ v w',(Instr.endRound (E.w.heap.size+1) jump).run P E3.w=.ok v w'∧∃ b lim',Ending.returned v=.returned (.bool b)∧Side Ek ok w' lim'∧J (if b then k+1 else xs.length+1) (Ek.at w' lim') ok:=fun jump k' hk hi' hk'=>by
   have hre:=run_endRound (P:=P) jump hj3.hl
   have e1:({ rec .busy none with state:=if jump.isNone then .ready else .done,pending:=jump }:Loop)=rec (if jump.isNone then .ready else .done) jump:=by rw[hrec]
   rw[e1] at hre
   obtain⟨hj4,hs4⟩:=hj3.put hok3 (by omega) (by omega) (rec (if jump.isNone then .ready else .done) jump)
   refine⟨_,_,hre,jump.isNone,_,rfl,((hs1.trans hs2).trans hs3).trans hs4,?_⟩
   rw[hk']
   exact⟨_,_,by rw[hk];exact hj4,hi'⟩
  cases e with
  | normal=>exact fin none (k+1) (by rw[if_neg (by omega)];rfl) (by rw[if_neg (by omega)];exact hq3) rfl
  | ret=>exact fin (some .ret) (xs.length+1) (by rw[if_pos rfl];rfl) (by rw[if_pos rfl];exact hq3) rfl
  | exit id=>exact hq3.elim
  | goto t=>exact hq3.elim
  | panic ch=>exact hq3.elim
  | outgrown=>exact hq3.elim
 ·-- behind the function
  rintro e w' ⟨v,E',o',k,rfl,rfl,ho',⟨Ec,oc,hj,hi⟩,hk⟩
  have key:∀ (rc:Loop) (pe:Option Code),rc.state≠.busy→rc.pending=pe→JC ⟨tab,[]⟩ E os nt slots ⟨tmps,[]⟩ E.w.heap.size (E.w.heap.size+1) rc E' o' Ec oc→
    ∃ w4,(Instr.endLoop (E.w.heap.size+1)).run P E'.w=.ok pe w4∧∀ e',Q e' [aHF E.w.heap.size] ⟨nt,slots,oc⟩→∃ st' E2 ds',E2.w=w4∧Q e' ds' st'∧
     Rep ⟨tab,ds'⟩ E2 st' { tmps:=tmps,defers:=[{ target:=.collected E.w.heap.size,args:=#[] }]++[] }∧aCH n0 E2 st'.objs ds'∧Ext E os E2 st'.objs:=fun rc pe hb hpe hj=>by
   have hre:=run_endLoop (P:=P) hj.hl hb
   rw[hpe] at hre
   obtain⟨hj',hs'⟩:=hj.put ho' (by omega) (by omega) { rc with state:=.exhausted }
   rw[← hpe] at hre
   refine⟨_,hpe ▸ hre,fun e' hq=>⟨⟨nt,slots,oc⟩,_,[aHF E.w.heap.size],hj'.w,hq,⟨hj'.rep.size,hj'.rep.slots,rfl,hj'.rep.objs,hj'.rep.glob⟩,.inr ⟨_,rfl,hn,by rw[hj'.w];exact hj'.hD,hj'.nDc⟩,hj'.ext⟩⟩
  rcases hk with rfl|rfl
  ·rw[if_neg (by omega)] at hj hi
   obtain⟨w4,h1,h2⟩:=key _ none (by rw[hrec];simp) (by rw[hrec]) hj
   exact⟨none,w4,h1,h2 .normal (hdone _ _ hi)⟩
  ·rw[if_pos rfl] at hj hi
   obtain⟨w4,h1,h2⟩:=key _ (some .ret) (by rw[hrec];simp) (by rw[hrec]) hj
   exact⟨some .ret,w4,h1,wpIn_ret (h2 .ret (hret _ _ hi))⟩
end
theorem aAd {P:Program} {G:Gl} {f:FuncId} {fn:Func} {c:Code} {args:List AV} {Q:AV→List AObj→Prop} (hf:P.funcs[f]? = some fn) (hb:fn.body=some c) (hn:(fn.name == "runtime.NumGoroutine")=false)
  {nt:Nat} {rts:Array TypeId} {rvs:Array ResultVar} (hnt:fn.ntmps=nt) (hrt:fn.resultTypes=rts) (hrv:fn.results=rvs) (hle:args.length≤nt)
  (h:∀ n0,wU P G.tab n0 [] c ⟨nt,aZ 0 args,[]⟩ fun e _ s=>Fin P rts.toList rvs.toList Q e s) (hds:G.ds=[]:=by rfl):ACalls P G f args [] Q:=by
 subst hnt hrt hrv
 refine⟨⟨fn,hf,by simp[hb],hn⟩,fun E vs hl ho hG=>?_⟩
 refine(callsIn_wide (n:=0)).1 (callsIn_of_wp_marks hf hb trivial (wpIn_wide.2 ?_))
 have hrs:=uM (G:=⟨G.tab,[]⟩) rfl hle hl ho hG
 refine wp_mono (h E.w.heap.size E _ (Nat.le_refl _) hrs (.inl rfl)) ?_
 rintro e a' w' ⟨st',E',ds',rfl,hfinq,hr',hm,hx'⟩
 have he:e=.normal∨e=.ret:=by cases e<;>first|exact .inl rfl|exact .inr rfl|exact hfinq.elim
 obtain⟨C,r,iL,hC,hq⟩:∃ C r,eU P fn.resultTypes.toList fn.results.toList st'=some (C,r)∧C∧Q r []:=by rcases he with rfl|rfl<;>exact hfinq
 have hnow:∀ (E:Env) g,¬ Ow E ([]:List AObj) g:=by rintro E g ⟨r,o,h,_⟩;simp at h
 -- the end,in the world where the marks are gone
 have last:∀ (E2:Env),Rep ⟨G.tab,ds'⟩ E2 st' a'→Ext E [] E2 st'.objs→LeavesInM Fence.wide 0 P fn a'.tmps (fun e w'=>∃ E' v r outs',E'.w=w'∧e=.returned v∧Q r outs'∧bE E' r v∧bP E' outs'∧Ext E [] E' outs') [] .returning E2.w:=fun E2 hr2 hx2=>by
  obtain⟨u,hu,hrun⟩:=vM (P:=P) hr2 iL hC
  refine⟨u,hrun,E2.lend st'.objs,u,r,[],rfl,rfl,hq,hu,⟨rfl,fun r o h=>by simp at h,fun r r' o o' g h=>by simp at h⟩,?_⟩
  refine { size:=hx2.size,lim:=fun g hg=>Nat.le_trans (hx2.lim g hg) (mU hr2.objs g),cell:=hx2.cell,k:=by have:=ho.1;simp[this],ρ:=fun r hr=>by have:=ho.1;simp[this] at hr,os:=hx2.os,tape:=hx2.tape,output:=hx2.output,frame:=fun g hg hn=>?_,own:=fun g hw _=>absurd hw (hnow _ g) }
  have h1:=hx2.frame g hg (hnow _ g)
  refine⟨h1.1,?_⟩
  rw[xH (fun ⟨r,cs,h2,h3⟩=>hnow _ g (hx2.own g ⟨r,_,h2,h3⟩ hg))]
  exact h1.2
 have hend:LeavesInM Fence.wide 0 P fn a'.tmps (fun e w'=>∃ E' v r outs',E'.w=w'∧e=.returned v∧Q r outs'∧bE E' r v∧bP E' outs'∧Ext E [] E' outs') a'.defers .returning E'.w:=by
  have hd:a'.defers=ds':=hr'.defers
  rw[hd]
  rcases hm with e0|⟨D,e0,hD1,hD2,hD3⟩
  ·rw[e0];exact last E' hr' hx'
  ·rw[e0]
   refine⟨by simp,.inl ⟨D,_,rfl,run_takeDeferred hD2,?_⟩⟩
   have hs:Side E' st'.objs (E'.w.putObj D (.deferred none)) E'.lim:=.put hD2 rfl rfl hD3
   refine last (E'.at (E'.w.putObj D (.deferred none)) E'.lim) (hs.rep hr') (xB hx' hs fun g hg _=>⟨World.putObj_heap_other (by omega),rfl⟩)
 rcases he with rfl|rfl
 ·exact hend
 ·exact hend
theorem sK {P:Program} {ops:Array Oper} {Q1 Q:Exit→Act→World→Prop} {l2:List Oper} (h1:∀ a w,Q1 .normal a w→wpListIn Fence.wide 0 P ops Q l2 a w) (h2:∀ e a w,e≠.normal→Q1 e a w→Q e a w)
  (h3:∀ a w,¬ Q1 .outgrown a w):∀ (l1:List Oper) (a:Act) (w:World),wpList P ops Q1 l1 a w→wpListIn Fence.wide 0 P ops Q (l1++l2) a w
 | [],a,w,h=>h1 a w h
 | o::rest,a,w,h=>by
  unfold wpList at h
  rw[List.cons_append]
  unfold wpListIn
  have ih:=fun a w=>sK (P:=P) (ops:=ops) (Q1:=Q1) h1 h2 h3 rest a w
  have hn:Fence.wide.depth.isSome=true→1≤0:=fun h=>by simp[Fence.wide] at h
  split
  ·rename_i hw
   rw[if_pos hw] at h
   rcases h with h|⟨_,a0,w0,hh⟩
   ·refine⟨fun _ _=>trivial,?_⟩
    have e:Oper.semAt Fence.wide.round a.eval o=execOp a.eval o:=Oper.semAt_none _ o
    rw[e]
    unfold Oper.wp at h
    cases hr:(execOp a.eval o).run P w with
    | ok n w'=>
     rw[hr] at h
     cases n<;>simp only[Oper.upon] at h<;>simp only[Oper.uponIn]<;>first
      | exact ih _ _ h
      | exact h.elim
      | (refine⟨hn,callsIn_wide.2 (Calls.mono h ?_)⟩
         intro e w'' hh
         cases e with
         | returned v=>exact ih _ _ hh
         | panicked chain=>exact h2 _ _ _ (by simp) hh
         | outgrown=>obtain⟨a1,w1,h'⟩:=hh;exact absurd h' (h3 _ _))
      | exact⟨hn,fun c cs _=>let ⟨v,w',q,s⟩:=h c cs;⟨v,w',ih _ _ q,stepsIn_wide.2 s⟩⟩
    | halt x w'=>
     rw[hr] at h
     cases x<;>simp only[Oper.upon] at h<;>simp only[Oper.uponIn]<;>first|exact h2 _ _ _ (by simp) h|exact h
   ·exact absurd hh (h3 _ _)
  ·rename_i hw
   rw[if_neg hw] at h
   exact⟨fun _ _=>trivial,ih _ _ h⟩
theorem aGM {P:Program} {G:Gl} {xs:List Value} {lp:Nat} {J:Nat→Env→List AObj→Prop} (hJ:∀ k E o E' o',J k E o→bP E o→Ext E o E' o'→bP E' o'→J k E' o')
  (hY:∀ k E o (x:Value),xs[k]? = some x→J k E o→bP E o→
   ∃ fn tmps assign body,(Instr.yield lp #[x]).run P E.w=.ok (.round lp fn tmps assign body) E.w∧
    RoundIn Fence.wide 0 P lp fn tmps assign body E.w fun e w'=>∃ b lim',e=.returned (.bool b)∧Side E o w' lim'∧J (if b then k+1 else xs.length+1) (E.at w' lim') o)
  {id n tf tx d:Nat} {l:List Oper} {o:Oper} {ts:Array TypeId} (hl:l=l.take n++o::l.drop (n+1)) (ho:o.op=.call { callee:=.value (.tmp tf),args:=#[.tmp tx],argTypes:=ts }) (hg:o.guard=none) (hd:o.dst=some d)
  {k:Nat} {x:Value} (hx:xs[k]? = some x) {st:St} {E:Env} {a:Act} (hr:Rep G E st a) (hj:J k E st.objs) {K:Bool→St→Prop} {Q:Exit→Act→World→Prop}
  (h:dG P G [] l.toArray (l.take n) st fun s=>lk s.slots tf=.val (.func (.yield lp) #[] #[])∧lk s.slots tx=.val x∧d<s.nt∧∀ b,dG P G [] l.toArray (l.drop (n+1)) ⟨s.nt,(d,.val (.bool b))::s.slots,s.objs⟩ (K b))
  (hk:∀ b E' a' s',K b s'→Rep G E' s' a'→J (if b then k+1 else xs.length+1) E' s'.objs→Q .normal a' E'.w):(Code.region id l.toArray false).wp P Q a E.w:=by
 refine(wpIn_wide (n:=0)).1 (wpIn_region_lit ?_)
 have hpre:=jL (Q:=fun e s=>e=.normal∧(lk s.slots tf=.val (.func (.yield lp) #[] #[])∧lk s.slots tx=.val x∧d<s.nt∧∀ b,dG P G [] l.toArray (l.drop (n+1)) ⟨s.nt,(d,.val (.bool b))::s.slots,s.objs⟩ (K b))) (l.take n) st E a hr (by simpa using h)
 have key:=sK (P:=P) (ops:=l.toArray) (Q:=Q) (l2:=o::l.drop (n+1)) ?_ ?_ ?_ (l.take n) a E.w hpre
 ·rw[← hl] at key;exact key
 ·rintro a1 w1 ⟨s,E1,rfl,⟨_,hf,hxs,hdl,hpost⟩,hr1,hx1⟩
  have hj1:=hJ _ _ _ _ _ hj hr.objs hx1 hr1.objs
  obtain⟨fn,tmps,assign,body,hrun,hround⟩:=hY k E1 s.objs x hx hj1 hr1.objs
  have e1:a1.tmps.getD tf undef=.func (.yield lp) #[] #[]:=by have:=hr1.slots tf;rw[hf] at this;simpa only[bE] using this
  have e2:a1.tmps.getD tx undef=x:=by have:=hr1.slots tx;rw[hxs] at this;simpa only[bE] using this
  unfold wpListIn
  rw[if_pos (by simp[Region.wanted,hg])]
  refine⟨fun _ _=>trivial,?_⟩
  have hex:(Oper.semAt Fence.wide.round a1.eval o).run P E1.w=.ok (.round lp fn tmps assign body) E1.w:=by
   rw[← hrun]
   obtain⟨dst,op,ty,pos,after,guard⟩:=o
   simp only at ho
   subst ho
   rw[show Fence.wide.round=none from rfl,Oper.semAt_none]
   simp[execOp,resolve,Act.eval,e1,e2,Deferred.ofValue,invoke]
  rw[hex]
  simp only[Oper.uponIn]
  refine⟨fun h=>by simp[Fence.wide] at h,hround.mono ?_⟩
  rintro e w' ⟨b,lim',rfl,hside,hj'⟩
  have hr2:=hside.rep hr1
  have hr3:Rep G (E1.at w' lim') ⟨s.nt,(d,.val (.bool b))::s.slots,s.objs⟩ (a1.put o.dst (.bool b)):=by
   have:=hr2.put (d:=some d) (v:=.val (.bool b)) (u:=.bool b) (.refl _ _) hr2.objs (by simp only[bE]) (show d<s.nt from hdl)
   rw[hd]
   exact this
  have hpo:=jL (Q:=fun e s=>e=.normal∧K b s) (l.drop (n+1)) _ _ _ hr3 (by simpa using hpost b)
  have:=sK (P:=P) (ops:=l.toArray) (Q:=Q) (l2:=[]) (Q1:=RQ P G (E1.at w' lim') s.objs fun e s=>e=.normal∧K b s) ?_ ?_ ?_ (l.drop (n+1)) _ _ hpo
  ·rw[List.append_nil] at this;exact this
  ·rintro a4 w4 ⟨s4,E4,rfl,⟨_,hK⟩,hr4,hx4⟩
   exact hk b E4 a4 s4 hK hr4 (hJ _ _ _ _ _ hj' hr3.objs hx4 hr4.objs)
  ·rintro e a w hne ⟨_,_,_,⟨h,_⟩,_⟩;exact absurd h hne
  ·rintro a w ⟨_,_,_,⟨h,_⟩,_⟩;cases h
 ·rintro e a w hne ⟨_,_,_,⟨h,_⟩,_⟩;exact absurd h hne
 ·rintro a w ⟨_,_,_,⟨h,_⟩,_⟩;cases h
theorem aHH {p:Nat→Prop} (h:∃ n,p n):∃ n,p n∧∀ k,k<n→¬ p k:=by
 obtain⟨n,hn⟩:=h
 induction n using Nat.strongRecOn with
 | _ n ih=>
  by_cases h:∃ k,k<n∧p k
  ·obtain⟨k,hk,hp⟩:=h
   exact ih k hk hp
  ·exact⟨n,hn,fun k hk hp=>h ⟨k,hk,hp⟩⟩
theorem aHs {P:Program} {c:Code} {Q:Exit→Act→World→Prop} (I:Nat→Act→World→Prop) (h:∀ n a w,I n a w→c.wp P (Exit.then (fun a' w'=>∃ m,m<n∧I m a' w') Q) a w) {n:Nat} {a:Act} {w:World} (h0:I n a w) :
  (Code.loop c).wp P Q a w:=by
 classical
 let μ:Act→World→Nat:=fun a w=>if h:∃ n,I n a w then Classical.choose (aHH h) else 0
 have hμ:∀ a w m,I m a w→μ a w≤m∧I (μ a w) a w:=fun a w m hm=>by
  have hex:∃ n,I n a w:=⟨m,hm⟩
  have e:μ a w=Classical.choose (aHH hex):=dif_pos hex
  obtain⟨h1,h2⟩:=Classical.choose_spec (aHH hex)
  rw[← e] at h1 h2
  exact⟨Nat.le_of_not_lt fun hlt=>h2 m hlt hm,h1⟩
 refine wp_loop (fun a w=>∃ n,I n a w) μ ⟨n,h0⟩ ?_
 rintro a w ⟨m,hm⟩
 refine wp_mono (h _ a w (hμ a w m hm).2) ?_
 intro e a' w' hq
 cases e with
 | normal=>
  obtain⟨k,hk,hik⟩:=hq
  exact⟨⟨k,hik⟩,Nat.lt_of_le_of_lt (hμ a' w' k hik).1 hk⟩
 | _=>exact hq
theorem yA {P:Program} {G:Gl} {x y:Code} {st st':St} {E:Env} {a:Act} {Q:Exit→Act→World→Prop} (h:awp P G x st (aI (fun s=>gE G s st') fun _ _=>False)) (hr:Rep G E st a)
  (hk:∀ E' a',Rep G E' st' a'→Ext E st.objs E' st'.objs→y.wp P Q a' E'.w):(Code.seq x y).wp P Q a E.w:=by
 refine wp_seq (wp_mono (h E a hr) ?_)
 rintro e a' w' ⟨s,E',rfl,hq,hr',hx⟩
 cases e with
 | normal=>
  obtain⟨E2,e2,hr2,hx2⟩:=hq E' a' hr'
  have:=hk E2 a' hr2 (hx.trans hx2)
  rw[e2] at this
  exact this
 | _=>exact hq.elim
theorem aMw {P:Program} {G:Gl} {x y:Code} {j:Nat} {st st':St} {E:Env} {a:Act} {Q:Exit→Act→World→Prop} (h:awp P G x st fun e s=>e=.exit j∧gE G s st') (hr:Rep G E st a)
  (hk:∀ E' a',Rep G E' st' a'→Ext E st.objs E' st'.objs→Q (.exit j) a' E'.w):(Code.seq x y).wp P Q a E.w:=by
 refine wp_seq (wp_mono (h E a hr) ?_)
 rintro e a' w' ⟨s,E',rfl,⟨rfl,hq⟩,hr',hx⟩
 obtain⟨E2,e2,hr2,hx2⟩:=hq E' a' hr'
 have:=hk E2 a' hr2 (hx.trans hx2)
 rw[e2] at this
 exact this
theorem aOe {P:Program} {G:Gl} {x:Code} {st st':St} {E:Env} {a:Act} {Q:Exit→Act→World→Prop} (h:awp P G x st (aI (fun s=>gE G s st') fun _ _=>False)) (hr:Rep G E st a)
  (hk:∀ E' a',Rep G E' st' a'→Ext E st.objs E' st'.objs→Q .normal a' E'.w):x.wp P Q a E.w:=by
 refine wp_mono (h E a hr) ?_
 rintro e a' w' ⟨s,E',rfl,hq,hr',hx⟩
 cases e with
 | normal=>
  obtain⟨E2,e2,hr2,hx2⟩:=hq E' a' hr'
  have:=hk E2 a' hr2 (hx.trans hx2)
  rw[e2] at this
  exact this
 | _=>exact hq.elim
end Go.V
