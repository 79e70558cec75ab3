/-
  Texts of one proof, merged: Va, Vb, Vc, Vd, Ve, Vf, Vg, Vh, Vi, Vj, Vr, Vx, Vzb, Pp, Pk, Pt, Pv.
-/
import Derived.Calls
import Derived.Tactics
import Derived.Laws.Sem
import Derived.Laws.World
import Derived.Laws.Rows
import Derived.Laws.Cells
import Derived.Laws.Append
import Derived.Laws.Bits
import Derived.Laws.Entries
import Derived.Laws.Unary
import Derived.Laws.StructEq
import Derived.Laws.Slices
import Derived.Laws.Strings
import Derived.Laws.Shifts
import Derived.Laws.BytesString
import Derived.Laws.MakeOwn
import Derived.ChangeKeysEq
import Derived.Laws.BitsLemmas
set_option linter.unusedSimpArgs false
set_option linter.unusedVariables false
/-- Small laws of lists and tests, in one. -/
theorem Go.qq : (∀ (α : Type) (h : Decidable True) (a b : α), @ite α True h a b = a) ∧ (∀ (α : Type) (h : Decidable False) (a b : α), @ite α False h a b = b) ∧ (∀ (h : Decidable True) (a b : Prop), @ite Prop True h a b = a) ∧ (∀ (h : Decidable False) (a b : Prop), @ite Prop False h a b = b) ∧ (∀ (α : Type) (a : α) (l : List α), (a :: l)[0]? = some a) ∧
    (∀ (α : Type) (a : α) (i : Nat) (l : List α), (a :: l)[i + 1]? = l[i]?) ∧ ((false = true) = False) ∧ (∀ p : Prop, (True ∧ p) = p) ∧ (∀ p : Prop, (p ∧ True) = p) ∧ (∀ (a : Nat), List.contains [] a = false) ∧
    (∀ (α : Type), ([] : List α).length = 0) ∧ (∀ (α : Type) (a : α) (l : List α), (a :: l).length = l.length + 1) ∧ (∀ n : Nat, 0 + n = n) ∧ (∀ (α β : Type) (f : α → β) (a : α) (l : List α), (a :: l).map f = f a :: l.map f) ∧
    (∀ (α : Type) (l : List α), l ++ [] = l) ∧ (∀ (α β : Type) (f : α → β), ([] : List α).map f = []) ∧ (∀ (α : Type) (l : List α) (i : Nat), l.toArray[i]? = l[i]?) ∧ (∀ (α : Type) (l : List α), [] ++ l = l) ∧
    (∀ (α : Type) (l : List α), l.drop 0 = l) ∧ ((¬ False) = True) ∧ (∀ b : Bool, (b || false) = b) ∧ (∀ (α : Type) (a : α) (l r : List α), a :: l ++ r = a :: (l ++ r)) ∧ (∀ (α : Type) (a b : α) (l : List α), (a :: l).set 0 b = b :: l) ∧
    (∀ (α : Type) (a : α) (l : List α) (n : Nat), (a :: l).drop (n + 1) = l.drop n) ∧ (∀ (α : Type) (l : List α), l.take 0 = []) ∧ (∀ n : Nat, (n ≤ n) = True) ∧ (∀ b : Bool, (b && true) = b) ∧
    (∀ (α : Type) (a b : α) (l : List α) (n : Nat), (a :: l).set (n + 1) b = a :: l.set n b) ∧ (∀ (α : Type) (a d : α) (l : List α), (a :: l).getD 0 d = a) ∧ (∀ (α : Type) (a : α) (l : List α) (n : Nat), (a :: l).take (n + 1) = a :: l.take n) ∧ (∀ n : Nat, n + 0 = n) := by
  refine ⟨by intros; simp, by intros; simp, by intros; simp, by intros; simp, fun _ _ _ => rfl, fun _ _ _ _ => rfl, by simp, by simp, by simp, fun _ => rfl, fun _ => rfl, fun _ _ _ => rfl, by simp, fun _ _ _ _ _ => rfl, by simp, fun _ _ _ => rfl, by simp, fun _ _ => rfl, fun _ _ => rfl, by simp, by simp, fun _ _ _ _ => rfl, fun _ _ _ _ => rfl, fun _ _ _ _ => rfl, fun _ _ => rfl, by simp, by simp, fun _ _ _ _ _ => rfl, fun _ _ _ _ => rfl, fun _ _ _ _ => rfl, fun _ => rfl⟩
namespace Go.V
set_option linter.unusedVariables false
set_option linter.unusedSimpArgs false
inductive Perm where
 | no
 | full
 | tok (r:Nat)
inductive AV where
 | top
 | val (v:Value)
 | agg (cs:List AV)
 | tup (cs:List AV)
 | sl (n:Nat) (cells:List AV) (p:Perm)
 | osl (r off n:Nat) (cap:Option Nat)
 | ptr (r off:Nat)
 | cptr (cells:List AV)
 | clo (f:FuncId) (caps:List AV)
 | mref (r:Nat)
inductive AObj where
 | cells (cs:List AV)
 | tok (sz n:Nat)
 | map (es:List (Value×AV))
 | siter (s:ByteArray) (pos:Nat)
 | dead
structure Env where
 w:World
 lim:Nat→Nat
 k:Nat
 ρ:Nat→Value
def sY (E:Env) (n:Nat) (v:Value) (cap:Nat):Perm→Prop
 | .no=>True
 | .full=>cap=n
 | .tok r=>r<E.k∧∃ A m c,E.ρ r=.slice A m c∧n≤m∧(n=m→v=E.ρ r)
mutual
def bE (E:Env):AV→Value→Prop
 | .top,_=>True
 | .val u,v=>v=u
 | .agg cs,v=>∃ vs:List Value,v=.agg vs.toArray∧bY E cs vs
 | .tup cs,v=>∃ vs:List Value,v=.tuple vs.toArray∧bY E cs vs
 | .sl n cells p,v=>∃ (A:Option Addr) (cap:Nat),v=.slice A n cap∧n≤cap∧
   (cells=[]∨∃ g o,A=some ⟨g,o,none⟩∧g<E.w.heap.size∧o+cells.length≤E.lim g∧eD E g o cells)∧sY E n v cap p
 | .osl r off n cap,v=>r<E.k∧∃ (A:Option Addr) (c:Nat),v=.slice A n c∧n≤c∧(∀ k,cap=some k→c=k)∧
   (0<c→∃ g,E.ρ r=.pointer (some ⟨g,0,none⟩)∧A=some ⟨g,off,none⟩)
 | .ptr r off,v=>r<E.k∧∃ g,E.ρ r=.pointer (some ⟨g,0,none⟩)∧v=.pointer (some ⟨g,off,none⟩)
 | .cptr cells,v=>∃ g o,v=.pointer (some ⟨g,o,none⟩)∧g<E.w.heap.size∧o+cells.length≤E.lim g∧eD E g o cells
 | .clo f caps,v=>∃ vs:List Value,v=.func (.func f) #[] vs.toArray∧bY E caps vs
 | .mref r,v=>r<E.k∧∃ g,E.ρ r=.map (some g)∧v=.map (some g)
def bY (E:Env):List AV→List Value→Prop
 | [],vs=>vs=[]
 | c::cs,vs=>∃ v vs',vs=v::vs'∧bE E c v∧bY E cs vs'
def eD (E:Env) (g:Nat) (o:Nat):List AV→Prop
 | []=>True
 | c::cs=>(∃ v,E.w.cell? ⟨g,o,none⟩=some v∧bE E c v)∧eD E g (o+1) cs
end
def pF (u v:Value):Prop:=u=v∨∃ A n c A' n' c',u=.slice A n c∧v=.slice A' n' c'∧n<n'
theorem pF.refl (u:Value):pF u u:=.inl rfl
theorem pF.trans {u v x:Value} (h:pF u v) (h':pF v x):pF u x:=by
 rcases h with rfl|⟨A,n,c,A',n',c',rfl,rfl,hlt⟩
 ·exact h'
 ·rcases h' with rfl|⟨B,m,d,B',m',d',e,rfl,hlt'⟩
  ·exact .inr ⟨_,_,_,_,_,_,rfl,rfl,hlt⟩
  ·injection e with _ e _
   subst e
   exact .inr ⟨_,_,_,_,_,_,rfl,rfl,by omega⟩
structure Ext0 (E E':Env):Prop where
 size:E.w.heap.size≤E'.w.heap.size
 lim:∀ g,g<E.w.heap.size→E.lim g≤E'.lim g
 cell:∀ g o,g<E.w.heap.size→o<E.lim g→E'.w.cell? ⟨g,o,none⟩=E.w.cell? ⟨g,o,none⟩
 k:E.k≤E'.k
 ρ:∀ r,r<E.k→pF (E.ρ r) (E'.ρ r)
theorem Ext0.refl (E:Env):Ext0 E E:=⟨Nat.le_refl _,fun _ _=>Nat.le_refl _,fun _ _ _ _=>rfl,Nat.le_refl _,fun _ _=>.refl _⟩
theorem Ext0.trans {E E' E'':Env} (h:Ext0 E E') (h':Ext0 E' E''):Ext0 E E'':=
 ⟨Nat.le_trans h.size h'.size,fun g hg=>Nat.le_trans (h.lim g hg) (h'.lim g (Nat.lt_of_lt_of_le hg h.size)),fun g o hg ho=>(h'.cell g o (Nat.lt_of_lt_of_le hg h.size) (Nat.lt_of_lt_of_le ho (h.lim g hg))).trans (h.cell g o hg ho),Nat.le_trans h.k h'.k,fun r hr=>(h.ρ r hr).trans (h'.ρ r (Nat.lt_of_lt_of_le hr h.k))⟩
theorem sY.mono {E E':Env} (h:Ext0 E E') {n:Nat} {v:Value} {cap:Nat}:∀ {p:Perm},sY E n v cap p→sY E' n v cap p
 | .no,_=>trivial
 | .full,hp=>hp
 | .tok r,⟨hr,A,m,c,e,hle,heq⟩=>by
  refine⟨Nat.lt_of_lt_of_le hr h.k,?_⟩
  rcases h.ρ r hr with e'|⟨B,m1,d,B',m',d',e1,e2,hlt⟩
  ·exact⟨A,m,c,e' ▸ e,hle,fun hn=>e' ▸ heq hn⟩
  ·rw[e] at e1
   injection e1 with _ e1 _
   subst e1
   exact⟨B',m',d',e2,by omega,fun hn=>by omega⟩
mutual
theorem bE.mono {E E':Env} (h:Ext0 E E'):∀ (a:AV) (v:Value),bE E a v→bE E' a v
 | .top,_,_=>by simp only[bE]
 | .val u,v,hr=>by simpa only[bE] using hr
 | .agg cs,v,hr=>by
  simp only[bE] at hr ⊢
  obtain⟨vs,rfl,hl⟩:=hr
  exact⟨vs,rfl,bY.mono h cs vs hl⟩
 | .tup cs,v,hr=>by
  simp only[bE] at hr ⊢
  obtain⟨vs,rfl,hl⟩:=hr
  exact⟨vs,rfl,bY.mono h cs vs hl⟩
 | .sl n cells p,v,hr=>by
  simp only[bE] at hr ⊢
  obtain⟨A,cap,hv,hn,hc,hp⟩:=hr
  refine⟨A,cap,hv,hn,?_,hp.mono h⟩
  rcases hc with rfl|⟨g,o,hA,hg,ho,hat⟩
  ·exact .inl rfl
  ·exact .inr ⟨g,o,hA,Nat.lt_of_lt_of_le hg h.size,Nat.le_trans ho (h.lim g hg),eD.mono h g hg cells o ho hat⟩
 | .osl r off n cap,v,hr=>by
  simp only[bE] at hr ⊢
  obtain⟨hk,A,c,hv,hn,hcap,hpos⟩:=hr
  refine⟨Nat.lt_of_lt_of_le hk h.k,A,c,hv,hn,hcap,fun hp=>?_⟩
  obtain⟨g,hg,hA⟩:=hpos hp
  rcases h.ρ r hk with e|⟨_,_,_,_,_,_,e,_⟩
  ·exact⟨g,e ▸ hg,hA⟩
  ·rw[hg] at e;cases e
 | .ptr r off,v,hr=>by
  simp only[bE] at hr ⊢
  obtain⟨hk,g,hg,hv⟩:=hr
  refine⟨Nat.lt_of_lt_of_le hk h.k,g,?_,hv⟩
  rcases h.ρ r hk with e|⟨_,_,_,_,_,_,e,_⟩
  ·exact e ▸ hg
  ·rw[hg] at e;cases e
 | .cptr cells,v,hr=>by
  simp only[bE] at hr ⊢
  obtain⟨g,o,hv,hg,ho,hat⟩:=hr
  exact⟨g,o,hv,Nat.lt_of_lt_of_le hg h.size,Nat.le_trans ho (h.lim g hg),eD.mono h g hg cells o ho hat⟩
 | .clo f caps,v,hr=>by
  simp only[bE] at hr ⊢
  obtain⟨vs,hv,hl⟩:=hr
  exact⟨vs,hv,bY.mono h caps vs hl⟩
 | .mref r,v,hr=>by
  simp only[bE] at hr ⊢
  obtain⟨hk,g,hg,hv⟩:=hr
  refine⟨Nat.lt_of_lt_of_le hk h.k,g,?_,hv⟩
  rcases h.ρ r hk with e|⟨_,_,_,_,_,_,e,_⟩
  ·exact e ▸ hg
  ·rw[hg] at e;cases e
theorem bY.mono {E E':Env} (h:Ext0 E E'):∀ (cs:List AV) (vs:List Value),bY E cs vs→bY E' cs vs
 | [],vs,hr=>by simpa only[bY] using hr
 | c::cs,vs,hr=>by
  simp only[bY] at hr ⊢
  obtain⟨v,vs',rfl,h1,h2⟩:=hr
  exact⟨v,vs',rfl,bE.mono h c v h1,bY.mono h cs vs' h2⟩
theorem eD.mono {E E':Env} (h:Ext0 E E') (g:Nat) (hg:g<E.w.heap.size):∀ (cs:List AV) (o:Nat),o+cs.length≤E.lim g→eD E g o cs→eD E' g o cs
 | [],o,_,_=>by simp only[eD]
 | c::cs,o,ho,hr=>by
  simp only[eD] at hr ⊢
  simp only[List.length_cons] at ho
  obtain⟨⟨v,hc,hv⟩,hrest⟩:=hr
  exact⟨⟨v,(h.cell g o hg (by omega)).trans hc,bE.mono h c v hv⟩,eD.mono h g hg cs (o+1) (by omega) hrest⟩
end
theorem bY.length {E:Env}:∀ {cs:List AV} {vs:List Value},bY E cs vs→vs.length=cs.length
 | [],vs,h=>by simp only[bY] at h;subst h;rfl
 | c::cs,vs,h=>by
  simp only[bY] at h
  obtain⟨v,vs',rfl,_,h2⟩:=h
  simp only[List.length_cons,bY.length h2]
theorem bY.get {E:Env}:∀ {cs:List AV} {vs:List Value},bY E cs vs→∀ (i:Nat) (c:AV),cs[i]? = some c→∃ v,vs[i]? = some v∧bE E c v
 | [],vs,h,i,c,hc=>by simp at hc
 | c0::cs,vs,h,i,c,hc=>by
  simp only[bY] at h
  obtain⟨v,vs',rfl,h1,h2⟩:=h
  cases i with
  | zero=>simp at hc;subst hc;exact⟨v,rfl,h1⟩
  | succ i=>simp at hc;simpa using bY.get h2 i c hc
theorem bY.append {E:Env} {as_ bs:List AV} {us vs:List Value} (h:bY E as_ us) (h':bY E bs vs):bY E (as_++bs) (us++vs):=by
 induction as_ generalizing us with
 | nil=>simp only[bY] at h;subst h;exact h'
 | cons a as_ ih=>
  simp only[bY] at h
  obtain⟨v,vs',rfl,h1,h2⟩:=h
  simp only[List.cons_append,bY]
  exact⟨v,vs'++vs,rfl,h1,ih h2⟩
theorem bY.take {E:Env} {as_:List AV} {us:List Value} (h:bY E as_ us) (n:Nat):bY E (as_.take n) (us.take n):=by
 induction as_ generalizing us n with
 | nil=>simp only[bY] at h;subst h;simp[bY]
 | cons a as_ ih=>
  simp only[bY] at h
  obtain⟨v,vs',rfl,h1,h2⟩:=h
  cases n with
  | zero=>simp[bY]
  | succ n=>simp only[List.take_succ_cons,bY];exact⟨v,_,rfl,h1,ih h2 n⟩
theorem bY.drop {E:Env} {as_:List AV} {us:List Value} (h:bY E as_ us) (n:Nat):bY E (as_.drop n) (us.drop n):=by
 induction as_ generalizing us n with
 | nil=>simp only[bY] at h;subst h;simp[bY]
 | cons a as_ ih=>
  simp only[bY] at h
  obtain⟨v,vs',rfl,h1,h2⟩:=h
  cases n with
  | zero=>simp only[List.drop_zero,bY];exact⟨v,vs',rfl,h1,h2⟩
  | succ n=>simp only[List.drop_succ_cons];exact ih h2 n
theorem eD.cell {E:Env} {g:Nat}:∀ {cs:List AV} {o:Nat},eD E g o cs→∀ (i:Nat) (c:AV),cs[i]? = some c→∃ v,E.w.cell? ⟨g,o+i,none⟩=some v∧bE E c v
 | [],o,h,i,c,hc=>by simp at hc
 | c0::cs,o,h,i,c,hc=>by
  simp only[eD] at h
  cases i with
  | zero=>simp at hc;subst hc;exact h.1
  | succ i=>
   simp at hc
   have:=eD.cell h.2 i c hc
   rwa [show o+1+i=o+(i+1) by omega] at this
theorem eD.of_cell {E:Env} {g:Nat}:∀ {cs:List AV} {o:Nat},(∀ (i:Nat) (c:AV),cs[i]? = some c→∃ v,E.w.cell? ⟨g,o+i,none⟩=some v∧bE E c v)→eD E g o cs
 | [],o,h=>by simp only[eD]
 | c::cs,o,h=>by
  simp only[eD]
  refine⟨h 0 c rfl,eD.of_cell fun i c' hc=>?_⟩
  have:=h (i+1) c' (by simpa using hc)
  rwa [show o+(i+1)=o+1+i by omega] at this
theorem eD.drop {E:Env} {g o:Nat} {cs:List AV} (h:eD E g o cs) (n:Nat):eD E g (o+n) (cs.drop n):=
 eD.of_cell fun i c hc=>by
  rw[List.getElem?_drop] at hc
  have:=h.cell (n+i) c hc
  rwa [show o+(n+i)=o+n+i by omega] at this
theorem eD.take {E:Env} {g o:Nat} {cs:List AV} (h:eD E g o cs) (n:Nat):eD E g o (cs.take n):=
 eD.of_cell fun i c hc=>by
  rw[List.getElem?_take] at hc
  split at hc
  ·exact h.cell i c hc
  ·cases hc
theorem eD.vals {E:Env} {g:Nat}:∀ {cs:List AV} {o:Nat},eD E g o cs→∃ vs:List Value,bY E cs vs∧∀ j v,vs[j]? = some v→E.w.cell? ⟨g,o+j,none⟩=some v
 | [],o,_=>⟨[],by simp only[bY],fun j v h=>by simp at h⟩
 | c::cs,o,h=>by
  simp only[eD] at h
  obtain⟨⟨v,hc,hv⟩,hrest⟩:=h
  obtain⟨vs,hl,hcs⟩:=eD.vals hrest
  refine⟨v::vs,by simp only[bY];exact⟨v,vs,rfl,hv,hl⟩,fun j u hu=>?_⟩
  cases j with
  | zero=>simp at hu;subst hu;exact hc
  | succ j=>
   simp at hu
   have:=hcs j u hu
   rwa [show o+1+j=o+(j+1) by omega] at this
def aGN (vs:Array Value) (fz:Nat×Nat):Prop:=fz.1=fz.2∨vs.size≤fz.1
def fM (E:Env) (u:Value):AObj→Prop
 | .cells cs=>cs=[]∨∃ g vs t fz,u=.pointer (some ⟨g,0,none⟩)∧E.w.heap[g]? = some (.cells vs t fz)∧aGN vs fz∧E.lim g=0∧cs.length≤vs.size∧bY E cs (vs.toList.take cs.length)
 | .tok sz n=>∃ A c,u=.slice A n c∧n≤c∧
   (n<c→∃ g o vs t fz,A=some ⟨g,o,none⟩∧E.w.heap[g]? = some (.cells vs t fz)∧aGN vs fz∧o+c*sz≤vs.size∧E.lim g≤o+n*sz)
 | .map es=>∃ g ents clock,u=.map (some g)∧E.w.heap[g]? = some (.map ents clock)∧E.lim g=0∧ents.toList.map (·.key)=es.map (·.1)∧bY E (es.map (·.2)) (ents.toList.map (·.val))
 | .siter str pos=>∃ g,u=.pointer (some ⟨g,0,none⟩)∧E.w.heap[g]? = some (.stringIter str pos)∧E.lim g=0
 | .dead=>True
def dI:AObj→Value→Option Nat
 | .cells (_::_),.pointer (some a)=>some a.block
 | .tok _ _,.slice (some a) n c=>if n<c then some a.block else none
 | .map _,.map (some g)=>some g
 | .siter _ _,.pointer (some a)=>some a.block
 | _,_=>none
def bP (E:Env) (objs:List AObj):Prop:=
 E.k=objs.length∧(∀ r o,objs[r]? = some o→fM E (E.ρ r) o)∧
 (∀ r r' o o' g,objs[r]? = some o→objs[r']? = some o'→dI o (E.ρ r)=some g→dI o' (E.ρ r')=some g→r=r')
def Ow (E:Env) (objs:List AObj) (g:Nat):Prop:=∃ r o,objs[r]? = some o∧dI o (E.ρ r)=some g
structure Ext (E:Env) (objs:List AObj) (E':Env) (objs':List AObj):Prop extends Ext0 E E' where
 os:E'.w.os=E.w.os
 tape:E'.w.tape=E.w.tape
 output:E'.w.output=E.w.output
 frame:∀ g,g<E.w.heap.size→¬ Ow E objs g→E'.w.heap[g]? = E.w.heap[g]?∧E'.lim g=E.lim g
 own:∀ g,Ow E' objs' g→g<E.w.heap.size→Ow E objs g
theorem Ext.refl (E:Env) (objs:List AObj):Ext E objs E objs:=
 { Ext0.refl E with os:=rfl,tape:=rfl,output:=rfl,frame:=fun _ _ _=>⟨rfl,rfl⟩,own:=fun _ h _=>h }
theorem Ext.trans {E E' E'':Env} {o o' o'':List AObj} (h:Ext E o E' o') (h':Ext E' o' E'' o''):Ext E o E'' o'':=
 { h.toExt0.trans h'.toExt0 with
   os:=h'.os.trans h.os,tape:=h'.tape.trans h.tape,output:=h'.output.trans h.output
   frame:=fun g hg hn=>by
    have h1:=h.frame g hg hn
    have h2:=h'.frame g (Nat.lt_of_lt_of_le hg h.size) (fun hw=>hn (h.own g hw hg))
    exact⟨h2.1.trans h1.1,h2.2.trans h1.2⟩
   own:=fun g hw hg=>h.own g (h'.own g hw (Nat.lt_of_lt_of_le hg h.size)) hg }
structure St where
 nt:Nat
 slots:List (Nat×AV)
 objs:List AObj
def lk:List (Nat×AV)→Nat→AV
 | [],_=>.top
 | (i,a)::r,j=>if i=j then a else lk r j
structure Gl where
 tab:List (Nat×List AV)
 ds:List Deferred
def G0:Gl:=⟨[],[]⟩
def GOk (E:Env) (G:Gl):Prop:=∀ g cells,(g,cells)∈G.tab→g<E.w.heap.size∧cells.length≤E.lim g∧eD E g 0 cells∧∀ c,c∈cells→∃ v,c=.val v
structure Rep (G:Gl) (E:Env) (st:St) (a:Act):Prop where
 size:a.tmps.size=st.nt
 slots:∀ i,bE E (lk st.slots i) (a.tmps.getD i undef)
 defers:a.defers=G.ds
 objs:bP E st.objs
 glob:GOk E G
theorem GOk.mono {E E':Env} {G} (h:Ext0 E E') (hg:GOk E G):GOk E' G:=fun g cells hm=>by
 obtain⟨h1,h2,h3,h4⟩:=hg g cells hm
 exact⟨Nat.lt_of_lt_of_le h1 h.size,Nat.le_trans h2 (h.lim g h1),eD.mono h g h1 cells 0 (by omega) h3,h4⟩
theorem GOk.move {E E':Env} {G} (hw:E'.w=E.w) (hl:∀ g,g<E.w.heap.size→E.lim g≤E'.lim g) (hg:GOk E G):GOk E' G:=fun g cells hm=>by
 obtain⟨h1,h2,h3,h4⟩:=hg g cells hm
 refine⟨by rw[hw];exact h1,Nat.le_trans h2 (hl g h1),eD.of_cell fun i c hc=>?_,h4⟩
 obtain⟨v,hv,hr⟩:=h3.cell i c hc
 obtain⟨u,rfl⟩:=h4 c (List.mem_of_getElem? hc)
 exact⟨v,by rw[hw];exact hv,by simpa only[bE] using hr⟩
def awp (P:Program) (G:Gl) (c:Code) (st:St) (Q:Exit→St→Prop):Prop:=
 ∀ (E:Env) (a:Act),Rep G E st a→c.wp P (fun e a' w'=>∃ st' E',E'.w=w'∧Q e st'∧Rep G E' st' a'∧Ext E st.objs E' st'.objs) a E.w
section
variable {P:Program} {G:Gl} {st:St} {Q:Exit→St→Prop}
theorem aLB {c:Code} {Q':Exit→St→Prop} (h:awp P G c st Q) (hq:∀ e st',Q e st'→Q' e st'):awp P G c st Q':=
 fun E a hr=>wp_mono (h E a hr) fun e a w ⟨st',E',h1,h2,h3⟩=>⟨st',E',h1,hq _ _ h2,h3⟩
def gE (G:Gl) (st st':St):Prop:=∀ (E:Env) (a:Act),Rep G E st a→∃ E',E'.w=E.w∧Rep G E' st' a∧Ext E st.objs E' st'.objs
theorem gE.refl (st:St):gE G st st:=fun E a h=>⟨E,rfl,h,.refl _ _⟩
theorem gE.trans {a b c:St} (h:gE G a b) (h':gE G b c):gE G a c:=fun E x hr=>by
 obtain⟨E1,e1,h1,x1⟩:=h E x hr
 obtain⟨E2,e2,h2,x2⟩:=h' E1 x h1
 exact⟨E2,e2.trans e1,h2,x1.trans x2⟩
theorem eX {c:Code} {st':St} (hw:gE G st st') (h:awp P G c st' Q):awp P G c st Q:=fun E a hr=>by
 obtain⟨E',e,hr',hx⟩:=hw E a hr
 rw[← e]
 exact wp_mono (h E' a hr') fun e a w ⟨st'',E'',h1,h2,h3,h4⟩=>⟨st'',E'',h1,h2,h3,hx.trans h4⟩
theorem gE.slots {nt:Nat} {s s':List (Nat×AV)} {objs:List AObj} (h:∀ i,lk s' i=lk s i∨lk s' i=.top):gE G ⟨nt,s,objs⟩ ⟨nt,s',objs⟩:=fun E a hr=>
 ⟨E,rfl,⟨hr.size,fun i=>by
  rcases h i with e|e
  ·simp only;rw[e];exact hr.slots i
  ·simp only;rw[e];simp only[bE],hr.defers,hr.objs,hr.glob⟩,.refl _ _⟩
theorem aLz:∀ (s' s:List (Nat×AV)),(∀ p,p∈s'→lk s p.1=p.2)→∀ i,lk s' i=lk s i∨lk s' i=.top
 | [],s,_,i=>.inr rfl
 | (j,x)::r,s,h,i=>by
  simp only[lk]
  split
  ·rename_i e
   subst e
   exact .inl (h (j,x) (by simp)).symm
  ·exact aLz r s (fun p hp=>h p (by simp[hp])) i
theorem gE.sub {nt:Nat} {s s':List (Nat×AV)} {objs:List AObj} (h:∀ p,p∈s'→lk s p.1=p.2):gE G ⟨nt,s,objs⟩ ⟨nt,s',objs⟩:=.slots (aLz s' s h)
theorem bC (h:Q .normal st):awp P G .skip st Q:=fun E a hr=>wp_skip ⟨st,E,rfl,h,hr,.refl _ _⟩
theorem aS (h:Q .ret st):awp P G .ret st Q:=fun E a hr=>wp_ret ⟨st,E,rfl,h,hr,.refl _ _⟩
theorem dR {id:Nat} (h:Q (.exit id) st):awp P G (.exit id) st Q:=fun E a hr=>wp_exit ⟨st,E,rfl,h,hr,.refl _ _⟩
def aI (K:St→Prop) (Q:Exit→St→Prop):Exit→St→Prop
 | .normal,s=>K s
 | e,s=>Q e s
theorem bJ {x y:Code} (h:awp P G x st (aI (fun s=>awp P G y s Q) Q)):awp P G (.seq x y) st Q:=fun E a hr=>by
 refine wp_seq (wp_mono (h E a hr) ?_)
 rintro e a' w' ⟨st',E',rfl,hq,hr',hx⟩
 cases e with
 | normal=>
  refine wp_mono (hq E' a' hr') ?_
  rintro e a'' w'' ⟨st'',E'',h1,h2,h3,h4⟩
  exact⟨st'',E'',h1,h2,h3,hx.trans h4⟩
 | _=>exact⟨st',E',rfl,hq,hr',hx⟩
theorem aC {x y:Code} (h:∀ K:St→Prop,(∀ s,awp P G y s Q→K s)→awp P G x st (aI K Q)):awp P G (.seq x y) st Q:=bJ (h _ fun _ h=>h)
theorem fB {c:Operand} {x y:Code} {t:Nat} {b:Bool} (hc:c=.tmp t) (hl:lk st.slots t=.val (.bool b))
  (h1:b=true→awp P G x st Q) (h2:b=false→awp P G y st Q):awp P G (.cond c x y) st Q:=fun E a hr=>by
 subst hc
 have hs:=hr.slots t
 rw[hl] at hs
 simp only[bE] at hs
 refine wp_cond_split (t:=b) hs (fun e=>h1 e E a hr) (fun e=>h2 e E a hr)
def bL (id:Nat) (K:St→Prop) (Q:Exit→St→Prop):Exit→St→Prop
 | .normal,s=>K s
 | .exit j,s=>if j=id then K s else Q (.exit j) s
 | e,s=>Q e s
theorem bK {id:Nat} {c:Code} (h:awp P G c st (bL id (Q .normal) Q)):awp P G (.block id c) st Q:=fun E a hr=>by
 refine wp_block (wp_mono (h E a hr) ?_)
 rintro e a' w' ⟨st',E',rfl,hq,hr',hx⟩
 cases e with
 | normal=>exact⟨st',E',rfl,hq,hr',hx⟩
 | exit j=>
  simp only[bL] at hq
  simp only[Exit.inBlock]
  split
  ·rename_i e;rw[if_pos e] at hq;exact⟨st',E',rfl,hq,hr',hx⟩
  ·rename_i e;rw[if_neg e] at hq;exact⟨st',E',rfl,hq,hr',hx⟩
 | goto l=>exact⟨st',E',rfl,hq,hr',hx⟩
 | ret=>exact⟨st',E',rfl,hq,hr',hx⟩
 | panic ch=>exact⟨st',E',rfl,hq,hr',hx⟩
 | outgrown=>exact⟨st',E',rfl,hq,hr',hx⟩
theorem aLA {α:Type} {c:Code} (S:α→St) (I:α→Prop) (μ:α→Nat) (x:α) (h₀:I x)
  (round:∀ x,I x→awp P G c (S x) (aI (fun s=>∃ y,I y∧μ y<μ x∧gE G s (S y)) Q)):awp P G (.loop c) (S x) Q:=fun E a hr=>by
 intro b k cs
 have key:∀ (n:Nat) (y:α) (E1:Env) (a':Act),μ y=n→I y→Rep G E1 (S y) a'→Ext E (S x).objs E1 (S y).objs→
   ∃ e a2 w2,(∃ st' E',E'.w=w2∧Q e st'∧Rep G E' st' a2∧Ext E (S x).objs E' st'.objs)∧Arrives P (lone (b.at a' (.code c::.inLoop c::k)) cs E1.w) b k cs e a2 w2:=by
  intro n
  induction n using Nat.strongRecOn with
  | _ n ih=>
   intro y E1 a' hn hI hr1 hx1
   obtain⟨e,a₁,w₁,⟨st1,E2,rfl,hq,hr2,hx2⟩,harr⟩:=round y hI E1 a' hr1 b (.inLoop c::k) cs
   cases e with
   | normal=>
    obtain⟨z,hIz,hlt,hw⟩:=hq
    obtain⟨E3,e3,hr3,hx3⟩:=hw E2 a₁ hr2
    obtain⟨e₂,a₂,w₂,hq₂,harr₂⟩:=ih (μ z) (hn ▸ hlt) z E3 a₁ rfl hIz hr3 ((hx1.trans hx2).trans hx3)
    rw[e3] at harr₂
    exact⟨e₂,a₂,w₂,hq₂,.of_steps (Steps.trans harr (.one step_inLoop)) harr₂⟩
   | exit id=>exact⟨_,a₁,_,⟨st1,E2,rfl,hq,hr2,hx1.trans hx2⟩,.pass (x:=.inLoop c) rfl (fun _ _=>.inl (by simp)) harr⟩
   | goto l=>exact⟨_,a₁,_,⟨st1,E2,rfl,hq,hr2,hx1.trans hx2⟩,.pass (x:=.inLoop c) rfl (fun _ _=>.inl (by simp)) harr⟩
   | ret=>exact⟨_,a₁,_,⟨st1,E2,rfl,hq,hr2,hx1.trans hx2⟩,.pass (x:=.inLoop c) rfl (fun _ _=>.inl (by simp)) harr⟩
   | panic ch=>exact⟨_,a₁,_,⟨st1,E2,rfl,hq,hr2,hx1.trans hx2⟩,.pass (x:=.inLoop c) rfl (fun _ _=>.inl (by simp)) harr⟩
   | outgrown=>exact⟨_,a₁,_,⟨st1,E2,rfl,hq,hr2,hx1.trans hx2⟩,.pass (x:=.inLoop c) rfl (fun _ _=>.inl (by simp)) harr⟩
 obtain⟨e,a',w',hq,harr⟩:=key _ x E a rfl h₀ hr (.refl _ _)
 exact⟨e,a',w',hq,.of_steps (.one step_loop) harr⟩
end
def cav:Value→AV
 | .slice none 0 0=>.sl 0 [] .full
 | v=>.val v
theorem aCV (E:Env) (v:Value):bE E (cav v) v:=by
 unfold cav
 split
 ·simp only[bE];exact⟨none,0,rfl,Nat.le_refl _,.inl trivial,rfl⟩
 ·simp only[bE]
def lkG:List (Nat×List AV)→Nat→Option (List AV)
 | [],_=>none
 | (i,a)::r,j=>if i=j then some a else lkG r j
def gav (G:Gl) (g:Nat):AV:=
 match lkG G.tab g with
 | some cells=>.cptr cells
 | none=>.val (.pointer (some ⟨g,0,none⟩))
def ev (G:Gl) (s:List (Nat×AV)):Operand→AV
 | .tmp t=>lk s t
 | .const v=>cav v
 | .global g=>gav G g
 | .func f=>.val (.func (.func f) #[] #[])
theorem aIO:∀ {G:List (Nat×List AV)} {g:Nat} {cells:List AV},lkG G g=some cells→(g,cells)∈G
 | (i,a)::r,g,cells,h=>by
  simp only[lkG] at h
  split at h
  ·rename_i e;subst e;injection h with h;subst h;simp
  ·exact List.mem_cons_of_mem _ (aIO h)
theorem aBG {G:Gl} {E:Env} {st:St} {a:Act} (hr:Rep G E st a) (x:Operand):bE E (ev G st.slots x) (a.eval x):=by
 cases x with
 | tmp t=>exact hr.slots t
 | const v=>
  show bE E (cav v) v
  unfold cav
  split
  ·simp only[bE];exact⟨none,0,rfl,Nat.le_refl _,.inl trivial,rfl⟩
  ·simp only[bE]
 | global g=>
  show bE E (gav G g) (.pointer (some ⟨g,0,none⟩))
  unfold gav
  split
  ·rename_i cells h
   obtain⟨h1,h2,h3,_⟩:=hr.glob g cells (aIO h)
   simp only[bE]
   exact⟨g,0,rfl,h1,by omega,h3⟩
  ·simp only[bE]
 | func f=>show bE E (.val _) _;simp only[bE];rfl
inductive R where
 | bad
 | ok (C:Prop) (v:AV) (objs:List AObj)
def aKi (E:Env) (objs:List AObj) (r:Result Next) (v:AV) (objs':List AObj):Prop:=
 ∃ E' u,(r=.ok (.value u) E'.w∨(r=.ok .skip E'.w∧u=undef))∧bE E' v u∧bP E' objs'∧Ext E objs E' objs'
theorem aKi.pure {E:Env} {objs:List AObj} {r:Result Next} {v:AV} {u:Value} (h:r=.ok (.value u) E.w) (hv:bE E v u) (ho:bP E objs):aKi E objs r v objs:=
 ⟨E,u,.inl h,hv,ho,.refl _ _⟩
-- whole numbers
def bH (op:BinOp) (k:IntKind) (a:Int) (k':IntKind) (b:Int):Option (Prop×AV):=
 match op with
 | .shl=>some (0≤b,.val (.int k (k.wrap (a*2^(min b.toNat k.bits)))))
 | .shr=>some (0≤b,.val (.int k (a.fdiv (2^(min b.toNat k.bits)))))
 | .add=>some (k=k',.val (.int k (k.wrap (a+b))))
 | .sub=>some (k=k',.val (.int k (k.wrap (a - b))))
 | .mul=>some (k=k',.val (.int k (k.wrap (a*b))))
 | .quo=>some (k=k'∧b≠0,.val (.int k (k.wrap (a.tdiv b))))
 | .rem=>some (k=k'∧b≠0,.val (.int k (a.tmod b)))
 | .and=>some (k=k',.val (.int k (bits .and k a b)))
 | .or=>some (k=k',.val (.int k (bits .or k a b)))
 | .xor=>some (k=k',.val (.int k (bits .xor k a b)))
 | .andNot=>some (k=k',.val (.int k (bits .andNot k a b)))
 | .eql=>some (k=k',.val (.bool (a == b)))
 | .neq=>some (k=k',.val (.bool (a != b)))
 | .lss=>some (k=k',.val (.bool (decide (a<b))))
 | .leq=>some (k=k',.val (.bool (decide (a≤b))))
 | .gtr=>some (k=k',.val (.bool (decide (a > b))))
 | .geq=>some (k=k',.val (.bool (decide (a≥b))))
theorem aGd {P:Program} {w:World} {op:BinOp} {k k':IntKind} {a b:Int} {C:Prop} {v:AV} (t:TypeId) (h:bH op k a k' b=some (C,v)) (hC:C) :
  ∃ u,v=.val u∧(binOp op t (.int k a) (.int k' b)).run P w=.ok u w:=by
 cases op<;>simp only[seval,bH,Option.some.injEq,Prod.mk.injEq] at h<;>obtain⟨rfl,rfl⟩:=h
 case shl=>exact⟨_,rfl,by simp[binOp,Op.shift,Int.not_lt.2 hC]⟩
 case shr=>exact⟨_,rfl,by simp[binOp,Op.shift,Int.not_lt.2 hC]⟩
 case quo=>obtain⟨rfl,hb⟩:=hC;exact⟨_,rfl,by simp[binOp,Op.intDiv,hb]⟩
 case rem=>obtain⟨rfl,hb⟩:=hC;exact⟨_,rfl,by simp[binOp,Op.intDiv,hb]⟩
 all_goals (subst hC;refine⟨_,rfl,?_⟩;simp[binOp,Op.intArith,Op.intBits,Op.intCmp,bits])
def vQ:AV→AV→Bool
 | .val (.int _ a),.val (.int _ b)=>a == b
 | .val (.bool a),.val (.bool b)=>a == b
 | .val (.string a),.val (.string b)=>a.toList == b.toList
 | _,_=>false
def iN:List AV→List AV→Bool
 | [],[]=>true
 | a::as_,b::bs=>vQ a b&&iN as_ bs
 | _,_=>false
def gL (op:BinOp) (a b:ByteArray):Option (Prop×AV):=
 match op with
 | .add=>some (((a.size+b.size:Nat):Int)≤9223372036854775807,.val (.string (a++b)))
 | .eql=>some (True,.val (.bool (a.toList == b.toList)))
 | .neq=>some (True,.val (.bool (!(a.toList == b.toList))))
 | .lss=>some (True,.val (.bool (Op.bytesLess a.toList b.toList)))
 | .leq=>some (True,.val (.bool (Op.bytesLess a.toList b.toList || a.toList == b.toList)))
 | .gtr=>some (True,.val (.bool (!(Op.bytesLess a.toList b.toList || a.toList == b.toList))))
 | .geq=>some (True,.val (.bool (!(Op.bytesLess a.toList b.toList))))
 | _=>none
theorem aGl {P:Program} {w:World} {op:BinOp} {a b:ByteArray} {C:Prop} {v:AV} (t:TypeId) (h:gL op a b=some (C,v)) (hC:C) :
  ∃ u,v=.val u∧(binOp op t (.string a) (.string b)).run P w=.ok u w:=by
 cases op<;>simp only[seval,gL,Option.some.injEq,Prod.mk.injEq] at h<;>obtain⟨rfl,rfl⟩:=h
 case add=>
  refine⟨_,rfl,?_⟩
  have hm:¬ ((a.size+b.size:Nat):Int) > IntKind.i64.max:=by simpa using hC
  simp only[binOp,Op.stringOp]
  rw[if_neg hm];rfl
 all_goals (exact⟨_,rfl,by simp[binOp,Op.stringOp]⟩)
def aAc (P:Program) (op:BinOp) (t:TypeId) (a b:Bool):Option (Prop×AV):=
 match op with
 | .eql=>some (P.underlying t=some .bool,.val (.bool (a == b)))
 | .neq=>some (P.underlying t=some .bool,.val (.bool (!(a == b))))
 | _=>none
theorem aEl {P:Program} {w:World} {op:BinOp} {a b:Bool} {C:Prop} {v:AV} {t:TypeId} (h:aAc P op t a b=some (C,v)) (hC:C) :
  ∃ u,v=.val u∧(binOp op t (.bool a) (.bool b)).run P w=.ok u w:=by
 cases op<;>simp only[seval,aAc,Option.some.injEq,Prod.mk.injEq] at h<;>obtain⟨rfl,rfl⟩:=h
 all_goals (exact⟨_,rfl,by simp[binOp,run_equal_bool _ _ _ _ hC]⟩)
-- floats
def rH (op:BinOp) (k:FloatKind) (a:Nat) (k':FloatKind) (b:Nat):Option (Prop×AV):=
 let c:=k.format.order a b
 match op with
 | .eql=>some (k=k',.val (.bool (c == some .eq)))
 | .neq=>some (k=k',.val (.bool (c != some .eq)))
 | .lss=>some (k=k',.val (.bool (c == some .lt)))
 | .leq=>some (k=k',.val (.bool (c == some .lt || c == some .eq)))
 | .gtr=>some (k=k',.val (.bool (c == some .gt)))
 | .geq=>some (k=k',.val (.bool (c == some .gt || c == some .eq)))
 | .mul=>some (k=k'∧(k.format.mul a b).isSome=true,.val (.float k ((k.format.mul a b).getD 0)))
 | _=>none
theorem aGa {P:Program} {w:World} {op:BinOp} {k k':FloatKind} {a b:Nat} {C:Prop} {v:AV} (t:TypeId) (X Y:Operand) (h:rH op k a k' b=some (C,v)) (hC:C) :
  ∃ u,v=.val u∧(do eqGuard op t X Y (.float k a) (.float k' b);binOp op t (.float k a) (.float k' b):Sem Value).run P w=.ok u w:=by
 have hg:(eqGuard op t X Y (.float k a) (.float k' b)).run P w=.ok () w:=by
  unfold eqGuard
  cases op<;>simp
 rw[Sem.run_bind,hg,Result.andThen_ok]
 unfold rH at h
 cases op<;>simp only[seval,Option.some.injEq,Prod.mk.injEq] at h<;>obtain⟨rfl,rfl⟩:=h
 case mul=>
  obtain⟨rfl,hs⟩:=hC
  obtain⟨r,hr⟩:=Option.isSome_iff_exists.mp hs
  exact⟨_,rfl,by simp[binOp,Op.floatArith,hr]⟩
 all_goals (subst hC;exact⟨_,rfl,by simp[binOp,Op.floatCmp]⟩)
-- unary
def aun (op:UnOp) (x:AV):Option AV:=
 match op,x with
 | .neg,.val (.int k n)=>some (.val (.int k (k.wrap (0 - n))))
 | .xor,.val (.int k n)=>some (.val (.int k (bits .xor k (if k.signed then -1 else k.max) n)))
 | .not,.val (.bool b)=>some (.val (.bool (!b)))
 | .neg,.val (.float k b)=>some (.val (.float k (Op.negFloat k b)))
 | _,_=>none
theorem aIx {P:Program} {E:Env} {op:UnOp} {x v:AV} {u:Value} (h:aun op x=some v) (hx:bE E x u) :
  ∃ u',bE E v u'∧(Op.unary op u).run P E.w=.ok u' E.w:=by
 unfold aun at h
 split at h<;>first|cases h|skip
 all_goals (simp only[bE] at hx;subst hx;refine⟨_,by simp only[bE];rfl,?_⟩;simp[Op.unary,Op.intArith,Op.intBits,bits])
-- types
def tsz (P:Program) (t:TypeId):Option Nat:=(P.info? t).map (·.size)
def tby (P:Program) (t:TypeId):Option Nat:=(P.info? t).map (·.bytes)
def dS (P:Program) (t:TypeId):Option (List Value):=((P.info? t).bind (·.zero)).map (·.cells.toList)
def aO:Option TypeDesc→Option Bool
 | some (.struct _)=>some true
 | some (.array _ _)=>some true
 | some _=>some false
 | none=>none
theorem eI {P:Program} {t:TypeId} {n:Nat} (h:tsz P t=some n) (w:World):(sizeOf t).run P w=.ok n w:=by
 unfold tsz at h
 simp only[Option.map_eq_some_iff] at h
 obtain⟨i,hi,rfl⟩:=h
 simp[sizeOf,typeInfo,hi]
theorem zV {P:Program} {t:TypeId} {n:Nat} (h:tby P t=some n):∃ i,P.info? t=some i∧i.bytes=n:=by
 unfold tby at h
 simpa only[Option.map_eq_some_iff] using h
theorem iO {P:Program} {t:TypeId} {z:List Value} (h:dS P t=some z) (w:World):∃ v,(zeroValue t).run P w=.ok v w∧v.cells=z.toArray:=by
 unfold dS at h
 simp only[Option.map_eq_some_iff,Option.bind_eq_some_iff] at h
 obtain⟨v,⟨i,hi,hz⟩,rfl⟩:=h
 exact⟨v,by simp[zeroValue,typeInfo,hi,hz],by simp⟩
theorem uN {P:Program} {t:TypeId} {b:Bool} (h:aO (P.underlying t)=some b) (w:World):(isAgg t).run P w=.ok b w:=by
 unfold isAgg
 cases hu:P.underlying t with
 | none=>rw[hu] at h;cases h
 | some d=>
  rw[hu] at h
  simp only[Sem.run_bind,run_underlying hu,Result.andThen_ok]
  cases d<;>simp only[aO,Option.some.injEq] at h<;>subst h<;>rfl
-- conversions
def yJ:AV→UInt8
 | .val (.int .u8 n)=>UInt8.ofNat n.toNat
 | _=>0
def aEF:AV→Bool
 | .val (.int .u8 _)=>true
 | _=>false
def B (b:UInt8):AV:=.val (.int .u8 (b.toNat:Int))
def Bs (l:List UInt8):List AV:=l.map B
def fF (P:Program) (src dst:TypeId) (x:AV):Option (Prop×AV):=
 match x with
 | .val (.int k n)=>match P.underlying dst with
  | some (.int k')=>some ((P.underlying src).isSome=true,.val (.int k' (k'.wrap n)))
  | some (.float k')=>some ((P.underlying src).isSome=true,.val (.float k' (k'.nearest n)))
  | some .string=>some ((P.underlying src).isSome=true,.val (.string (Utf8.encode n)))
  | _=>none
 | .val (.float k b)=>match P.underlying dst with
  | some (.int k')=>some ((P.underlying src).isSome=true∧∃ n,(k.decode b).toInt .zero=some n∧k'.min≤n∧n≤k'.max,.val (.int k' (((k.decode b).toInt .zero).getD 0)))
  | _=>none
 | .val (.string s)=>match P.underlying dst with
  | some .string=>some (P.underlying src=some .string,.val (.string s))
  | _=>none
 | .sl n cells p=>match P.underlying dst,P.underlying src with
  | some .string,some (.slice e)=>some (P.underlying e=some (.int .u8)∧cells.length=n∧cells.all aEF=true,.val (.string ⟨(cells.map yJ).toArray⟩))
  | _,_=>none
 | _=>none
theorem aGz (l:List Int) (s:ByteArray):(l.foldl (fun r n=>r.push (UInt8.ofNat n.toNat)) s).data=s.data++(l.map fun n=>UInt8.ofNat n.toNat).toArray:=by
 induction l generalizing s with
 | nil=>simp
 | cons n l ih=>
  simp only[List.foldl_cons,ih,List.map_cons]
  apply Array.ext'
  simp[ByteArray.push]
theorem aAz {E:Env}:∀ {cells:List AV} {vs:List Value},bY E cells vs→cells.all aEF=true→∃ ns:List Int,vs=ns.map (Value.int .u8)∧cells.map yJ=ns.map fun n=>UInt8.ofNat n.toNat
 | [],vs,h,_=>by simp only[bY] at h;subst h;exact⟨[],rfl,rfl⟩
 | c::cs,vs,h,hb=>by
  simp only[bY] at h
  obtain⟨v,vs',rfl,h1,h2⟩:=h
  simp only[List.all_cons,Bool.and_eq_true] at hb
  obtain⟨ns,rfl,he⟩:=aAz h2 hb.2
  have hc:=hb.1
  unfold aEF at hc
  split at hc
  ·rename_i n
   simp only[bE] at h1
   subst h1
   exact⟨n::ns,rfl,by simp only[List.map_cons,yJ,he]⟩
  ·cases hc
theorem zW {P:Program} {E:Env} {g o:Nat} {cs:List AV} (h:eD E g o cs):∃ vs:List Value,bY E cs vs∧vs.length=cs.length∧(loadCells ⟨g,o,none⟩ cs.length).run P E.w=.ok vs.toArray E.w:=by
 obtain⟨vs,hl,hc⟩:=h.vals
 refine⟨vs,hl,hl.length,?_⟩
 have:=run_loadCells_list (P:=P) (w:=E.w) ⟨g,o,none⟩ vs (fun j v hj=>by
  have:=hc j v hj
  unfold Addr.add
  split
  ·rename_i e;subst e;simpa using this
  ·exact this)
 rwa [hl.length] at this
theorem zF {P:Program} {E:Env} {src dst:TypeId} {x v:AV} {C:Prop} {u:Value} (h:fF P src dst x=some (C,v)) (hC:C) (hx:bE E x u) :
  ∃ u',bE E v u'∧(convert src dst u).run P E.w=.ok u' E.w:=by
 unfold fF at h
 split at h
 ·rename_i k n
  split at h
  ·rename_i k' hd
   simp only[Option.some.injEq,Prod.mk.injEq] at h
   obtain⟨rfl,rfl⟩:=h
   simp only[bE] at hx
   subst hx
   refine⟨_,by simp only[bE];rfl,?_⟩
   obtain⟨d,hs⟩:=Option.isSome_iff_exists.mp hC
   simp[convert,run_underlying hs,run_underlying hd,Conv.intToInt]
  ·rename_i k' hd
   simp only[Option.some.injEq,Prod.mk.injEq] at h
   obtain⟨rfl,rfl⟩:=h
   simp only[bE] at hx
   subst hx
   refine⟨_,by simp only[bE];rfl,?_⟩
   obtain⟨d,hs⟩:=Option.isSome_iff_exists.mp hC
   simp[convert,run_underlying hs,run_underlying hd,Conv.intToFloat]
  ·rename_i hd
   simp only[Option.some.injEq,Prod.mk.injEq] at h
   obtain⟨rfl,rfl⟩:=h
   simp only[bE] at hx
   subst hx
   refine⟨_,by simp only[bE];rfl,?_⟩
   obtain⟨d,hs⟩:=Option.isSome_iff_exists.mp hC
   cases d<;>simp[convert,run_underlying hs,run_underlying hd,Conv.intToString]
  ·cases h
 ·rename_i k b
  split at h
  ·rename_i k' hd
   simp only[Option.some.injEq,Prod.mk.injEq] at h
   obtain⟨rfl,rfl⟩:=h
   simp only[bE] at hx
   subst hx
   refine⟨_,by simp only[bE];rfl,?_⟩
   obtain⟨hs,n,hn,h1,h2⟩:=hC
   obtain⟨d,hs⟩:=Option.isSome_iff_exists.mp hs
   simp[convert,run_underlying hs,run_underlying hd,Conv.floatToInt,hn,h1,h2]
  ·cases h
 ·rename_i s
  split at h
  ·rename_i hd
   simp only[Option.some.injEq,Prod.mk.injEq] at h
   obtain⟨rfl,rfl⟩:=h
   simp only[bE] at hx
   subst hx
   refine⟨_,by simp only[bE];rfl,?_⟩
   simp[convert,run_underlying hC,run_underlying hd]
  ·cases h
 ·rename_i n cells p
  split at h
  ·rename_i e hd hs
   simp only[Option.some.injEq,Prod.mk.injEq] at h
   obtain⟨rfl,rfl⟩:=h
   obtain⟨he,hl,hb⟩:=hC
   simp only[bE] at hx
   obtain⟨A,cap,rfl,hn,hc,hp⟩:=hx
   refine⟨_,by simp only[bE];rfl,?_⟩
   rw[run_convert_bytes_string _ _ _ _ _ _ _ hs he hd]
   rcases hc with rfl|⟨g,o,rfl,hg,ho,hat⟩
   ·simp at hl
    subst hl
    cases A with
    | none=>simp[Conv.bytesToString];rfl
    | some a=>simp[Conv.bytesToString,loadCells,loadCellsFrom];rfl
   ·obtain⟨vs,hvs,hlen,hrun⟩:=zW (P:=P) hat
    obtain⟨ns,rfl,hmap⟩:=aAz hvs hb
    rw[hl] at hrun
    rw[run_bytesToString _ _ _ _ ns hrun]
    have:(List.foldl (fun r n=>r.push (UInt8.ofNat n.toNat)) ByteArray.empty ns)=⟨(cells.map yJ).toArray⟩:=by
     have h1:=aGz ns ByteArray.empty
     rw[hmap]
     cases hx:(List.foldl (fun (r:ByteArray) (n:Int)=>r.push (UInt8.ofNat n.toNat)) ByteArray.empty ns) with
     | mk d=>
      rw[hx] at h1
      simp only[ByteArray.mk.injEq]
      replace h1:d=_:=h1
      rw[h1]
      apply Array.ext'
      simp[ByteArray.empty,ByteArray.emptyWithCapacity];rfl
    rw[this]
  ·cases h
 ·cases h
def toV (x:IntKind×Int):Value:=.int x.1 x.2
def iR:Option AV→Option (Option (IntKind×Int))
 | none=>some none
 | some (.val (.int k i))=>some (some (k,i))
 | some _=>none
theorem vP {E:Env} {f:Operand→AV} {g:Operand→Value} (hfg:∀ x,bE E (f x) (g x)) {o:Option Operand} {b:Option (IntKind×Int)} (h:iR (o.map f)=some b):o.map g=b.map toV:=by
 cases o with
 | none=>simp[iR] at h;subst h;rfl
 | some x=>
  simp only[Option.map_some] at h ⊢
  have:=hfg x
  unfold iR at h
  split at h
  ·rename_i he;cases he
  ·rename_i k i he
   injection he with he
   rw[he] at this
   simp only[bE] at this
   injection h with h
   subst h
   simp only[Option.map_some,toV,this]
  ·cases h
theorem rC {P:Program} (w:World) (k:IntKind) (i:Int) (y:Nat) (code:BoundsCode) (h0:0≤i) (h1:i≤y):(Instr.sliceBound (.int k i) y code).run P w=.ok i.toNat w:=run_sliceBound w k i y code h0 h1
def eJ (lo:Option (IntKind×Int)):Int:=match lo with|some x=>x.2|none=>0
def dH (n:Nat) (hi:Option (IntKind×Int)):Int:=match hi with|some x=>x.2|none=>n
theorem pA {P:Program} (w:World) (b:Bool) (len cap:Nat) (lo hi mx:Option (IntKind×Int)) (hlen:len≤cap)
  (hl:0≤eJ lo) (hlh:eJ lo≤dH len hi) (hhm:dH len hi≤dH cap mx) (hm:dH cap mx≤cap) (hmx:mx=none∨hi≠none) :
  (Instr.sliceBounds b len cap (lo.map toV) (hi.map toV) (mx.map toV)).run P w=.ok ((eJ lo).toNat,(dH len hi).toNat,(dH cap mx).toNat) w:=by
 have e1:((dH cap mx).toNat:Int)=dH cap mx:=Int.toNat_of_nonneg (by omega)
 have e2:((dH len hi).toNat:Int)=dH len hi:=Int.toNat_of_nonneg (by omega)
 cases mx with
 | none=>
  cases hi with
  | none=>
   cases lo with
   | none=>simp[Instr.sliceBounds,eJ,dH]
   | some l=>
    simp only[eJ,dH] at *
    simp[Instr.sliceBounds,toV,rC, *]
  | some h=>
   simp only[eJ,dH] at *
   cases lo with
   | none=>simp[Instr.sliceBounds,toV,rC, *,(by omega:0≤h.2),(by omega:h.2≤(cap:Int))]
   | some l=>simp[Instr.sliceBounds,toV,rC, *,(by omega:0≤h.2),(by omega:h.2≤(cap:Int))]
 | some m=>
  cases hi with
  | none=>simp at hmx
  | some h=>
   simp only[eJ,dH] at *
   cases lo with
   | none=>simp[Instr.sliceBounds,toV,rC, *,(by omega:0≤h.2),(by omega:0≤m.2)]
   | some l=>simp[Instr.sliceBounds,toV,rC, *,(by omega:0≤h.2),(by omega:0≤m.2)]
def iC (p:Perm) (hi mx:Option (IntKind×Int)):Perm:=
 match mx,hi,p with
 | some _,_,_=>.full
 | none,none,.full=>.full
 | _,_,_=>.no
def eY (P:Program) (t:TypeId) (x:AV) (lo hi mx:Option AV):Option (Prop×AV):=
 match iR lo,iR hi,iR mx with
 | some lo,some hi,some mx=>
  match P.underlying t,x with
  | some (.slice e),.sl n cells p=>
   match tsz P e with
   | some sz=>some ((cells.length=n*sz∧0≤eJ lo∧eJ lo≤dH n hi∧dH n hi≤dH n mx∧dH n mx≤n∧(mx=none∨(hi≠none∧dH n hi=dH n mx))),.sl (dH n hi - eJ lo).toNat ((cells.drop ((eJ lo).toNat*sz)).take ((dH n hi - eJ lo).toNat*sz)) (iC p hi mx))
   | none=>none
  | some (.slice e),.osl r off n cap=>
   match tsz P e with
   | some sz=>some ((0≤eJ lo∧eJ lo≤dH n hi∧dH n hi≤n∧mx=none),.osl r (off+(eJ lo).toNat*sz) (dH n hi - eJ lo).toNat (cap.map (· - (eJ lo).toNat)))
   | none=>none
  | some (.array N e),.ptr r off=>
   match tsz P e with
   | some sz=>some ((0≤eJ lo∧eJ lo≤dH N hi∧dH N hi≤dH N mx∧dH N mx≤N∧(mx=none∨hi≠none)),.osl r (off+(eJ lo).toNat*sz) (dH N hi - eJ lo).toNat (some (dH N mx - eJ lo).toNat))
   | none=>none
  | some (.array N e),.cptr cells=>
   match tsz P e with
   | some sz=>some ((lo=none∧hi=none∧mx=none∧cells.length=N*sz∧0<N),.sl N cells .full)
   | none=>none
  | some .string,.val (.string s)=>some ((0≤eJ lo∧eJ lo≤dH s.size hi∧dH s.size hi≤s.size∧mx=none),.val (.string (s.extract (eJ lo).toNat (dH s.size hi).toNat)))
  | _,_=>none
 | _,_,_=>none
theorem iK (g o n:Nat):Addr.add ⟨g,o,none⟩ n=⟨g,o+n,none⟩:=by unfold Addr.add;split<;>simp_all
theorem aKB {E:Env} {n n' cap cap':Nat} {p:Perm} {hi mx:Option (IntKind×Int)} {v v':Value} (hp:sY E n v cap p)
  (h1:mx≠none→cap'=n') (h2:mx=none→hi=none→cap=n→cap'=n'):sY E n' v' cap' (iC p hi mx):=by
 cases mx with
 | some m=>exact h1 (by simp)
 | none=>
  cases hi with
  | some h=>simp only[iC];trivial
  | none=>
   cases p with
   | full=>exact h2 rfl rfl hp
   | no=>simp only[iC];trivial
   | tok r=>simp only[iC];trivial
theorem aPv {E:Env} {sz n cap:Nat} {A:Option Addr} {cells:List AV} (l n':Nat) (hlen:cells.length=n*sz) (hn':l+n'≤n) (hcap:n≤cap)
  (hc:cells=[]∨∃ g o,A=some ⟨g,o,none⟩∧g<E.w.heap.size∧o+cells.length≤E.lim g∧eD E g o cells) (m:Nat) (hm:l+n'≤m) :
  (((cells.drop (l*sz)).take (n'*sz))=[]∨∃ g o,(if m=l then A else A.map (·.add (l*sz)))=some ⟨g,o,none⟩∧g<E.w.heap.size∧o+((cells.drop (l*sz)).take (n'*sz)).length≤E.lim g∧eD E g o ((cells.drop (l*sz)).take (n'*sz))):=by
 rcases hc with rfl|⟨g,o,rfl,hg,ho,hat⟩
 ·left;simp
 ·by_cases h0:n'=0
  ·left;simp[h0]
  ·right
   rw[if_neg (by omega)]
   refine⟨g,o+l*sz,by simp[iK],hg,?_,(hat.drop _).take _⟩
   rw[List.length_take,List.length_drop]
   have h1:l*sz≤n*sz:=Nat.mul_le_mul_right _ (by omega)
   omega
theorem aDp {P:Program} {E:Env} {t:TypeId} {x v:AV} {f:Operand→AV} {g:Operand→Value} (hfg:∀ x,bE E (f x) (g x)) {lo hi mx:Option Operand} {C:Prop} {u:Value}
  (h:eY P t x (lo.map f) (hi.map f) (mx.map f)=some (C,v)) (hC:C) (hx:bE E x u) :
  ∃ u',bE E v u'∧(Instr.sliceAt t u (lo.map g) (hi.map g) (mx.map g)).run P E.w=.ok u' E.w:=by
 unfold eY at h
 split at h
 case h_2=>cases h
 rename_i lo' hi' mx' hlo hhi hmx
 rw[vP hfg hlo,vP hfg hhi,vP hfg hmx]
 split at h
 ·-- a slice of cells
  rename_i e n cells p ht
  split at h
  case h_2=>cases h
  rename_i sz hsz
  simp only[Option.some.injEq,Prod.mk.injEq] at h
  obtain⟨rfl,rfl⟩:=h
  obtain⟨hlen,h0,h1,h2,h3,h4⟩:=hC
  simp only[bE] at hx
  obtain⟨A,cap,rfl,hn,hc,hp⟩:=hx
  have hM:dH n mx'=dH cap mx'∨(mx'=none):=by cases mx'<;>simp[dH]
  have hM2:dH n hi'≤dH cap mx'∧dH cap mx'≤cap:=by
   rcases hM with e|e
   ·rw[← e];omega
   ·subst e;simp only[dH] at *;omega
  have hb:=pA (P:=P) E.w true n cap lo' hi' mx' hn h0 h1 hM2.1 hM2.2 (by rcases h4 with h|h;exact .inl h;exact .inr h.1)
  refine⟨_,?_,by simp only[Instr.sliceAt,Instr.slice,Sem.run_bind,run_underlying ht,Result.andThen_ok,hb,eI hsz,Sem.run_pure];rfl⟩
  simp only[bE]
  have e:(dH n hi').toNat - (eJ lo').toNat=(dH n hi' - eJ lo').toNat:=by omega
  refine⟨_,_,by rw[e],?_,?_,?_⟩
  ·have:=hM2;omega
  ·exact aPv (eJ lo').toNat (dH n hi' - eJ lo').toNat hlen (by omega) hn hc (dH cap mx').toNat (by omega)
  ·refine aKB (v:=_) hp (fun hm=>?_) (fun hm hh hcap=>?_)
   ·rcases h4 with h|h
    ·exact absurd h hm
    ·have:=hM.resolve_right hm
     omega
   ·subst hm hh hcap
    simp only[dH] at *
    omega
 ·-- a slice of an object
  rename_i e r off n cap ht
  split at h
  case h_2=>cases h
  rename_i sz hsz
  simp only[Option.some.injEq,Prod.mk.injEq] at h
  obtain⟨rfl,rfl⟩:=h
  obtain⟨h0,h1,h2,rfl⟩:=hC
  simp only[bE] at hx
  obtain⟨hk,A,c,rfl,hn,hcap,hpos⟩:=hx
  have hb:=pA (P:=P) E.w true n c lo' hi' none hn h0 h1 (by show _≤(c:Int);omega) (by show (c:Int)≤c;omega) (.inl rfl)
  simp only[Option.map_none] at hb ⊢
  have e1:(dH n hi').toNat - (eJ lo').toNat=(dH n hi' - eJ lo').toNat:=by omega
  refine⟨_,?_,by simp only[Instr.sliceAt,Instr.slice,Sem.run_bind,run_underlying ht,Result.andThen_ok,hb,eI hsz,Sem.run_pure];rfl⟩
  simp only[bE]
  refine⟨hk,_,_,by rw[e1],?_,?_,?_⟩
  ·show _≤((c:Int)).toNat - _;omega
  ·intro k hk'
   cases cap with
   | none=>simp at hk'
   | some k'=>
    have:=hcap k' rfl
    subst this
    simp only[Option.map_some,Option.some.injEq] at hk'
    show ((c:Int)).toNat - _=_
    omega
  ·intro hp
   have hp:0<((c:Int)).toNat - (eJ lo').toNat:=hp
   obtain⟨g',hg,rfl⟩:=hpos (by omega)
   refine⟨g',hg,?_⟩
   rw[if_neg (by show ¬ ((c:Int)).toNat=_;omega)]
   simp[iK]
 ·-- an array
  rename_i N e r off ht
  split at h
  case h_2=>cases h
  rename_i sz hsz
  simp only[Option.some.injEq,Prod.mk.injEq] at h
  obtain⟨rfl,rfl⟩:=h
  obtain⟨h0,h1,h2,h3,h4⟩:=hC
  simp only[bE] at hx
  obtain⟨hk,g',hg,rfl⟩:=hx
  have hb:=pA (P:=P) E.w false N N lo' hi' mx' (Nat.le_refl _) h0 h1 h2 h3 h4
  have e1:(dH N hi').toNat - (eJ lo').toNat=(dH N hi' - eJ lo').toNat:=by omega
  have e2:(dH N mx').toNat - (eJ lo').toNat=(dH N mx' - eJ lo').toNat:=by omega
  refine⟨_,?_,by simp only[Instr.sliceAt,Instr.sureAddr,Sem.run_bind,run_underlying ht,Result.andThen_ok,hb,eI hsz,Sem.run_pure];rfl⟩
  simp only[bE]
  refine⟨hk,_,_,by rw[e1,e2],by omega,fun k hk'=>by injection hk',fun hp=>⟨g',hg,?_⟩⟩
  rw[if_neg (by omega)]
  simp[iK]
 ·-- an array that is never written again
  rename_i N e cells ht
  split at h
  case h_2=>cases h
  rename_i sz hsz
  simp only[Option.some.injEq,Prod.mk.injEq] at h
  obtain⟨rfl,rfl⟩:=h
  obtain⟨rfl,rfl,rfl,hlen,hN⟩:=hC
  simp only[bE] at hx
  obtain⟨g',o',rfl,hg,hl,hat⟩:=hx
  have hb:=pA (P:=P) E.w false N N none none none (Nat.le_refl _) (by simp[eJ]) (by simp[eJ,dH]) (by simp[dH]) (by simp[dH]) (.inl rfl)
  refine⟨_,?_,by simp only[Instr.sliceAt,Instr.sureAddr,Sem.run_bind,run_underlying ht,Result.andThen_ok,hb,eI hsz,Sem.run_pure];rfl⟩
  simp only[bE,eJ,dH]
  refine⟨some ⟨g',o',none⟩,N,?_,Nat.le_refl _,.inr ⟨g',o',rfl,hg,hl,hat⟩,rfl⟩
  have hn:¬ N=0:=by omega
  simp[iK,hn]
 ·-- a string
  rename_i s ht
  simp only[Option.some.injEq,Prod.mk.injEq] at h
  obtain⟨rfl,rfl⟩:=h
  obtain⟨h0,h1,h2,rfl⟩:=hC
  simp only[bE] at hx
  subst hx
  have hb:=pA (P:=P) E.w false s.size s.size lo' hi' none (Nat.le_refl _) h0 h1 (by show _≤(s.size:Int);omega) (by show (s.size:Int)≤_;omega) (.inl rfl)
  simp only[Option.map_none] at hb ⊢
  refine⟨_,by simp only[bE];rfl,?_⟩
  simp only[Instr.sliceAt,Instr.slice,Sem.run_bind,run_underlying ht,Result.andThen_ok,Option.isSome_none,Bool.false_eq_true,if_false,hb,Sem.run_pure]
 ·cases h
def dN (P:Program) (t:TypeId) (x i:AV):Option (Prop×AV):=
 match i with
 | .val (.int _ i)=>
  match P.underlying t,x with
  | some (.slice e),.sl n cells p=>
   match tsz P e with
   | some sz=>some ((cells.length=n*sz∧0≤i∧i<(n:Int)∧0<sz),.cptr (cells.drop (i.toNat*sz)))
   | none=>none
  | some (.slice e),.osl r off n cap=>
   match tsz P e with
   | some sz=>some ((0≤i∧i<(n:Int)),.ptr r (off+i.toNat*sz))
   | none=>none
  | some (.array N e),.ptr r off=>
   match tsz P e with
   | some sz=>some ((0≤i∧i<(N:Int)),.ptr r (off+i.toNat*sz))
   | none=>none
  | some (.array N e),.cptr cells=>
   match tsz P e with
   | some sz=>some ((0≤i∧i<(N:Int)∧i.toNat*sz≤cells.length),.cptr (cells.drop (i.toNat*sz)))
   | none=>none
  | _,_=>none
 | _=>none
theorem eD.cptr {E:Env} {g o:Nat} {cells:List AV} (hg:g<E.w.heap.size) (ho:o+cells.length≤E.lim g) (hat:eD E g o cells) (k:Nat) (hk:k≤cells.length) :
  bE E (.cptr (cells.drop k)) (.pointer (some ((⟨g,o,none⟩:Addr).add k))):=by
 simp only[bE]
 refine⟨g,o+k,by rw[iK],hg,?_,hat.drop k⟩
 rw[List.length_drop]
 omega
theorem aAj {P:Program} {E:Env} {t:TypeId} {x i v:AV} {C:Prop} {u j:Value} (h:dN P t x i=some (C,v)) (hC:C) (hx:bE E x u) (hi:bE E i j) :
  ∃ u',bE E v u'∧(Instr.indexAt t u j).run P E.w=.ok u' E.w:=by
 unfold dN at h
 split at h
 case h_2=>cases h
 rename_i k i
 simp only[bE] at hi
 subst hi
 split at h
 ·rename_i e n cells p ht
  split at h
  case h_2=>cases h
  rename_i sz hsz
  simp only[Option.some.injEq,Prod.mk.injEq] at h
  obtain⟨rfl,rfl⟩:=h
  obtain⟨hl,h0,h1,h2⟩:=hC
  simp only[bE] at hx
  obtain⟨A,cap,rfl,hn,hc,hp⟩:=hx
  have hlt:i.toNat*sz<n*sz:=(Nat.mul_lt_mul_right h2).2 (by omega)
  rcases hc with rfl|⟨g,o,rfl,hg,ho,hat⟩
  ·simp at hl;omega
  ·refine⟨_,eD.cptr hg ho hat (i.toNat*sz) (by omega),?_⟩
   simp[Instr.indexAt,run_underlying ht,asIntOf,h0,h1,eI hsz]
 ·rename_i e r off n cap ht
  split at h
  case h_2=>cases h
  rename_i sz hsz
  simp only[Option.some.injEq,Prod.mk.injEq] at h
  obtain⟨rfl,rfl⟩:=h
  obtain⟨h0,h1⟩:=hC
  simp only[bE] at hx
  obtain⟨hk,A,c,rfl,hn,hcap,hpos⟩:=hx
  obtain⟨g,hg,rfl⟩:=hpos (by omega)
  refine⟨.pointer (some ⟨g,off+i.toNat*sz,none⟩),by simp only[bE];exact⟨hk,g,hg,rfl⟩,?_⟩
  simp[Instr.indexAt,run_underlying ht,asIntOf,h0,h1,eI hsz,iK]
 ·rename_i N e r off ht
  split at h
  case h_2=>cases h
  rename_i sz hsz
  simp only[Option.some.injEq,Prod.mk.injEq] at h
  obtain⟨rfl,rfl⟩:=h
  obtain⟨h0,h1⟩:=hC
  simp only[bE] at hx
  obtain⟨hk,g,hg,rfl⟩:=hx
  refine⟨.pointer (some ⟨g,off+i.toNat*sz,none⟩),by simp only[bE];exact⟨hk,g,hg,rfl⟩,?_⟩
  simp[Instr.indexAt,run_underlying ht,asIntOf,h0,h1,eI hsz,iK,Instr.sureAddr]
 ·rename_i N e cells ht
  split at h
  case h_2=>cases h
  rename_i sz hsz
  simp only[Option.some.injEq,Prod.mk.injEq] at h
  obtain⟨rfl,rfl⟩:=h
  obtain⟨h0,h1,h2⟩:=hC
  simp only[bE] at hx
  obtain⟨g,o,rfl,hg,ho,hat⟩:=hx
  refine⟨_,eD.cptr hg ho hat (i.toNat*sz) h2,?_⟩
  simp[Instr.indexAt,run_underlying ht,asIntOf,h0,h1,eI hsz,Instr.sureAddr]
 ·cases h
def apart (P:Program) (t:TypeId) (cs:List AV) (off:Nat):Option (Prop×AV):=
 match aO (P.underlying t) with
 | some true=>
  match tsz P t with
  | some sz=>some (off+sz≤cs.length,.agg ((cs.drop off).take sz))
  | none=>none
 | some false=>some (off<cs.length,cs.getD off .top)
 | none=>none
theorem nA {P:Program} {E:Env} {t:TypeId} {cs:List AV} {off:Nat} {v:AV} {C:Prop} {vs:List Value} (h:apart P t cs off=some (C,v)) (hC:C) (hx:bY E cs vs) :
  ∃ u',bE E v u'∧(part t vs.toArray off).run P E.w=.ok u' E.w:=by
 unfold apart at h
 split at h
 ·rename_i hag
  split at h
  case h_2=>cases h
  rename_i sz hsz
  simp only[Option.some.injEq,Prod.mk.injEq] at h
  obtain⟨rfl,rfl⟩:=h
  refine⟨.agg ((vs.drop off).take sz).toArray,by simp only[bE];exact⟨_,rfl,(hx.drop off).take sz⟩,?_⟩
  have e:vs.toArray.extract off (off+sz)=((vs.drop off).take sz).toArray:=by
   simp[List.extract_eq_take_drop]
  simp[part,uN hag,eI hsz,e]
 ·rename_i hag
  simp only[Option.some.injEq,Prod.mk.injEq] at h
  obtain⟨rfl,rfl⟩:=h
  have hl:=hx.length
  obtain⟨u',h1,h2⟩:=hx.get off cs[off] (List.getElem?_eq_getElem hC)
  refine⟨u',by rw[List.getD_eq_getElem?_getD,List.getElem?_eq_getElem hC];exact h2,?_⟩
  simp[part,uN hag,h1]
 ·cases h
def uU (P:Program) (t:TypeId) (x i:AV):Option (Prop×AV):=
 match i with
 | .val (.int _ i)=>
  match P.underlying t,x with
  | some (.array N e),.agg cs=>
   match tsz P e with
   | some sz=>match apart P e cs (i.toNat*sz) with
    | some (C,v)=>some ((0≤i∧i<(N:Int))∧C,v)
    | none=>none
   | none=>none
  | some .string,.val (.string s)=>some ((0≤i∧i<(s.size:Int)),B (s.data.toList.getD i.toNat 0))
  | _,_=>none
 | _=>none
theorem aGb {P:Program} {E:Env} {t:TypeId} {x i v:AV} {C:Prop} {u j:Value} (h:uU P t x i=some (C,v)) (hC:C) (hx:bE E x u) (hi:bE E i j) :
  ∃ u',bE E v u'∧(Instr.index t u j).run P E.w=.ok u' E.w:=by
 unfold uU at h
 split at h
 case h_2=>cases h
 rename_i k i
 simp only[bE] at hi
 subst hi
 split at h
 ·rename_i N e cs ht
  split at h
  case h_2=>cases h
  rename_i sz hsz
  split at h
  case h_2=>cases h
  rename_i C' v' hp
  simp only[Option.some.injEq,Prod.mk.injEq] at h
  obtain⟨rfl,rfl⟩:=h
  obtain⟨⟨h0,h1⟩,h2⟩:=hC
  simp only[bE] at hx
  obtain⟨vs,rfl,hl⟩:=hx
  obtain⟨u',hu,hrun⟩:=nA (P:=P) hp h2 hl
  exact⟨u',hu,by simp[Instr.index,run_underlying ht,asIntOf,h0,h1,eI hsz,hrun]⟩
 ·rename_i s ht
  simp only[Option.some.injEq,Prod.mk.injEq] at h
  obtain⟨rfl,rfl⟩:=h
  obtain⟨h0,h1⟩:=hC
  simp only[bE] at hx
  subst hx
  have hlt:i.toNat<s.size:=by omega
  have e:s[i.toNat]? = some (s.data.toList.getD i.toNat 0):=by
   obtain⟨⟨l⟩⟩:=s
   have hlt':i.toNat<l.length:=hlt
   show (if h:i.toNat<l.length then some (ByteArray.mk ⟨l⟩)[i.toNat] else none)=_
   rw[dif_pos hlt']
   simp only[List.getD_eq_getElem?_getD,List.getElem?_eq_getElem hlt',Option.getD_some]
   rfl
  refine⟨_,by simp only[B,bE];rfl,?_⟩
  simp[Instr.index,run_underlying ht,asIntOf,h0,e]
 ·cases h
def aDd (P:Program) (t:TypeId) (x:AV) (f:Nat):Option (Prop×AV):=
 match P.underlying t,x with
 | some (.struct fs),.agg cs=>match fs[f]? with
  | some fl=>apart P fl.type cs fl.offset
  | none=>none
 | _,_=>none
theorem aDe {P:Program} {E:Env} {t:TypeId} {x v:AV} {f:Nat} {C:Prop} {u:Value} (h:aDd P t x f=some (C,v)) (hC:C) (hx:bE E x u) :
  ∃ u',bE E v u'∧(Instr.field t u f).run P E.w=.ok u' E.w:=by
 unfold aDd at h
 split at h
 case h_2=>cases h
 rename_i fs cs ht
 split at h
 case h_2=>cases h
 rename_i fl hf
 simp only[bE] at hx
 obtain⟨vs,rfl,hl⟩:=hx
 obtain⟨u',hu,hrun⟩:=nA (P:=P) h hC hl
 exact⟨u',hu,by simp[Instr.field,run_underlying ht,hf,asAgg,hrun]⟩
def aN (P:Program) (t:TypeId) (x:AV) (f:Nat):Option (Prop×AV):=
 match P.underlying t with
 | some (.struct fs)=>match fs[f]? with
  | some fl=>match tsz P fl.type with
   | some sz=>match x with
    | .ptr r off=>some (sz≠0,.ptr r (off+fl.offset))
    | .cptr cells=>some (sz≠0∧fl.offset≤cells.length,.cptr (cells.drop fl.offset))
    | _=>none
   | none=>none
  | none=>none
 | _=>none
theorem yF {P:Program} {E:Env} {t:TypeId} {x v:AV} {f:Nat} {C:Prop} {u:Value} (h:aN P t x f=some (C,v)) (hC:C) (hx:bE E x u) :
  ∃ u',bE E v u'∧(Instr.fieldAt t u f).run P E.w=.ok u' E.w:=by
 unfold aN at h
 split at h
 case h_2=>cases h
 rename_i fs ht
 split at h
 case h_2=>cases h
 rename_i fl hf
 split at h
 case h_2=>cases h
 rename_i sz hsz
 split at h
 case h_3=>cases h
 ·simp only[Option.some.injEq,Prod.mk.injEq] at h
  obtain⟨rfl,rfl⟩:=h
  simp only[bE] at hx
  obtain⟨hk,g,hg,rfl⟩:=hx
  refine⟨_,by simp only[bE];exact⟨hk,g,hg,rfl⟩,?_⟩
  simp[Instr.fieldAt,run_underlying ht,hf,Instr.sureAddr,fieldPlace,eI hsz,hC,iK]
 ·simp only[Option.some.injEq,Prod.mk.injEq] at h
  obtain⟨rfl,rfl⟩:=h
  simp only[bE] at hx
  obtain⟨g,o,rfl,hg,ho,hat⟩:=hx
  refine⟨_,eD.cptr hg ho hat _ hC.2,?_⟩
  simp[Instr.fieldAt,run_underlying ht,hf,Instr.sureAddr,fieldPlace,eI hsz,hC.1]
def eN (P:Program) (t:TypeId) (x:AV):Option AV:=
 match P.underlying t,x with
 | some .string,.val (.string s)=>some (.val (.int .i64 (s.size:Int)))
 | some (.array n _),_=>some (.val (.int .i64 (n:Int)))
 | some (.slice _),.sl n _ _=>some (.val (.int .i64 (n:Int)))
 | some (.slice _),.osl _ _ n _=>some (.val (.int .i64 (n:Int)))
 | some (.pointer arr),_=>match P.underlying arr with
  | some (.array n _)=>some (.val (.int .i64 (n:Int)))
  | _=>none
 | _,_=>none
theorem aGe {P:Program} {E:Env} {t ty:TypeId} {x v:AV} {u:Value} (h:eN P t x=some v) (hx:bE E x u) :
  ∃ u',bE E v u'∧(Builtin.len_ #[t] ty #[u]).run P E.w=.ok u' E.w:=by
 unfold eN at h
 split at h
 ·rename_i s ht
  injection h with h
  subst h
  simp only[bE] at hx
  subst hx
  exact⟨_,by simp only[bE];rfl,by simp[Builtin.len_,run_underlying ht,goInt]⟩
 ·rename_i n e ht
  injection h with h
  subst h
  exact⟨_,by simp only[bE];rfl,by simp[Builtin.len_,run_underlying ht,goInt]⟩
 ·rename_i e n cells p ht
  injection h with h
  subst h
  simp only[bE] at hx
  obtain⟨A,cap,rfl,_⟩:=hx
  exact⟨_,by simp only[bE];rfl,by simp[Builtin.len_,run_underlying ht,goInt]⟩
 ·rename_i e r off n cap ht
  injection h with h
  subst h
  simp only[bE] at hx
  obtain⟨_,A,cap,rfl,_⟩:=hx
  exact⟨_,by simp only[bE];rfl,by simp[Builtin.len_,run_underlying ht,goInt]⟩
 ·rename_i arr ht
  split at h
  case h_2=>cases h
  rename_i n e ha
  injection h with h
  subst h
  exact⟨_,by simp only[bE];rfl,by simp[Builtin.len_,run_underlying ht,run_underlying ha,goInt]⟩
 ·cases h
def wP (isMin:Bool):AV→AV→Option AV
 | .val (.int k x),.val (.int _ y)=>some (.val (.int k (if isMin then (if y<x then y else x) else (if y > x then y else x))))
 | _,_=>none
theorem aGi {P:Program} {E:Env} {x y v:AV} {ts:Array TypeId} {ty:TypeId} {a b:Value} (h:wP true x y=some v) (hx:bE E x a) (hy:bE E y b) :
  ∃ u',bE E v u'∧(Builtin.min_ ts ty #[a,b]).run P E.w=.ok u' E.w:=by
 unfold wP at h
 split at h
 case h_2=>cases h
 simp only[bE] at hx hy
 subst hx hy
 injection h with h
 subst h
 exact⟨_,by simp only[bE];rfl,by simp[Builtin.min_,Builtin.min2]⟩
theorem aGh {P:Program} {E:Env} {x y v:AV} {ts:Array TypeId} {ty:TypeId} {a b:Value} (h:wP false x y=some v) (hx:bE E x a) (hy:bE E y b) :
  ∃ u',bE E v u'∧(Builtin.max_ ts ty #[a,b]).run P E.w=.ok u' E.w:=by
 unfold wP at h
 split at h
 case h_2=>cases h
 simp only[bE] at hx hy
 subst hx hy
 injection h with h
 subst h
 exact⟨_,by simp only[bE];rfl,by simp[Builtin.max_,Builtin.max2]⟩
def gW (x:AV) (i:Nat):Option AV:=
 match x with
 | .tup vs=>vs[i]?
 | _=>none
theorem aGZ {P:Program} {E:Env} {x v:AV} {i:Nat} {u:Value} (h:gW x i=some v) (hx:bE E x u) :
  ∃ u',bE E v u'∧(Instr.extract u i).run P E.w=.ok u' E.w:=by
 unfold gW at h
 split at h
 case h_2=>cases h
 rename_i vs
 simp only[bE] at hx
 obtain⟨us,rfl,hl⟩:=hx
 obtain⟨u',h1,h2⟩:=hl.get i v h
 exact⟨u',h2,by simp[Instr.extract,h1]⟩
def bU:AV→AV→AV→Option AV
 | .val (.bool c),.val (.bool a),.val (.bool b)=>some (.val (.bool (if c then a else b)))
 | .val (.bool c),a,b=>some (if c then a else b)
 | _,_,_=>none
theorem aEy {P:Program} {E:Env} {c a b v:AV} {uc ua ub:Value} (h:bU c a b=some v) (hc:bE E c uc) (ha:bE E a ua) (hb:bE E b ub) :
  ∃ u',bE E v u'∧(do pure (.value (if ← asBool uc then ua else ub)):Sem Next).run P E.w=.ok (.value u') E.w:=by
 unfold bU at h
 split at h
 case h_3=>cases h
 ·simp only[bE] at hc ha hb
  subst hc ha hb
  injection h with h
  subst h
  refine⟨_,by simp only[bE];rfl,?_⟩
  rename_i c a b
  cases c<;>simp[asBool]
 ·simp only[bE] at hc
  subst hc
  injection h with h
  subst h
  rename_i c _
  cases c
  ·exact⟨ub,hb,by simp[asBool]⟩
  ·exact⟨ua,ha,by simp[asBool]⟩
def qI (P:Program) (t:TypeId) (x:AV):Option (Prop×AV):=
 match P.underlying t,x with
 | some (.array N e),.sl n cells p=>some ((cells.length=n∧0<n∧N≤n),.cptr cells)
 | some (.array N e),.osl r off n cap=>some (0<n∧N≤n,.ptr r off)
 | _,_=>none
theorem aAb {P:Program} {E:Env} {t:TypeId} {x v:AV} {C:Prop} {u:Value} (h:qI P t x=some (C,v)) (hC:C) (hx:bE E x u) :
  ∃ u',bE E v u'∧(Instr.arrayAt t u).run P E.w=.ok u' E.w:=by
 unfold qI at h
 split at h
 ·rename_i N e n cells p ht
  simp only[Option.some.injEq,Prod.mk.injEq] at h
  obtain⟨rfl,rfl⟩:=h
  obtain⟨h1,h2,h3⟩:=hC
  simp only[bE] at hx
  obtain⟨A,cap,rfl,hn,hc,hp⟩:=hx
  rcases hc with rfl|⟨g,o,rfl,hg,ho,hat⟩
  ·simp at h1;omega
  ·refine⟨_,by simp only[bE];exact⟨g,o,rfl,hg,ho,hat⟩,?_⟩
   simp[Instr.arrayAt,run_underlying ht,Nat.not_lt.2 h3]
 ·rename_i N e r off n cap ht
  simp only[Option.some.injEq,Prod.mk.injEq] at h
  obtain⟨rfl,rfl⟩:=h
  obtain⟨h2,h3⟩:=hC
  simp only[bE] at hx
  obtain⟨hk,A,c,rfl,hn,hcap,hpos⟩:=hx
  obtain⟨g,hg,rfl⟩:=hpos (by omega)
  refine⟨_,by simp only[bE];exact⟨hk,g,hg,rfl⟩,?_⟩
  simp[Instr.arrayAt,run_underlying ht,Nat.not_lt.2 h3]
 ·cases h
def fY (x:AV):Option AV:=
 match x with
 | .ptr r off=>some (.ptr r off)
 | .cptr cells=>some (.cptr cells)
 | _=>none
theorem vV {α:Type} {a:Array α} {i:Nat} {x:α} (h:a[i]? = some x):i<a.size:=(Array.getElem?_eq_some_iff.1 h).1
theorem pZ {E:Env} {u:Value} {o:AObj} {g:Nat} (h:fM E u o) (hg:dI o u=some g):g<E.w.heap.size:=by
 cases o with
 | cells cs=>
  rcases h with rfl|⟨g',vs,t,fz,rfl,hh,_⟩
  ·simp[dI] at hg
  ·cases cs with
   | nil=>simp[dI] at hg
   | cons c cs=>simp[dI] at hg;subst hg;exact vV hh
 | tok sz n=>
  obtain⟨A,c,rfl,hn,hc⟩:=h
  cases A with
  | none=>simp[dI] at hg
  | some a=>
   simp only[dI] at hg
   split at hg
   ·rename_i hlt
    obtain⟨g',o,vs,t,fz,e,hh,_⟩:=hc hlt
    injection e with e
    injection hg with hg
    subst e
    subst hg
    exact vV hh
   ·cases hg
 | map es=>
  obtain⟨g',ents,clock,rfl,hh,_⟩:=h
  simp[dI] at hg
  subst hg
  exact vV hh
 | siter str pos=>
  obtain⟨g',rfl,hh,_⟩:=h
  simp[dI] at hg
  subst hg
  exact vV hh
 | dead=>simp[dI] at hg
theorem qZ {E:Env} {objs:List AObj} (h:bP E objs) {g:Nat} (hg:Ow E objs g):g<E.w.heap.size:=by
 obtain⟨r,o,ho,hb⟩:=hg
 exact pZ (h.2.1 r o ho) hb
theorem fM.stay {E E':Env} (hx:Ext0 E E') {u:Value} {o:AObj} (h:fM E u o)
  (hb:∀ g,dI o u=some g→E'.w.heap[g]? = E.w.heap[g]?∧E'.lim g=E.lim g):fM E' u o:=by
 cases o with
 | cells cs=>
  rcases h with rfl|⟨g,vs,t,fz,rfl,hh,hfz,hl,hlen,hrep⟩
  ·exact .inl rfl
  ·cases cs with
   | nil=>exact .inl rfl
   | cons c cs=>
    obtain⟨e1,e2⟩:=hb g rfl
    exact .inr ⟨g,vs,t,fz,rfl,e1.trans hh,hfz,e2.trans hl,hlen,bY.mono hx _ _ hrep⟩
 | tok sz n=>
  obtain⟨A,c,rfl,hn,hc⟩:=h
  refine⟨A,c,rfl,hn,fun hlt=>?_⟩
  obtain⟨g,o,vs,t,fz,rfl,hh,hfz,hsz,hl⟩:=hc hlt
  obtain⟨e1,e2⟩:=hb g (by simp[dI,hlt])
  exact⟨g,o,vs,t,fz,rfl,e1.trans hh,hfz,hsz,by rw[e2];exact hl⟩
 | map es=>
  obtain⟨g,ents,clock,rfl,hh,hl,he,hr⟩:=h
  obtain⟨e1,e2⟩:=hb g rfl
  exact⟨g,ents,clock,rfl,e1.trans hh,e2.trans hl,he,bY.mono hx _ _ hr⟩
 | siter str pos=>
  obtain⟨g,rfl,hh,hl⟩:=h
  obtain⟨e1,e2⟩:=hb g rfl
  exact⟨g,rfl,e1.trans hh,e2.trans hl⟩
 | dead=>trivial
theorem bP.stay {E E':Env} (hx:Ext0 E E') {objs:List AObj} (h:bP E objs) (hk:E'.k=E.k) (hρ:∀ r,r<E.k→E'.ρ r=E.ρ r)
  (hb:∀ g,Ow E objs g→E'.w.heap[g]? = E.w.heap[g]?∧E'.lim g=E.lim g):bP E' objs:=by
 obtain⟨h1,h2,h3⟩:=h
 have hlt:∀ r o,objs[r]? = some o→r<E.k:=fun r o ho=>by rw[h1];exact(List.getElem?_eq_some_iff.1 ho).1
 refine⟨hk.trans h1,fun r o ho=>?_,fun r r' o o' g ho ho' hg hg'=>?_⟩
 ·rw[hρ r (hlt r o ho)]
  exact(h2 r o ho).stay hx fun g hg=>hb g ⟨r,o,ho,hg⟩
 ·rw[hρ r (hlt r o ho)] at hg
  rw[hρ r' (hlt r' o' ho')] at hg'
  exact h3 r r' o o' g ho ho' hg hg'
theorem xN {E E':Env} {objs:List AObj} (h1:E.k=objs.length) (hρ:∀ r,r<E.k→E'.ρ r=E.ρ r) {g:Nat} (hg:Ow E' objs g):Ow E objs g:=by
 obtain⟨r,o,ho,hb⟩:=hg
 refine⟨r,o,ho,?_⟩
 rwa [hρ r (by rw[h1];exact(List.getElem?_eq_some_iff.1 ho).1)] at hb
def Env.push (E:Env) (w':World) (L:Nat):Env:={ E with w:=w',lim:=fun g=>if g=E.w.heap.size then L else E.lim g }
structure Pushed (w w':World) (o:Obj):Prop where
 heap:w'.heap=w.heap.push o
 os:w'.os=w.os
 tape:w'.tape=w.tape
 output:w'.output=w.output
theorem Pushed.alloc (w:World) (o:Obj):Pushed w (w.alloc o) o:=⟨rfl,rfl,rfl,rfl⟩
theorem Pushed.drew (w:World) (o:Obj):Pushed w (w.drew.alloc o) o:=⟨rfl,rfl,rfl,rfl⟩
theorem Pushed.old {w w':World} {o:Obj} (h:Pushed w w' o) {g:Nat} (hg:g<w.heap.size):w'.heap[g]? = w.heap[g]?:=by
 rw[h.heap,Array.getElem?_push,if_neg (by omega)]
theorem Pushed.new {w w':World} {o:Obj} (h:Pushed w w' o):w'.heap[w.heap.size]? = some o:=by
 rw[h.heap,Array.getElem?_push,if_pos rfl]
theorem Pushed.size {w w':World} {o:Obj} (h:Pushed w w' o):w'.heap.size=w.heap.size+1:=by rw[h.heap,Array.size_push]
theorem iY {w w':World} {g o:Nat} (h:w'.heap[g]? = w.heap[g]?):w'.cell? ⟨g,o,none⟩=w.cell? ⟨g,o,none⟩:=by simp[World.cell?,h]
theorem tG {E:Env} {objs:List AObj} (ho:bP E objs) {w':World} {o:Obj} (h:Pushed E.w w' o) (L:Nat) :
  Ext E objs (E.push w' L) objs∧bP (E.push w' L) objs:=by
 have hx0:Ext0 E (E.push w' L):=
  ⟨by show _≤w'.heap.size;rw[h.size];omega,fun g hg=>by simp only[Env.push];rw[if_neg (by omega)];exact Nat.le_refl _,fun g o hg _=>iY (h.old hg),Nat.le_refl _,fun _ _=>.refl _⟩
 have hb:∀ g,g<E.w.heap.size→(E.push w' L).w.heap[g]? = E.w.heap[g]?∧(E.push w' L).lim g=E.lim g:=
  fun g hg=>⟨h.old hg,by simp only[Env.push];rw[if_neg (by omega)]⟩
 exact⟨{ hx0 with os:=h.os,tape:=h.tape,output:=h.output,frame:=fun g hg _=>hb g hg,own:=fun g hg _=>xN ho.1 (fun _ _=>rfl) hg },ho.stay hx0 rfl (fun _ _=>rfl) fun g hg=>hb g (qZ ho hg)⟩
def Env.add (E:Env) (u:Value):Env:={ E with k:=E.k+1,ρ:=fun r=>if r=E.k then u else E.ρ r }
theorem nD (E:Env) (u:Value):Ext0 E (E.add u):=
 ⟨Nat.le_refl _,fun _ _=>Nat.le_refl _,fun _ _ _ _=>rfl,by simp[Env.add],fun r hr=>by simp only[Env.add];rw[if_neg (by omega)];exact .refl _⟩
theorem rG {E E':Env} {objs objs':List AObj} (hx:Ext E objs E' objs') (ho:bP E' objs') {u:Value} {o:AObj} (hr:fM (E'.add u) u o)
  (hown:∀ g,dI o u=some g→E.w.heap.size≤g∧¬ Ow E' objs' g) :
  Ext E objs (E'.add u) (objs'++[o])∧bP (E'.add u) (objs'++[o]):=by
 have hk:=ho.1
 have hold:∀ r o',objs'[r]? = some o'→(E'.add u).ρ r=E'.ρ r:=fun r o' hr'=>by
  have:=(List.getElem?_eq_some_iff.1 hr').1
  simp only[Env.add]
  rw[if_neg (by omega)]
 have hnew:(E'.add u).ρ objs'.length=u:=by simp only[Env.add];rw[if_pos hk.symm]
 have hget:∀ r o',(objs'++[o])[r]? = some o'→objs'[r]? = some o'∨(r=objs'.length∧o'=o):=fun r o' h=>by
  rcases Nat.lt_or_ge r objs'.length with hlt|hge
  ·left;rwa [List.getElem?_append_left hlt] at h
  ·right
   rw[List.getElem?_append_right hge] at h
   have:r - objs'.length=0:=by
    rcases Nat.eq_zero_or_pos (r - objs'.length) with h0|h0
    ·exact h0
    ·rw[List.getElem?_eq_none (by simp only[List.length_cons,List.length_nil];omega)] at h;cases h
   rw[this] at h
   simp at h
   exact⟨by omega,h.symm⟩
 refine⟨{ hx.toExt0.trans (nD E' u) with os:=hx.os,tape:=hx.tape,output:=hx.output,frame:=hx.frame,own:=?_ },?_,?_,?_⟩
 ·rintro g ⟨r,o',hr',hg⟩ hlt
  rcases hget r o' hr' with h|⟨rfl,rfl⟩
  ·rw[hold r o' h] at hg
   exact hx.own g ⟨r,o',h,hg⟩ hlt
  ·rw[hnew] at hg
   have:=(hown g hg).1
   omega
 ·simp only[Env.add,List.length_append,List.length_cons,List.length_nil,hk]
 ·intro r o' hr'
  rcases hget r o' hr' with h|⟨rfl,rfl⟩
  ·rw[hold r o' h]
   exact(ho.2.1 r o' h).stay (nD E' u) fun g _=>⟨rfl,rfl⟩
  ·rw[hnew];exact hr
 ·intro r r' o1 o2 g h1 h2 hg1 hg2
  rcases hget r o1 h1 with h|⟨rfl,rfl⟩<;>rcases hget r' o2 h2 with h'|⟨rfl,rfl⟩
  ·rw[hold r o1 h] at hg1
   rw[hold r' o2 h'] at hg2
   exact ho.2.2 r r' o1 o2 g h h' hg1 hg2
  ·rw[hold r o1 h] at hg1
   rw[hnew] at hg2
   exact absurd ⟨r,o1,h,hg1⟩ (hown g hg2).2
  ·rw[hold r' o2 h'] at hg2
   rw[hnew] at hg1
   exact absurd ⟨r',o2,h',hg2⟩ (hown g hg1).2
  ·rfl
theorem mK {E:Env} {objs:List AObj} (ho:bP E objs) {w':World} {vs:List Value} {t:TypeId} (h:Pushed E.w w' (.cells vs.toArray t)) {cs:List AV} (hlen:cs.length≤vs.length)
  (hrep:bY E cs (vs.take cs.length)) :
  ∃ E',E'.w=w'∧E'.ρ objs.length=.pointer (some ⟨E.w.heap.size,0,none⟩)∧objs.length<E'.k∧bP E' (objs++[.cells cs])∧Ext E objs E' (objs++[.cells cs])∧Ext0 E E':=by
 obtain⟨hx,ho'⟩:=tG ho h 0
 have hadd:=nD (E.push w' 0) (.pointer (some ⟨E.w.heap.size,0,none⟩))
 obtain⟨hx2,ho2⟩:=rG (o:=.cells cs) (u:=.pointer (some ⟨E.w.heap.size,0,none⟩)) hx ho' (by
  refine .inr ⟨E.w.heap.size,vs.toArray,t,(0,0),rfl,h.new,.inl rfl,?_,by simpa using hlen,?_⟩
  ·simp[Env.add,Env.push]
  ·exact bY.mono (hx.toExt0.trans hadd) _ _ (by simpa using hrep)) (by
  intro g hg
  have:g=E.w.heap.size:=by
   cases cs with
   | nil=>simp[dI] at hg
   | cons c cs=>simp[dI] at hg;exact hg.symm
  subst this
  exact⟨Nat.le_refl _,fun hw=>by
   have:=qZ ho (xN (E':=E.push w' 0) ho.1 (fun _ _=>rfl) hw)
   omega⟩)
 exact⟨_,rfl,by simp[Env.add,Env.push,ho.1],by simp[Env.add,Env.push,ho.1],ho2,hx2,hx2.toExt0⟩
def bB:AV→List AV
 | .agg cs=>cs
 | a=>[a]
def dC:AV→Bool
 | .val v=>v.oneCell'
 | .sl ..=>true
 | .osl ..=>true
 | .ptr ..=>true
 | .cptr _=>true
 | .clo ..=>true
 | .mref _=>true
 | _=>false
theorem wA {E:Env} {c:AV} {v:Value} (h:dC c=true) (hr:bE E c v):v.oneCell'=true:=by
 cases c with
 | val u=>simp only[bE] at hr;subst hr;exact h
 | sl n cells p=>simp only[bE] at hr;obtain⟨_,_,rfl,_⟩:=hr;rfl
 | osl r off n cap=>simp only[bE] at hr;obtain⟨_,_,_,rfl,_⟩:=hr;rfl
 | ptr r off=>simp only[bE] at hr;obtain⟨_,_,_,rfl⟩:=hr;rfl
 | cptr cells=>simp only[bE] at hr;obtain⟨_,_,rfl,_⟩:=hr;rfl
 | clo f caps=>simp only[bE] at hr;obtain⟨_,rfl,_⟩:=hr;rfl
 | mref r=>simp only[bE] at hr;obtain⟨_,_,_,rfl⟩:=hr;rfl
 | _=>cases h
theorem nZ {E:Env} {a:AV} {v:Value} (h:bE E a v) (hn:(bB a).all dC=true):bY E (bB a) v.cells.toList∧∀ u,u∈v.cells.toList→u.oneCell'=true:=by
 have key:∀ {cs:List AV} {us:List Value},bY E cs us→cs.all dC=true→∀ u,u∈us→u.oneCell'=true:=by
  intro cs
  induction cs with
  | nil=>intro us hl _ u hu;simp only[bY] at hl;subst hl;simp at hu
  | cons c cs ih=>
   intro us hl hall u hu
   simp only[bY] at hl
   obtain⟨x,us',rfl,h1,h2⟩:=hl
   simp only[List.all_cons,Bool.and_eq_true] at hall
   rcases List.mem_cons.1 hu with rfl|hu
   ·exact wA hall.1 h1
   ·exact ih h2 hall.2 u hu
 cases a with
 | agg cs=>
  simp only[bE] at h
  obtain⟨vs,rfl,hl⟩:=h
  exact⟨hl,key hl hn⟩
 | _=>
  have h1:v.oneCell'=true:=wA (by simpa[bB] using hn) h
  have hc:v.cells=#[v]:=by cases v<;>first|rfl|(simp[Value.oneCell'] at h1)
  rw[hc]
  refine⟨by simp only[bB,bY];exact⟨v,[],rfl,h,rfl⟩,?_⟩
  simpa using h1
-- new variables
def dF (P:Program) (t:TypeId) (objs:List AObj):R:=
 match dS P t with
 | some z=>.ok True (.ptr objs.length 0) (objs++[.cells (z.map cav)])
 | none=>.bad
theorem oH (E:Env) (z:List Value):bY E (z.map cav) z:=by
 induction z with
 | nil=>simp only[List.map_nil,bY]
 | cons x z ih=>simp only[List.map_cons,bY];exact⟨x,z,rfl,aCV E x,ih⟩
theorem aDX {P:Program} {E:Env} {t:TypeId} {objs objs':List AObj} {C:Prop} {v:AV} (h:dF P t objs=.ok C v objs') (ho:bP E objs) (old:Value) :
  ∃ E' u,(Instr.alloc t true old).run P E.w=.ok u E'.w∧bE E' v u∧bP E' objs'∧Ext E objs E' objs':=by
 unfold dF at h
 split at h
 case h_2=>cases h
 rename_i z hz
 injection h with h1 h2 h3
 subst h2 h3
 obtain⟨zv,hrun,hc⟩:=iO (P:=P) hz E.w
 obtain⟨E',e,hρ,hk,ho',hx,_⟩:=mK (vs:=z) (t:=t) ho (.alloc E.w _) (cs:=z.map cav) (by simp) (by simpa using oH E z)
 refine⟨E',.pointer (some ⟨E.w.heap.size,0,none⟩),?_,by simp only[bE];exact⟨hk,_,hρ,rfl⟩,ho',hx⟩
 rw[e]
 simp[Instr.alloc,hrun,newVar,newRow,hc]
def fN (P:Program) (x:AV) (objs:List AObj):R:=
 if (bB x).all dC=true then .ok True (.ptr objs.length 0) (objs++[.cells (bB x)]) else .bad
theorem aGV {P:Program} {E:Env} {t:TypeId} {objs objs':List AObj} {C:Prop} {x v:AV} {u0:Value} (h:fN P x objs=.ok C v objs') (ho:bP E objs) (hx0:bE E x u0) :
  ∃ E' u,(Instr.box t u0).run P E.w=.ok u E'.w∧bE E' v u∧bP E' objs'∧Ext E objs E' objs':=by
 unfold fN at h
 split at h
 case isFalse=>cases h
 rename_i hone
 injection h with h1 h2 h3
 subst h2 h3
 obtain⟨hl,_⟩:=nZ hx0 hone
 obtain⟨E',e,hρ,hk,ho',hx,_⟩:=mK (vs:=u0.cells.toList) (t:=t) ho (.alloc E.w _) (cs:=bB x) (by rw[hl.length];exact Nat.le_refl _) (by rw[← hl.length,List.take_length];exact hl)
 refine⟨E',.pointer (some ⟨E.w.heap.size,0,none⟩),?_,by simp only[bE];exact⟨hk,_,hρ,rfl⟩,ho',hx⟩
 rw[e]
 simp[Instr.box,newVar,newRow]
-- loads
def aY (P:Program) (t:TypeId) (x:AV) (objs:List AObj):Option (Prop×AV):=
 match x with
 | .ptr r off=>match objs[r]? with
  | some (.cells cs)=>apart P t cs off
  | _=>none
 | .cptr cells=>apart P t cells 0
 | _=>none
theorem bY.at_ {E:Env} {g off:Nat} {cs:List AV} {vs:Array Value} {t:TypeId} {fz:Nat×Nat} (hh:E.w.heap[g]? = some (.cells vs t fz)) (hrep:bY E cs (vs.toList.take cs.length)):eD E g off (cs.drop off):=
 eD.of_cell fun i c hc=>by
  rw[List.getElem?_drop] at hc
  obtain⟨v,hv,hr⟩:=hrep.get _ c hc
  refine⟨v,?_,hr⟩
  rw[cell_of_row _ _ _ _ _ _ hh]
  rw[List.getElem?_take] at hv
  split at hv
  ·simpa using hv
  ·cases hv
theorem vX {P:Program} {E:Env} {t:TypeId} {g o:Nat} {cs:List AV} {v:AV} {C:Prop} (h:apart P t cs 0=some (C,v)) (hC:C) (hat:eD E g o cs) :
  ∃ u,bE E v u∧(loadVar t ⟨g,o,none⟩).run P E.w=.ok u E.w:=by
 unfold apart at h
 split at h
 ·rename_i hag
  split at h
  case h_2=>cases h
  rename_i sz hsz
  simp only[Option.some.injEq,Prod.mk.injEq] at h
  obtain⟨rfl,rfl⟩:=h
  obtain⟨vs,hl,hlen,hrun⟩:=zW (P:=P) (hat.take sz)
  rw[List.length_take,Nat.min_eq_left (by omega)] at hrun
  refine⟨.agg vs.toArray,by simp only[bE,List.drop_zero];exact⟨vs,rfl,hl⟩,?_⟩
  simp[loadVar,uN hag,eI hsz,hrun]
 ·rename_i hag
  simp only[Option.some.injEq,Prod.mk.injEq] at h
  obtain⟨rfl,rfl⟩:=h
  cases cs with
  | nil=>simp at hC
  | cons c cs=>
   simp only[eD] at hat
   obtain⟨⟨u,hc,hv⟩,_⟩:=hat
   exact⟨u,hv,by simp[loadVar,uN hag,hc]⟩
 ·cases h
theorem aGj {P:Program} {t:TypeId} {cs:List AV} {off:Nat} {v:AV} {C:Prop} (h:apart P t cs off=some (C,v)) (hC:C):∃ C',apart P t (cs.drop off) 0=some (C',v)∧C':=by
 unfold apart at h ⊢
 split at h
 ·split at h
  case h_2=>cases h
  rename_i sz hsz
  simp only[Option.some.injEq,Prod.mk.injEq] at h
  obtain⟨rfl,rfl⟩:=h
  refine⟨_,rfl,?_⟩
  rw[List.length_drop]
  omega
 ·simp only[Option.some.injEq,Prod.mk.injEq] at h
  obtain⟨rfl,rfl⟩:=h
  refine⟨(0<(cs.drop off).length),by simp[List.getD_eq_getElem?_getD],?_⟩
  rw[List.length_drop]
  omega
 ·cases h
theorem tD {P:Program} {E:Env} {t:TypeId} {x v:AV} {objs:List AObj} {C:Prop} {u:Value} (h:aY P t x objs=some (C,v)) (hC:C) (ho:bP E objs) (hx:bE E x u) :
  ∃ u',bE E v u'∧(Instr.loadAt t u).run P E.w=.ok u' E.w:=by
 unfold aY at h
 split at h
 ·rename_i r off
  split at h
  case h_2=>cases h
  rename_i cs hr
  simp only[bE] at hx
  obtain⟨hk,g,hg,rfl⟩:=hx
  obtain⟨C',h',hC'⟩:=aGj h hC
  rcases ho.2.1 r _ hr with rfl|⟨g',vs,ty,fz,e,hh,hfz,hl,hlen,hrep⟩
  ·obtain⟨u',hu,hrun⟩:=vX (P:=P) (E:=E) (g:=g) (o:=off) h' hC' (by simp only[List.drop_nil,eD])
   exact⟨u',hu,by simp[Instr.loadAt,Instr.sureAddr,hrun]⟩
  ·rw[hg] at e
   injection e with e
   injection e with e
   injection e with e _
   subst e
   obtain⟨u',hu,hrun⟩:=vX (P:=P) (E:=E) (g:=g) (o:=off) h' hC' (hrep.at_ hh)
   exact⟨u',hu,by simp[Instr.loadAt,Instr.sureAddr,hrun]⟩
 ·rename_i cells
  simp only[bE] at hx
  obtain⟨g,o,rfl,hg,hlim,hat⟩:=hx
  obtain⟨u',hu,hrun⟩:=vX (P:=P) h hC hat
  exact⟨u',hu,by simp[Instr.loadAt,Instr.sureAddr,hrun]⟩
 ·cases h
-- stores
def spl (cs:List AV) (off:Nat) (new:List AV):List AV:=cs.take off++new++cs.drop (off+new.length)
theorem aHj {cs:List AV} {off:Nat} {new:List AV} (h:off+new.length≤cs.length):(spl cs off new).length=cs.length:=by
 simp[spl];omega
theorem wD {P:Program} (g o:Nat) (t:TypeId) (fz:Nat×Nat):∀ (vs:List Value) (i:Nat) (cur:Array Value) (w:World),w.heap[g]? = some (.cells cur t fz)→aGN cur fz→o+i+vs.length≤cur.size→
  (∀ v,v∈vs→v.oneCell'=true)→
  ∃ w' cur',(storeCells ⟨g,o,none⟩ vs i).run P w=.ok () w'∧w'.heap.size=w.heap.size∧w'.os=w.os∧w'.tape=w.tape∧w'.output=w.output∧(∀ j,j≠g→w'.heap[j]? = w.heap[j]?)∧
   w'.heap[g]? = some (.cells cur' t fz)∧cur'.toList=cur.toList.take (o+i)++vs++cur.toList.drop (o+i+vs.length)
 | [],i,cur,w,hg,hfz,hle,_=>⟨w,cur,rfl,rfl,rfl,rfl,rfl,fun _ _=>rfl,hg,by simp⟩
 | v::vs,i,cur,w,hg,hfz,hle,hone=>by
  simp only[List.length_cons] at hle
  have hlt:o+i<cur.size:=by omega
  have hcell:w.cell? ((⟨g,o,none⟩:Addr).add i)=some cur[o+i]:=by
   rw[iK,cell_of_row _ _ _ _ _ _ hg,Array.getElem?_eq_getElem hlt]
  have hfr:w.frozen? ((⟨g,o,none⟩:Addr).add i)=false:=by
   rw[iK]
   obtain⟨lo,hi⟩:=fz
   simp only[World.frozen?,hg]
   rcases hfz with e|e
   ·simp only at e;subst e;simp
   ·simp only at e;simp;omega
  have hv:v.oneCell'=true:=hone v (by simp)
  have hst:(store ((⟨g,o,none⟩:Addr).add i) v).run P w=.ok () (w.setCell ((⟨g,o,none⟩:Addr).add i) v):=by
   rw[run_store P w _ v .plain hv,hcell]
   simp[hfr]
  have hg':(w.setCell ((⟨g,o,none⟩:Addr).add i) v).heap[g]? = some (.cells (cur.setIfInBounds (o+i) v) t fz):=by
   rw[iK]
   simp[World.setCell,Array.getElem?_modify,hg]
  obtain⟨w',cur',h1,h2,h3,h4,h5,h6,h7,h8⟩:=wD (P:=P) g o t fz vs (i+1) _ _ hg' (by
   rcases hfz with e|e
   ·exact .inl e
   ·exact .inr (by simpa using e)) (by simp;omega) (fun u hu=>hone u (by simp[hu]))
  refine⟨w',cur',?_,h2.trans (by simp),h3.trans rfl,h4.trans rfl,h5.trans rfl,fun j hj=>(h6 j hj).trans ?_,h7,?_⟩
  ·simp only[storeCells,Sem.run_bind,hst,Result.andThen_ok,h1]
  ·rw[iK]
   simp only[World.setCell,Array.getElem?_modify]
   rw[if_neg (fun e=>hj e.symm)]
  ·rw[h8]
   apply List.ext_getElem?
   intro j
   simp only[Array.toList_setIfInBounds,List.getElem?_append,List.length_append,List.length_take,List.length_set,Array.length_toList,List.getElem?_take,List.getElem?_drop,List.length_cons,List.getElem?_set,List.getElem?_cons]
   repeat' split
   all_goals (first|rfl|omega|skip)
   all_goals (try (congr 1;omega))
   all_goals (try omega)
theorem fI {α:Type} {l:List α} {r i:Nat} {x y:α} (h:(l.set r x)[i]? = some y):(i=r∧y=x∧r<l.length)∨(i≠r∧l[i]? = some y):=by
 rw[List.getElem?_set] at h
 split at h
 ·rename_i e
  subst e
  split at h
  ·injection h with h;exact .inl ⟨rfl,h.symm,‹_›⟩
  ·cases h
 ·exact .inr ⟨fun e=>‹¬ _› e.symm,h⟩
theorem aDL {E:Env} {objs:List AObj} (ho:bP E objs) {r g:Nat} {cs cs':List AV} (hr:objs[r]? = some (.cells cs)) (hcs:cs≠[]) (hg:E.ρ r=.pointer (some ⟨g,0,none⟩))
  {w':World} {cur':Array Value} {t:TypeId} {fz:Nat×Nat} (h2:w'.heap.size=E.w.heap.size) (h3:w'.os=E.w.os) (h4:w'.tape=E.w.tape) (h5:w'.output=E.w.output)
  (h6:∀ j,j≠g→w'.heap[j]? = E.w.heap[j]?) (h7:w'.heap[g]? = some (.cells cur' t fz)) (hfz:aGN cur' fz) (hlim:E.lim g=0) (hlen:cs'.length≤cur'.size) (hcs':cs'≠[])
  (hrep:bY E cs' (cur'.toList.take cs'.length)) :
  bP { E with w:=w' } (objs.set r (.cells cs'))∧Ext E objs { E with w:=w' } (objs.set r (.cells cs')):=by
 have hx0:Ext0 E { E with w:=w' }:=⟨by show _≤w'.heap.size;omega,fun _ _=>Nat.le_refl _,fun j o hj hlt=>by
  by_cases e:j=g
  ·subst e;omega
  ·exact iY (h6 j e),Nat.le_refl _,fun _ _=>.refl _⟩
 obtain⟨k0,k1,k2⟩:=ho
 have hrl:r<objs.length:=(List.getElem?_eq_some_iff.1 hr).1
 have hown:∀ x:AObj,x=.cells cs∨x=.cells cs'→dI x (E.ρ r)=some g:=by
  intro x hx
  rw[hg]
  rcases hx with rfl|rfl
  ·cases cs with
   | nil=>exact absurd rfl hcs
   | cons=>rfl
  ·cases cs' with
   | nil=>exact absurd rfl hcs'
   | cons=>rfl
 have hne:∀ i o,i≠r→objs[i]? = some o→dI o (E.ρ i)≠some g:=fun i o hi hio he=>hi (k2 i r o _ g hio hr he (hown _ (.inl rfl)))
 refine⟨⟨by simpa using k0,fun i o hi=>?_,fun i j o o' b hi hj hbi hbj=>?_⟩,{ hx0 with os:=h3,tape:=h4,output:=h5,frame:=fun b hb hnow=>?_,own:=?_ }⟩
 ·rcases fI hi with⟨rfl,rfl,_⟩|⟨hne',hio⟩
  ·refine .inr ⟨g,cur',t,fz,hg,h7,hfz,hlim,hlen,bY.mono hx0 _ _ hrep⟩
  ·refine(k1 i o hio).stay hx0 fun b hb=>⟨h6 b (fun e=>?_),rfl⟩
   subst e
   exact hne i o hne' hio hb
 ·rcases fI hi with⟨rfl,rfl,_⟩|⟨hi',hio⟩<;>rcases fI hj with⟨rfl,rfl,_⟩|⟨hj',hjo⟩
  ·rfl
  ·have e1:=hown (.cells cs') (.inr rfl)
   have:b=g:=by injection hbi.symm.trans e1
   subst this
   exact absurd hbj (hne j o' hj' hjo)
  ·have e1:=hown (.cells cs') (.inr rfl)
   have:b=g:=by injection hbj.symm.trans e1
   subst this
   exact absurd hbi (hne i o hi' hio)
  ·exact k2 i j o o' b hio hjo hbi hbj
 ·refine⟨h6 b (fun e=>?_),rfl⟩
  subst e
  exact hnow ⟨r,_,hr,hown _ (.inl rfl)⟩
 ·rintro b ⟨i,o,hi,hb⟩ _
  rcases fI hi with⟨rfl,rfl,_⟩|⟨hi',hio⟩
  ·exact⟨i,_,hr,(hown _ (.inl rfl)).trans ((hown _ (.inr rfl)).symm.trans hb)⟩
  ·exact⟨i,o,hio,hb⟩
theorem uS {P:Program} {E:Env} {objs:List AObj} (ho:bP E objs) {r off:Nat} {cs new:List AV} {us:List Value} (hr:objs[r]? = some (.cells cs)) {g:Nat} (hg:E.ρ r=.pointer (some ⟨g,0,none⟩))
  (hle:off+new.length≤cs.length) (hpos:0<new.length) (hl:bY E new us) (hone:∀ u,u∈us→u.oneCell'=true) :
  ∃ E',(storeCells ⟨g,off,none⟩ us).run P E.w=.ok () E'.w∧bP E' (objs.set r (.cells (spl cs off new)))∧Ext E objs E' (objs.set r (.cells (spl cs off new))):=by
 have hcs:cs≠[]:=by rintro rfl;simp only[List.length_nil] at hle;omega
 rcases ho.2.1 r _ hr with e|⟨g',vs,ty,fz,e,hh,hfz,hlim,hlen,hrep⟩
 ·exact absurd e hcs
 ·rw[hg] at e
  injection e with e
  injection e with e
  injection e with e _
  subst e
  have hul:=hl.length
  obtain⟨w',cur',h1,h2,h3,h4,h5,h6,h7,h8⟩:=wD (P:=P) g off ty fz us 0 vs E.w hh hfz (by omega) hone
  simp only[Nat.add_zero] at h8
  have hsz:cur'.size=vs.size:=by
   have:=congrArg List.length h8
   simp only[Array.length_toList,List.length_append,List.length_take,List.length_drop] at this
   omega
  have hspl:=aHj hle
  have hne:spl cs off new≠[]:=by intro e;rw[e] at hspl;simp at hspl;omega
  obtain⟨ho',hx⟩:=aDL (cs':=spl cs off new) ho hr hcs hg h2 h3 h4 h5 h6 h7 (by
   rcases hfz with e|e
   ·exact .inl e
   ·exact .inr (by omega)) hlim (by rw[hspl];omega) hne (by
   rw[hspl,h8]
   unfold spl
   have e1:(List.take off vs.toList++us++List.drop (off+us.length) vs.toList).take cs.length=(vs.toList.take cs.length).take off++us++(vs.toList.take cs.length).drop (off+new.length):=by
    apply List.ext_getElem?
    intro j
    simp only[List.getElem?_append,List.length_append,List.length_take,Array.length_toList,List.getElem?_take,List.getElem?_drop]
    repeat' split
    all_goals (first|rfl|omega|skip)
    all_goals (try (congr 1;omega))
   rw[e1]
   exact((hrep.take off).append hl).append (hrep.drop _))
  exact⟨_,h1,ho',hx⟩
def bX (P:Program) (t:TypeId) (x val:AV) (objs:List AObj):R:=
 match x with
 | .ptr r off=>match objs[r]?,tsz P t with
  | some (.cells cs),some sz=>
   if (bB val).all dC=true then .ok ((bB val).length=sz∧off+(bB val).length≤cs.length∧0<(bB val).length) .top (objs.set r (.cells (spl cs off (bB val)))) else .bad
  | _,_=>.bad
 | _=>.bad
theorem aDq {P:Program} {E:Env} {t:TypeId} {x val v:AV} {objs objs':List AObj} {C:Prop} {u uv:Value} (h:bX P t x val objs=.ok C v objs') (hC:C) (ho:bP E objs)
  (hx:bE E x u) (hv:bE E val uv):∃ E',(Instr.storeAt t u uv).run P E.w=.ok () E'.w∧v=.top∧bP E' objs'∧Ext E objs E' objs':=by
 unfold bX at h
 split at h
 case h_2=>cases h
 rename_i r off
 split at h
 case h_2=>cases h
 rename_i cs sz hr hsz
 split at h
 case isFalse=>cases h
 rename_i hone
 injection h with h1 h2 h3
 subst h1 h2 h3
 obtain⟨e1,e2,e3⟩:=hC
 simp only[bE] at hx
 obtain⟨hk,g,hg,rfl⟩:=hx
 obtain⟨hl,hones⟩:=nZ hv hone
 obtain⟨E',hrun,ho',hx'⟩:=uS (P:=P) ho hr hg e2 e3 hl hones
 refine⟨E',?_,rfl,ho',hx'⟩
 have:uv.cells.size=sz:=by rw[← e1,← hl.length];simp
 simp[Instr.storeAt,Instr.sureAddr,storeVar,eI hsz,this,hrun]
def eQ (objs:List AObj) (sz:Nat):AV→Option (Prop×Nat×List AV)
 | .sl n cells p=>some (cells.length=n*sz,n,cells)
 | .osl r off n cap=>match objs[r]? with
  | some (.cells cs)=>some (off+n*sz≤cs.length,n,(cs.drop off).take (n*sz))
  | _=>none
 | .val (.string s)=>some (sz=1,s.size,Bs s.data.toList)
 | _=>none
theorem oN (E:Env) (l:List UInt8):bY E (Bs l) (l.map fun b=>Value.int .u8 (b.toNat:Int)):=by
 induction l with
 | nil=>simp only[Bs,List.map_nil,bY]
 | cons x z ih=>simp only[Bs,List.map_cons,bY,B,bE];exact⟨_,_,rfl,rfl,ih⟩
theorem tW {P:Program} {E:Env} {objs:List AObj} {sz n:Nat} {x:AV} {cells:List AV} {C:Prop} {u:Value} (h:eQ objs sz x=some (C,n,cells)) (hC:C) (ho:bP E objs) (hx:bE E x u) :
  cells.length=n*sz∧(Builtin.lenOf u).run P E.w=.ok n E.w∧
   ∃ vs:List Value,bY E cells vs∧(∀ m,m≤n→∀ w':World,(∀ a,w'.cell? a=E.w.cell? a)→(Builtin.firstCells sz m u).run P w'=.ok (vs.take (m*sz)).toArray w'):=by
 unfold eQ at h
 split at h
 ·simp only[Option.some.injEq,Prod.mk.injEq] at h
  obtain⟨rfl,rfl,rfl⟩:=h
  simp only[bE] at hx
  obtain⟨A,cap,rfl,hn,hc,hp⟩:=hx
  refine⟨hC,by simp[Builtin.lenOf],?_⟩
  rcases hc with rfl|⟨g,o,rfl,hg,ho',hat⟩
  ·refine⟨[],by simp only[bY],fun m hm w' hw'=>?_⟩
   have hC0:=Nat.mul_le_mul_right sz hm
   simp only[List.length_nil] at hC
   cases A with
   | none=>simp[Builtin.firstCells]
   | some a=>
    have:m*sz=0:=by omega
    simp[Builtin.firstCells,this,loadCells,loadCellsFrom]
  ·obtain⟨vs,hl,hcell⟩:=hat.vals
   refine⟨vs,hl,fun m hm w' hw'=>?_⟩
   have hle:m*sz≤vs.length:=by rw[hl.length,hC];exact Nat.mul_le_mul_right _ hm
   have:=run_loadCells_list (P:=P) (w:=w') ⟨g,o,none⟩ (vs.take (m*sz)) (fun j v hj=>by
    rw[iK]
    rw[List.getElem?_take] at hj
    split at hj
    ·exact(hw' _).trans (hcell j v hj)
    ·cases hj)
   rw[List.length_take,Nat.min_eq_left hle] at this
   simp[Builtin.firstCells,this]
 ·rename_i r off n0 cap
  split at h
  case h_2=>cases h
  rename_i cs hr
  simp only[Option.some.injEq,Prod.mk.injEq] at h
  obtain⟨rfl,rfl,rfl⟩:=h
  simp only[bE] at hx
  obtain⟨hk,A,c,rfl,hn,hcap,hpos⟩:=hx
  refine⟨by rw[List.length_take,List.length_drop];omega,by simp[Builtin.lenOf],?_⟩
  by_cases h0:0<n0
  ·obtain⟨g,hg,rfl⟩:=hpos (by omega)
   rcases ho.2.1 r _ hr with rfl|⟨g',vs,ty,fz,e,hh,hfz,hlim,hlen,hrep⟩
   ·simp only[List.length_nil] at hC
    refine⟨[],by simp[bY],fun m hm w' hw'=>?_⟩
    have hC0:=Nat.mul_le_mul_right sz hm
    have:m*sz=0:=by omega
    simp[Builtin.firstCells,this,loadCells,loadCellsFrom]
   ·rw[hg] at e
    injection e with e
    injection e with e
    injection e with e _
    subst e
    have hat:=eD.take (hrep.at_ (off:=off) hh) (n0*sz)
    obtain⟨us,hl,hcell⟩:=hat.vals
    refine⟨us,hl,fun m hm w' hw'=>?_⟩
    have hle:m*sz≤us.length:=by
     rw[hl.length,List.length_take,List.length_drop]
     have:=Nat.mul_le_mul_right sz hm
     omega
    have:=run_loadCells_list (P:=P) (w:=w') ⟨g,off,none⟩ (us.take (m*sz)) (fun j v hj=>by
     rw[iK]
     rw[List.getElem?_take] at hj
     split at hj
     ·exact(hw' _).trans (hcell j v hj)
     ·cases hj)
    rw[List.length_take,Nat.min_eq_left hle] at this
    simp[Builtin.firstCells,this]
  ·have:n0=0:=by omega
   subst this
   refine⟨[],by simp[bY],fun m hm w' hw'=>?_⟩
   have:m=0:=by omega
   subst this
   cases A<;>simp[Builtin.firstCells,loadCells,loadCellsFrom]
 ·rename_i s
  simp only[Option.some.injEq,Prod.mk.injEq] at h
  obtain⟨rfl,rfl,rfl⟩:=h
  subst hC
  simp only[bE] at hx
  subst hx
  refine⟨by simp[Bs],by simp[Builtin.lenOf],_,oN E _,fun m hm w' hw'=>?_⟩
  simp only[Builtin.firstCells,Sem.run_pure,Nat.mul_one]
  congr 1
  apply Array.ext'
  have hle:m≤s.data.toList.length:=by simpa using hm
  simp only[ByteArray.data_extract,Array.toList_map,Array.toList_extract,List.extract_eq_take_drop,List.drop_zero,Nat.sub_zero,List.map_take]
 ·cases h
def aCK (P:Program) (dT:TypeId) (dst src:AV) (objs:List AObj):R:=
 match P.underlying dT with
 | some (.slice e)=>match tsz P e,dst with
  | some sz,.osl r off n cap=>match objs[r]?,eQ objs sz src with
   | some (.cells cs),some (C,m,cells)=>
    .ok (C∧off+(min m n)*sz≤cs.length∧(cells.take (min m n*sz)).all dC=true) (.val (.int .i64 ((min m n:Nat):Int)))
     (if 0<min m n*sz then objs.set r (.cells (spl cs off (cells.take (min m n*sz)))) else objs)
   | _,_=>.bad
  | _,_=>.bad
 | _=>.bad
theorem aAm {E:Env}:∀ {cs:List AV} {us:List Value},bY E cs us→cs.all dC=true→∀ u,u∈us→u.oneCell'=true:=by
 intro cs
 induction cs with
 | nil=>intro us hl _ u hu;simp only[bY] at hl;subst hl;simp at hu
 | cons c cs ih=>
  intro us hl hall u hu
  simp only[bY] at hl
  obtain⟨x,us',rfl,h1,h2⟩:=hl
  simp only[List.all_cons,Bool.and_eq_true] at hall
  rcases List.mem_cons.1 hu with rfl|hu
  ·exact wA hall.1 h1
  ·exact ih h2 hall.2 u hu
theorem aEr {P:Program} {E:Env} {dT sT ty:TypeId} {dst src v:AV} {objs objs':List AObj} {C:Prop} {ud us:Value} (h:aCK P dT dst src objs=.ok C v objs') (hC:C) (ho:bP E objs)
  (hd:bE E dst ud) (hs:bE E src us):∃ E' u,(Builtin.copy_ #[dT,sT] ty #[ud,us]).run P E.w=.ok u E'.w∧bE E' v u∧bP E' objs'∧Ext E objs E' objs':=by
 unfold aCK at h
 split at h
 case h_2=>cases h
 rename_i e ht
 split at h
 case h_2=>cases h
 rename_i sz r off n cap hsz
 split at h
 case h_2=>cases h
 rename_i cs C' m cells hr hsrc
 injection h with h1 h2 h3
 subst h1 h2 h3
 obtain⟨hC',hle,hone⟩:=hC
 obtain⟨hlen,hlenOf,vs,hl,hfirst⟩:=tW (P:=P) hsrc hC' ho hs
 simp only[bE] at hd
 obtain⟨hk,A,c,rfl,hn,hcap,hpos⟩:=hd
 have hf:=hfirst (min m n) (Nat.min_le_left _ _) E.w (fun _=>rfl)
 have hl':=hl.take (min m n*sz)
 have hlc:(cells.take (min m n*sz)).length=min m n*sz:=by
  rw[List.length_take,hlen]
  exact Nat.min_eq_left (Nat.mul_le_mul_right _ (Nat.min_le_left _ _))
 by_cases h0:0<min m n*sz
 ·rw[if_pos h0]
  have hn0:0<n:=by
   rcases Nat.eq_zero_or_pos n with e|e
   ·subst e;simp at h0
   ·exact e
  obtain⟨g,hg,rfl⟩:=hpos (by omega)
  obtain⟨E',hrun,ho',hx'⟩:=uS (P:=P) ho hr hg (by rw[hlc];exact hle) (by rw[hlc];exact h0) hl' (aAm hl' hone)
  refine⟨E',_,?_,by simp only[bE];rfl,ho',hx'⟩
  have e1:Nat.min m n=min m n:=rfl
  simp[Builtin.copy_,run_underlying ht,hlenOf,eI hsz,e1,hf,hrun,goInt]
 ·rw[if_neg h0]
  have hz:min m n*sz=0:=by omega
  have hvs:vs.take (min m n*sz)=[]:=by rw[hz];rfl
  refine⟨E,_,?_,by simp only[bE];rfl,ho,.refl _ _⟩
  have e1:Nat.min m n=min m n:=rfl
  rw[hvs] at hf
  cases A with
  | none=>simp[Builtin.copy_,run_underlying ht,hlenOf,eI hsz,e1,hf,goInt]
  | some a=>simp[Builtin.copy_,run_underlying ht,hlenOf,eI hsz,e1,hf,goInt,storeCells]
theorem aIc {E E':Env} {objs:List AObj} (ho:bP E objs) {r sz n n':Nat} {u:Value} (hr:objs[r]? = some (.tok sz n))
  (hsize:E.w.heap.size≤E'.w.heap.size) (hos:E'.w.os=E.w.os) (htape:E'.w.tape=E.w.tape) (hout:E'.w.output=E.w.output) (hk:E'.k=E.k)
  (hρ:∀ i,E'.ρ i=if i=r then u else E.ρ i) (hle:pF (E.ρ r) u)
  (hb:∀ b,b<E.w.heap.size→dI (.tok sz n) (E.ρ r)≠some b→E'.w.heap[b]? = E.w.heap[b]?∧E'.lim b=E.lim b)
  (hb0:∀ b,dI (.tok sz n) (E.ρ r)=some b→E.lim b≤E'.lim b∧∀ o,o<E.lim b→E'.w.cell? ⟨b,o,none⟩=E.w.cell? ⟨b,o,none⟩)
  (hrep:fM E' u (.tok sz n')) (hown:∀ b,dI (.tok sz n') u=some b→dI (.tok sz n) (E.ρ r)=some b∨E.w.heap.size≤b) :
  bP E' (objs.set r (.tok sz n'))∧Ext E objs E' (objs.set r (.tok sz n')):=by
 obtain⟨k0,k1,k2⟩:=ho
 have hrl:r<objs.length:=(List.getElem?_eq_some_iff.1 hr).1
 have hx0:Ext0 E E':=by
  refine⟨hsize,fun g hg=>?_,fun g o hg hlt=>?_,Nat.le_of_eq hk.symm,fun i hi=>?_⟩
  ·by_cases e:dI (.tok sz n) (E.ρ r)=some g
   ·exact(hb0 g e).1
   ·exact Nat.le_of_eq (hb g hg e).2.symm
  ·by_cases e:dI (.tok sz n) (E.ρ r)=some g
   ·exact(hb0 g e).2 o hlt
   ·exact iY (hb g hg e).1
  ·rw[hρ i]
   split
   ·rename_i e;subst e;exact hle
   ·exact .refl _
 have hne:∀ i o b,i≠r→objs[i]? = some o→dI o (E.ρ i)=some b→dI (.tok sz n) (E.ρ r)≠some b:=fun i o b hi hio he he'=>hi (k2 i r o _ b hio hr he he')
 have hlt:∀ i o b,objs[i]? = some o→dI o (E.ρ i)=some b→b<E.w.heap.size:=fun i o b hio he=>pZ (k1 i o hio) he
 refine⟨⟨by simpa[hk] using k0,fun i o hi=>?_,fun i j o o' b hi hj hbi hbj=>?_⟩,{ hx0 with os:=hos,tape:=htape,output:=hout,frame:=fun b hb' hnow=>?_,own:=?_ }⟩
 ·rw[hρ i]
  rcases fI hi with⟨rfl,rfl,_⟩|⟨hi',hio⟩
  ·rw[if_pos rfl];exact hrep
  ·rw[if_neg hi']
   exact(k1 i o hio).stay hx0 fun b he=>hb b (hlt i o b hio he) (hne i o b hi' hio he)
 ·rw[hρ i] at hbi
  rw[hρ j] at hbj
  rcases fI hi with⟨rfl,rfl,_⟩|⟨hi',hio⟩<;>rcases fI hj with⟨rfl,rfl,_⟩|⟨hj',hjo⟩
  ·rfl
  ·rw[if_pos rfl] at hbi
   rw[if_neg hj'] at hbj
   rcases hown b hbi with e|e
   ·exact absurd e (hne j o' b hj' hjo hbj)
   ·have:=hlt j o' b hjo hbj;omega
  ·rw[if_pos rfl] at hbj
   rw[if_neg hi'] at hbi
   rcases hown b hbj with e|e
   ·exact absurd e (hne i o b hi' hio hbi)
   ·have:=hlt i o b hio hbi;omega
  ·rw[if_neg hi'] at hbi
   rw[if_neg hj'] at hbj
   exact k2 i j o o' b hio hjo hbi hbj
 ·exact hb b hb' fun e=>hnow ⟨r,_,hr,e⟩
 ·rintro b ⟨i,o,hi,he⟩ hb'
  rw[hρ i] at he
  rcases fI hi with⟨rfl,rfl,_⟩|⟨hi',hio⟩
  ·rw[if_pos rfl] at he
   rcases hown b he with e|e
   ·exact⟨i,_,hr,e⟩
   ·omega
  ·rw[if_neg hi'] at he
   exact⟨i,o,hio,he⟩
def kZ (z:List Value) (n:Nat):List AV:=(List.replicate n (z.map cav)).flatten
theorem nK (z:List Value) (n:Nat):(kZ z n).length=n*z.length:=by simp[kZ]
def fX (z:List Value) (n:Nat):List Value:=(List.replicate n z).flatten
theorem lO (E:Env) (z:List Value):∀ n,bY E (kZ z n) (fX z n)
 | 0=>by simp[kZ,fX,bY]
 | n+1=>by
  have:=lO E z n
  unfold kZ fX at *
  simp only[List.replicate_succ,List.flatten_cons]
  exact(oH E z).append this
theorem iA (z:List Value) (n:Nat):(fX z n).length=n*z.length:=by simp[fX]
theorem aDM (z:List Value):∀ (n i:Nat),i<n*z.length→(fX z n)[i]? = z[i%z.length]?
 | 0,i,h=>by simp at h
 | n+1,i,h=>by
  unfold fX
  simp only[List.replicate_succ,List.flatten_cons]
  rcases Nat.lt_or_ge i z.length with hlt|hge
  ·rw[List.getElem?_append_left hlt,Nat.mod_eq_of_lt hlt]
  ·rw[List.getElem?_append_right hge]
   have h2:i - z.length<n*z.length:=by rw[Nat.succ_mul] at h;omega
   have:=aDM z n (i - z.length) h2
   unfold fX at this
   rw[this]
   congr 1
   rw[Nat.mod_eq_sub_mod hge]
theorem sL (z:List Value) (n:Nat):(Builtin.zeroCells z.toArray n).toList=fX z n:=by
 apply List.ext_getElem?
 intro i
 simp only[Builtin.zeroCells,Array.toList_map,Array.toList_range,List.getElem?_map,List.size_toArray]
 rcases Nat.lt_or_ge i (n*z.length) with hlt|hge
 ·rw[aDM z n i hlt,List.getElem?_range hlt]
  have:0<z.length:=Nat.pos_of_ne_zero fun e=>by rw[e] at hlt;simp at hlt
  have hm:=Nat.mod_lt i this
  simp[getElem!_pos,hm]
 ·rw[List.getElem?_eq_none (by simpa using hge),List.getElem?_eq_none (by rw[iA];exact hge)]
  rfl
def gC (P:Program) (objs:List AObj) (e:TypeId) (sz:Nat) (xT:TypeId) (x:AV):Option (Prop×Nat×List AV):=
 match P.underlying xT with
 | some (.int _)=>match x,dS P e with
  | .val (.int _ m),some z=>some (0≤m∧m≤4611686018427387904∧z.length=sz,m.toNat,kZ z m.toNat)
  | _,_=>none
 | some _=>eQ objs sz x
 | none=>none
def fP (P:Program) (sT xT:TypeId) (mt:Bool) (s x:AV) (objs:List AObj):R:=
 match P.underlying sT with
 | some (.slice e)=>match tsz P e,tby P e,dS P e,s with
  | some sz,some by_,some z,.sl n cells p=>match gC P objs e sz xT x with
   | some (C,m,more)=>
    match p with
    | .full=>
     if mt then .ok (C∧cells.length=n*sz∧0<sz∧z.length=sz∧(n+m)*by_≤140737488355328∧n+m≤9223372036854775807∧more.all dC=true∧n=0)
      (.osl objs.length 0 (n+m) none) (objs++[.cells (cells++more)])
     else .ok (C∧cells.length=n*sz∧0<sz∧z.length=sz∧(n+m)*by_≤140737488355328∧n+m≤9223372036854775807∧more.all dC=true)
      (.sl (n+m) (cells++more) (.tok objs.length)) (objs++[.tok sz (n+m)])
    | .tok r=>match objs[r]? with
     | some (.tok sz' n')=>.ok (C∧cells.length=n*sz∧0<sz∧z.length=sz∧(n+m)*by_≤140737488355328∧n+m≤9223372036854775807∧more.all dC=true∧sz'=sz∧n'=n)
      (.sl (n+m) (cells++more) (.tok r)) (objs.set r (.tok sz (n+m)))
     | _=>.bad
    | .no=>.bad
   | none=>.bad
  | _,_,_,_=>.bad
 | _=>.bad
theorem aDm {P:Program} {E:Env} {objs:List AObj} {xT e:TypeId} {sz m:Nat} {z:List Value} {x:AV} {u:Value} {more:List AV} {C:Prop}
  (hz:dS P e=some z) (hsrc:gC P objs e sz xT x=some (C,m,more)) (hC:C) (ho:bP E objs) (hx:bE E x u) :
  ∃ us,bY E more us∧more.length=m*sz∧
   ((∃ d,P.underlying xT=some d∧(∀ k,d≠.int k)∧(Builtin.lenOf u).run P E.w=.ok m E.w∧∀ w':World,(∀ a,w'.cell? a=E.w.cell? a)→(Builtin.firstCells sz m u).run P w'=.ok us.toArray w')∨
    (∃ k kk m',P.underlying xT=some (.int k)∧u=.int kk m'∧0≤m'∧m'≤4611686018427387904∧m=m'.toNat∧us=fX z m∧z.length=sz)):=by
 unfold gC at hsrc
 split at hsrc
 ·rename_i k hxT
  split at hsrc
  case h_2=>cases hsrc
  rename_i k' m' z' hz'
  simp only[Option.some.injEq,Prod.mk.injEq] at hsrc
  obtain⟨rfl,rfl,rfl⟩:=hsrc
  rw[hz] at hz'
  injection hz' with hz'
  subst hz'
  obtain⟨c1,c2,c3⟩:=hC
  simp only[bE] at hx
  subst hx
  exact⟨fX z m'.toNat,lO E z _,by rw[nK,c3],.inr ⟨_,_,m',hxT,rfl,c1,c2,rfl,rfl,c3⟩⟩
 ·rename_i d hd hxT
  obtain⟨h1,h2,vs,h3,h4⟩:=tW (P:=P) hsrc hC ho hx
  have hvl:vs.length=m*sz:=by rw[h3.length,h1]
  refine⟨vs,h3,h1,.inl ⟨_,hxT,fun k e=>hd k e,h2,fun w' hw'=>?_⟩⟩
  have h5:=h4 m (Nat.le_refl _) w' hw'
  rw[← hvl,List.take_length] at h5
  exact h5
 ·cases hsrc
theorem zT {d:TypeDesc} (h:∀ k,d≠.int k):(match d with | .int _=>true|_=>false)=false:=by
 cases d<;>first|rfl|exact absurd rfl (h _)
theorem oZ {P:Program} {E:Env} {objs:List AObj} {sT xT ty e:TypeId} {sz by_ n cap m:Nat} {z:List Value} {A:Option Addr} {x:AV} {u:Value} {more olds:List AV} {C:Prop}
  (ht:P.underlying sT=some (.slice e)) (hsz:tsz P e=some sz) (hby:tby P e=some by_) (hz:dS P e=some z) (hsrc:gC P objs e sz xT x=some (C,m,more)) (hC:C)
  (ho:bP E objs) (hx:bE E x u) (hnb:(n+m)*by_≤140737488355328) (hn63:n+m≤9223372036854775807) (holen:olds.length=n*sz)
  (hold:olds=[]∨∃ g o,A=some ⟨g,o,none⟩∧g<E.w.heap.size∧o+olds.length≤E.lim g∧eD E g o olds) :
  ∃ us,bY E more us∧more.length=m*sz∧
   ((n+m≤cap→(Builtin.append_ #[sT,xT] ty #[.slice A n cap,u]).run P E.w =
     (match A with
      | some a=>((storeCells (a.add (n*sz)) us).run P E.w).andThen fun _ w'=>.ok (.slice A (n+m) cap) w'
      | none=>.ok (.slice A (n+m) cap) E.w))∧
    (cap<n+m→∃ os c,bY E olds os∧n+m≤c∧(Builtin.append_ #[sT,xT] ty #[.slice A n cap,u]).run P E.w =
    .ok (.slice (some ⟨E.w.heap.size,0,none⟩) (n+m) c) (E.w.drew.alloc (.cells (os++us++fX z (c - (n+m))).toArray e)))):=by
 obtain⟨i,hi,hib⟩:=zV hby
 obtain⟨us,hus,hlen,hcases⟩:=aDm hz hsrc hC ho hx
 have hwrap:∀ m':Int,0≤m'→m'≤4611686018427387904→IntKind.i64.wrap m'=m':=fun m' h0 h1=>by simp[IntKind.wrap,IntKind.bits,IntKind.signed];omega
 have hbig:∀ m':Int,0≤m'→m=m'.toNat→¬ (281474976710656<m'*(i.bytes:Int)):=fun m' c1 hm=>by
  have e1:(m:Int)=m':=by rw[hm];exact Int.toNat_of_nonneg c1
  have h3:m*by_≤(n+m)*by_:=Nat.mul_le_mul_right _ (by omega)
  have h4:((m*by_:Nat):Int)≤140737488355328:=by omega
  rw[Int.natCast_mul,e1] at h4
  rw[hib]
  omega
 have hzc:∀ w:World,∃ zv,(zeroValue e).run P w=.ok zv w∧zv.cells=z.toArray:=fun w=>iO (P:=P) hz w
 have hz0:z.length=sz→m*sz=0→fX z m=[]:=fun h1 h2=>List.eq_nil_of_length_eq_zero (by rw[iA,h1];exact h2)
 have hzt:∀ k,Builtin.zeroCells z.toArray k=(fX z k).toArray:=fun k=>Array.ext' (by simpa using sL z k)
 refine⟨us,hus,hlen,fun hle=>?_,fun hlt=>?_⟩
 ·rcases hcases with⟨d,hd,hni,hcount,hread⟩|⟨k,kk,m',hd,rfl,h0,h1,hm,rfl,h2⟩
  ·have hr:=hread E.w (fun _=>rfl)
   cases A<;>simp[Builtin.append_,run_underlying ht,eI hsz,run_underlying hd,zT hni,hcount,hle,hr,Result.andThen]
  ·have w1:=hwrap m' h0 h1
   have w2:¬ m'<0:=by omega
   have w3:=hbig m' h0 hm
   subst hm
   obtain⟨zv,hzv,hzv'⟩:=hzc E.w
   by_cases h3:m'.toNat*sz=0
   ·have h4:=hz0 h2 h3
    cases A<;>simp[Builtin.append_,run_underlying ht,eI hsz,run_underlying hd,asInt,asIntOf,w1,w2,typeInfo,hi,w3,hle,h3,h4,Result.andThen]
   ·cases A<;>simp[Builtin.append_,run_underlying ht,eI hsz,run_underlying hd,asInt,asIntOf,w1,w2,typeInfo,hi,w3,hle,h3,hzv,hzv',hzt,Result.andThen]
 ·have hfo:∃ os,bY E olds os∧(Builtin.firstCells sz n (.slice A n cap)).run P E.w.drew=.ok os.toArray E.w.drew:=by
   rcases hold with rfl|⟨g,o,rfl,hg,hl,hat⟩
   ·simp only[List.length_nil] at holen
    refine⟨[],by simp only[bY],?_⟩
    cases A with
    | none=>simp[Builtin.firstCells]
    | some a=>simp[Builtin.firstCells,← holen,loadCells,loadCellsFrom]
   ·obtain⟨vs,h1,h2⟩:=hat.vals
    refine⟨vs,h1,?_⟩
    have:=run_loadCells_list (P:=P) (w:=E.w.drew) ⟨g,o,none⟩ vs (fun j v hj=>by
     rw[iK]
     exact h2 j v hj)
    rw[h1.length,holen] at this
    simp[Builtin.firstCells,this]
  obtain⟨os,hos,hrun⟩:=hfo
  refine⟨os,(Question.appendCap (n+m) cap e).cut (E.w.tape E.w.drawn (.appendCap (n+m) cap e)),hos,by simp[Question.cut],?_⟩
  have n1:¬ (n+m≤cap):=by omega
  have n2:¬ (9223372036854775807<((n:Int)+(m:Int))):=by omega
  have n3:¬ (281474976710656<Builtin.nextslicecap (n+m) cap*i.bytes):=by
   have:=growslice_fits hlt (by rw[hib];exact hnb:(n+m)*i.bytes≤140737488355328)
   omega
  have hzd:=hzc E.w.drew
  obtain⟨zd,hzd,hzd'⟩:=hzd
  rcases hcases with⟨d,hd,hni,hcount,hread⟩|⟨k,kk,m',hd,rfl,h0,h1,hm,rfl,h2⟩
  ·have hr:=hread E.w.drew (fun _=>rfl)
   simp[Builtin.append_,run_underlying ht,eI hsz,run_underlying hd,zT hni,hcount,n1,n2,n3,typeInfo,hi,Question.forced,hrun,hr,hzd,hzd',hzt,newRow,List.append_assoc]
  ·have w1:=hwrap m' h0 h1
   have w2:¬ m'<0:=by omega
   have w3:=hbig m' h0 hm
   subst hm
   have n2':¬ (9223372036854775807<((n:Int)+max m' 0)):=by omega
   by_cases h3:m'.toNat*sz=0
   ·have h4:=hz0 h2 h3
    simp[Builtin.append_,run_underlying ht,eI hsz,run_underlying hd,asInt,asIntOf,w1,w2,w3,h3,h4,n1,n2,n2',n3,typeInfo,hi,Question.forced,hrun,hzd,hzd',hzt,newRow,List.append_assoc]
   ·simp[Builtin.append_,run_underlying ht,eI hsz,run_underlying hd,asInt,asIntOf,w1,w2,w3,h3,n1,n2,n2',n3,typeInfo,hi,Question.forced,hrun,hzd,hzd',hzt,newRow,List.append_assoc]
theorem lF {E:Env} {r n cap:Nat} {A:Option Addr} {v:Value} (hk:r<E.k) (e:E.ρ r=v) (hv:v=.slice A n cap):sY E n v cap (.tok r):=
 ⟨hk,A,n,cap,e.trans hv,Nat.le_refl _,fun _=>e.symm⟩
theorem zN {E E':Env} (hx:Ext0 E E') {olds more:List AV} {os us:List Value} {n m c:Nat} {z:List Value} {e:TypeId} (hos:bY E olds os) (hus:bY E more us) {g:Nat}
  (hh:E'.w.heap[g]? = some (.cells (os++us++fX z (c - (n+m))).toArray e)):eD E' g 0 (olds++more):=
 eD.of_cell fun i a ha=>by
  obtain⟨v,hv,hr⟩:=(bY.mono hx _ _ (hos.append hus)).get i a ha
  refine⟨v,?_,hr⟩
  rw[cell_of_row _ _ _ _ _ _ hh]
  have hlt:i<(os++us).length:=(List.getElem?_eq_some_iff.1 hv).1
  simp only[List.getElem?_toArray,Nat.zero_add]
  rw[List.getElem?_append_left hlt]
  exact hv
theorem aBu {P:Program} {E:Env} {objs objs':List AObj} {sT xT ty:TypeId} {mt:Bool} {s x v:AV} {us0 ux:Value} {C:Prop} (h:fP P sT xT mt s x objs=.ok C v objs') (hC:C) (ho:bP E objs)
  (hs:bE E s us0) (hx:bE E x ux):∃ E' u,(Builtin.append_ #[sT,xT] ty #[us0,ux]).run P E.w=.ok u E'.w∧bE E' v u∧bP E' objs'∧Ext E objs E' objs':=by
 unfold fP at h
 split at h
 case h_2=>cases h
 rename_i e ht
 split at h
 case h_2=>cases h
 rename_i sz by_ z n cells p hsz hby hz
 split at h
 case h_2=>cases h
 rename_i C' m more hsrc
 simp only[bE] at hs
 obtain⟨A,cap,rfl,hn,hc,hp⟩:=hs
 cases p with
 | no=>simp only[reduceCtorEq] at h
 | full=>
  have hcap:cap=n:=hp
  subst hcap
  cases mt with
  | true=>
   simp only[if_true] at h
   injection h with h1 h2 h3
   subst h1 h2 h3
   obtain⟨c1,c2,c3,c4,c5,c6,c7,rfl⟩:=hC
   obtain⟨us,hus,hml,hin,hout⟩:=oZ (P:=P) (ty:=ty) (cap:=0) ht hsz hby hz hsrc c1 ho hx c5 c6 c2 hc
   have hcn:cells=[]:=List.eq_nil_of_length_eq_zero (by simpa using c2)
   subst hcn
   rcases Nat.eq_zero_or_pos m with rfl|hm
   ·have hmore:more=[]:=List.eq_nil_of_length_eq_zero (by simpa using hml)
    subst hmore
    simp only[bY] at hus
    subst hus
    have hadd:=nD E (.slice A 0 0)
    obtain⟨hx2,ho2⟩:=rG (o:=.cells []) (u:=.slice A 0 0) (.refl E objs) ho (.inl rfl) (by intro g hg;simp[dI] at hg)
    refine⟨E.add (.slice A 0 0),.slice A 0 0,?_,?_,ho2,hx2⟩
    ·have:=hin (by omega)
     cases A<;>simpa[storeCells,Env.add] using this
    ·simp only[bE]
     exact⟨by simp[Env.add,ho.1],A,0,rfl,Nat.le_refl _,fun k hk=>(by cases hk),fun h=>(by omega)⟩
   ·obtain⟨os,c,hos,hcge,hrun⟩:=hout (by omega)
    simp only[bY] at hos
    subst hos
    obtain⟨E',eE,hρ,hk,ho',hx',hx0⟩:=mK (vs:=us++fX z (c - (0+m))) (t:=e) ho (w':=E.w.drew.alloc (.cells ([]++us++fX z (c - (0+m))).toArray e)) (by simpa using Pushed.drew E.w _) (cs:=more)
     (by rw[List.length_append,hus.length];omega) (by rw[← hus.length,List.take_left];exact hus)
    refine⟨E',_,by rw[eE];exact hrun,?_,by simpa using ho',by simpa using hx'⟩
    simp only[bE]
    exact⟨hk,_,c,rfl,hcge,fun k hk=>(by cases hk),fun h=>⟨_,hρ,rfl⟩⟩
  | false=>
   simp only[Bool.false_eq_true,if_false] at h
   injection h with h1 h2 h3
   subst h1 h2 h3
   obtain⟨c1,c2,c3,c4,c5,c6,c7⟩:=hC
   obtain⟨us,hus,hml,hin,hout⟩:=oZ (P:=P) (ty:=ty) (cap:=cap) ht hsz hby hz hsrc c1 ho hx c5 c6 c2 hc
   rcases Nat.eq_zero_or_pos m with rfl|hm
   ·have hmore:more=[]:=List.eq_nil_of_length_eq_zero (by simpa using hml)
    subst hmore
    simp only[bY] at hus
    subst hus
    have hadd:=nD E (.slice A cap cap)
    obtain⟨hx2,ho2⟩:=rG (o:=.tok sz (cap+0)) (u:=.slice A cap cap) (.refl E objs) ho ⟨A,cap,rfl,Nat.le_refl _,fun h=>by omega⟩ (by intro g hg;cases A<;>simp[dI] at hg)
    refine⟨E.add (.slice A cap cap),.slice A cap cap,?_,?_,ho2,hx2⟩
    ·have:=hin (by omega)
     cases A<;>simpa[storeCells,Env.add] using this
    ·simp only[bE,List.append_nil]
     refine⟨A,cap,rfl,Nat.le_refl _,?_,lF (A:=A) (n:=cap) (cap:=cap) (by simp[Env.add,ho.1]) (by simp[Env.add,ho.1]) rfl⟩
     rcases hc with e'|⟨g,o,hA,hg,hl,hat⟩
     ·exact .inl e'
     ·exact .inr ⟨g,o,hA,hg,hl,eD.mono hadd g hg cells o hl hat⟩
   ·obtain⟨os,c,hos,hcge,hrun⟩:=hout (by omega)
    have hp:=Pushed.drew E.w (.cells (os++us++fX z (c - (cap+m))).toArray e)
    obtain⟨hx1,ho1⟩:=tG ho hp ((cap+m)*sz)
    have hadd:=nD (E.push (E.w.drew.alloc (.cells (os++us++fX z (c - (cap+m))).toArray e)) ((cap+m)*sz)) (.slice (some ⟨E.w.heap.size,0,none⟩) (cap+m) c)
    have hsize:(os++us++fX z (c - (cap+m))).length=c*sz:=by
     rw[List.length_append,List.length_append,hos.length,hus.length,iA,c2,hml,c4,← Nat.add_mul,← Nat.add_mul]
     congr 1
     omega
    obtain⟨hx2,ho2⟩:=rG (o:=.tok sz (cap+m)) (u:=.slice (some ⟨E.w.heap.size,0,none⟩) (cap+m) c) hx1 ho1
     ⟨_,c,rfl,hcge,fun hlt=>⟨_,0,_,e,(0,0),rfl,hp.new,.inl rfl,by simp only[Nat.zero_add,List.size_toArray];omega,by simp[Env.add,Env.push]⟩⟩ (by
     intro g hg
     have:g=E.w.heap.size:=by
      simp only[dI] at hg
      split at hg
      ·injection hg with hg;exact hg.symm
      ·cases hg
     subst this
     exact⟨Nat.le_refl _,fun hw=>by
      have:=qZ ho (xN (E':=E.push _ ((cap+m)*sz)) ho.1 (fun _ _=>rfl) hw)
      omega⟩)
    refine⟨_,_,hrun,?_,ho2,hx2⟩
    simp only[bE]
    refine⟨_,c,rfl,hcge,.inr ⟨_,0,rfl,?_,?_,?_⟩,lF (by simp[Env.add,Env.push,ho.1]) (by simp[Env.add,Env.push,ho.1]) rfl⟩
    ·show _<(E.w.drew.alloc _).heap.size
     rw[hp.size];omega
    ·simp only[Env.add,Env.push,if_true,List.length_append,c2,hml,Nat.zero_add,← Nat.add_mul]
     exact Nat.le_refl _
    ·exact zN hx2.toExt0 hos hus hp.new
 | tok r=>
  simp only at h
  split at h
  case h_2=>cases h
  rename_i sz' n' hr
  injection h with h1 h2 h3
  subst h1 h2 h3
  obtain⟨c1,c2,c3,c4,c5,c6,c7,rfl,rfl⟩:=hC
  obtain⟨us,hus,hml,hin,hout⟩:=oZ (P:=P) (ty:=ty) (cap:=cap) ht hsz hby hz hsrc c1 ho hx c5 c6 c2 hc
  -- the token's slice is this one
  obtain⟨hrk,A0,m0,c0,e0,hle0,heq0⟩:=hp
  obtain⟨A1,c1',e1,hn1,hblk⟩:=ho.2.1 r _ hr
  rw[e0] at e1
  injection e1 with e1 e2 e3
  subst e1 e2 e3
  have hv:=heq0 rfl
  rw[e0] at hv
  injection hv with hv1 _ hv2
  subst hv1 hv2
  have hone:=aAm hus c7
  rcases Nat.eq_zero_or_pos m with rfl|hm
  ·have hmore:more=[]:=List.eq_nil_of_length_eq_zero (by simpa using hml)
   subst hmore
   simp only[bY] at hus
   subst hus
   have hset:objs.set r (.tok sz' (m0+0))=objs:=by
    apply List.ext_getElem?
    intro i
    rw[List.getElem?_set]
    split
    ·rename_i e;subst e
     split
     ·exact hr.symm
     ·rename_i h;rw[List.getElem?_eq_none (by omega)]
    ·rfl
   rw[hset]
   refine⟨E,.slice A m0 cap,?_,?_,ho,.refl _ _⟩
   ·have:=hin (by omega)
    cases A<;>simpa[storeCells] using this
   ·simp only[bE,List.append_nil]
    exact⟨A,cap,rfl,hn,hc,lF hrk e0 rfl⟩
  ·by_cases hroom:m0+m≤cap
   ·-- in place
    obtain⟨g,o,vs,t,fz,rfl,hh,hfz,hsize,hlim⟩:=hblk (by omega)
    have hmsz:m*sz'≤cap*sz' - m0*sz':=by
     rw[← Nat.sub_mul]
     exact Nat.mul_le_mul_right _ (by omega)
    have hcs:m0*sz'≤cap*sz':=Nat.mul_le_mul_right _ (by omega)
    obtain⟨w',cur',h1,h2,h3,h4,h5,h6,h7,h8⟩:=wD (P:=P) g (o+m0*sz') t fz us 0 vs E.w hh hfz (by rw[hus.length,hml];omega) hone
    simp only[Nat.add_zero] at h8
    have hcur:cur'.size=vs.size:=by
     have:=congrArg List.length h8
     simp only[Array.length_toList,List.length_append,List.length_take,List.length_drop] at this
     have:=hus.length
     omega
    let E':Env:={ w:=w',lim:=fun b=>if b=g then o+(m0+m)*sz' else E.lim b,k:=E.k,ρ:=fun i=>if i=r then .slice (some ⟨g,o,none⟩) (m0+m) cap else E.ρ i }
    have hownr:dI (.tok sz' m0) (E.ρ r)=some g:=by rw[e0];simp[dI];omega
    have tI:∀ j,j<o+m0*sz'→w'.cell? ⟨g,j,none⟩=E.w.cell? ⟨g,j,none⟩:=fun j hj=>by
     rw[cell_of_row _ _ _ _ _ _ h7,cell_of_row _ _ _ _ _ _ hh]
     have e1:cur'[j]? = cur'.toList[j]?:=by simp
     have e2:vs[j]? = vs.toList[j]?:=by simp
     rw[e1,e2,h8,List.append_assoc,List.getElem?_append_left (by simp only[List.length_take,Array.length_toList];omega),List.getElem?_take,if_pos hj]
    obtain⟨ho',hx'⟩:=aIc (E':=E') (u:=.slice (some ⟨g,o,none⟩) (m0+m) cap) (n':=m0+m) ho hr (by show _≤w'.heap.size;omega) h3 h4 h5 rfl (fun _=>rfl)
     (by rw[e0];exact .inr ⟨_,_,_,_,_,_,rfl,rfl,by omega⟩)
     (fun b hb hnb=>by
      have hbg:b≠g:=fun e=>hnb (e ▸ hownr)
      exact⟨h6 b hbg,if_neg hbg⟩)
     (fun b hb=>by
      rw[hownr] at hb
      injection hb with hb
      subst hb
      refine⟨?_,fun j hj=>tI j (by omega)⟩
      show E.lim g≤(if g=g then _ else _)
      rw[if_pos rfl,Nat.add_mul]
      omega)
     ⟨_,cap,rfl,hroom,fun hlt=>⟨g,o,cur',t,fz,rfl,h7,by
      rcases hfz with e|e
      ·exact .inl e
      ·exact .inr (by omega),by omega,by show (if g=g then _ else _)≤_;rw[if_pos rfl];exact Nat.le_refl _⟩⟩
     (fun b hb=>by
      left
      rw[hownr]
      simp only[dI] at hb
      split at hb
      ·exact hb
      ·cases hb)
    refine⟨E',.slice (some ⟨g,o,none⟩) (m0+m) cap,?_,?_,ho',hx'⟩
    ·rw[hin hroom]
     show ((storeCells (Addr.add ⟨g,o,none⟩ (m0*sz')) us).run P E.w).andThen _=_
     rw[iK,h1]
     rfl
    ·simp only[bE]
     refine⟨_,cap,rfl,hroom,.inr ⟨g,o,rfl,?_,?_,?_⟩,lF hrk (by show (if r=r then _ else _)=_;rw[if_pos rfl]) rfl⟩
     ·show g<w'.heap.size;rw[h2];exact vV hh
     ·show _≤(if g=g then _ else _)
      rw[if_pos rfl,List.length_append,c2,hml,← Nat.add_mul]
      exact Nat.le_refl _
     ·refine eD.of_cell fun i a ha=>?_
      rcases Nat.lt_or_ge i cells.length with hlt|hge
      ·rw[List.getElem?_append_left hlt] at ha
       rcases hc with rfl|⟨g',o',e',hg',hl',hat⟩
       ·simp at hlt
       ·injection e' with e'
        injection e' with e1 e2 _
        subst e1 e2
        obtain⟨v0,hv0,hr0⟩:=hat.cell i a ha
        exact⟨v0,(tI (o+i) (by omega)).trans hv0,bE.mono hx'.toExt0 _ _ hr0⟩
      ·rw[List.getElem?_append_right hge] at ha
       obtain⟨v0,hv0,hr0⟩:=hus.get _ a ha
       refine⟨v0,?_,bE.mono hx'.toExt0 _ _ hr0⟩
       show w'.cell? _=_
       rw[cell_of_row _ _ _ _ _ _ h7]
       have e1:cur'[o+i]? = cur'.toList[o+i]?:=by simp
       have hul:=hus.length
       have hilt:i - cells.length<us.length:=(List.getElem?_eq_some_iff.1 hv0).1
       rw[e1,h8,List.append_assoc,List.getElem?_append_right (by simp only[List.length_take,Array.length_toList];omega),List.getElem?_append_left (by simp only[List.length_take,Array.length_toList];omega)]
       rw[← hv0]
       congr 1
       simp only[List.length_take,Array.length_toList]
       omega
   ·-- in a new block
    obtain⟨os,c,hos,hcge,hrun⟩:=hout (by omega)
    have hp:=Pushed.drew E.w (.cells (os++us++fX z (c - (m0+m))).toArray e)
    have hsize:(os++us++fX z (c - (m0+m))).length=c*sz':=by
     rw[List.length_append,List.length_append,hos.length,hus.length,iA,c2,hml,c4,← Nat.add_mul,← Nat.add_mul]
     congr 1
     omega
    let E':Env:={ w:=E.w.drew.alloc (.cells (os++us++fX z (c - (m0+m))).toArray e),lim:=fun b=>if b=E.w.heap.size then (m0+m)*sz' else E.lim b,k:=E.k,ρ:=fun i=>if i=r then .slice (some ⟨E.w.heap.size,0,none⟩) (m0+m) c else E.ρ i }
    obtain⟨ho',hx'⟩:=aIc (E':=E') (u:=.slice (some ⟨E.w.heap.size,0,none⟩) (m0+m) c) (n':=m0+m) ho hr (by show _≤(E.w.drew.alloc _).heap.size;rw[hp.size];omega) rfl rfl rfl rfl (fun _=>rfl)
     (by rw[e0];exact .inr ⟨_,_,_,_,_,_,rfl,rfl,by omega⟩)
     (fun b hb _=>⟨hp.old hb,if_neg (by omega)⟩)
     (fun b hb=>by
      have hlt:=pZ (ho.2.1 r _ hr) hb
      exact⟨by show E.lim b≤(if b=_ then _ else _);rw[if_neg (by omega)];exact Nat.le_refl _,fun j _=>iY (hp.old hlt)⟩)
     ⟨_,c,rfl,hcge,fun hlt=>⟨_,0,_,e,(0,0),rfl,hp.new,.inl rfl,by simp only[Nat.zero_add,List.size_toArray];omega,by show (if _=_ then _ else _)≤_;rw[if_pos rfl];omega⟩⟩
     (fun b hb=>by
      right
      simp only[dI] at hb
      split at hb
      ·injection hb with hb;subst hb;exact Nat.le_refl _
      ·cases hb)
    refine⟨E',_,hrun,?_,ho',hx'⟩
    simp only[bE]
    refine⟨_,c,rfl,hcge,.inr ⟨_,0,rfl,?_,?_,?_⟩,lF hrk (by show (if r=r then _ else _)=_;rw[if_pos rfl]) rfl⟩
    ·show _<(E.w.drew.alloc _).heap.size
     rw[hp.size];omega
    ·show _≤(if _=_ then _ else _)
     rw[if_pos rfl,List.length_append,c2,hml,Nat.zero_add,← Nat.add_mul]
     exact Nat.le_refl _
    ·exact zN hx'.toExt0 hos hus hp.new
def eM (place:Nat→Option (Nat×Nat)) (cells:List AV):List (Nat×AV)→Option (Prop×List AV)
 | []=>some (True,cells)
 | (i,v)::rest=>match place i with
  | none=>none
  | some (off,size)=>match eM place (spl cells off (bB v)) rest with
   | some (C,r)=>some (((bB v).length=size∧off+size≤cells.length∧(bB v).all dC=true)∧C,r)
   | none=>none
theorem aCg (off:Nat):∀ (us:List Value) (j:Nat) (cs:Array Value),off+j+us.length≤cs.size→
  ((us.zipIdx j).foldl (fun (cs:Array Value) (x:Value×Nat)=>cs.setIfInBounds (off+x.2) x.1) cs).toList=cs.toList.take (off+j)++us++cs.toList.drop (off+j+us.length)
 | [],j,cs,h=>by simp
 | u::us,j,cs,h=>by
  simp only[List.length_cons] at h
  simp only[List.zipIdx_cons,List.foldl_cons]
  rw[aCg off us (j+1) (cs.setIfInBounds (off+j) u) (by simp;omega)]
  apply List.ext_getElem?
  intro i
  simp only[Array.toList_setIfInBounds,List.getElem?_append,List.length_append,List.length_take,List.length_set,Array.length_toList,List.getElem?_take,List.getElem?_drop,List.length_cons,List.getElem?_set,List.getElem?_cons]
  repeat' split
  all_goals (first|rfl|omega|skip)
  all_goals (try (congr 1;omega))
  all_goals (try omega)
theorem bY.spl {E:Env} {cs new:List AV} {vs us:List Value} (h:bY E cs vs) (h':bY E new us) (off:Nat):bY E (spl cs off new) (vs.take off++us++vs.drop (off+us.length)):=by
 unfold Go.V.spl
 rw[h'.length]
 exact((h.take off).append h').append (h.drop _)
theorem mZ {E:Env} {place:Nat→Option (Nat×Nat)}:∀ {parts:List (Nat×AV)} {ups:List (Nat×Value)} {cells r:List AV} {vs:Array Value} {C:Prop},eM place cells parts=some (C,r)→C→bY E cells vs.toList→parts.length=ups.length→(∀ (i:Nat) (p:Nat×AV) (q:Nat×Value),parts[i]? = some p→ups[i]? = some q→p.1=q.1∧bE E p.2 q.2)→
  ∃ vs',Instr.fill place vs ups=some vs'∧bY E r vs'.toList
 | [],[],cells,r,vs,C,h,hC,hl,_,_=>by
  simp only[eM,Option.some.injEq,Prod.mk.injEq] at h
  obtain⟨rfl,rfl⟩:=h
  exact⟨vs,rfl,hl⟩
 | [],q::ups,cells,r,vs,C,h,hC,hl,he,_=>by simp at he
 | (i,v)::parts,[],cells,r,vs,C,h,hC,hl,he,_=>by simp at he
 | (i,v)::parts,(j,u)::ups,cells,r,vs,C,h,hC,hl,he,hp=>by
  obtain⟨e1,hv⟩:=hp 0 (i,v) (j,u) rfl rfl
  simp only at e1 hv
  subst e1
  unfold eM at h
  split at h
  ·cases h
  rename_i off size hpl
  split at h
  case h_2=>cases h
  rename_i C' r' hf
  simp only[Option.some.injEq,Prod.mk.injEq] at h
  obtain⟨rfl,rfl⟩:=h
  obtain⟨⟨c1,c2,c3⟩,hC'⟩:=hC
  obtain⟨hcl,_⟩:=nZ hv c3
  have hcs:u.cells.size=size:=by rw[← c1,← hcl.length];simp
  have hlen:=hl.length
  have hvsz:vs.size=cells.length:=by simpa using hlen
  have hset:=aCg off u.cells.toList 0 vs (by simp;omega)
  simp only[Nat.add_zero] at hset
  obtain⟨vs',h1,h2⟩:=mZ (ups:=ups) (vs:=(u.cells.zipIdx.foldl (fun cs (x:Value×Nat)=>cs.setIfInBounds (off+x.2) x.1) vs)) hf hC' (by
   have e2:(u.cells.zipIdx.foldl (fun (cs:Array Value) (x:Value×Nat)=>cs.setIfInBounds (off+x.2) x.1) vs).toList=vs.toList.take off++u.cells.toList++vs.toList.drop (off+u.cells.toList.length):=by
    rw[← hset,← Array.foldl_toList,Array.toList_zipIdx]
   rw[e2]
   exact hl.spl hcl off) (by simpa using he) (fun i p q hpi hqi=>hp (i+1) p q (by simpa using hpi) (by simpa using hqi))
  refine⟨vs',?_,h2⟩
  simp only[Instr.fill,hpl,hcs,ne_eq,not_true_eq_false,false_or,Bool.false_or,decide_false]
  rw[if_neg (by simp;omega)]
  exact h1
theorem aEY (z:List Value) (n sz:Nat) (hz:z.length=sz):((Array.range (n*sz)).map (fun i=>z.toArray[i%z.toArray.size]!)).toList=fX z n:=by
 subst hz
 have:=sL z n
 simpa[Builtin.zeroCells] using this
theorem aHM {E:Env} {objs:List AObj} (ho:bP E objs) {w':World} {vs:List Value} {t:TypeId} {fz:Nat×Nat} (h:Pushed E.w w' (.cells vs.toArray t fz)) {cs:List AV} (hrep:bY E cs (vs.take cs.length)) (n cap:Nat) (hn:n≤cap) :
  bP (E.push w' cs.length) objs∧Ext E objs (E.push w' cs.length) objs∧∀ p,sY (E.push w' cs.length) n (.slice (some ⟨E.w.heap.size,0,none⟩) n cap) cap p→bE (E.push w' cs.length) (.sl n cs p) (.slice (some ⟨E.w.heap.size,0,none⟩) n cap):=by
 obtain⟨hx,ho'⟩:=tG ho h cs.length
 refine⟨ho',hx,fun p hp=>?_⟩
 simp only[bE]
 refine⟨_,cap,rfl,hn,.inr ⟨E.w.heap.size,0,rfl,?_,?_,?_⟩,hp⟩
 ·show _<w'.heap.size;rw[h.size];omega
 ·simp[Env.push]
 ·refine eD.of_cell fun i a ha=>?_
  obtain⟨v,hv,hr⟩:=(bY.mono hx.toExt0 _ _ hrep).get i a ha
  refine⟨v,?_,hr⟩
  show w'.cell? _=_
  rw[cell_of_row _ _ _ _ _ _ h.new]
  rw[List.getElem?_take] at hv
  split at hv
  ·simpa using hv
  ·cases hv
def dO (f:Operand→AV) (parts:Array (Nat×Operand)):List (Nat×AV):=parts.toList.map fun p=>(p.1,f p.2)
def dL (P:Program) (t:TypeId) (len:Nat) (parts:List (Nat×AV)) (objs:List AObj):R:=
 match P.underlying t with
 | some (.slice e)=>match tsz P e,dS P e with
  | some sz,some z=>match eM (fun i=>some (i*sz,sz)) (kZ z len) parts with
   | some (C,cells)=>.ok (C∧z.length=sz∧len*sz≤16777216) (.sl len cells .full) objs
   | none=>.bad
  | _,_=>.bad
 | _=>.bad
def dV (P:Program) (t:TypeId) (len:Nat) (parts:List (Nat×AV)) (objs:List AObj):R:=
 match P.underlying t with
 | some (.slice e)=>match tsz P e,dS P e with
  | some sz,some z=>match eM (fun i=>some (i*sz,sz)) (kZ z len) parts with
   | some (C,cells)=>.ok (C∧z.length=sz∧len*sz≤16777216∧cells.length=len*sz) (.osl objs.length 0 len (some len)) (objs++[.cells cells])
   | none=>.bad
  | _,_=>.bad
 | _=>.bad
theorem vL {E:Env} {f:Operand→AV} {g:Operand→Value} (hfg:∀ x,bE E (f x) (g x)) (parts:Array (Nat×Operand)) :
  (dO f parts).length=(parts.map fun (i,x)=>(i,g x)).toList.length∧
  ∀ (i:Nat) (p:Nat×AV) (q:Nat×Value),(dO f parts)[i]? = some p→(parts.map fun (i,x)=>(i,g x)).toList[i]? = some q→p.1=q.1∧bE E p.2 q.2:=by
 refine⟨by simp[dO],fun i p q hp hq=>?_⟩
 simp only[dO,List.getElem?_map,Array.toList_map,Option.map_eq_some_iff] at hp hq
 obtain⟨a,ha,rfl⟩:=hp
 obtain⟨b,hb,rfl⟩:=hq
 rw[ha] at hb
 injection hb with hb
 subst hb
 exact⟨rfl,hfg _⟩
theorem wM {P:Program} {E:Env} {t:TypeId} {len:Nat} {parts:Array (Nat×Operand)} {f:Operand→AV} {g:Operand→Value} (hfg:∀ x,bE E (f x) (g x)) {objs objs':List AObj} {C:Prop} {v:AV}
  (h:dL P t len (dO f parts) objs=.ok C v objs') (hC:C) (ho:bP E objs) :
  ∃ E' u,(Instr.buildSlice t len (parts.map fun (i,x)=>(i,g x))).run P E.w=.ok u E'.w∧bE E' v u∧bP E' objs'∧Ext E objs E' objs':=by
 unfold dL at h
 split at h
 case h_2=>cases h
 rename_i e ht
 split at h
 case h_2=>cases h
 rename_i sz z hsz hz
 split at h
 case h_2=>cases h
 rename_i C' cells hf
 injection h with h1 h2 h3
 subst h1 h2 h3
 obtain⟨c1,c2,c3⟩:=hC
 obtain⟨zv,hzrun,hzc⟩:=iO (P:=P) hz E.w
 obtain⟨hpl,hpr⟩:=vL hfg parts
 obtain⟨vs',hfill,hrep⟩:=mZ (E:=E) (ups:=(parts.map fun (i,x)=>(i,g x)).toList) (vs:=(fX z len).toArray) hf c1 (lO E z len) hpl hpr
 have hb:¬ (len*sz > 2^24):=by omega
 have hp:=Pushed.alloc E.w (.cells vs'.toList.toArray e)
 obtain⟨ho',hx,hv⟩:=aHM ho hp (cs:=cells) (by rw[← hrep.length,List.take_length];exact hrep) len len (Nat.le_refl _)
 refine⟨_,.slice (some ⟨E.w.heap.size,0,none⟩) len len,?_,hv .full rfl,ho',hx⟩
 have hzr:((Array.range (len*sz)).map (fun i=>z.toArray[i%z.toArray.size]!))=(fX z len).toArray:=Array.ext' (by simpa using aEY z len sz c2)
 by_cases h0:len*sz=0
 ·have hz1:fX z len=[]:=List.eq_nil_of_length_eq_zero (by rw[iA,c2];exact h0)
  rw[hz1] at hfill
  have e0:∀ f:Nat→Value,(Array.range 0).map f=#[]:=fun f=>Array.ext' (by simp)
  have hb0:¬ (0 > 2^24):=by omega
  simp only[Instr.buildSlice,Sem.run_bind,run_underlying ht,Result.andThen_ok,eI hsz,h0,hb0,if_false,if_true,Sem.run_pure]
  rw[e0,hfill]
  simp[newRow,Env.push]
 ·have hb':¬ (16777216<len*sz):=by omega
  simp only[Instr.buildSlice,Sem.run_bind,run_underlying ht,Result.andThen_ok,eI hsz,hb,if_false,Sem.run_pure,h0,hzrun,hzc]
  rw[hzr,hfill]
  simp[newRow,Env.push]
theorem aAB {P:Program} {E:Env} {t:TypeId} {len:Nat} {parts:Array (Nat×Operand)} {f:Operand→AV} {g:Operand→Value} (hfg:∀ x,bE E (f x) (g x)) {objs objs':List AObj} {C:Prop} {v:AV}
  (h:dV P t len (dO f parts) objs=.ok C v objs') (hC:C) (ho:bP E objs) :
  ∃ E' u,(Instr.buildSlice t len (parts.map fun (i,x)=>(i,g x))).run P E.w=.ok u E'.w∧bE E' v u∧bP E' objs'∧Ext E objs E' objs':=by
 unfold dV at h
 split at h
 case h_2=>cases h
 rename_i e ht
 split at h
 case h_2=>cases h
 rename_i sz z hsz hz
 split at h
 case h_2=>cases h
 rename_i C' cells hf
 injection h with h1 h2 h3
 subst h1 h2 h3
 obtain⟨c1,c2,c3,c4⟩:=hC
 obtain⟨zv,hzrun,hzc⟩:=iO (P:=P) hz E.w
 obtain⟨hpl,hpr⟩:=vL hfg parts
 obtain⟨vs',hfill,hrep⟩:=mZ (E:=E) (ups:=(parts.map fun (i,x)=>(i,g x)).toList) (vs:=(fX z len).toArray) hf c1 (lO E z len) hpl hpr
 have hb:¬ (len*sz > 2^24):=by omega
 obtain⟨E',eE,hρ,hk,ho',hx',hx0⟩:=mK (vs:=vs'.toList) (t:=e) ho (.alloc E.w _) (cs:=cells) (by rw[hrep.length];exact Nat.le_refl _) (by rw[← hrep.length,List.take_length];exact hrep)
 refine⟨E',.slice (some ⟨E.w.heap.size,0,none⟩) len len,?_,?_,ho',hx'⟩
 case refine_2=>
  simp only[bE]
  exact⟨hk,_,_,rfl,Nat.le_refl _,fun k hk=>(Option.some.inj hk),fun _=>⟨_,hρ,rfl⟩⟩
 rw[eE]
 have hzr:((Array.range (len*sz)).map (fun i=>z.toArray[i%z.toArray.size]!))=(fX z len).toArray:=Array.ext' (by simpa using aEY z len sz c2)
 by_cases h0:len*sz=0
 ·have hz1:fX z len=[]:=List.eq_nil_of_length_eq_zero (by rw[iA,c2];exact h0)
  rw[hz1] at hfill
  have e0:∀ f:Nat→Value,(Array.range 0).map f=#[]:=fun f=>Array.ext' (by simp)
  have hb0:¬ (0 > 2^24):=by omega
  simp only[Instr.buildSlice,Sem.run_bind,run_underlying ht,Result.andThen_ok,eI hsz,h0,hb0,if_false,if_true,Sem.run_pure]
  rw[e0,hfill]
  simp[newRow,Env.push]
 ·have hb':¬ (16777216<len*sz):=by omega
  simp only[Instr.buildSlice,Sem.run_bind,run_underlying ht,Result.andThen_ok,eI hsz,hb,if_false,Sem.run_pure,h0,hzrun,hzc]
  rw[hzr,hfill]
  simp[newRow,Env.push]
def uO (P:Program) (fs:Array Field):Option (List (Nat×Nat)):=fs.toList.mapM fun f=>(tsz P f.type).map fun s=>(f.offset,s)
theorem aBd {P:Program} (w:World):∀ (fs:List Field) (ps:List (Nat×Nat)),fs.mapM (fun f=>(tsz P f.type).map fun s=>(f.offset,s))=some ps→
  (fs.mapM (m:=Sem) fun f=>do pure (f.offset,← sizeOf f.type)).run P w=.ok ps w
 | [],ps,h=>by simp at h;subst h;rfl
 | f::fs,ps,h=>by
  simp only[List.mapM_cons,Option.bind_eq_bind,Option.bind_eq_some_iff,Option.map_eq_some_iff,Option.pure_def,Option.some.injEq] at h
  obtain⟨p,⟨s,hs,rfl⟩,qs,hqs,rfl⟩:=h
  simp only[List.mapM_cons,Sem.run_bind,eI hs,Result.andThen_ok,Sem.run_pure,aBd w fs qs hqs]
def sfT (P:Program) (t:TypeId):Option (List (Nat×Nat)):=
 match P.underlying t with
 | some (.struct fs)=>uO P fs
 | _=>none
def fA (P:Program) (t:TypeId) (parts:List (Nat×AV)):Option (Prop×AV):=
 match dS P t,P.underlying t with
 | some z,some (.struct fs)=>match sfT P t with
  | some ps=>match eM (fun i=>ps[i]?) (z.map cav) parts with
   | some (C,cells)=>some (C,.agg cells)
   | none=>none
  | none=>none
 | some z,some (.array _ e)=>match tsz P e with
  | some sz=>match eM (fun i=>some (i*sz,sz)) (z.map cav) parts with
   | some (C,cells)=>some (C,.agg cells)
   | none=>none
  | none=>none
 | _,_=>none
theorem aDY {P:Program} {E:Env} {t:TypeId} {parts:Array (Nat×Operand)} {f:Operand→AV} {g:Operand→Value} (hfg:∀ x,bE E (f x) (g x)) {C:Prop} {v:AV}
  (h:fA P t (dO f parts)=some (C,v)) (hC:C):∃ u,bE E v u∧(Instr.build t (parts.map fun (i,x)=>(i,g x))).run P E.w=.ok u E.w:=by
 obtain⟨hpl,hpr⟩:=vL hfg parts
 unfold fA at h
 split at h
 ·rename_i z fs hz ht
  have hsf:sfT P t=uO P fs:=by simp only[sfT,ht]
  rw[hsf] at h
  split at h
  case h_2=>cases h
  rename_i ps hps
  split at h
  case h_2=>cases h
  rename_i C' cells hf
  simp only[Option.some.injEq,Prod.mk.injEq] at h
  obtain⟨rfl,rfl⟩:=h
  obtain⟨zv,hzrun,hzc⟩:=iO (P:=P) hz E.w
  obtain⟨vs',hfill,hrep⟩:=mZ (E:=E) (ups:=(parts.map fun (i,x)=>(i,g x)).toList) (vs:=z.toArray) hf hC (oH E z) hpl hpr
  refine⟨.agg vs',by simp only[bE];exact⟨vs'.toList,by simp,hrep⟩,?_⟩
  have hpl':=aBd (P:=P) E.w fs.toList ps hps
  have hmap:(fs.mapM (m:=Sem) fun f=>do pure (f.offset,← sizeOf f.type)).run P E.w=.ok ps.toArray E.w:=by
   rw[Array.mapM_eq_mapM_toList]
   simp only[Sem.run_map,hpl',Result.andThen_ok]
  simp only[Instr.build,Sem.run_bind,hzrun,Result.andThen_ok,run_underlying ht,hmap,hzc]
  have hfill':Instr.fill (fun x=>ps.toArray[x]?) z.toArray (parts.map fun (i,x)=>(i,g x)).toList=some vs':=by simpa using hfill
  rw[hfill']
  rfl
 ·rename_i z n e hz ht
  split at h
  case h_2=>cases h
  rename_i sz hsz
  split at h
  case h_2=>cases h
  rename_i C' cells hf
  simp only[Option.some.injEq,Prod.mk.injEq] at h
  obtain⟨rfl,rfl⟩:=h
  obtain⟨zv,hzrun,hzc⟩:=iO (P:=P) hz E.w
  obtain⟨vs',hfill,hrep⟩:=mZ (E:=E) (ups:=(parts.map fun (i,x)=>(i,g x)).toList) (vs:=z.toArray) hf hC (oH E z) hpl hpr
  refine⟨.agg vs',by simp only[bE];exact⟨vs'.toList,by simp,hrep⟩,?_⟩
  simp only[Instr.build,Sem.run_bind,hzrun,Result.andThen_ok,run_underlying ht,hzc,eI hsz]
  rw[hfill]
  rfl
 ·cases h
def aCO (P:Program) (t:TypeId) (mt:Bool) (l c:AV) (objs:List AObj):R:=
 match P.underlying t,l,c with
 | some (.slice e),.val (.int _ l),.val (.int _ c)=>match tsz P e,tby P e,dS P e with
  | some sz,some by_,some z=>
   if mt then .ok (0≤l∧l≤c∧(by_:Int)*c≤281474976710656∧c≤9223372036854775807∧z.length=sz) (.osl objs.length 0 l.toNat (some c.toNat)) (objs++[.cells (kZ z c.toNat)])
   else .ok (0≤l∧l≤c∧(by_:Int)*c≤281474976710656∧c≤9223372036854775807∧z.length=sz) (.sl l.toNat (kZ z l.toNat) .no) objs
  | _,_,_=>.bad
 | _,_,_=>.bad
theorem aHw (z:List Value) (a b:Nat) (h:a≤b):(fX z b).take (a*z.length)=fX z a:=by
 unfold fX
 obtain⟨d,rfl⟩:∃ d,b=a+d:=⟨b - a,by omega⟩
 rw[← List.replicate_append_replicate,List.flatten_append,List.take_left' (by simp)]
theorem aEt {P:Program} {E:Env} {t:TypeId} {mt:Bool} {l c v:AV} {objs objs':List AObj} {C:Prop} {ul uc:Value} (h:aCO P t mt l c objs=.ok C v objs') (hC:C) (ho:bP E objs)
  (hl:bE E l ul) (hc:bE E c uc):∃ E' u,(Instr.makeSlice t ul uc).run P E.w=.ok u E'.w∧bE E' v u∧bP E' objs'∧Ext E objs E' objs':=by
 unfold aCO at h
 split at h
 case h_2=>cases h
 rename_i e kl l kc c ht
 split at h
 case h_2=>cases h
 rename_i sz by_ z hsz hby hz
 simp only[bE] at hl hc
 subst hl hc
 have key:(0≤l∧l≤c∧(by_:Int)*c≤281474976710656∧c≤9223372036854775807∧z.length=sz)→
   (Instr.makeSlice t (.int kl l) (.int kc c)).run P E.w=.ok (.slice (some ⟨E.w.heap.size,0,none⟩) l.toNat c.toNat) (E.w.alloc (.cells (fX z c.toNat).toArray e)):=by
  rintro⟨c1,c2,c3,c4,c5⟩
  obtain⟨i,hi,hib⟩:=zV hby
  have hz':=hz
  unfold dS at hz'
  simp only[Option.map_eq_some_iff,Option.bind_eq_some_iff] at hz'
  obtain⟨zv,⟨i',hi',hzv⟩,hzc⟩:=hz'
  rw[hi] at hi'
  injection hi' with hi'
  subst hi'
  have hisz:i.size=sz:=by
   unfold tsz at hsz
   rw[hi] at hsz
   simpa using hsz
  have:=run_make (P:=P) E.w t e i zv ht hi hzv kl kc l c c1 c2 (by rw[hib];exact c3) c4
  rw[this,hisz]
  congr 3
  apply Array.ext'
  have:=aEY z c.toNat sz c5
  have hzc':zv.cells=z.toArray:=by rw[← hzc]
  simpa[madeCells,hzc'] using this
 cases mt with
 | true=>
  simp only[if_true] at h
  injection h with h1 h2 h3
  subst h1 h2 h3
  obtain⟨c1,c2,c3,c4,c5⟩:=hC
  obtain⟨E',eE,hρ,hk,ho',hx',hx0⟩:=mK (vs:=fX z c.toNat) (t:=e) ho (.alloc E.w _) (cs:=kZ z c.toNat) (by rw[nK,iA];exact Nat.le_refl _)
   (by rw[nK,← iA,List.take_length];exact lO E z _)
  refine⟨E',_,by rw[eE];exact key ⟨c1,c2,c3,c4,c5⟩,?_,ho',hx'⟩
  simp only[bE]
  exact⟨hk,_,_,rfl,by omega,fun k hk=>by injection hk,fun _=>⟨_,hρ,rfl⟩⟩
 | false=>
  simp only[Bool.false_eq_true,if_false] at h
  injection h with h1 h2 h3
  subst h1 h2 h3
  obtain⟨c1,c2,c3,c4,c5⟩:=hC
  have hp:=Pushed.alloc E.w (.cells (fX z c.toNat).toArray e)
  obtain⟨ho1,hx1,hv1⟩:=aHM ho hp (cs:=kZ z l.toNat) (by rw[nK,aHw z _ _ (by omega)];exact lO E z _) l.toNat c.toNat (by omega)
  exact⟨_,_,key ⟨c1,c2,c3,c4,c5⟩,hv1 .no trivial,ho1,hx1⟩
def mG (P:Program) (src dst:TypeId) (x:AV) (objs:List AObj):R:=
 match x with
 | .val (.string s)=>match P.underlying src,P.underlying dst with
  | some .string,some (.slice e)=>.ok (P.underlying e=some (.int .u8)) (.sl s.size (Bs s.data.toList) .no) objs
  | _,_=>.bad
 | _=>.bad
theorem aDZ {P:Program} {E:Env} {src dst:TypeId} {x v:AV} {objs objs':List AObj} {C:Prop} {u:Value} (h:mG P src dst x objs=.ok C v objs') (hC:C) (ho:bP E objs) (hx:bE E x u) :
  ∃ E' u',(convert src dst u).run P E.w=.ok u' E'.w∧bE E' v u'∧bP E' objs'∧Ext E objs E' objs':=by
 unfold mG at h
 split at h
 case h_2=>cases h
 rename_i s
 split at h
 case h_2=>cases h
 rename_i e hs hd
 injection h with h1 h2 h3
 subst h1 h2 h3
 simp only[bE] at hx
 subst hx
 let cap:=(Question.appendCap s.size 0 e).cut (E.w.tape E.w.drawn (.appendCap s.size 0 e))
 have hcap:s.size≤cap:=by simp[cap,Question.cut]
 let row:Array Value:=(s.data.map fun b=>Value.int .u8 (b.toNat:Int))++Array.replicate (cap - s.size) (.int .u8 0)
 have hrow:row.size=cap:=by
  have:s.data.size=s.size:=rfl
  simp[row,this];omega
 let w':World:=(E.w.drew.alloc (.cells row e)).freeze ⟨E.w.heap.size,row.size,none⟩ 1
 have hp:Pushed E.w w' (.cells row.toList.toArray e (row.size,row.size+1)):=by
  have hw:w' = { (E.w.drew.alloc (.cells row e)) with heap:=(E.w.heap.push (.cells row e)).modify E.w.heap.size fun
    | .cells c elem (lo,hi)=>.cells c elem (if lo == hi then (row.size,row.size+1) else (min lo row.size,max hi (row.size+1)))
    | o=>o }:=rfl
  rw[hw]
  refine⟨?_,rfl,rfl,rfl⟩
  apply Array.ext'
  apply List.ext_getElem?
  intro i
  simp only[Array.getElem?_toList,Array.getElem?_modify,Array.getElem?_push]
  split
  ·rename_i hi
   subst hi
   simp
  ·rename_i hi
   have:i≠E.w.heap.size:=fun e=>hi e.symm
   simp[this]
 obtain⟨ho',hx',hv⟩:=aHM ho hp (cs:=Bs s.data.toList) (by
  have e1:row.toList.take (Bs s.data.toList).length=s.data.toList.map fun b=>Value.int .u8 (b.toNat:Int):=by
   have:(Bs s.data.toList).length=(s.data.toList.map fun b=>Value.int .u8 (b.toNat:Int)).length:=by simp[Bs]
   rw[this]
   simp only[row,Array.toList_append,Array.toList_map]
   exact List.take_left
  rw[e1]
  exact oN E _) s.size cap hcap
 refine⟨_,.slice (some ⟨E.w.heap.size,0,none⟩) s.size cap,?_,hv .no trivial,ho',hx'⟩
 have hshape:(E.w.drew.alloc (.cells row e)).shape? E.w.heap.size=some (e,row.size):=by
  have:=heap_alloc_new E.w.drew (.cells row e)
  simp only[World.size_drew] at this
  unfold World.shape?
  rw[this]
 simp only[convert,Sem.run_bind,run_underlying hs,run_underlying hd,run_underlying hC,Result.andThen_ok,Conv.stringToBytes,run_choose,Question.forced,Bool.false_eq_true,if_false,newRow,run_newObj,Sem.run_pure,markStringish,run_shape]
 show ((match (E.w.drew.alloc (.cells row e)).shape? E.w.heap.size with
  | some (_,n)=>freeze { block:=E.w.heap.size,off:=n } 1
  | _=>pure ()).run P (E.w.drew.alloc (.cells row e))).andThen _=_
 rw[hshape]
 rfl
-- no part of a value leads into an object
mutual
def aH:AV→Bool
 | .top=>true
 | .val _=>true
 | .agg cs=>aM cs
 | .tup cs=>aM cs
 | .sl _ cells p=>(match p with | .tok _=>false|_=>true)&&aM cells
 | .osl ..=>false
 | .ptr ..=>false
 | .cptr cells=>aM cells
 | .clo _ caps=>aM caps
 | .mref _=>false
def aM:List AV→Bool
 | []=>true
 | c::cs=>aH c&&aM cs
end
-- neither memory nor objects are told of
mutual
def flat:AV→Bool
 | .top=>true
 | .val _=>true
 | .agg cs=>jE cs
 | .tup cs=>jE cs
 | .sl n cells _=>false
 | .osl ..=>false
 | .ptr ..=>false
 | .cptr _=>false
 | .clo _ caps=>jE caps
 | .mref _=>false
def jE:List AV→Bool
 | []=>true
 | c::cs=>flat c&&jE cs
end
mutual
theorem gI {E E':Env} (hw:E'.w=E.w) (hl:∀ g,g<E.w.heap.size→E.lim g≤E'.lim g):∀ (a:AV) (v:Value),aH a=true→bE E a v→bE E' a v
 | .top,_,_,_=>by simp only[bE]
 | .val u,v,_,h=>by simpa only[bE] using h
 | .agg cs,v,hn,h=>by
  simp only[bE] at h ⊢
  obtain⟨vs,rfl,hl'⟩:=h
  exact⟨vs,rfl,lQ hw hl cs vs hn hl'⟩
 | .tup cs,v,hn,h=>by
  simp only[bE] at h ⊢
  obtain⟨vs,rfl,hl'⟩:=h
  exact⟨vs,rfl,lQ hw hl cs vs hn hl'⟩
 | .sl n cells p,v,hn,h=>by
  simp only[bE] at h ⊢
  simp only[aH,Bool.and_eq_true] at hn
  obtain⟨A,cap,hv,hle,hc,hp⟩:=h
  refine⟨A,cap,hv,hle,?_,?_⟩
  ·rcases hc with rfl|⟨g,o,hA,hg,ho,hat⟩
   ·exact .inl rfl
   ·exact .inr ⟨g,o,hA,by rw[hw];exact hg,Nat.le_trans ho (hl g hg),jB hw hl g cells o hn.2 hat⟩
  ·cases p with
   | no=>trivial
   | full=>exact hp
   | tok r=>simp at hn
 | .osl ..,_,hn,_=>by simp[aH] at hn
 | .ptr ..,_,hn,_=>by simp[aH] at hn
 | .cptr cells,v,hn,h=>by
  simp only[bE] at h ⊢
  obtain⟨g,o,hv,hg,ho,hat⟩:=h
  exact⟨g,o,hv,by rw[hw];exact hg,Nat.le_trans ho (hl g hg),jB hw hl g cells o hn hat⟩
 | .clo f caps,v,hn,h=>by
  simp only[bE] at h ⊢
  obtain⟨vs,hv,hl'⟩:=h
  exact⟨vs,hv,lQ hw hl caps vs hn hl'⟩
 | .mref _,_,hn,_=>by simp[aH] at hn
theorem lQ {E E':Env} (hw:E'.w=E.w) (hl:∀ g,g<E.w.heap.size→E.lim g≤E'.lim g):∀ (cs:List AV) (vs:List Value),aM cs=true→bY E cs vs→bY E' cs vs
 | [],vs,_,h=>by simpa only[bY] using h
 | c::cs,vs,hn,h=>by
  simp only[bY] at h ⊢
  simp only[aM,Bool.and_eq_true] at hn
  obtain⟨v,vs',rfl,h1,h2⟩:=h
  exact⟨v,vs',rfl,gI hw hl c v hn.1 h1,lQ hw hl cs vs' hn.2 h2⟩
theorem jB {E E':Env} (hw:E'.w=E.w) (hl:∀ g,g<E.w.heap.size→E.lim g≤E'.lim g) (g:Nat):∀ (cs:List AV) (o:Nat),aM cs=true→eD E g o cs→eD E' g o cs
 | [],o,_,_=>by simp only[eD]
 | c::cs,o,hn,h=>by
  simp only[eD] at h ⊢
  simp only[aM,Bool.and_eq_true] at hn
  obtain⟨⟨v,hc,hv⟩,hr⟩:=h
  exact⟨⟨v,by rw[hw];exact hc,gI hw hl c v hn.1 hv⟩,jB hw hl g cs (o+1) hn.2 hr⟩
end
mutual
theorem uI {E E':Env}:∀ (a:AV) (v:Value),flat a=true→bE E a v→bE E' a v
 | .top,_,_,_=>by simp only[bE]
 | .val u,v,_,h=>by simpa only[bE] using h
 | .agg cs,v,hn,h=>by
  simp only[bE] at h ⊢
  obtain⟨vs,rfl,hl'⟩:=h
  exact⟨vs,rfl,lI cs vs hn hl'⟩
 | .tup cs,v,hn,h=>by
  simp only[bE] at h ⊢
  obtain⟨vs,rfl,hl'⟩:=h
  exact⟨vs,rfl,lI cs vs hn hl'⟩
 | .sl ..,_,hn,_=>by simp[flat] at hn
 | .osl ..,_,hn,_=>by simp[flat] at hn
 | .ptr ..,_,hn,_=>by simp[flat] at hn
 | .cptr ..,_,hn,_=>by simp[flat] at hn
 | .clo f caps,v,hn,h=>by
  simp only[bE] at h ⊢
  obtain⟨vs,hv,hl'⟩:=h
  exact⟨vs,hv,lI caps vs hn hl'⟩
 | .mref _,_,hn,_=>by simp[flat] at hn
theorem lI {E E':Env}:∀ (cs:List AV) (vs:List Value),jE cs=true→bY E cs vs→bY E' cs vs
 | [],vs,_,h=>by simpa only[bY] using h
 | c::cs,vs,hn,h=>by
  simp only[bY] at h ⊢
  simp only[jE,Bool.and_eq_true] at hn
  obtain⟨v,vs',rfl,h1,h2⟩:=h
  exact⟨v,vs',rfl,uI c v hn.1 h1,lI cs vs' hn.2 h2⟩
end
theorem aJ (l:List UInt8):aM (Bs l)=true:=by induction l<;>simp_all [Bs,B,aM,aH]
theorem aFK (l:List UInt8):jE (Bs l)=true:=by induction l<;>simp_all [Bs,B,jE,flat]
theorem dK (a b:List AV):aM (a++b)=(aM a&&aM b):=by induction a<;>simp_all [aM,Bool.and_assoc]
theorem rQ (a b:List AV):jE (a++b)=(jE a&&jE b):=by induction a<;>simp_all [jE,Bool.and_assoc]
def ACalls (P:Program) (G:Gl) (f:FuncId) (args:List AV) (outs:List AObj) (Q:AV→List AObj→Prop):Prop:=
 (∃ fn,P.funcs[f]? = some fn∧fn.body.isSome=true∧(fn.name == "runtime.NumGoroutine")=false)∧
 ∀ (E:Env) (vs:List Value),bY E args vs→bP E outs→GOk E G→
  Calls P f vs.toArray E.w fun e w'=>∃ E' v r outs',E'.w=w'∧e=.returned v∧Q r outs'∧bE E' r v∧bP E' outs'∧Ext E outs E' outs'
theorem ACalls.mono {P:Program} {G:Gl} {f:FuncId} {args:List AV} {outs:List AObj} {Q Q':AV→List AObj→Prop} (h:ACalls P G f args outs Q) (hq:∀ r o,Q r o→Q' r o):ACalls P G f args outs Q':=
 ⟨h.1,fun E vs h1 h2 h3=>(h.2 E vs h1 h2 h3).mono fun e w' ⟨E',v,r,o,a,b,c,d⟩=>⟨E',v,r,o,a,b,hq _ _ c,d⟩⟩
def bW:Perm→Perm
 | .tok _=>.no
 | p=>p
theorem vY (n:Nat) (cells:List AV) (p:Perm):aH (.sl n cells (bW p))=aM cells:=by cases p<;>simp[aH,bW]
theorem qF {E:Env} {n:Nat} {cells:List AV} {p:Perm} {v:Value} (h:bE E (.sl n cells p) v):bE E (.sl n cells (bW p)) v:=by
 cases p with
 | tok r=>
  simp only[bE] at h
  simp only[bW,bE]
  obtain⟨A,cap,e1,e2,e3,_⟩:=h
  exact⟨A,cap,e1,e2,e3,trivial⟩
 | _=>exact h
def bA (P:Program) (objs:List AObj) (t:TypeId) (a:AV):Option (Prop×Bool×AV):=
 match a with
 | .sl n cells p=>some (aM cells=true,false,.sl n cells (bW p))
 | .osl r off n cap=>match objs[r]?,P.underlying t with
  | some (.cells cs),some (.slice e)=>match tsz P e with
   | some sz=>some (off+n*sz≤cs.length∧aM ((cs.drop off).take (n*sz))=true,true,.sl n ((cs.drop off).take (n*sz)) .no)
   | none=>none
  | _,_=>none
 | .ptr ..=>none
 | a=>some (aH a=true,false,a)
def aT (P:Program) (objs:List AObj):List TypeId→List AV→Option (Prop×Bool×List AV)
 | _,[]=>some (True,false,[])
 | ts,a::as_=>match bA P objs (ts.headD 0) a,aT P objs ts.tail as_ with
  | some (C,b,a'),some (C',b',as')=>some (C∧C',b || b',a'::as')
  | _,_=>none
noncomputable def Env.lend (E:Env) (objs:List AObj):Env:=
 { E with k:=0,lim:=fun g=>(open Classical in if h:∃ r cs,objs[r]? = some (.cells cs)∧dI (.cells cs) (E.ρ r)=some g then (Classical.choose (Classical.choose_spec h)).length else E.lim g) }
theorem aIN {E:Env} {objs:List AObj} (ho:bP E objs) {r g:Nat} {cs:List AV} (hr:objs[r]? = some (.cells cs)) (hg:dI (.cells cs) (E.ρ r)=some g):(E.lend objs).lim g=cs.length:=by
 have h:∃ r cs,objs[r]? = some (.cells cs)∧dI (.cells cs) (E.ρ r)=some g:=⟨r,cs,hr,hg⟩
 simp only[Env.lend]
 rw[dif_pos h]
 obtain⟨h1,h2⟩:=Classical.choose_spec (Classical.choose_spec h)
 have:=ho.2.2 _ _ _ _ g h1 hr h2 hg
 have e:objs[r]? = objs[Classical.choose h]?:=by rw[this]
 have h3:=hr.symm.trans (e.trans h1)
 injection h3 with h3
 injection h3 with h3
 exact congrArg List.length h3.symm
theorem xH {E:Env} {objs:List AObj} {g:Nat} (h:¬ ∃ r cs,objs[r]? = some (.cells cs)∧dI (.cells cs) (E.ρ r)=some g):(E.lend objs).lim g=E.lim g:=by
 simp only[Env.lend]
 rw[dif_neg h]
theorem mU {E:Env} {objs:List AObj} (ho:bP E objs) (g:Nat):E.lim g≤(E.lend objs).lim g:=by
 by_cases h:∃ r cs,objs[r]? = some (.cells cs)∧dI (.cells cs) (E.ρ r)=some g
 ·obtain⟨r,cs,hr,hg⟩:=h
  rcases ho.2.1 r _ hr with rfl|⟨g',vs,t,fz,e,hh,hfz,hl,_⟩
  ·simp[dI] at hg
  ·have:g'=g:=by
    rw[e] at hg
    cases cs with
    | nil=>simp[dI] at hg
    | cons c cs=>simp[dI] at hg;exact hg
   subst this
   omega
 ·rw[xH h]
  exact Nat.le_refl _
theorem nB {P:Program} {E:Env} {objs:List AObj} (ho:bP E objs) {t:TypeId} {a a':AV} {b:Bool} {C:Prop} {v:Value} (h:bA P objs t a=some (C,b,a')) (hC:C) (hv:bE E a v) :
  bE (E.lend objs) a' v∧(b=false→bE { E with k:=0 } a' v):=by
 have hl:=fun g (_:g<E.w.heap.size)=>mU ho g
 unfold bA at h
 split at h
 ·rename_i n cells p
  simp only[Option.some.injEq,Prod.mk.injEq] at h
  obtain⟨rfl,rfl,rfl⟩:=h
  have h0:=qF hv
  have hn:aH (.sl n cells (bW p))=true:=by rw[vY];exact hC
  exact⟨gI (E:=E) (E':=E.lend objs) rfl hl _ _ hn h0,fun _=>gI (E:=E) (E':={ E with k:=0 }) rfl (fun _ _=>Nat.le_refl _) _ _ hn h0⟩
 ·rename_i r off n cap
  split at h
  case h_2=>cases h
  rename_i cs e hr ht
  split at h
  case h_2=>cases h
  rename_i sz hsz
  simp only[Option.some.injEq,Prod.mk.injEq] at h
  obtain⟨rfl,rfl,rfl⟩:=h
  refine⟨?_,fun h=>by cases h⟩
  obtain⟨c1,c2⟩:=hC
  simp only[bE] at hv ⊢
  obtain⟨hk,A,c,rfl,hn,hcap,hpos⟩:=hv
  refine⟨A,c,rfl,hn,?_,trivial⟩
  by_cases h0:((cs.drop off).take (n*sz))=[]
  ·exact .inl h0
  ·right
   have hn0:0<n:=by
    rcases Nat.eq_zero_or_pos n with e|e
    ·subst e;simp at h0
    ·exact e
   obtain⟨g,hg,rfl⟩:=hpos (by omega)
   rcases ho.2.1 r _ hr with rfl|⟨g',vs,ty,fz,e,hh,hfz,hlim,hlen,hrep⟩
   ·simp at h0
   ·rw[hg] at e
    injection e with e
    injection e with e
    injection e with e _
    subst e
    have hown:dI (.cells cs) (E.ρ r)=some g:=by
     rw[hg]
     cases cs with
     | nil=>simp at h0
     | cons=>rfl
    refine⟨g,off,rfl,vV hh,?_,?_⟩
    ·rw[aIN ho hr hown,List.length_take,List.length_drop];omega
    ·exact jB (E:=E) (E':=E.lend objs) rfl hl g _ _ c2 (eD.take (hrep.at_ (off:=off) hh) _)
 ·cases h
 ·simp only[Option.some.injEq,Prod.mk.injEq] at h
  obtain⟨rfl,rfl,rfl⟩:=h
  exact⟨gI (E:=E) (E':=E.lend objs) rfl hl _ _ hC hv,fun _=>gI (E:=E) (E':={ E with k:=0 }) rfl (fun _ _=>Nat.le_refl _) _ _ hC hv⟩
theorem rJ {P:Program} {E:Env} {objs:List AObj} (ho:bP E objs):∀ {ts:List TypeId} {as_ as':List AV} {b:Bool} {C:Prop} {vs:List Value},aT P objs ts as_=some (C,b,as')→C→bY E as_ vs→
  bY (E.lend objs) as' vs∧(b=false→bY { E with k:=0 } as' vs)
 | ts,[],as',b,C,vs,h,hC,hv=>by
  simp only[aT,Option.some.injEq,Prod.mk.injEq] at h
  obtain⟨rfl,rfl,rfl⟩:=h
  simp only[bY] at hv ⊢
  exact⟨hv,fun _=>hv⟩
 | ts,a::as_,as',b,C,vs,h,hC,hv=>by
  unfold aT at h
  split at h
  case h_2=>cases h
  rename_i C1 b1 a1 C2 b2 as2 h1 h2
  simp only[Option.some.injEq,Prod.mk.injEq] at h
  obtain⟨rfl,rfl,rfl⟩:=h
  simp only[bY] at hv ⊢
  obtain⟨v,vs',rfl,hv1,hv2⟩:=hv
  obtain⟨r1,r2⟩:=nB ho h1 hC.1 hv1
  obtain⟨s1,s2⟩:=rJ ho h2 hC.2 hv2
  refine⟨⟨v,vs',rfl,r1,s1⟩,fun hb=>?_⟩
  simp only[Bool.or_eq_false_iff] at hb
  exact⟨v,vs',rfl,r2 hb.1,s2 hb.2⟩
theorem aJH {P:Program} {G:Gl} {E:Env} {objs:List AObj} (ho:bP E objs) (hG:GOk E G) {f:FuncId} {ts:List TypeId} {as_ as':List AV} {b:Bool} {C:Prop} {vs:List Value} {Q:AV→List AObj→Prop}
  (hv:aT P objs ts as_=some (C,b,as')) (hC:C) (hl:bY E as_ vs) (hc:ACalls P G f as' [] Q) (hQ:∀ r os,Q r os→os=[]∧(if b then flat r else aH r)=true) :
  Calls P f vs.toArray E.w fun e w'=>∃ E' v r,E'.w=w'∧e=.returned v∧Q r []∧bE E' r v∧bP E' objs∧Ext E objs E' objs:=by
 obtain⟨h1,h2⟩:=rJ (P:=P) ho hv hC hl
 -- back from the call
 have back:∀ (E0 E1:Env) (r:AV) (v:Value),E0.w=E.w→(∀ g,g<E.w.heap.size→E.lim g≤E0.lim g)→Ext E0 [] E1 []→((b=true∧flat r=true)∨(E0.lim=E.lim∧aH r=true))→bE E1 r v→
   ∃ E',E'.w=E1.w∧bE E' r v∧bP E' objs∧Ext E objs E' objs:=by
  intro E0 E1 r v hw hle hx hr hrep
  have hfr:∀ g,g<E.w.heap.size→E1.w.heap[g]? = E.w.heap[g]?∧E1.lim g=E0.lim g:=fun g hg=>by
   have:=hx.frame g (by rw[hw];exact hg) (by rintro⟨r,o,h,_⟩;simp at h)
   exact⟨by rw[this.1,hw],this.2⟩
  let E':Env:={ w:=E1.w,lim:=fun g=>if g<E.w.heap.size then E.lim g else E1.lim g,k:=E.k,ρ:=E.ρ }
  have hx0:Ext0 E E':=⟨by rw[← hw];exact hx.size,fun g hg=>by show _≤(if _ then _ else _);rw[if_pos hg];exact Nat.le_refl _,fun g o hg _=>iY (hfr g hg).1,Nat.le_refl _,fun _ _=>.refl _⟩
  have hb:∀ g,g<E.w.heap.size→E'.w.heap[g]? = E.w.heap[g]?∧E'.lim g=E.lim g:=fun g hg=>⟨(hfr g hg).1,by show (if _ then _ else _)=_;rw[if_pos hg]⟩
  refine⟨E',rfl,?_,ho.stay hx0 rfl (fun _ _=>rfl) fun g hg=>hb g (qZ ho hg),{ hx0 with os:=by rw[← hw];exact hx.os,tape:=by rw[← hw];exact hx.tape,output:=by rw[← hw];exact hx.output,frame:=fun g hg _=>hb g hg,own:=fun g hg _=>xN ho.1 (fun _ _=>rfl) hg }⟩
  rcases hr with⟨_,hr⟩|⟨e,hr⟩
  ·exact uI r v hr hrep
  ·refine gI (E:=E1) (E':=E') rfl (fun g hg=>?_) r v hr hrep
   show _≤(if _ then _ else _)
   split
   ·rename_i hlt;rw[(hfr g hlt).2,e];exact Nat.le_refl _
   ·exact Nat.le_refl _
 have hnil:∀ E0:Env,E0.k=0→bP E0 []:=fun E0 h=>⟨h,fun r o h=>by simp at h,fun r r' o o' g h=>by simp at h⟩
 cases b with
 | true=>
  refine(hc.2 (E.lend objs) vs h1 (hnil _ rfl) (GOk.move (E:=E) (E':=E.lend objs) rfl (fun g _=>mU ho g) hG)).mono ?_
  rintro e w' ⟨E1,v,r,os,rfl,rfl,hq,hrep,ho1,hx⟩
  obtain⟨rfl,hf⟩:=hQ r _ hq
  have hx':Ext (E.lend objs) [] E1 []:=hx
  obtain⟨E',e1,e2,e3,e4⟩:=back (E.lend objs) E1 r v rfl (fun g _=>mU ho g) hx' (.inl ⟨rfl,by simpa using hf⟩) hrep
  exact⟨E',v,r,e1,rfl,hq,e2,e3,e4⟩
 | false=>
  refine(hc.2 { E with k:=0 } vs (h2 rfl) (hnil _ rfl) (GOk.move (E:=E) (E':={ E with k:=0 }) rfl (fun _ _=>Nat.le_refl _) hG)).mono ?_
  rintro e w' ⟨E1,v,r,os,rfl,rfl,hq,hrep,ho1,hx⟩
  obtain⟨rfl,hf⟩:=hQ r _ hq
  obtain⟨E',e1,e2,e3,e4⟩:=back { E with k:=0 } E1 r v rfl (fun g _=>Nat.le_refl _) hx (.inr ⟨rfl,by simpa using hf⟩) hrep
  exact⟨E',v,r,e1,rfl,hq,e2,e3,e4⟩
def pK (P:Program) (t:TypeId) (a b:AV):Bool:=
 match P.underlying t,a,b with
 | some (.int _),.val (.int k _),.val (.int k' _)=>k == k'
 | some .bool,.val (.bool _),.val (.bool _)=>true
 | some .string,.val (.string _),.val (.string _)=>true
 | _,_,_=>false
def aDh (f:AV→AV→Bool):List AV→List AV→Bool
 | [],[]=>true
 | a::as_,b::bs=>f a b&&aDh f as_ bs
 | _,_=>false
def aFL (P:Program):List Field→Nat→List AV→List AV→Bool
 | [],_,[],[]=>true
 | f::fs,i,a::as_,b::bs=>f.name != "_" && f.offset == i&&pK P f.type a b&&aFL P fs (i+1) as_ bs
 | _,_,_,_=>false
def xA (P:Program) (rec:TypeId→List AV→List AV→Bool):List Field→Nat→List AV→List AV→Bool
 | [],_,[],[]=>true
 | f::fs,i,xs,ys=>match tsz P f.type with
  | some s=>f.name != "_" && f.offset == i&&decide (0<s)&&decide (s≤xs.length)&&decide (s≤ys.length)&&rec f.type (xs.take s) (ys.take s)&&xA P rec fs (i+s) (xs.drop s) (ys.drop s)
  | none=>false
 | _,_,_,_=>false
def mC (P:Program):Nat→TypeId→List AV→List AV→Bool
 | 0,_,_,_=>false
 | d+1,t,xs,ys=>match P.underlying t with
  | some (.array n e)=>decide (tsz P e=some 1)&&decide (xs.length=n)&&aDh (pK P e) xs ys
  | some (.struct fs)=>!P.stoodInHeld t&&xA P (mC P d) fs.toList 0 xs ys
  | _=>match xs,ys with
   | [a],[b]=>pK P t a b
   | _,_=>false
def tC (P:Program) (t:TypeId) (xs ys:List AV):Option (Prop×Bool):=
 match P.underlying t with
 | some (.array n e)=>some (P.eqGuardType P.depth t=false∧tsz P e=some 1∧xs.length=n∧aDh (pK P e) xs ys=true,iN xs ys)
 | some (.struct fs)=>some (P.eqGuardType P.depth t=false∧P.stoodInHeld t=false∧(aFL P fs.toList 0 xs ys=true∨xA P (mC P 9) fs.toList 0 xs ys=true),iN xs ys)
 | _=>none
theorem yK {P:Program} {E:Env} {t:TypeId} {a b:AV} {u v:Value} (h:pK P t a b=true) (ha:bE E a u) (hb:bE E b v) (d:Nat) :
  (Op.equalIn (d+1) t u v).run P E.w=.ok (vQ a b) E.w:=by
 unfold pK at h
 split at h
 ·rename_i k0 k a k' b hu
  simp only[bE] at ha hb
  subst ha hb
  have hk:k=k':=by simpa using h
  subst hk
  rw[run_equalIn_int E.w d t k k0 a b hu]
  rfl
 ·rename_i a b hu
  simp only[bE] at ha hb
  subst ha hb
  rw[run_equalIn_bool' E.w d t a b hu]
  rfl
 ·rename_i a b hu
  simp only[bE] at ha hb
  subst ha hb
  rw[run_equalIn_string E.w d t a b hu]
  rfl
 ·cases h
theorem nC {P:Program} {t:TypeId} {a b:AV} (h:pK P t a b=true):aO (P.underlying t)=some false:=by
 unfold pK at h
 split at h
 ·rename_i hu;rw[hu];rfl
 ·rename_i hu;rw[hu];rfl
 ·rename_i hu;rw[hu];rfl
 ·cases h
theorem aAT {P:Program} {E:Env} {t:TypeId} {cs:List AV} {vs:List Value} {i:Nat} {a:AV} {r:List AV} (hx:bY E cs vs) (hd:cs.drop i=a::r) (ht:aO (P.underlying t)=some false) :
  ∃ u,bE E a u∧(part t vs.toArray i).run P E.w=.ok u E.w:=by
 have hlt:i<cs.length:=by
  rcases Nat.lt_or_ge i cs.length with h|h
  ·exact h
  ·rw[List.drop_eq_nil_of_le h] at hd;cases hd
 have he:cs.getD i .top=a:=by
  have:=congrArg (·[0]?) hd
  simp only[List.getElem?_drop,Nat.add_zero,List.getElem?_cons_zero] at this
  rw[List.getD_eq_getElem?_getD,this]
  rfl
 obtain⟨u,h1,h2⟩:=nA (P:=P) (t:=t) (off:=i) (v:=cs.getD i .top) (C:=i<cs.length) (by unfold apart;rw[ht]) hlt hx
 exact⟨u,he ▸ h1,h2⟩
theorem oE {α:Type} {l:List α} {i:Nat} {a:α} {r:List α} (h:l.drop i=a::r):l.drop (i+1)=r:=by
 have:=congrArg (·.drop 1) h
 simpa[List.drop_drop,Nat.add_comm] using this
theorem aFM {P:Program} {E:Env} {cs ds:List AV} {xs ys:List Value} (hx:bY E cs xs) (hy:bY E ds ys) (d:Nat):∀ (fs:List Field) (i:Nat) (as_ bs:List AV),cs.drop i=as_→ds.drop i=bs→aFL P fs i as_ bs=true→
  (Op.eqFields (d+1) xs.toArray ys.toArray fs).run P E.w=.ok (iN as_ bs) E.w
 | [],i,as_,bs,ha,hb,h=>by
  unfold aFL at h
  split at h<;>first|(simp[Op.eqFields,iN];done)|(cases h;done)|simp_all
 | f::fs,i,as_,bs,ha,hb,h=>by
  cases as_ with
  | nil=>simp[aFL] at h
  | cons a as_=>
   cases bs with
   | nil=>simp[aFL] at h
   | cons b bs=>
    simp only[aFL,Bool.and_eq_true,bne_iff_ne,ne_eq,beq_iff_eq] at h
    obtain⟨⟨⟨hn,ho⟩,hc⟩,hr⟩:=h
    obtain⟨u,hu,pu⟩:=aAT (P:=P) (t:=f.type) hx ha (nC hc)
    obtain⟨v,hv,pv⟩:=aAT (P:=P) (t:=f.type) hy hb (nC hc)
    have hcell:=yK (d:=d) hc hu hv
    have ih:=aFM hx hy d fs (i+1) as_ bs (oE ha) (oE hb) hr
    simp only[Op.eqFields,hn,ne_eq,not_false_eq_true,if_true,Sem.run_bind,ho,pu,pv,hcell,Result.andThen_ok,iN]
    cases vQ a b
    ·simp
    ·simpa using ih
theorem yS {P:Program} {E:Env} {cs ds:List AV} {xs ys:List Value} (hx:bY E cs xs) (hy:bY E ds ys) (d:Nat) (e:TypeId):∀ (n i:Nat) (as_ bs:List AV),cs.drop i=as_→ds.drop i=bs→as_.length=n→aDh (pK P e) as_ bs=true→
  (Op.eqItems (d+1) e 1 xs.toArray ys.toArray (List.range' i n)).run P E.w=.ok (iN as_ bs) E.w
 | 0,i,as_,bs,ha,hb,hl,h=>by
  cases as_ with
  | cons a as_=>simp at hl
  | nil=>
   cases bs with
   | cons b bs=>simp[aDh] at h
   | nil=>simp[Op.eqItems,iN]
 | n+1,i,as_,bs,ha,hb,hl,h=>by
  cases as_ with
  | nil=>simp at hl
  | cons a as_=>
   cases bs with
   | nil=>simp[aDh] at h
   | cons b bs=>
    simp only[aDh,Bool.and_eq_true] at h
    obtain⟨hc,hr⟩:=h
    obtain⟨u,hu,pu⟩:=aAT (P:=P) (t:=e) hx ha (nC hc)
    obtain⟨v,hv,pv⟩:=aAT (P:=P) (t:=e) hy hb (nC hc)
    have hcell:=yK (d:=d) hc hu hv
    have ih:=yS hx hy d e n (i+1) as_ bs (oE ha) (oE hb) (by simpa using hl) hr
    rw[List.range'_succ]
    simp only[Op.eqItems,Nat.mul_one,Sem.run_bind,pu,pv,hcell,Result.andThen_ok,iN]
    cases vQ a b
    ·simp
    ·simpa using ih
theorem rI:∀ (a b c d:List AV),a.length=b.length→iN (a++c) (b++d)=(iN a b&&iN c d)
 | [],[],c,d,_=>by simp[iN]
 | [],_::_,_,_,h=>by simp at h
 | _::_,[],_,_,h=>by simp at h
 | x::a,y::b,c,d,h=>by simp only[List.cons_append,iN,rI a b c d (by simpa using h),Bool.and_assoc]
theorem aIq (xs ys:List AV) (s:Nat) (h1:s≤xs.length) (h2:s≤ys.length):iN xs ys=(iN (xs.take s) (ys.take s)&&iN (xs.drop s) (ys.drop s)):=by
 conv=>lhs;rw[← List.take_append_drop s xs,← List.take_append_drop s ys]
 exact rI _ _ _ _ (by rw[List.length_take,List.length_take];omega)
def lB (P:Program) (t:TypeId) (us:List Value):Value:=if aO (P.underlying t)=some true then .agg us.toArray else us.headD undef
theorem aIU {P:Program} {E:Env} {t:TypeId} {cs:List AV} {vs:List Value} {i s:Nat} (hx:bY E cs vs) (hs:tsz P t=some s) (hle:i+s≤cs.length) (h1:aO (P.underlying t)=some false→s=1) (hd:(P.underlying t).isSome=true) :
  ∃ us:List Value,bY E ((cs.drop i).take s) us∧(part t vs.toArray i).run P E.w=.ok (lB P t us) E.w:=by
 obtain⟨td,htd⟩:=Option.isSome_iff_exists.mp hd
 obtain⟨b,hb⟩:∃ b,aO (P.underlying t)=some b:=by rw[htd];cases td<;>exact⟨_,rfl⟩
 cases b with
 | true=>
  obtain⟨u,hu,hrun⟩:=nA (P:=P) (t:=t) (off:=i) (v:=.agg ((cs.drop i).take s)) (C:=i+s≤cs.length) (by unfold apart;rw[hb,hs]) hle hx
  simp only[bE] at hu
  obtain⟨us,rfl,hus⟩:=hu
  exact⟨us,hus,by unfold lB;rw[hb,if_pos rfl];exact hrun⟩
 | false=>
  have hs1:=h1 hb
  subst hs1
  obtain⟨u,hu,hrun⟩:=nA (P:=P) (t:=t) (off:=i) (v:=cs.getD i .top) (C:=i<cs.length) (by unfold apart;rw[hb]) (by omega) hx
  have hlt:i<cs.length:=by omega
  refine⟨[u],?_,by unfold lB;rw[hb,if_neg (by simp)];exact hrun⟩
  rw[List.drop_eq_getElem_cons hlt,List.take_succ_cons,List.take_zero]
  rw[List.getD_eq_getElem?_getD,List.getElem?_eq_getElem hlt] at hu
  simp only[bY]
  exact⟨u,[],rfl,hu,rfl⟩
theorem yN {P:Program} {E:Env} {rec:TypeId→List AV→List AV→Bool} {d:Nat} {cs ds:List AV} {xs ys:List Value} (hx:bY E cs xs) (hy:bY E ds ys)
  (hrec:∀ t as_ bs us vs,rec t as_ bs=true→bY E as_ us→bY E bs vs→(P.underlying t).isSome=true∧(aO (P.underlying t)=some false→as_.length=1)∧(Op.equalIn d t (lB P t us) (lB P t vs)).run P E.w=.ok (iN as_ bs) E.w) :
  ∀ (fs:List Field) (i:Nat) (as_ bs:List AV),cs.drop i=as_→ds.drop i=bs→xA P rec fs i as_ bs=true→(Op.eqFields d xs.toArray ys.toArray fs).run P E.w=.ok (iN as_ bs) E.w
 | [],i,as_,bs,ha,hb,h=>by
  unfold xA at h
  split at h<;>first|(simp[Op.eqFields,iN];done)|(cases h;done)|simp_all
 | f::fs,i,as_,bs,ha,hb,h=>by
  have h':∃ s,tsz P f.type=some s∧f.name≠"_" ∧ f.offset=i∧0<s∧s≤as_.length∧s≤bs.length∧rec f.type (as_.take s) (bs.take s)=true∧xA P rec fs (i+s) (as_.drop s) (bs.drop s)=true:=by
   rw[xA.eq_2] at h
   split at h
   ·rename_i s hs
    simp only[Bool.and_eq_true,bne_iff_ne,ne_eq,beq_iff_eq,decide_eq_true_eq] at h
    obtain⟨⟨⟨⟨⟨⟨q1,q2⟩,q3⟩,q4⟩,q5⟩,q6⟩,q7⟩:=h
    exact⟨s,hs,q1,q2,q3,q4,q5,q6,q7⟩
   ·cases h
  obtain⟨s,hs,hn,ho,h0,l1,l2,hr,hrest⟩:=h'
  have e1:=congrArg List.length ha
  have e2:=congrArg List.length hb
  rw[List.length_drop] at e1 e2
  have k1:i+s≤cs.length:=by omega
  have k2:i+s≤ds.length:=by omega
  have key:∀ us vs,bY E (as_.take s) us→bY E (bs.take s) vs→(P.underlying f.type).isSome=true∧(aO (P.underlying f.type)=some false→(as_.take s).length=1)∧(Op.equalIn d f.type (lB P f.type us) (lB P f.type vs)).run P E.w=.ok (iN (as_.take s) (bs.take s)) E.w:=fun us vs h1 h2=>hrec _ _ _ _ _ hr h1 h2
  obtain⟨us0,hus0⟩:∃ us,bY E (as_.take s) us:=⟨_,ha ▸ (hx.drop i).take s⟩
  obtain⟨vs0,hvs0⟩:∃ vs,bY E (bs.take s) vs:=⟨_,hb ▸ (hy.drop i).take s⟩
  obtain⟨d1,d2,_⟩:=key us0 vs0 hus0 hvs0
  have hs1:aO (P.underlying f.type)=some false→s=1:=fun h=>by
   have:=d2 h
   rw[List.length_take] at this
   omega
  obtain⟨us,hus,pu⟩:=aIU hx hs k1 hs1 d1
  obtain⟨vs,hvs,pv⟩:=aIU hy hs k2 hs1 d1
  rw[ha] at hus
  rw[hb] at hvs
  obtain⟨_,_,hcell⟩:=key us vs hus hvs
  have ih:=yN hx hy hrec fs (i+s) (as_.drop s) (bs.drop s) (by rw[← ha,List.drop_drop]) (by rw[← hb,List.drop_drop]) hrest
  rw[aIq as_ bs s l1 l2]
  simp only[Op.eqFields,hn,ne_eq,not_false_eq_true,if_true,Sem.run_bind,ho,pu,pv,hcell,Result.andThen_ok]
  cases iN (as_.take s) (bs.take s)
  ·simp
  ·simpa using ih
theorem aCZ {P:Program} {E:Env}:∀ (d:Nat) (t:TypeId) (as_ bs:List AV) (us vs:List Value),mC P d t as_ bs=true→bY E as_ us→bY E bs vs→∀ k,d≤k→
  (P.underlying t).isSome=true∧(aO (P.underlying t)=some false→as_.length=1)∧(Op.equalIn (k+1) t (lB P t us) (lB P t vs)).run P E.w=.ok (iN as_ bs) E.w
 | 0,t,as_,bs,us,vs,h,_,_,k,_=>by simp[mC] at h
 | d+1,t,as_,bs,us,vs,h,ha,hb,k,hk=>by
  unfold mC at h
  split at h
  ·rename_i n e hu
   simp only[Bool.and_eq_true,decide_eq_true_eq] at h
   obtain⟨⟨hsz,hl⟩,hall⟩:=h
   refine⟨by rw[hu];rfl,by rw[hu];simp[aO],?_⟩
   have ho:aO (P.underlying t)=some true:=by rw[hu];rfl
   simp only[lB,ho,if_true]
   unfold tsz at hsz
   cases hi:P.info? e with
   | none=>rw[hi] at hsz;cases hsz
   | some info=>
    have hc:P.cellsOf e=1:=by unfold Program.cellsOf;rw[hsz];rfl
    obtain⟨k',rfl⟩:∃ k',k=k'+1:=⟨k - 1,by omega⟩
    rw[run_equalIn_array E.w (k'+1) _ _ hu hi,hc,List.range_eq_range']
    exact yS ha hb k' e n 0 as_ bs rfl rfl hl hall
  ·rename_i fs hu
   simp only[Bool.and_eq_true,Bool.not_eq_true'] at h
   obtain⟨hp,hf⟩:=h
   refine⟨by rw[hu];rfl,by rw[hu];simp[aO],?_⟩
   have ho:aO (P.underlying t)=some true:=by rw[hu];rfl
   simp only[lB,ho,if_true]
   have hff:P.fieldsOf t=fs:=by unfold Program.fieldsOf;rw[hu]
   obtain⟨k',rfl⟩:∃ k',k=k'+1:=⟨k - 1,by omega⟩
   rw[run_equalIn_struct E.w (k'+1) t _ _ (by rw[hff];exact hu) hp,hff]
   exact yN ha hb (fun t' a' b' u' v' h' h1 h2=>aCZ d t' a' b' u' v' h' h1 h2 k' (by omega)) fs.toList 0 as_ bs rfl rfl hf
  ·rename_i hn1 hn2
   split at h
   ·rename_i a b
    simp only[bY] at ha hb
    obtain⟨u,_,rfl,hu,rfl⟩:=ha
    obtain⟨v,_,rfl,hv,rfl⟩:=hb
    have hpl:=nC h
    refine⟨?_,fun _=>rfl,?_⟩
    ·cases hx:P.underlying t with
     | none=>rw[hx] at hpl;cases hpl
     | some _=>rfl
    ·simp only[seval,lB,hpl,Option.some.injEq,Bool.false_eq_true,if_false,List.headD_cons]
     rw[yK h hu hv k]
     simp[iN]
   ·cases h
theorem aAg {P:Program} {E:Env} {t:TypeId} {xs ys:List AV} {us vs:List Value} {C:Prop} {r:Bool} (h:tC P t xs ys=some (C,r)) (hC:C) (hx:bY E xs us) (hy:bY E ys vs) :
  P.eqGuardType P.depth t=false∧(Op.equalIn 10000 t (.agg us.toArray) (.agg vs.toArray)).run P E.w=.ok r E.w:=by
 unfold tC at h
 split at h
 ·rename_i n e hu
  simp only[Option.some.injEq,Prod.mk.injEq] at h
  obtain⟨rfl,rfl⟩:=h
  obtain⟨hg,hsz,hl,hall⟩:=hC
  refine⟨hg,?_⟩
  unfold tsz at hsz
  cases hi:P.info? e with
  | none=>rw[hi] at hsz;cases hsz
  | some info=>
   rw[show (10000:Nat)=9999+1 from rfl,run_equalIn_array E.w 9999 _ _ hu hi]
   have hc:P.cellsOf e=1:=by unfold Program.cellsOf;rw[hsz];rfl
   rw[hc,List.range_eq_range']
   exact yS hx hy 9998 e n 0 xs ys rfl rfl hl hall
 ·rename_i fs hu
  simp only[Option.some.injEq,Prod.mk.injEq] at h
  obtain⟨rfl,rfl⟩:=h
  obtain⟨hg,hp,hall⟩:=hC
  refine⟨hg,?_⟩
  have hf:P.fieldsOf t=fs:=by unfold Program.fieldsOf;rw[hu]
  rw[show (10000:Nat)=9999+1 from rfl,run_equalIn_struct E.w 9999 t _ _ (by rw[hf];exact hu) hp,hf]
  rcases hall with hall|hall
  ·exact aFM hx hy 9998 fs.toList 0 xs ys rfl rfl hall
  ·exact yN hx hy (fun t' a' b' u' v' h' h1 h2=>aCZ 9 t' a' b' u' v' h' h1 h2 9998 (by omega)) fs.toList 0 xs ys rfl rfl hall
 ·cases h
def aDW (P:Program) (op:BinOp) (t:TypeId) (xs ys:List AV):Option (Prop×AV):=
 match op,tC P t xs ys with
 | .eql,some (C,r)=>some (C,.val (.bool r))
 | .neq,some (C,r)=>some (C,.val (.bool (!r)))
 | _,_=>none
theorem aGT {P:Program} {E:Env} {op:BinOp} {t:TypeId} {xs ys:List AV} {us vs:List Value} {C:Prop} {v:AV} (h:aDW P op t xs ys=some (C,v)) (hC:C) (hx:bY E xs us) (hy:bY E ys vs) (X Y:Operand) :
  ∃ r,bE E v r∧(do eqGuard op t X Y (.agg us.toArray) (.agg vs.toArray);binOp op t (.agg us.toArray) (.agg vs.toArray):Sem Value).run P E.w=.ok r E.w:=by
 unfold aDW at h
 split at h
 ·rename_i C' r hc
  simp only[Option.some.injEq,Prod.mk.injEq] at h
  obtain⟨rfl,rfl⟩:=h
  obtain⟨hg,hrun⟩:=aAg hc hC hx hy
  refine⟨_,by simp only[bE];rfl,?_⟩
  simp only[Sem.run_bind,run_eqGuard_agg E.w _ t X Y _ _ hg,Result.andThen_ok,run_eql_struct,hrun]
 ·rename_i C' r hc
  simp only[Option.some.injEq,Prod.mk.injEq] at h
  obtain⟨rfl,rfl⟩:=h
  obtain⟨hg,hrun⟩:=aAg hc hC hx hy
  refine⟨_,by simp only[bE];rfl,?_⟩
  simp only[Sem.run_bind,run_eqGuard_agg E.w _ t X Y _ _ hg,Result.andThen_ok,run_neq_struct,hrun]
 ·cases h
theorem aDi {P:Program} {e:TypeId} (he:P.underlying e=some (.int .u8)):∀ (a b:List UInt8),a.length=b.length→aDh (pK P e) (Bs a) (Bs b)=true
 | [],[],_=>rfl
 | [],_::_,h=>by simp at h
 | _::_,[],h=>by simp at h
 | x::a,y::b,h=>by
  simp only[Bs,List.map_cons,aDh,Bool.and_eq_true]
  exact⟨by simp[pK,he,B],aDi he a b (by simpa using h)⟩
theorem aAh:∀ (a b:List UInt8),iN (Bs a) (Bs b)=(a == b)
 | [],[]=>rfl
 | [],_::_=>rfl
 | _::_,[]=>rfl
 | x::a,y::b=>by
  have:=aAh a b
  simp only[Bs,List.map_cons,iN] at this ⊢
  rw[this]
  have hc:vQ (B x) (B y)=(x == y):=by
   show ((x.toNat:Int) == (y.toNat:Int))=(x == y)
   rw[Bool.eq_iff_iff]
   simp only[beq_iff_eq,Int.ofNat_inj,UInt8.toNat_inj]
  rw[hc]
  rfl
def eG (P:Program) (src dst:TypeId) (x:AV) (objs:List AObj):Option (Prop×AV):=
 match bA P objs src x with
 | some (C,_,a')=>match fF P src dst a' with
  | some (C',.val u)=>some (C∧C',.val u)
  | _=>none
 | none=>none
theorem aDc {P:Program} {E:Env} {objs:List AObj} {src dst:TypeId} {x v:AV} {C:Prop} {u:Value} (ho:bP E objs) (h:eG P src dst x objs=some (C,v)) (hC:C) (hx:bE E x u) :
  ∃ u',bE E v u'∧(convert src dst u).run P E.w=.ok u' E.w:=by
 unfold eG at h
 split at h
 case h_2=>cases h
 rename_i C1 b a' hv
 split at h
 case h_2=>cases h
 rename_i C2 u2 hc
 simp only[Option.some.injEq,Prod.mk.injEq] at h
 obtain⟨rfl,rfl⟩:=h
 obtain⟨h1,_⟩:=nB (P:=P) ho hv hC.1 hx
 obtain⟨u',h3,h4⟩:=zF (P:=P) hc hC.2 h1
 simp only[bE] at h3
 exact⟨u',by simpa only[bE] using h3,h4⟩
def eH:AObj→Bool
 | .cells cs=>aM cs
 | .map es=>aM (es.map (·.2))
 | _=>true
theorem fM.move {E E':Env} (hw:E'.w=E.w) (hl:E'.lim=E.lim) {u:Value} {o:AObj} (hn:eH o=true) (h:fM E u o):fM E' u o:=by
 cases o with
 | cells cs=>
  rcases h with rfl|⟨g,vs,t,fz,e,hh,hfz,hlim,hlen,hrep⟩
  ·exact .inl rfl
  ·exact .inr ⟨g,vs,t,fz,e,by rw[hw];exact hh,hfz,by rw[hl];exact hlim,hlen,lQ (E:=E) (E':=E') hw (fun g _=>by rw[hl];exact Nat.le_refl _) cs _ hn hrep⟩
 | tok sz n=>
  obtain⟨A,c,e,hn',hc⟩:=h
  refine⟨A,c,e,hn',fun hlt=>?_⟩
  obtain⟨g,o,vs,t,fz,e',hh,hfz,hsz,hlim⟩:=hc hlt
  exact⟨g,o,vs,t,fz,e',by rw[hw];exact hh,hfz,hsz,by rw[hl];exact hlim⟩
 | map es=>
  obtain⟨g,ents,clock,e,hh,hlim,he,hr⟩:=h
  exact⟨g,ents,clock,e,by rw[hw];exact hh,by rw[hl];exact hlim,he,lQ (E:=E) (E':=E') hw (fun g _=>by rw[hl];exact Nat.le_refl _) _ _ hn hr⟩
 | siter str pos=>
  obtain⟨g,e,hh,hlim⟩:=h
  exact⟨g,e,by rw[hw];exact hh,by rw[hl];exact hlim⟩
 | dead=>trivial
def iL (σ:Nat→Nat) (n:Nat):AV→Option AV
 | .ptr r off=>if r<n then some (.ptr (σ r) off) else none
 | .sl m cells (.tok r)=>if r<n∧aM cells=true then some (.sl m cells (.tok (σ r))) else none
 | a=>if aH a=true then some a else none
theorem aBM {E1 E':Env} {σ:Nat→Nat} {n:Nat} (hw:E'.w=E1.w) (hl:E'.lim=E1.lim) (hk:∀ r,r<n→σ r<E'.k∧E'.ρ (σ r)=E1.ρ r) {a a':AV} {v:Value} (h:iL σ n a=some a') (hr:bE E1 a v):bE E' a' v:=by
 have nm:∀ a:AV,aH a=true→bE E1 a v→bE E' a v:=fun a hn hr=>gI (E:=E1) (E':=E') hw (fun g _=>by rw[hl];exact Nat.le_refl _) a v hn hr
 unfold iL at h
 split at h
 ·rename_i r off
  split at h
  case isFalse=>cases h
  rename_i hlt
  injection h with h
  subst h
  simp only[bE] at hr ⊢
  obtain⟨_,g,hg,hv⟩:=hr
  exact⟨(hk r hlt).1,g,by rw[(hk r hlt).2];exact hg,hv⟩
 ·rename_i m cells r
  split at h
  case isFalse=>cases h
  rename_i hlt
  injection h with h
  subst h
  simp only[bE] at hr ⊢
  obtain⟨A,cap,hv,hn,hc,hp⟩:=hr
  refine⟨A,cap,hv,hn,?_,?_⟩
  ·rcases hc with e|⟨g,o,hA,hg,ho,hat⟩
   ·exact .inl e
   ·exact .inr ⟨g,o,hA,by rw[hw];exact hg,by rw[hl];exact ho,jB (E:=E1) (E':=E') hw (fun g _=>by rw[hl];exact Nat.le_refl _) g cells o hlt.2 hat⟩
  ·obtain⟨_,A',m',c,e,hle,heq⟩:=hp
   exact⟨(hk r hlt.1).1,A',m',c,by rw[(hk r hlt.1).2];exact e,hle,fun hm=>by rw[(hk r hlt.1).2];exact heq hm⟩
 ·split at h
  case isFalse=>cases h
  rename_i hn
  injection h with h
  subst h
  exact nm _ hn hr
theorem aCU {E E1:Env} {objs hd os objs':List AObj} {σ:Nat→Nat} {ρ':Nat→Value} (ho:bP E objs) (hn:hd.length≤os.length)
  (hx:Ext { E with k:=hd.length,ρ:=fun i=>E.ρ (σ i) } hd E1 os) (ho1:bP E1 os) (hok:∀ o∈os,eH o=true)
  (h1:∀ i,i<hd.length→objs[σ i]? = hd[i]?) (hinj:∀ i j,i<os.length→j<os.length→σ i=σ j→i=j)
  (h2:∀ i,i<os.length→objs'[σ i]? = os[i]?) (h3:∀ j o,objs'[j]? = some o→(∃ i,i<os.length∧σ i=j)∨((∀ i,i<os.length→σ i≠j)∧objs[j]? = some o))
  (hlen:objs.length≤objs'.length) (hρ1:∀ i,i<os.length→ρ' (σ i)=E1.ρ i) (hρ2:∀ j,j<objs.length→(∀ i,i<os.length→σ i≠j)→ρ' j=E.ρ j) (hnew:∀ i,hd.length≤i→objs.length≤σ i) :
  bP { w:=E1.w,lim:=E1.lim,k:=objs'.length,ρ:=ρ' } objs'∧Ext E objs { w:=E1.w,lim:=E1.lim,k:=objs'.length,ρ:=ρ' } objs':=by
 obtain⟨hk,hobj,hdis⟩:=ho
 obtain⟨hk1,hobj1,hdis1⟩:=ho1
 have hhd:∀ g,Ow { E with k:=hd.length,ρ:=fun i=>E.ρ (σ i) } hd g→∃ i o,i<hd.length∧objs[σ i]? = some o∧dI o (E.ρ (σ i))=some g:=by
  rintro g ⟨i,o,hi,hb⟩
  have hlt:=(List.getElem?_eq_some_iff.1 hi).1
  exact⟨i,o,hlt,(h1 i hlt).trans hi,hb⟩
 have hx0:Ext0 E { w:=E1.w,lim:=E1.lim,k:=objs'.length,ρ:=ρ' }:=by
  refine⟨hx.size,hx.lim,hx.cell,by show E.k≤objs'.length;omega,fun r hr=>?_⟩
  by_cases hc:∃ i,i<os.length∧σ i=r
  ·obtain⟨i,hi,rfl⟩:=hc
   have hlt:i<hd.length:=by
    rcases Nat.lt_or_ge i hd.length with h|h
    ·exact h
    ·have:=hnew i h;omega
   show pF (E.ρ (σ i)) (ρ' (σ i))
   rw[hρ1 i hi]
   exact hx.ρ i hlt
  ·show pF (E.ρ r) (ρ' r)
   rw[hρ2 r (by omega) fun i hi e=>hc ⟨i,hi,e⟩]
   exact .refl _
 -- an object that the call does not see
 have far:∀ j o g,(∀ i,i<os.length→σ i≠j)→objs[j]? = some o→dI o (E.ρ j)=some g→¬ Ow { E with k:=hd.length,ρ:=fun i=>E.ρ (σ i) } hd g:=by
  intro j o g hj hjo hb hw
  obtain⟨i,o',hi,hio,hib⟩:=hhd g hw
  exact hj i (by omega) (hdis (σ i) j o' o g hio hjo hib hb)
 refine⟨⟨rfl,fun j o hj=>?_,fun j1 j2 o1 o2 g q1 q2 b1 b2=>?_⟩,{ hx0 with os:=hx.os,tape:=hx.tape,output:=hx.output,frame:=fun g hg hno=>hx.frame g hg fun hw=>hno ?_,own:=fun g hw hg=>?_ }⟩
 ·rcases h3 j o hj with⟨i,hi,rfl⟩|⟨hne,hjo⟩
  ·have hio:=(h2 i hi).symm.trans hj
   show fM _ (ρ' (σ i)) o
   rw[hρ1 i hi]
   exact fM.move (E:=E1) (E':={ w:=E1.w,lim:=E1.lim,k:=objs'.length,ρ:=ρ' }) rfl rfl (hok o (List.mem_of_getElem? hio)) (hobj1 i o hio)
  ·show fM _ (ρ' j) o
   rw[hρ2 j (List.getElem?_eq_some_iff.1 hjo).1 hne]
   refine(hobj j o hjo).stay hx0 fun g hb=>?_
   exact hx.frame g (pZ (E:=E) (hobj j o hjo) hb) (far j o g hne hjo hb)
 ·simp only at b1 b2
  rcases h3 j1 o1 q1 with⟨i1,hi1,rfl⟩|⟨hn1,p1⟩
  ·have e1:=(h2 i1 hi1).symm.trans q1
   rw[hρ1 i1 hi1] at b1
   rcases h3 j2 o2 q2 with⟨i2,hi2,rfl⟩|⟨hn2,p2⟩
   ·have e2:=(h2 i2 hi2).symm.trans q2
    rw[hρ1 i2 hi2] at b2
    rw[hdis1 i1 i2 o1 o2 g e1 e2 b1 b2]
   ·rw[hρ2 j2 (List.getElem?_eq_some_iff.1 p2).1 hn2] at b2
    exact absurd (hx.own g ⟨i1,o1,e1,b1⟩ (pZ (E:=E) (hobj j2 o2 p2) b2)) (far j2 o2 g hn2 p2 b2)
  ·rw[hρ2 j1 (List.getElem?_eq_some_iff.1 p1).1 hn1] at b1
   rcases h3 j2 o2 q2 with⟨i2,hi2,rfl⟩|⟨hn2,p2⟩
   ·have e2:=(h2 i2 hi2).symm.trans q2
    rw[hρ1 i2 hi2] at b2
    exact absurd (hx.own g ⟨i2,o2,e2,b2⟩ (pZ (E:=E) (hobj j1 o1 p1) b1)) (far j1 o1 g hn1 p1 b1)
   ·rw[hρ2 j2 (List.getElem?_eq_some_iff.1 p2).1 hn2] at b2
    exact hdis j1 j2 o1 o2 g p1 p2 b1 b2
 ·obtain⟨i,o,hi,hio,hib⟩:=hhd g hw
  exact⟨_,o,hio,hib⟩
 ·obtain⟨j,o,hj,hb⟩:=hw
  simp only at hb
  rcases h3 j o hj with⟨i,hi,rfl⟩|⟨hne,hjo⟩
  ·have hio:=(h2 i hi).symm.trans hj
   rw[hρ1 i hi] at hb
   obtain⟨i',o',hi',hio',hib'⟩:=hhd g (hx.own g ⟨i,o,hio,hb⟩ hg)
   exact⟨_,o',hio',hib'⟩
  ·rw[hρ2 j (List.getElem?_eq_some_iff.1 hjo).1 hne] at hb
   exact⟨j,o,hjo,hb⟩
def iV (h:Option Nat):AV→Option AV
 | .ptr r off=>if h=some r then some (.ptr 0 off) else none
 | .sl n cells p=>if aM cells=true then some (.sl n cells (bW p)) else none
 | a=>if aH a=true then some a else none
def fH (h:Option Nat):List AV→Option (List AV)
 | []=>some []
 | a::as_=>match iV h a,fH h as_ with
  | some a',some as'=>some (a'::as')
  | _,_=>none
theorem aFV {E E0:Env} {h:Option Nat} (hw:E0.w=E.w) (hl:E0.lim=E.lim) (hk:∀ r,h=some r→0<E0.k∧E0.ρ 0=E.ρ r) {a a':AV} {v:Value} (hv:iV h a=some a') (hr:bE E a v):bE E0 a' v:=by
 have nm:∀ a:AV,aH a=true→bE E a v→bE E0 a v:=fun a hn hr=>gI (E:=E) (E':=E0) hw (fun g _=>by rw[hl];exact Nat.le_refl _) a v hn hr
 unfold iV at hv
 split at hv
 ·rename_i r off
  split at hv
  case isFalse=>cases hv
  rename_i e
  injection hv with hv
  subst hv
  simp only[bE] at hr ⊢
  obtain⟨_,g,hg,hv⟩:=hr
  exact⟨(hk r e).1,g,by rw[(hk r e).2];exact hg,hv⟩
 ·split at hv
  case isFalse=>cases hv
  rename_i hn
  injection hv with hv
  subst hv
  exact nm _ (by rw[vY];exact hn) (qF hr)
 ·split at hv
  case isFalse=>cases hv
  rename_i hn
  injection hv with hv
  subst hv
  exact nm _ hn hr
theorem rR {E E0:Env} {h:Option Nat} (hw:E0.w=E.w) (hl:E0.lim=E.lim) (hk:∀ r,h=some r→0<E0.k∧E0.ρ 0=E.ρ r):∀ {as_ as':List AV} {vs:List Value},fH h as_=some as'→bY E as_ vs→bY E0 as' vs
 | [],as',vs,hv,hr=>by
  simp only[fH,Option.some.injEq] at hv
  subst hv
  simp only[bY] at hr ⊢
  exact hr
 | a::as_,as',vs,hv,hr=>by
  simp only[fH] at hv
  split at hv
  case h_2=>cases hv
  rename_i b bs h1 h2
  injection hv with hv
  subst hv
  simp only[bY] at hr ⊢
  obtain⟨v,vs',rfl,q1,q2⟩:=hr
  exact⟨v,vs',rfl,aFV hw hl hk h1 q1,rR hw hl hk h2 q2⟩
theorem aLK {P:Program} {G:Gl} {E:Env} {objs:List AObj} (ho:bP E objs) (hG:GOk E G) {f:FuncId} {as_ as':List AV} {vs:List Value} {Q:AV→List AObj→Prop}
  (hv:fH none as_=some as') (hl:bY E as_ vs) (hc:ACalls P G f as' [] Q) {R:AV→List AObj→Prop}
  (hQ:∀ r os,Q r os→(∀ o∈os,eH o=true)∧∃ r',iL (fun i=>objs.length+i) os.length r=some r'∧R r' (objs++os)) :
  Calls P f vs.toArray E.w fun e w'=>∃ E' v r' objs',E'.w=w'∧e=.returned v∧R r' objs'∧bE E' r' v∧bP E' objs'∧Ext E objs E' objs':=by
 have hk:=ho.1
 have hnil:bP { E with k:=0,ρ:=fun i=>E.ρ (objs.length+i) } []:=⟨rfl,fun r o h=>by simp at h,fun r r' o o' g h=>by simp at h⟩
 have hl0:=rR (E:=E) (E0:={ E with k:=0,ρ:=fun i=>E.ρ (objs.length+i) }) rfl rfl (fun r h=>by cases h) hv hl
 refine(hc.2 { E with k:=0,ρ:=fun i=>E.ρ (objs.length+i) } vs hl0 hnil (GOk.move (E:=E) rfl (fun _ _=>Nat.le_refl _) hG)).mono ?_
 rintro e w' ⟨E1,v,r,os,rfl,rfl,hq,hrep,ho1,hx⟩
 obtain⟨hok,r',hr',hR⟩:=hQ r os hq
 let ρ':Nat→Value:=fun j=>if j<objs.length then E.ρ j else E1.ρ (j - objs.length)
 have hb:=aCU (objs:=objs) (hd:=[]) (os:=os) (objs':=objs++os) (σ:=fun i=>objs.length+i) (ρ':=ρ') ho (by simp) hx ho1 hok (fun i h=>by simp at h) (fun i j _ _ h=>by simpa using h)
  (fun i h=>by rw[List.getElem?_append_right (by omega)];congr 1;omega)
  (fun j o h=>by
   by_cases hj:j<objs.length
   ·rw[List.getElem?_append_left hj] at h
    exact .inr ⟨fun i _ e=>by omega,h⟩
   ·refine .inl ⟨j - objs.length,?_,by omega⟩
    have:=(List.getElem?_eq_some_iff.1 h).1
    rw[List.length_append] at this
    omega)
  (by simp) (fun i h=>by
   show (if objs.length+i<objs.length then _ else _)=_
   rw[if_neg (by omega)]
   congr 1
   omega)
  (fun j hj _=>if_pos hj)
  (fun i _=>by omega)
 refine⟨_,v,r',objs++os,?_,rfl,hR,?_,hb.1,hb.2⟩
 ·rfl
 ·refine aBM (E1:=E1) (E':={ w:=E1.w,lim:=E1.lim,k:=(objs++os).length,ρ:=ρ' }) rfl rfl (fun i hi=>⟨?_,?_⟩) hr' hrep
  ·show objs.length+i<(objs++os).length
   rw[List.length_append];omega
  ·show (if objs.length+i<objs.length then _ else _)=_
   rw[if_neg (by omega)]
   congr 1
   omega
theorem aLL {P:Program} {G:Gl} {E:Env} {objs:List AObj} (ho:bP E objs) (hG:GOk E G) {f:FuncId} {as_ as':List AV} {vs:List Value} {Q:AV→List AObj→Prop} {h:Nat} {x:AObj} (hh:objs[h]? = some x) (hxo:eH x=true)
  (hv:fH (some h) as_=some as') (hl:bY E as_ vs) (hc:ACalls P G f as' [x] Q) {R:AV→List AObj→Prop}
  (hQ:∀ r os,Q r os→(∀ o∈os,eH o=true)∧∃ y os',os=y::os'∧∃ r',iL (fun i=>if i=0 then h else objs.length+(i - 1)) os.length r=some r'∧R r' (objs.set h y++os')) :
  Calls P f vs.toArray E.w fun e w'=>∃ E' v r' objs',E'.w=w'∧e=.returned v∧R r' objs'∧bE E' r' v∧bP E' objs'∧Ext E objs E' objs':=by
 have hk:=ho.1
 have hlt:h<objs.length:=(List.getElem?_eq_some_iff.1 hh).1
 let σ:Nat→Nat:=fun i=>if i=0 then h else objs.length+(i - 1)
 have σ0:σ 0=h:=rfl
 have σs:∀ i,0<i→σ i=objs.length+(i - 1):=fun i hi=>if_neg (by omega)
 let E0:Env:={ E with k:=1,ρ:=fun i=>E.ρ (σ i) }
 have hE0:bP E0 [x]:=by
  refine⟨rfl,fun r o hr=>?_,fun r r' o o' g h1 h2 _ _=>?_⟩
  ·have:r=0:=by have:=(List.getElem?_eq_some_iff.1 hr).1;simpa using this
   subst this
   simp at hr
   subst hr
   exact fM.move (E:=E) (E':=E0) rfl rfl hxo (ho.2.1 h x hh)
  ·have e1:r=0:=by have:=(List.getElem?_eq_some_iff.1 h1).1;simpa using this
   have e2:r'=0:=by have:=(List.getElem?_eq_some_iff.1 h2).1;simpa using this
   rw[e1,e2]
 have hl0:=rR (E:=E) (E0:=E0) (h:=some h) rfl rfl (fun r e=>⟨Nat.zero_lt_one,by injection e with e;subst e;rfl⟩) hv hl
 refine(hc.2 E0 vs hl0 hE0 (GOk.move (E:=E) rfl (fun _ _=>Nat.le_refl _) hG)).mono ?_
 rintro e w' ⟨E1,v,r,os,rfl,rfl,hq,hrep,ho1,hx⟩
 obtain⟨hok,y,os',rfl,r',hr',hR⟩:=hQ r os hq
 let ρ':Nat→Value:=fun j=>if j=h then E1.ρ 0 else if j<objs.length then E.ρ j else E1.ρ (j - objs.length+1)
 have hlen:(objs.set h y++os').length=objs.length+os'.length:=by simp
 have hρ1:∀ i,i<(y::os').length→ρ' (σ i)=E1.ρ i:=fun i hi=>by
  by_cases h0:i=0
  ·subst h0;exact if_pos rfl
  ·rw[σs i (by omega)]
   show (if _=h then _ else if _<objs.length then _ else E1.ρ (objs.length+(i - 1) - objs.length+1))=_
   rw[if_neg (by omega),if_neg (by omega)]
   congr 1
   omega
 have hb:=aCU (objs:=objs) (hd:=[x]) (os:=y::os') (objs':=objs.set h y++os') (σ:=σ) (ρ':=ρ') ho (by simp) hx ho1 hok
  (fun i hi=>by
   have:i=0:=by simpa using hi
   subst this
   exact hh)
  (fun i j _ _ e=>by
   by_cases h1:i=0
   ·by_cases h2:j=0
    ·omega
    ·subst h1;rw[σs j (by omega),σ0] at e;omega
   ·by_cases h2:j=0
    ·subst h2;rw[σs i (by omega),σ0] at e;omega
    ·rw[σs i (by omega),σs j (by omega)] at e;omega)
  (fun i hi=>by
   by_cases h0:i=0
   ·subst h0
    rw[σ0,List.getElem?_append_left (by simpa using hlt),List.getElem?_set_self hlt]
    rfl
   ·rw[σs i (by omega),List.getElem?_append_right (by simp),List.length_set]
    obtain⟨i,rfl⟩:∃ k,i=k+1:=⟨i - 1,by omega⟩
    rw[List.getElem?_cons_succ]
    congr 1
    omega)
  (fun j o hj=>by
   by_cases hjl:j<objs.length
   ·rw[List.getElem?_append_left (by simpa using hjl)] at hj
    by_cases e:j=h
    ·exact .inl ⟨0,by simp,e.symm⟩
    ·rw[List.getElem?_set_ne (fun e'=>e e'.symm)] at hj
     refine .inr ⟨fun i _ e'=>?_,hj⟩
     by_cases h0:i=0
     ·subst h0;exact e (e'.symm)
     ·rw[σs i (by omega)] at e';omega
   ·have hl':=(List.getElem?_eq_some_iff.1 hj).1
    rw[hlen] at hl'
    refine .inl ⟨j - objs.length+1,by simp only[List.length_cons];omega,?_⟩
    rw[σs _ (by omega)]
    omega)
  (by rw[hlen];omega) hρ1
  (fun j hj hne=>by
   show (if j=h then _ else if j<objs.length then _ else _)=_
   rw[if_neg (fun e=>hne 0 (by simp) e.symm),if_pos hj])
  (fun i hi=>by
   have h1:1≤i:=by simpa using hi
   rw[σs i (by omega)]
   omega)
 refine⟨_,v,r',_,?_,rfl,hR,?_,hb.1,hb.2⟩
 ·rfl
 ·refine aBM (E1:=E1) (E':={ w:=E1.w,lim:=E1.lim,k:=(objs.set h y++os').length,ρ:=ρ' }) rfl rfl (fun i hi=>⟨?_,hρ1 i hi⟩) hr' hrep
  show σ i<(objs.set h y++os').length
  rw[hlen]
  by_cases h0:i=0
  ·subst h0;rw[σ0];omega
  ·rw[σs i (by omega)]
   simp only[List.length_cons] at hi
   omega
def rB (σ:Nat→Nat):Perm→Perm
 | .tok r=>.tok (σ r)
 | .no=>.no
 | .full=>.full
mutual
def ren (σ:Nat→Nat):AV→AV
 | .top=>.top
 | .val v=>.val v
 | .agg cs=>.agg (gH σ cs)
 | .tup cs=>.tup (gH σ cs)
 | .sl n cells p=>.sl n (gH σ cells) (rB σ p)
 | .osl r off n cap=>.osl (σ r) off n cap
 | .ptr r off=>.ptr (σ r) off
 | .cptr cells=>.cptr (gH σ cells)
 | .clo f caps=>.clo f (gH σ caps)
 | .mref r=>.mref (σ r)
def gH (σ:Nat→Nat):List AV→List AV
 | []=>[]
 | c::cs=>ren σ c::gH σ cs
end
def jH (p:Nat→Bool):Perm→Bool
 | .tok r=>p r
 | .no=>true
 | .full=>true
mutual
def ref (p:Nat→Bool):AV→Bool
 | .top=>true
 | .val _=>true
 | .agg cs=>eV p cs
 | .tup cs=>eV p cs
 | .sl _ cells q=>jH p q&&eV p cells
 | .osl r _ _ _=>p r
 | .ptr r _=>p r
 | .cptr cells=>eV p cells
 | .clo _ caps=>eV p caps
 | .mref r=>p r
def eV (p:Nat→Bool):List AV→Bool
 | []=>true
 | c::cs=>ref p c&&eV p cs
end
def gJ (σ:Nat→Nat):AObj→AObj
 | .cells cs=>.cells (gH σ cs)
 | .tok sz n=>.tok sz n
 | .map es=>.map (es.map fun e=>(e.1,ren σ e.2))
 | .siter s pos=>.siter s pos
 | .dead=>.dead
def fU (p:Nat→Bool):AObj→Bool
 | .cells cs=>eV p cs
 | .map es=>eV p (es.map (·.2))
 | _=>true
theorem nJ (σ:Nat→Nat):∀ cs:List AV,(gH σ cs).length=cs.length
 | []=>rfl
 | c::cs=>by simp only[gH,List.length_cons,nJ σ cs]
theorem tS (σ:Nat→Nat):∀ cs:List AV,gH σ cs=cs.map (ren σ)
 | []=>rfl
 | c::cs=>by simp only[gH,List.map_cons,tS σ cs]
mutual
theorem aTt {σ:Nat→Nat} {p:Nat→Bool} {E E':Env} (hw:E'.w=E.w) (hl:∀ g,g<E.w.heap.size→E.lim g≤E'.lim g) (hk:∀ r,p r=true→σ r<E'.k∧E'.ρ (σ r)=E.ρ r) :
  ∀ (a:AV) (v:Value),ref p a=true→bE E a v→bE E' (ren σ a) v
 | .top,_,_,_=>by simp only[ren,bE]
 | .val u,v,_,h=>by simpa only[ren,bE] using h
 | .agg cs,v,hn,h=>by
  simp only[bE,ren] at h ⊢
  obtain⟨vs,rfl,hl'⟩:=h
  exact⟨vs,rfl,mO hw hl hk cs vs hn hl'⟩
 | .tup cs,v,hn,h=>by
  simp only[bE,ren] at h ⊢
  obtain⟨vs,rfl,hl'⟩:=h
  exact⟨vs,rfl,mO hw hl hk cs vs hn hl'⟩
 | .sl n cells q,v,hn,h=>by
  simp only[bE,ren] at h ⊢
  simp only[ref,Bool.and_eq_true] at hn
  obtain⟨A,cap,hv,hle,hc,hp⟩:=h
  refine⟨A,cap,hv,hle,?_,?_⟩
  ·rcases hc with rfl|⟨g,o,hA,hg,ho,hat⟩
   ·exact .inl rfl
   ·exact .inr ⟨g,o,hA,by rw[hw];exact hg,by rw[nJ];exact Nat.le_trans ho (hl g hg),sB hw hl hk g cells o hn.2 hat⟩
  ·cases q with
   | no=>trivial
   | full=>exact hp
   | tok r=>
    obtain⟨_,A',m,c,e,hnm,heq⟩:=hp
    obtain⟨k1,k2⟩:=hk r hn.1
    exact⟨k1,A',m,c,by rw[k2];exact e,hnm,fun hm=>by rw[k2];exact heq hm⟩
 | .osl r off n cap,v,hn,h=>by
  simp only[bE,ren] at h ⊢
  obtain⟨k1,k2⟩:=hk r hn
  obtain⟨_,A,c,hv,hle,hcap,hpos⟩:=h
  exact⟨k1,A,c,hv,hle,hcap,fun h0=>by rw[k2];exact hpos h0⟩
 | .ptr r off,v,hn,h=>by
  simp only[bE,ren] at h ⊢
  obtain⟨k1,k2⟩:=hk r hn
  obtain⟨_,g,hg,hv⟩:=h
  exact⟨k1,g,by rw[k2];exact hg,hv⟩
 | .cptr cells,v,hn,h=>by
  simp only[bE,ren] at h ⊢
  obtain⟨g,o,hv,hg,ho,hat⟩:=h
  exact⟨g,o,hv,by rw[hw];exact hg,by rw[nJ];exact Nat.le_trans ho (hl g hg),sB hw hl hk g cells o hn hat⟩
 | .clo f caps,v,hn,h=>by
  simp only[bE,ren] at h ⊢
  obtain⟨vs,hv,hl'⟩:=h
  exact⟨vs,hv,mO hw hl hk caps vs hn hl'⟩
 | .mref r,v,hn,h=>by
  simp only[bE,ren] at h ⊢
  obtain⟨k1,k2⟩:=hk r hn
  obtain⟨_,g,hg,hv⟩:=h
  exact⟨k1,g,by rw[k2];exact hg,hv⟩
theorem mO {σ:Nat→Nat} {p:Nat→Bool} {E E':Env} (hw:E'.w=E.w) (hl:∀ g,g<E.w.heap.size→E.lim g≤E'.lim g) (hk:∀ r,p r=true→σ r<E'.k∧E'.ρ (σ r)=E.ρ r) :
  ∀ (cs:List AV) (vs:List Value),eV p cs=true→bY E cs vs→bY E' (gH σ cs) vs
 | [],vs,_,h=>by simpa only[gH,bY] using h
 | c::cs,vs,hn,h=>by
  simp only[bY,gH] at h ⊢
  simp only[eV,Bool.and_eq_true] at hn
  obtain⟨v,vs',rfl,h1,h2⟩:=h
  exact⟨v,vs',rfl,aTt hw hl hk c v hn.1 h1,mO hw hl hk cs vs' hn.2 h2⟩
theorem sB {σ:Nat→Nat} {p:Nat→Bool} {E E':Env} (hw:E'.w=E.w) (hl:∀ g,g<E.w.heap.size→E.lim g≤E'.lim g) (hk:∀ r,p r=true→σ r<E'.k∧E'.ρ (σ r)=E.ρ r) (g:Nat) :
  ∀ (cs:List AV) (o:Nat),eV p cs=true→eD E g o cs→eD E' g o (gH σ cs)
 | [],o,_,_=>by simp only[gH,eD]
 | c::cs,o,hn,h=>by
  simp only[eD,gH] at h ⊢
  simp only[eV,Bool.and_eq_true] at hn
  obtain⟨⟨v,hc,hv⟩,hr⟩:=h
  exact⟨⟨v,by rw[hw];exact hc,aTt hw hl hk c v hn.1 hv⟩,sB hw hl hk g cs (o+1) hn.2 hr⟩
end
theorem jW (σ:Nat→Nat) (o:AObj) (u:Value):dI (gJ σ o) u=dI o u:=by
 cases o with
 | cells cs=>cases cs with
  | nil=>rfl
  | cons c cs=>cases u<;>first|rfl|(rename_i a;cases a<;>rfl)
 | tok sz n=>rfl
 | map es=>cases u<;>first|rfl|(rename_i a;cases a<;>rfl)
 | siter str pos=>rfl
 | dead=>rfl
theorem fM.ren {σ:Nat→Nat} {p:Nat→Bool} {E E':Env} (hw:E'.w=E.w) (hl:∀ g,g<E.w.heap.size→E.lim g≤E'.lim g) (hk:∀ r,p r=true→σ r<E'.k∧E'.ρ (σ r)=E.ρ r) {u:Value} {o:AObj}
  (hsame:∀ g,dI o u=some g→E'.lim g=E.lim g) (hn:fU p o=true) (h:fM E u o):fM E' u (gJ σ o):=by
 cases o with
 | cells cs=>
  rcases h with rfl|⟨g,vs,t,fz,e,hh,hfz,hlim,hlen,hrep⟩
  ·exact .inl rfl
  ·cases cs with
   | nil=>exact .inl rfl
   | cons c cs=>
    have hg:E'.lim g=E.lim g:=hsame g (by rw[e];rfl)
    refine .inr ⟨g,vs,t,fz,e,by rw[hw];exact hh,hfz,by rw[hg];exact hlim,by rw[nJ];exact hlen,?_⟩
    rw[nJ]
    exact mO hw hl hk _ _ hn hrep
 | tok sz n=>
  obtain⟨A,c,e,hn',hc⟩:=h
  refine⟨A,c,e,hn',fun hlt=>?_⟩
  obtain⟨g,o,vs,t,fz,e',hh,hfz,hsz,hlim⟩:=hc hlt
  refine⟨g,o,vs,t,fz,e',by rw[hw];exact hh,hfz,hsz,?_⟩
  rw[hsame g (by subst e;subst e';simp[dI,hlt])]
  exact hlim
 | map es=>
  obtain⟨g,ents,clock,e,hh,hlim,he,hr⟩:=h
  have h2:(es.map fun e=>(e.1,V.ren σ e.2)).map (·.2)=gH σ (es.map (·.2)):=by
   rw[List.map_map,tS,List.map_map]
   rfl
  have h1:(es.map fun e=>(e.1,V.ren σ e.2)).map (·.1)=es.map (·.1):=by
   rw[List.map_map]
   rfl
  exact⟨g,ents,clock,e,by rw[hw];exact hh,by rw[hsame g (by subst e;rfl)];exact hlim,by rw[h1];exact he,by rw[h2];exact mO hw hl hk _ _ hn hr⟩
 | siter str pos=>
  obtain⟨g,e,hh,hlim⟩:=h
  exact⟨g,e,by rw[hw];exact hh,by rw[hsame g (by subst e;rfl)];exact hlim⟩
 | dead=>trivial
theorem aLF {E E1:Env} {objs hd os objs':List AObj} {σ:Nat→Nat} {ρ':Nat→Value} {n0:Nat} (ho:bP E objs) (hn0:n0=hd.length) (hn:n0≤os.length)
  (hx:Ext { E with k:=n0,ρ:=fun i=>E.ρ (σ i) } hd E1 os) (ho1:bP E1 os) (hok:∀ o∈os,fU (fun r=>decide (r<os.length)) o=true)
  (h1:∀ i u,i<n0→(objs[σ i]?).bind (fun o=>dI o u)=(hd[i]?).bind (fun o=>dI o u)) (h1':∀ i,i<n0→σ i<objs.length) (hinj:∀ i j,i<os.length→j<os.length→σ i=σ j→i=j)
  (h2:∀ i,i<os.length→objs'[σ i]? = (os[i]?).map (gJ σ)) (h3:∀ j o,objs'[j]? = some o→(∃ i,i<os.length∧σ i=j)∨((∀ i,i<os.length→σ i≠j)∧objs[j]? = some o))
  (hlen:objs.length≤objs'.length) (hσ:∀ i,i<os.length→σ i<objs'.length) (hρ1:∀ i,i<os.length→ρ' (σ i)=E1.ρ i) (hρ2:∀ j,j<objs.length→(∀ i,i<os.length→σ i≠j)→ρ' j=E.ρ j) (hnew:∀ i,n0≤i→objs.length≤σ i) :
  bP { w:=E1.w,lim:=E1.lim,k:=objs'.length,ρ:=ρ' } objs'∧Ext E objs { w:=E1.w,lim:=E1.lim,k:=objs'.length,ρ:=ρ' } objs':=by
 obtain⟨hk,hobj,hdis⟩:=ho
 obtain⟨hk1,hobj1,hdis1⟩:=ho1
 have hhd:∀ g,Ow { E with k:=n0,ρ:=fun i=>E.ρ (σ i) } hd g→∃ i o,i<n0∧objs[σ i]? = some o∧dI o (E.ρ (σ i))=some g:=by
  rintro g ⟨i,o,hi,hb⟩
  have hlt:i<n0:=by rw[hn0];exact(List.getElem?_eq_some_iff.1 hi).1
  have e:=h1 i (E.ρ (σ i)) hlt
  rw[hi] at e
  simp only[Option.bind_some] at e
  rw[hb] at e
  obtain⟨o',ho',hb'⟩:=Option.bind_eq_some_iff.1 e
  exact⟨i,o',hlt,ho',hb'⟩
 have hhd':∀ i o g,i<n0→objs[σ i]? = some o→dI o (E.ρ (σ i))=some g→Ow { E with k:=n0,ρ:=fun i=>E.ρ (σ i) } hd g:=by
  intro i o g hi ho hb
  have e:=h1 i (E.ρ (σ i)) hi
  rw[ho] at e
  simp only[Option.bind_some] at e
  rw[hb] at e
  obtain⟨o',ho',hb'⟩:=Option.bind_eq_some_iff.1 e.symm
  exact⟨i,o',ho',hb'⟩
 have hx0:Ext0 E { w:=E1.w,lim:=E1.lim,k:=objs'.length,ρ:=ρ' }:=by
  refine⟨hx.size,hx.lim,hx.cell,by show E.k≤objs'.length;omega,fun r hr=>?_⟩
  by_cases hc:∃ i,i<os.length∧σ i=r
  ·obtain⟨i,hi,rfl⟩:=hc
   have hlt:i<n0:=by
    rcases Nat.lt_or_ge i n0 with h|h
    ·exact h
    ·have:=hnew i h;omega
   show pF (E.ρ (σ i)) (ρ' (σ i))
   rw[hρ1 i hi]
   exact hx.ρ i hlt
  ·show pF (E.ρ r) (ρ' r)
   rw[hρ2 r (by omega) fun i hi e=>hc ⟨i,hi,e⟩]
   exact .refl _
 have far:∀ j o g,(∀ i,i<os.length→σ i≠j)→objs[j]? = some o→dI o (E.ρ j)=some g→¬ Ow { E with k:=n0,ρ:=fun i=>E.ρ (σ i) } hd g:=by
  intro j o g hj hjo hb hw
  obtain⟨i,o',hi,hio,hib⟩:=hhd g hw
  exact hj i (by omega) (hdis (σ i) j o' o g hio hjo hib hb)
 have hmap:∀ i o,i<os.length→objs'[σ i]? = some o→∃ oi,os[i]? = some oi∧o=gJ σ oi:=by
  intro i o hi ho
  rw[h2 i hi] at ho
  obtain⟨oi,e1,e2⟩:=Option.map_eq_some_iff.1 ho
  exact⟨oi,e1,e2.symm⟩
 refine⟨⟨rfl,fun j o hj=>?_,fun j1 j2 o1 o2 g q1 q2 b1 b2=>?_⟩,{ hx0 with os:=hx.os,tape:=hx.tape,output:=hx.output,frame:=fun g hg hno=>hx.frame g hg fun hw=>hno ?_,own:=fun g hw hg=>?_ }⟩
 ·rcases h3 j o hj with⟨i,hi,rfl⟩|⟨hne,hjo⟩
  ·obtain⟨oi,hio,rfl⟩:=hmap i o hi hj
   show fM _ (ρ' (σ i)) (gJ σ oi)
   rw[hρ1 i hi]
   refine fM.ren (p:=fun r=>decide (r<os.length)) (E:=E1) (E':={ w:=E1.w,lim:=E1.lim,k:=objs'.length,ρ:=ρ' }) rfl (fun _ _=>Nat.le_refl _) (fun r hr=>?_) (fun _ _=>rfl) (hok oi (List.mem_of_getElem? hio)) (hobj1 i oi hio)
   have hr':r<os.length:=of_decide_eq_true hr
   exact⟨hσ r hr',hρ1 r hr'⟩
  ·show fM _ (ρ' j) o
   rw[hρ2 j (List.getElem?_eq_some_iff.1 hjo).1 hne]
   refine(hobj j o hjo).stay hx0 fun g hb=>?_
   exact hx.frame g (pZ (E:=E) (hobj j o hjo) hb) (far j o g hne hjo hb)
 ·simp only at b1 b2
  rcases h3 j1 o1 q1 with⟨i1,hi1,rfl⟩|⟨hn1,p1⟩
  ·obtain⟨x1,e1,rfl⟩:=hmap i1 o1 hi1 q1
   rw[hρ1 i1 hi1,jW] at b1
   rcases h3 j2 o2 q2 with⟨i2,hi2,rfl⟩|⟨hn2,p2⟩
   ·obtain⟨x2,e2,rfl⟩:=hmap i2 o2 hi2 q2
    rw[hρ1 i2 hi2,jW] at b2
    rw[hdis1 i1 i2 x1 x2 g e1 e2 b1 b2]
   ·rw[hρ2 j2 (List.getElem?_eq_some_iff.1 p2).1 hn2] at b2
    exact absurd (hx.own g ⟨i1,x1,e1,b1⟩ (pZ (E:=E) (hobj j2 o2 p2) b2)) (far j2 o2 g hn2 p2 b2)
  ·rw[hρ2 j1 (List.getElem?_eq_some_iff.1 p1).1 hn1] at b1
   rcases h3 j2 o2 q2 with⟨i2,hi2,rfl⟩|⟨hn2,p2⟩
   ·obtain⟨x2,e2,rfl⟩:=hmap i2 o2 hi2 q2
    rw[hρ1 i2 hi2,jW] at b2
    exact absurd (hx.own g ⟨i2,x2,e2,b2⟩ (pZ (E:=E) (hobj j1 o1 p1) b1)) (far j1 o1 g hn1 p1 b1)
   ·rw[hρ2 j2 (List.getElem?_eq_some_iff.1 p2).1 hn2] at b2
    exact hdis j1 j2 o1 o2 g p1 p2 b1 b2
 ·obtain⟨i,o,hi,hio,hib⟩:=hhd g hw
  exact⟨_,o,hio,hib⟩
 ·obtain⟨j,o,hj,hb⟩:=hw
  simp only at hb
  rcases h3 j o hj with⟨i,hi,rfl⟩|⟨hne,hjo⟩
  ·obtain⟨oi,hio,rfl⟩:=hmap i o hi hj
   rw[hρ1 i hi,jW] at hb
   obtain⟨i',o',hi',hio',hib'⟩:=hhd g (hx.own g ⟨i,oi,hio,hb⟩ hg)
   exact⟨_,o',hio',hib'⟩
  ·rw[hρ2 j (List.getElem?_eq_some_iff.1 hjo).1 hne] at hb
   exact⟨j,o,hjo,hb⟩
def gG:List AObj→List Nat→List AObj→List AObj
 | objs,[],_=>objs
 | objs,h::hs,os=>gG (objs.set h (os.headD .dead)) hs os.tail
theorem jC:∀ (objs:List AObj) (hs:List Nat) (os:List AObj),(gG objs hs os).length=objs.length
 | objs,[],os=>rfl
 | objs,h::hs,os=>by simp only[gG,jC,List.length_set]
theorem sD:∀ (objs:List AObj) (hs:List Nat) (os:List AObj) (j:Nat),j∉hs→(gG objs hs os)[j]? = objs[j]?
 | objs,[],os,j,_=>rfl
 | objs,h::hs,os,j,hj=>by
  simp only[List.mem_cons,not_or] at hj
  simp only[gG]
  rw[sD _ hs _ j hj.2,List.getElem?_set_ne (fun e=>hj.1 e.symm)]
theorem yY:∀ (objs:List AObj) (hs:List Nat) (os:List AObj) (i:Nat),hs.Nodup→i<hs.length→i<os.length→(∀ h∈hs,h<objs.length)→(gG objs hs os)[hs.getD i 0]? = os[i]?
 | objs,[],os,i,_,hi,_,_=>by simp at hi
 | objs,h::hs,[],i,hnd,hi,hio,hlt=>by simp at hio
 | objs,h::hs,o::os,i,hnd,hi,hio,hlt=>by
  simp only[gG,List.headD_cons,List.tail_cons]
  have hnd':=List.nodup_cons.1 hnd
  cases i with
  | zero=>
   simp only[List.getD_cons_zero,List.getElem?_cons_zero]
   rw[sD _ hs _ h hnd'.1,List.getElem?_set_self (hlt h (by simp))]
  | succ i=>
   simp only[List.getD_cons_succ,List.getElem?_cons_succ]
   exact yY _ hs os i hnd'.2 (by simpa using hi) (by simpa using hio) fun x hx=>by rw[List.length_set];exact hlt x (by simp[hx])
def nR (P:Program) (objs:List AObj) (hs:List Nat) (t:TypeId) (a:AV):Option (Prop×Bool×AV):=
 match a with
 | .ptr r off=>if hs.contains r then some (True,false,.ptr (hs.idxOf r) off) else none
 | .osl r off n cap=>if hs.contains r then some (True,false,.osl (hs.idxOf r) off n cap) else match objs[r]?,P.underlying t with
  | some (.cells cs),some (.slice e)=>match tsz P e with
   | some sz=>some (off+n*sz≤cs.length∧aM ((cs.drop off).take (n*sz))=true,true,.sl n ((cs.drop off).take (n*sz)) .no)
   | none=>none
  | _,_=>none
 | .sl n cells p=>some (aM cells=true,false,.sl n cells (bW p))
 | .mref r=>if hs.contains r then some (True,false,.mref (hs.idxOf r)) else none
 | .clo f caps=>if eV (fun r=>hs.contains r) caps then some (True,false,.clo f (gH (fun r=>hs.idxOf r) caps)) else none
 | .agg cs=>if eV (fun r=>hs.contains r) cs then some (True,false,.agg (gH (fun r=>hs.idxOf r) cs)) else none
 | a=>some (aH a=true,false,a)
def gT (P:Program) (objs:List AObj) (hs:List Nat):List TypeId→List AV→Option (Prop×Bool×List AV)
 | _,[]=>some (True,false,[])
 | ts,a::as_=>match nR P objs hs (ts.headD 0) a,gT P objs hs ts.tail as_ with
  | some (C,b,a'),some (C',b',as')=>some (C∧C',b || b',a'::as')
  | _,_=>none
def jV:List AObj→List Nat→List AObj
 | objs,[]=>objs
 | objs,h::hs=>jV (objs.set h .dead) hs
theorem vC:∀ (objs:List AObj) (hs:List Nat),(jV objs hs).length=objs.length
 | objs,[]=>rfl
 | objs,h::hs=>by simp only[jV,vC,List.length_set]
theorem sA:∀ (objs:List AObj) (hs:List Nat) (j:Nat),j∉hs→(jV objs hs)[j]? = objs[j]?
 | objs,[],j,_=>rfl
 | objs,h::hs,j,hj=>by
  simp only[List.mem_cons,not_or] at hj
  simp only[jV]
  rw[sA _ hs j hj.2,List.getElem?_set_ne (fun e=>hj.1 e.symm)]
theorem aCz:∀ (objs:List AObj) (hs:List Nat) (j:Nat) (o:AObj),j∈hs→(jV objs hs)[j]? = some o→o=.dead
 | objs,[],j,o,hj,_=>by simp at hj
 | objs,h::hs,j,o,hj,ho=>by
  simp only[jV] at ho
  by_cases hm:j∈hs
  ·exact aCz _ hs j o hm ho
  ·have:j=h:=by simpa[hm] using hj
   subst this
   rw[sA _ hs j hm,List.getElem?_set] at ho
   split at ho
   ·split at ho
    ·injection ho with ho;exact ho.symm
    ·cases ho
   ·rename_i hne;exact absurd rfl hne
theorem rZ {objs:List AObj} {hs:List Nat} {j:Nat} {o:AObj} (h:(jV objs hs)[j]? = some o):o=.dead∨(j∉hs∧objs[j]? = some o):=by
 by_cases hm:j∈hs
 ·exact .inl (aCz objs hs j o hm h)
 ·exact .inr ⟨hm,by rw[← sA objs hs j hm];exact h⟩
theorem wB {E:Env} {objs:List AObj} (hs:List Nat) (ho:bP E objs):bP E (jV objs hs):=by
 refine⟨by rw[vC];exact ho.1,fun r o hr=>?_,fun r r' o o' g h1 h2 b1 b2=>?_⟩
 ·rcases rZ hr with rfl|⟨_,h⟩
  ·trivial
  ·exact ho.2.1 r o h
 ·rcases rZ h1 with rfl|⟨_,q1⟩
  ·simp[dI] at b1
  ·rcases rZ h2 with rfl|⟨_,q2⟩
   ·simp[dI] at b2
   ·exact ho.2.2 r r' o o' g q1 q2 b1 b2
theorem aFR {P:Program} {E E0:Env} {objs:List AObj} {hs:List Nat} (ho:bP E objs) {t:TypeId} {a a':AV} {b lend:Bool} {C:Prop} {v:Value} (hb:b=true→lend=true)
  (hw:E0.w=E.w) (hl:E0.lim=if lend then (E.lend (jV objs hs)).lim else E.lim) (hk:∀ r,hs.contains r=true→hs.idxOf r<E0.k∧E0.ρ (hs.idxOf r)=E.ρ r)
  (h:nR P objs hs t a=some (C,b,a')) (hC:C) (hv:bE E a v):bE E0 a' v:=by
 have hle:∀ g,g<E.w.heap.size→E.lim g≤E0.lim g:=fun g _=>by
  rw[hl]
  cases lend with
  | true=>exact mU (wB hs ho) g
  | false=>exact Nat.le_refl _
 have nm:∀ a:AV,aH a=true→bE E a v→bE E0 a v:=fun a hn hr=>gI (E:=E) (E':=E0) hw hle a v hn hr
 unfold nR at h
 split at h
 ·rename_i r off
  split at h
  case isFalse=>cases h
  rename_i hc
  simp only[Option.some.injEq,Prod.mk.injEq] at h
  obtain⟨rfl,rfl,rfl⟩:=h
  exact aTt (σ:=fun r=>hs.idxOf r) (p:=fun r=>hs.contains r) hw hle hk _ v (by simpa only[ref] using hc) hv
 ·rename_i r off n cap
  split at h
  ·rename_i hc
   simp only[Option.some.injEq,Prod.mk.injEq] at h
   obtain⟨rfl,rfl,rfl⟩:=h
   exact aTt (σ:=fun r=>hs.idxOf r) (p:=fun r=>hs.contains r) hw hle hk _ v (by simpa only[ref] using hc) hv
  ·rename_i hc
   have hnm:r∉hs:=by simpa using hc
   have ho':=wB hs ho
   have e0:bA P (jV objs hs) t (.osl r off n cap)=some (C,b,a'):=by
    unfold bA
    simp only
    rw[sA objs hs r hnm]
    exact h
   have hbt:b=true:=by
    revert e0
    unfold bA
    simp only
    split
    ·split
     ·intro e;simp only[Option.some.injEq,Prod.mk.injEq] at e;exact e.2.1.symm
     ·intro e;cases e
    ·intro e;cases e
   have hlt:=hb hbt
   subst hlt
   have h1:=(nB (P:=P) ho' e0 hC hv).1
   have hnr:aH a'=true:=by
    revert e0
    unfold bA
    simp only
    split
    ·split
     ·intro e
      simp only[Option.some.injEq,Prod.mk.injEq] at e
      obtain⟨e1,_,rfl⟩:=e
      simp only[aH,Bool.true_and]
      rw[← e1] at hC
      exact hC.2
     ·intro e;cases e
    ·intro e;cases e
   refine gI (E:=E.lend (jV objs hs)) (E':=E0) hw (fun g _=>?_) a' v hnr h1
   rw[hl]
   exact Nat.le_refl _
 ·simp only[Option.some.injEq,Prod.mk.injEq] at h
  obtain⟨rfl,rfl,rfl⟩:=h
  exact nm _ (by rw[vY];exact hC) (qF hv)
 ·split at h
  case isFalse=>cases h
  rename_i hc
  simp only[Option.some.injEq,Prod.mk.injEq] at h
  obtain⟨rfl,rfl,rfl⟩:=h
  exact aTt (σ:=fun r=>hs.idxOf r) (p:=fun r=>hs.contains r) hw hle hk _ v (by simpa only[ref] using hc) hv
 ·split at h
  case isFalse=>cases h
  rename_i hc
  simp only[Option.some.injEq,Prod.mk.injEq] at h
  obtain⟨rfl,rfl,rfl⟩:=h
  have:=aTt (σ:=fun r=>hs.idxOf r) (p:=fun r=>hs.contains r) hw hle hk _ v (by simpa only[ref] using hc) hv
  simpa only[ren] using this
 ·split at h
  case isFalse=>cases h
  rename_i hc
  simp only[Option.some.injEq,Prod.mk.injEq] at h
  obtain⟨rfl,rfl,rfl⟩:=h
  have:=aTt (σ:=fun r=>hs.idxOf r) (p:=fun r=>hs.contains r) hw hle hk _ v (by simpa only[ref] using hc) hv
  simpa only[ren] using this
 ·simp only[Option.some.injEq,Prod.mk.injEq] at h
  obtain⟨rfl,rfl,rfl⟩:=h
  exact nm _ hC hv
theorem xD {P:Program} {E E0:Env} {objs:List AObj} {hs:List Nat} (ho:bP E objs) {lend:Bool}
  (hw:E0.w=E.w) (hl:E0.lim=if lend then (E.lend (jV objs hs)).lim else E.lim) (hk:∀ r,hs.contains r=true→hs.idxOf r<E0.k∧E0.ρ (hs.idxOf r)=E.ρ r) :
  ∀ {ts:List TypeId} {as_ as':List AV} {b:Bool} {C:Prop} {vs:List Value},(b=true→lend=true)→gT P objs hs ts as_=some (C,b,as')→C→bY E as_ vs→bY E0 as' vs
 | ts,[],as',b,C,vs,hb,h,hC,hv=>by
  simp only[gT,Option.some.injEq,Prod.mk.injEq] at h
  obtain⟨rfl,rfl,rfl⟩:=h
  simp only[bY] at hv ⊢
  exact hv
 | ts,a::as_,as',b,C,vs,hb,h,hC,hv=>by
  unfold gT at h
  split at h
  case h_2=>cases h
  rename_i C1 b1 a1 C2 b2 as2 h1 h2
  simp only[Option.some.injEq,Prod.mk.injEq] at h
  obtain⟨rfl,rfl,rfl⟩:=h
  simp only[bY] at hv ⊢
  obtain⟨v,vs',rfl,hv1,hv2⟩:=hv
  exact⟨v,vs',rfl,aFR ho (fun e=>hb (by rw[e];rfl)) hw hl hk h1 hC.1 hv1,xD ho hw hl hk (fun e=>hb (by rw[e];simp)) h2 hC.2 hv2⟩
def aOk:AObj→Bool
 | .cells cs=>jE cs
 | .map es=>jE (es.map (·.2))
 | _=>true
theorem fM.flat {E E':Env} (hw:E'.w=E.w) {u:Value} {o:AObj} (hn:aOk o=true) (hlim:∀ g,dI o u=some g→E'.lim g=E.lim g) (h:fM E u o):fM E' u o:=by
 cases o with
 | cells cs=>
  rcases h with rfl|⟨g,vs,t,fz,e,hh,hfz,hl,hlen,hrep⟩
  ·exact .inl rfl
  ·cases cs with
   | nil=>exact .inl rfl
   | cons c cs=>exact .inr ⟨g,vs,t,fz,e,by rw[hw];exact hh,hfz,by rw[hlim g (by rw[e];rfl)];exact hl,hlen,lI _ _ hn hrep⟩
 | tok sz n=>
  obtain⟨A,c,e,hn',hc⟩:=h
  refine⟨A,c,e,hn',fun hlt=>?_⟩
  obtain⟨g,o,vs,t,fz,e',hh,hfz,hsz,hl⟩:=hc hlt
  refine⟨g,o,vs,t,fz,e',by rw[hw];exact hh,hfz,hsz,?_⟩
  rw[hlim g (by subst e;subst e';simp[dI,hlt])]
  exact hl
 | map es=>
  obtain⟨g,ents,clock,e,hh,hl,he,hr⟩:=h
  exact⟨g,ents,clock,e,by rw[hw];exact hh,by rw[hlim g (by subst e;rfl)];exact hl,he,lI _ _ hn hr⟩
 | siter str pos=>
  obtain⟨g,e,hh,hl⟩:=h
  exact⟨g,e,by rw[hw];exact hh,by rw[hlim g (by subst e;rfl)];exact hl⟩
 | dead=>trivial
def σn (objs:List AObj) (hs:List Nat) (i:Nat):Nat:=if i<hs.length then hs.getD i 0 else objs.length+(i - hs.length)
def GHd (objs:List AObj) (hs:List Nat):List AObj:=hs.map fun h=>gJ (fun r=>hs.idxOf r) (objs.getD h .dead)
def jD (objs:List AObj) (hs:List Nat) (os:List AObj):List AObj:=gG objs hs (os.map (gJ (σn objs hs)))++(os.map (gJ (σn objs hs))).drop hs.length
def aNJ (hs:List Nat) (b:Bool) (r:AV) (os:List AObj):Prop:=
 hs.length≤os.length∧(∀ o∈os,fU (fun r=>decide (r<os.length)) o=true)∧ref (fun r=>decide (r<os.length)) r=true∧(b=true→(∀ o∈os,aOk o=true)∧flat r=true)
def aKc (objs:List AObj) (hs:List Nat):Prop:=hs.Nodup∧(∀ h∈hs,h<objs.length)∧∀ h∈hs,fU (fun r=>hs.contains r) (objs.getD h .dead)=true
mutual
theorem aDD (p:Nat→Bool):∀ a:AV,aH a=true→ref p a=true
 | .top,_=>rfl
 | .val _,_=>rfl
 | .agg cs,h=>bM p cs h
 | .tup cs,h=>bM p cs h
 | .sl n cells q,h=>by
  simp only[aH,Bool.and_eq_true] at h
  simp only[ref,Bool.and_eq_true]
  exact⟨by cases q<;>simp_all [jH],bM p cells h.2⟩
 | .osl ..,h=>by simp[aH] at h
 | .ptr ..,h=>by simp[aH] at h
 | .cptr cells,h=>bM p cells h
 | .clo _ caps,h=>bM p caps h
 | .mref _,h=>by simp[aH] at h
theorem bM (p:Nat→Bool):∀ cs:List AV,aM cs=true→eV p cs=true
 | [],_=>rfl
 | c::cs,h=>by
  simp only[aM,Bool.and_eq_true] at h
  simp only[eV,Bool.and_eq_true]
  exact⟨aDD p c h.1,bM p cs h.2⟩
end
mutual
theorem uL (σ:Nat→Nat):∀ a:AV,aH a=true→ren σ a=a
 | .top,_=>rfl
 | .val _,_=>rfl
 | .agg cs,h=>by simp only[ren,cY σ cs h]
 | .tup cs,h=>by simp only[ren,cY σ cs h]
 | .sl n cells q,h=>by
  simp only[aH,Bool.and_eq_true] at h
  simp only[ren,cY σ cells h.2]
  cases q<;>simp_all [rB]
 | .osl ..,h=>by simp[aH] at h
 | .ptr ..,h=>by simp[aH] at h
 | .cptr cells,h=>by simp only[ren,cY σ cells h]
 | .clo _ caps,h=>by simp only[ren,cY σ caps h]
 | .mref _,h=>by simp[aH] at h
theorem cY (σ:Nat→Nat):∀ cs:List AV,aM cs=true→gH σ cs=cs
 | [],_=>rfl
 | c::cs,h=>by
  simp only[aM,Bool.and_eq_true] at h
  simp only[gH,uL σ c h.1,cY σ cs h.2]
end
theorem aLJ {P:Program} {G:Gl} {E:Env} {objs:List AObj} (ho:bP E objs) (hG:GOk E G) {f:FuncId} {ts:List TypeId} {as_ as':List AV} {vs:List Value} {Q:AV→List AObj→Prop} {hs:List Nat} {b:Bool} {C:Prop}
  (hask:aKc objs hs) (hv:gT P objs hs ts as_=some (C,b,as')) (hC:C) (hl:bY E as_ vs) (hc:ACalls P G f as' (GHd objs hs) Q) {R:AV→List AObj→Prop}
  (hQ:∀ r os,Q r os→aNJ hs b r os∧R (ren (σn objs hs) r) (jD objs hs os)) :
  Calls P f vs.toArray E.w fun e w'=>∃ E' v r' objs',E'.w=w'∧e=.returned v∧R r' objs'∧bE E' r' v∧bP E' objs'∧Ext E objs E' objs':=by
 obtain⟨hnd,hlt,href⟩:=hask
 let σ:Nat→Nat:=σn objs hs
 let hd:List AObj:=GHd objs hs
 have hdl:hd.length=hs.length:=by show (hs.map _).length=_;rw[List.length_map]
 have hk:=ho.1
 have σlt:∀ i,i<hs.length→σ i=hs.getD i 0:=fun i h=>if_pos h
 have σge:∀ i,hs.length≤i→σ i=objs.length+(i - hs.length):=fun i h=>if_neg (by omega)
 have hmem:∀ i,i<hs.length→hs.getD i 0∈hs:=fun i h=>by
  rw[List.getD_eq_getElem?_getD,List.getElem?_eq_getElem h]
  exact List.getElem_mem h
 have σobj:∀ i,i<hs.length→σ i<objs.length:=fun i h=>by rw[σlt i h];exact hlt _ (hmem i h)
 have hidx:∀ r,hs.contains r=true→hs.idxOf r<hs.length∧σ (hs.idxOf r)=r:=fun r hr=>by
  have hm:r∈hs:=by simpa using hr
  have h1:=List.idxOf_lt_length_iff.2 hm
  refine⟨h1,?_⟩
  rw[σlt _ h1,List.getD_eq_getElem?_getD,List.getElem?_eq_getElem h1]
  simp
 have hdi:∀ i,i<hs.length→∃ o,objs[σ i]? = some o∧hd[i]? = some (gJ (fun r=>hs.idxOf r) o)∧fU (fun r=>hs.contains r) o=true:=fun i h=>by
  have h1:=σobj i h
  refine⟨objs[σ i]'h1,List.getElem?_eq_getElem h1,?_,?_⟩
  ·show (hs.map _)[i]? = _
   rw[List.getElem?_map,List.getElem?_eq_getElem h]
   simp only[Option.map_some]
   have e:hs[i]'h=σ i:=by rw[σlt i h,List.getD_eq_getElem?_getD,List.getElem?_eq_getElem h];rfl
   rw[e,List.getD_eq_getElem?_getD,List.getElem?_eq_getElem h1]
   rfl
  ·have:=href _ (hmem i h)
   rw[← σlt i h,List.getD_eq_getElem?_getD,List.getElem?_eq_getElem h1] at this
   exact this
 have σinj:∀ i j,σ i=σ j→i=j:=fun i j e=>by
  by_cases h1:i<hs.length
  ·by_cases h2:j<hs.length
   ·rw[σlt i h1,σlt j h2,List.getD_eq_getElem?_getD,List.getElem?_eq_getElem h1,List.getD_eq_getElem?_getD,List.getElem?_eq_getElem h2] at e
    have e':hs[i]=hs[j]:=e
    have hp:=List.pairwise_iff_getElem.1 hnd
    rcases Nat.lt_trichotomy i j with h|h|h
    ·exact absurd e' (hp i j h1 h2 h)
    ·exact h
    ·exact absurd e'.symm (hp j i h2 h1 h)
   ·have:=σobj i h1
    rw[e,σge j (by omega)] at this
    omega
  ·by_cases h2:j<hs.length
   ·have:=σobj j h2
    rw[← e,σge i (by omega)] at this
    omega
   ·rw[σge i (by omega),σge j (by omega)] at e
    omega
 let L:Nat→Nat:=if b then (E.lend (jV objs hs)).lim else E.lim
 let E0:Env:={ w:=E.w,lim:=L,k:=hs.length,ρ:=fun i=>E.ρ (σ i) }
 have hoth:=wB hs ho
 have hle:∀ g,E.lim g≤L g:=fun g=>by
  show E.lim g≤(if b then (E.lend (jV objs hs)).lim else E.lim) g
  cases b with
  | true=>exact mU hoth g
  | false=>exact Nat.le_refl _
 have hkk:∀ r,hs.contains r=true→hs.idxOf r<E0.k∧E0.ρ (hs.idxOf r)=E.ρ r:=fun r hr=>by
  obtain⟨h1,h2⟩:=hidx r hr
  exact⟨h1,by show E.ρ (σ _)=_;rw[h2]⟩
 -- which blocks are lent
 have hlent:∀ g,L g≠E.lim g→∃ r o,r∉hs∧objs[r]? = some o∧dI o (E.ρ r)=some g:=fun g hne=>by
  have hb:b=true:=by
   cases hb:b with
   | true=>rfl
   | false=>exact absurd (by show (if b then (E.lend (jV objs hs)).lim else E.lim) g=_;rw[hb];rfl) hne
  have e:L g=(E.lend (jV objs hs)).lim g:=by show (if b then (E.lend (jV objs hs)).lim else E.lim) g=_;rw[hb];rfl
  rw[e] at hne
  apply Classical.byContradiction
  intro hno
  refine hne (xH ?_)
  rintro⟨r,cs,hr,hown⟩
  rcases rZ hr with e|⟨h1,h2⟩
  ·cases e
  ·exact hno ⟨r,_,h1,h2,hown⟩
 have hE0:bP E0 hd:=by
  refine⟨hdl.symm,fun i o hi=>?_,fun i j o o' g hi hj b1 b2=>?_⟩
  ·have hil:i<hs.length:=by
    have:=(List.getElem?_eq_some_iff.1 hi).1
    rwa [hdl] at this
   obtain⟨x,q1,q2,q3⟩:=hdi i hil
   rw[q2] at hi
   injection hi with hi
   subst hi
   refine fM.ren (p:=fun r=>hs.contains r) (E:=E) (E':=E0) rfl (fun g _=>hle g) hkk (fun g hg=>?_) q3 (ho.2.1 _ x q1)
   apply Classical.byContradiction
   intro hne
   obtain⟨r,o,hr,h1,h2⟩:=hlent g hne
   have:=ho.2.2 r (σ i) o x g h1 q1 h2 hg
   subst this
   exact hr (by rw[σlt i hil];exact hmem i hil)
  ·have hil:i<hs.length:=by
    have:=(List.getElem?_eq_some_iff.1 hi).1
    rwa [hdl] at this
   have hjl:j<hs.length:=by
    have:=(List.getElem?_eq_some_iff.1 hj).1
    rwa [hdl] at this
   obtain⟨x,q1,q2,q3⟩:=hdi i hil
   obtain⟨y,p1,p2,p3⟩:=hdi j hjl
   rw[q2] at hi
   injection hi with hi
   subst hi
   rw[p2] at hj
   injection hj with hj
   subst hj
   rw[jW] at b1 b2
   exact σinj i j (ho.2.2 _ _ x y g q1 p1 b1 b2)
 have hl0:=xD (P:=P) (E0:=E0) (lend:=b) ho rfl rfl hkk (fun h=>h) hv hC hl
 refine(hc.2 E0 vs hl0 hE0 (GOk.move (E:=E) (E':=E0) rfl (fun g _=>hle g) hG)).mono ?_
 rintro e w' ⟨E1,v,r,os,rfl,rfl,hq,hrep,ho1,hx⟩
 obtain⟨⟨hn,hok,hrr,hfl⟩,hR⟩:=hQ r os hq
 -- the limits as_ they were
 let E2:Env:={ E1 with lim:=fun g=>if g<E.w.heap.size∧L g≠E.lim g then E.lim g else E1.lim g }
 have hlt2:∀ i o g,os[i]? = some o→dI o (E1.ρ i)=some g→E2.lim g=E1.lim g:=fun i o g hi hg=>by
  show (if _ then _ else _)=_
  rw[if_neg]
  rintro⟨h1,h2⟩
  obtain⟨r',o',hr',q1,q2⟩:=hlent g h2
  obtain⟨j,y,hj,hy⟩:=hx.own g ⟨i,o,hi,hg⟩ h1
  have hjl:j<hs.length:=by
   have:=(List.getElem?_eq_some_iff.1 hj).1
   rwa [hdl] at this
  obtain⟨x,p1,p2,p3⟩:=hdi j hjl
  rw[p2] at hj
  injection hj with hj
  subst hj
  rw[jW] at hy
  have:=ho.2.2 r' (σ j) o' x g q1 p1 q2 hy
  subst this
  exact hr' (by rw[σlt j hjl];exact hmem j hjl)
 have hsame:b=false→E2.lim=E1.lim:=fun hb=>by
  funext g
  show (if _ then _ else _)=_
  rw[if_neg]
  rintro⟨_,h2⟩
  refine h2 ?_
  show (if b then (E.lend (jV objs hs)).lim else E.lim) g=_
  rw[hb]
  rfl
 have ho2:bP E2 os:=by
  refine⟨ho1.1,fun i o hi=>?_,ho1.2.2⟩
  cases hb:b with
  | true=>exact fM.flat (E:=E1) (E':=E2) rfl ((hfl hb).1 o (List.mem_of_getElem? hi)) (fun g hg=>hlt2 i o g hi hg) (ho1.2.1 i o hi)
  | false=>
   have e:E2=E1:=by
    show ({ E1 with lim:=E2.lim }:Env)=E1
    rw[hsame hb]
   rw[e]
   exact ho1.2.1 i o hi
 have hrep2:bE E2 r v:=by
  cases hb:b with
  | true=>exact uI r v (hfl hb).2 hrep
  | false=>
   have e:E2=E1:=by
    show ({ E1 with lim:=E2.lim }:Env)=E1
    rw[hsame hb]
   rw[e]
   exact hrep
 have hx2:Ext { E with k:=hs.length,ρ:=fun i=>E.ρ (σ i) } hd E2 os:=by
  refine { size:=hx.size,lim:=fun g hg=>?_,cell:=fun g o hg ho'=>hx.cell g o hg (Nat.lt_of_lt_of_le ho' (hle g)),k:=hx.k,ρ:=hx.ρ,os:=hx.os,tape:=hx.tape,output:=hx.output,frame:=fun g hg hno=>⟨(hx.frame g hg hno).1,?_⟩,own:=hx.own }
  ·show E.lim g≤if _ then _ else _
   split
   ·exact Nat.le_refl _
   ·exact Nat.le_trans (hle g) (hx.lim g hg)
  ·show (if _ then _ else _)=E.lim g
   split
   ·rfl
   ·rename_i hnot
    have h1:=(hx.frame g hg hno).2
    rw[h1]
    apply Classical.byContradiction
    intro hne
    exact hnot ⟨hg,hne⟩
 let os':=os.map (gJ σ)
 let objs':=gG objs hs os'++os'.drop hs.length
 have hlen':objs'.length=objs.length+(os.length - hs.length):=by
  show (gG objs hs os'++os'.drop hs.length).length=_
  rw[List.length_append,jC,List.length_drop,List.length_map]
 have h2:∀ i,i<os.length→objs'[σ i]? = (os[i]?).map (gJ σ):=fun i hi=>by
  rw[← List.getElem?_map]
  show (gG objs hs os'++os'.drop hs.length)[σ i]? = os'[i]?
  by_cases h:i<hs.length
  ·rw[List.getElem?_append_left (by rw[jC];exact σobj i h),σlt i h]
   exact yY objs hs os' i hnd h (by show i<(os.map _).length;rw[List.length_map];exact hi) hlt
  ·rw[σge i (by omega),List.getElem?_append_right (by rw[jC];omega),jC,List.getElem?_drop]
   congr 1
   omega
 have h3:∀ j o,objs'[j]? = some o→(∃ i,i<os.length∧σ i=j)∨((∀ i,i<os.length→σ i≠j)∧objs[j]? = some o):=fun j o hj=>by
  have hjl:=(List.getElem?_eq_some_iff.1 hj).1
  rw[hlen'] at hjl
  by_cases hjo:j<objs.length
  ·have hj':(gG objs hs os')[j]? = some o:=by
    rw[← List.getElem?_append_left (l₂:=os'.drop hs.length) (by rw[jC];exact hjo)]
    exact hj
   by_cases hm:j∈hs
   ·obtain⟨q1,q2⟩:=hidx j (by simpa using hm)
    exact .inl ⟨_,by omega,q2⟩
   ·rw[sD _ _ _ _ hm] at hj'
    refine .inr ⟨fun i _ e=>?_,hj'⟩
    by_cases h:i<hs.length
    ·rw[σlt i h] at e
     exact hm (e ▸ hmem i h)
    ·rw[σge i (by omega)] at e
     omega
  ·refine .inl ⟨j - objs.length+hs.length,by omega,?_⟩
   rw[σge _ (by omega)]
   omega
 let ρ':Nat→Value:=fun j=>if hs.contains j then E1.ρ (hs.idxOf j) else if j<objs.length then E.ρ j else E1.ρ (j - objs.length+hs.length)
 have hρ1:∀ i,i<os.length→ρ' (σ i)=E2.ρ i:=fun i hi=>by
  show (if hs.contains (σ i) then _ else if _ then _ else _)=E1.ρ i
  by_cases h:i<hs.length
  ·have hc':hs.contains (σ i)=true:=by rw[σlt i h];simpa using hmem i h
   rw[if_pos hc']
   congr 1
   exact σinj _ _ (hidx _ hc').2
  ·have hge:=σge i (by omega)
   have hc':¬ hs.contains (σ i)=true:=fun hc'=>by
    have:=hlt (σ i) (by simpa using hc')
    omega
   rw[if_neg hc',if_neg (by omega)]
   congr 1
   omega
 have hfin:=aLF (objs:=objs) (hd:=hd) (os:=os) (objs':=objs') (σ:=σ) (ρ':=ρ') (n0:=hs.length) ho hdl.symm hn hx2 ho2 hok
  (fun i u hi=>by
   obtain⟨x,q1,q2,_⟩:=hdi i hi
   rw[q1,q2]
   simp only[Option.bind_some,jW])
  σobj (fun i j _ _ e=>σinj i j e) h2 h3 (by omega) (fun i hi=>by
   rw[hlen']
   by_cases h:i<hs.length
   ·have:=σobj i h;omega
   ·rw[σge i (by omega)];omega)
  hρ1
  (fun j hj hne=>by
   show (if hs.contains j then _ else if _ then _ else _)=_
   by_cases hc':hs.contains j=true
   ·obtain⟨q1,q2⟩:=hidx j hc'
    exact absurd q2 (hne _ (by omega))
   ·rw[if_neg hc',if_pos hj])
  (fun i hi=>by rw[σge i hi];omega)
 refine⟨_,v,ren σ r,objs',?_,rfl,hR,?_,hfin.1,hfin.2⟩
 ·rfl
 ·refine aTt (p:=fun r=>decide (r<os.length)) (E:=E2) (E':={ w:=E2.w,lim:=E2.lim,k:=objs'.length,ρ:=ρ' }) rfl (fun _ _=>Nat.le_refl _) (fun i hi=>?_) r v hrr hrep2
  have hi':i<os.length:=of_decide_eq_true hi
  refine⟨?_,hρ1 i hi'⟩
  show σ i<objs'.length
  rw[hlen']
  by_cases h:i<hs.length
  ·have:=σobj i h;omega
  ·rw[σge i (by omega)];omega
end Go.V
namespace Go.V
def aHb:List Nat:=[
 1116352408,1899447441,3049323471,3921009573,961987163,1508970993,2453635748,2870763221,3624381080,310598401,607225278,1426881987,1925078388,2162078206,2614888103,3248222580,3835390401,4022224774,264347078,604807628,770255983,1249150122,1555081692,1996064986,2554220882,2821834349,2952996808,3210313671,3336571891,3584528711,113926993,338241895,666307205,773529912,1294757372,1396182291,1695183700,1986661051,2177026350,2456956037,2730485921,2820302411,3259730800,3345764771,3516065817,3600352804,4094571909,275423344,430227734,506948616,659060556,883997877,958139571,1322822218,1537002063,1747873779,1955562222,2024104815,2227730452,2361852424,2428436474,2756734187,3204031479,3329325298]
def aGE:List Int:=aHb.map (fun n:Nat=>(n:Int))
theorem aMl:∀ i,i<64→aGE.getD i 0=(aHb.getD i 0:Int):=by decide +kernel
theorem aOL {a b:Nat}:a ||| b=0↔a=0∧b=0:=by
 constructor
 ·intro h
  constructor
  ·apply Nat.eq_of_testBit_eq
   intro i
   have:=congrArg (·.testBit i) h
   simp[Nat.testBit_or] at this
   simp[this.1]
  ·apply Nat.eq_of_testBit_eq
   intro i
   have:=congrArg (·.testBit i) h
   simp[Nat.testBit_or] at this
   simp[this.2]
 ·rintro⟨rfl,rfl⟩;rfl
theorem aMy {a b:Nat}:a ^^^ b=0↔a=b:=by
 constructor
 ·intro h
  apply Nat.eq_of_testBit_eq
  intro i
  have:=congrArg (·.testBit i) h
  simp[Nat.testBit_xor] at this
  exact this
 ·rintro rfl;simp
theorem aNh (u:Nat) (x y:UInt8) (hu:u<256):(u ||| (x.toNat ^^^ y.toNat)%256)%256<256∧((u ||| (x.toNat ^^^ y.toNat)%256)%256=0↔u=0∧x=y):=by
 have h1:x.toNat ^^^ y.toNat<2^8:=Nat.xor_lt_two_pow x.toNat_lt y.toNat_lt
 have h2:u ||| (x.toNat ^^^ y.toNat)<2^8:=Nat.or_lt_two_pow hu h1
 refine⟨Nat.mod_lt _ (by omega),?_⟩
 rw[Nat.mod_eq_of_lt h1,Nat.mod_eq_of_lt h2,aOL,aMy,UInt8.toNat_inj]
def dig (n:Nat):UInt8:=([48,49,50,51,52,53,54,55,56,57,97,98,99,100,101,102]:List UInt8).getD n 0
def aQg:List UInt8→List UInt8
 | []=>[]
 | x::r=>dig (x.toNat/16)::dig (x.toNat%16)::aQg r
theorem aGF {a b:List UInt8} (hl:a.length=b.length):a=b↔∀ k,k<a.length→a.getD k 0=b.getD k 0:=by
 constructor
 ·rintro rfl k _;rfl
 ·intro h
  apply List.ext_getElem hl
  intro i h1 h2
  have:=h i h1
  simpa[List.getD_eq_getElem?_getD,List.getElem?_eq_getElem h1,List.getElem?_eq_getElem h2] using this
theorem aOi (n:Nat) (h:n<256):n &&& 15=n%16:=by
 have:=Nat.and_two_pow_sub_one_eq_mod n 4
 simpa using this
def vb (n:Nat):List UInt8:=if h:n<128 then [UInt8.ofNat n] else UInt8.ofNat (n%128+128)::vb (n/128)
termination_by n
decreasing_by omega
theorem rD {n:Nat} (h:n<128):vb n=[UInt8.ofNat n]:=by rw[vb];simp[h]
theorem xY {n:Nat} (h:128≤n):vb n=UInt8.ofNat (n%128+128)::vb (n/128):=by rw[vb];simp[show ¬ n<128 by omega]
theorem aBp (n:Nat):vb n≠[]:=by
 rw[vb];split<;>simp
def val:List UInt8→Nat
 | []=>0
 | c::r=>c.toNat%128+128*val r
theorem aBl {a:Nat} (h:a<256):(UInt8.ofNat a).toNat=a:=by simp;omega
theorem aSr (n:Nat):val (vb n)=n:=by
 induction n using Nat.strongRecOn with
 | _ n ih=>
  by_cases h:n<128
  ·rw[rD h]
   simp only[val]
   rw[aBl (by omega)]
   omega
  ·rw[xY (by omega)]
   simp only[val]
   rw[aBl (by omega),ih (n/128) (by omega)]
   omega
theorem aQC (n k:Nat):(vb n).length≤k+1↔n<128^(k+1):=by
 induction n using Nat.strongRecOn generalizing k with
 | _ n ih=>
  by_cases h:n<128
  ·rw[rD h]
   have:128≤128^(k+1):=by rw[Nat.pow_succ];have:=Nat.pow_pos (n:=k) (show 0<128 by omega);omega
   simp
   omega
  ·rw[xY (by omega)]
   cases k with
   | zero=>
    simp only[List.length_cons,Nat.zero_add,Nat.pow_one]
    have:=List.length_pos_iff.2 (aBp (n/128))
    omega
   | succ k=>
    simp only[List.length_cons]
    have:=ih (n/128) (by omega) k
    rw[show (vb (n/128)).length+1≤k+1+1↔(vb (n/128)).length≤k+1 by omega,this,Nat.pow_succ 128 (k+1)]
    omega
theorem jI {n:Nat} (h:n<18446744073709551616):(vb n).length≤10:=(aQC n 9).2 (by omega)
def vg:Nat→List UInt8→Option (Nat×Nat)
 | _,[]=>none
 | i,c::r=>
  if 10≤i then none
  else if i=9∧1<c.toNat then none
  else if c.toNat<128 then (if 0<i∧c.toNat=0 then none else some (c.toNat,1))
  else (vg (i+1) r).map fun x=>(c.toNat%128+128*x.1,x.2+1)
theorem aIe:∀ (l:List UInt8) (i v s:Nat),vg i l=some (v,s)→i≤9∧v<2^(64 - 7*i)∧vb v <+: l∧s=(vb v).length∧(0<i→0<v)
 | [],i,v,s,h=>by simp[vg] at h
 | c::r,i,v,s,h=>by
  unfold vg at h
  split at h
  ·cases h
  ·rename_i hi
   split at h
   ·cases h
   ·rename_i h9
    split at h
    ·rename_i hc
     split at h
     ·cases h
     ·rename_i h0
      simp only[Option.some.injEq,Prod.mk.injEq] at h
      obtain⟨rfl,rfl⟩:=h
      refine⟨by omega,?_,?_,by rw[rD hc];rfl,by omega⟩
      ·by_cases e:i=9
       ·subst e;simp;omega
       ·have:2^(64 - 7*8)≤2^(64 - 7*i):=Nat.pow_le_pow_right (by omega) (by omega)
        omega
      ·rw[rD hc]
       simp
    ·rename_i hc
     cases hr:vg (i+1) r with
     | none=>rw[hr] at h;cases h
     | some x=>
      obtain⟨v',s'⟩:=x
      rw[hr] at h
      simp only[Option.map_some,Option.some.injEq,Prod.mk.injEq] at h
      obtain⟨rfl,rfl⟩:=h
      obtain⟨h1,h2,h3,h4,h5⟩:=aIe r (i+1) v' s' hr
      have hv:=h5 (by omega)
      have hlt:c.toNat<256:=c.toNat_lt
      have hm:(c.toNat%128+128*v')/128=v':=by omega
      have hm2:(c.toNat%128+128*v')%128=c.toNat%128:=by omega
      have hvb:vb (c.toNat%128+128*v')=c::vb v':=by
       rw[xY (by omega),hm,hm2]
       congr 1
       apply UInt8.toNat_inj.1
       rw[aBl (by omega)]
       omega
      refine⟨by omega,?_,?_,?_,by omega⟩
      ·have:2^(64 - 7*i)=128*2^(64 - 7*(i+1)):=by
        rw[show 64 - 7*i=(64 - 7*(i+1))+7 by omega,Nat.pow_add]
        omega
       omega
      ·rw[hvb]
       exact(List.cons_prefix_cons).2 ⟨rfl,h3⟩
      ·rw[hvb,h4];rfl
theorem aOs:∀ (n i:Nat) (b:List UInt8),i≤9→n<2^(64 - 7*i)→(0<i→0<n)→vg i (vb n++b)=some (n,(vb n).length):=by
 intro n
 induction n using Nat.strongRecOn with
 | _ n ih=>
  intro i b hi hn hp
  by_cases h:n<128
  ·rw[rD h]
   simp only[List.cons_append,List.nil_append,vg]
   rw[if_neg (by omega),aBl (by omega),if_neg,if_pos h,if_neg (by omega)]
   ·rfl
   ·rintro⟨rfl,h1⟩
    simp at hn
    omega
  ·have h9:i≠9:=by
    rintro rfl
    simp at hn
    omega
   rw[xY (by omega)]
   simp only[List.cons_append,vg]
   rw[if_neg (by omega),if_neg (by omega),aBl (by omega),if_neg (by omega)]
   have:2^(64 - 7*i)=128*2^(64 - 7*(i+1)):=by
    rw[show 64 - 7*i=(64 - 7*(i+1))+7 by omega,Nat.pow_add]
    omega
   rw[ih (n/128) (by omega) (i+1) b (by omega) (by omega) (by omega)]
   simp only[Option.map_some,List.length_cons,Option.some.injEq,Prod.mk.injEq,and_true]
   omega
def G (b:List UInt8):Nat×Nat:=(vg 0 b).getD (0,0)
theorem aQK {n:Nat} (b:List UInt8) (h:n<18446744073709551616):G (vb n++b)=(n,(vb n).length):=by
 unfold G
 rw[aOs n 0 b (by omega) (by simpa using h) (by omega)]
 rfl
theorem aNK (b:List UInt8):(G b=(0,0)∧∀ n,n<18446744073709551616→¬ vb n <+: b)∨∃ n,n<18446744073709551616∧vb n <+: b∧G b=(n,(vb n).length):=by
 unfold G
 cases h:vg 0 b with
 | none=>
  refine .inl ⟨rfl,fun n hn hp=>?_⟩
  obtain⟨t,rfl⟩:=hp
  rw[aOs n 0 t (by omega) (by simpa using hn) (by omega)] at h
  cases h
 | some x=>
  obtain⟨v,s⟩:=x
  obtain⟨_,h2,h3,h4,_⟩:=aIe b 0 v s h
  exact .inr ⟨v,by simpa using h2,h3,by rw[h4];rfl⟩
theorem aIf (b:List UInt8) (i:Nat) (h:∀ k,k<i→128≤(b.getD k 0).toNat) (hi:i≤10) (hl:i≤b.length) :
  vg 0 b=(vg i (b.drop i)).map fun x=>(val (b.take i)+128^i*x.1,x.2+i):=by
 induction i with
 | zero=>simp[val]
 | succ i ih=>
  rw[ih (fun k hk=>h k (by omega)) (by omega) (by omega)]
  have hc:=h i (by omega)
  have hd:b.drop i=b.getD i 0::b.drop (i+1):=by
   rw[List.drop_eq_getElem_cons (by omega)]
   simp[List.getD_eq_getElem?_getD,List.getElem?_eq_getElem (show i<b.length by omega)]
  have ht:val (b.take (i+1))=val (b.take i)+128^i*((b.getD i 0).toNat%128):=by
   have:b.take (i+1)=b.take i++[b.getD i 0]:=by
    rw[List.take_add_one]
    simp[List.getD_eq_getElem?_getD,List.getElem?_eq_getElem (show i<b.length by omega)]
   rw[this]
   have key:∀ (l:List UInt8) (c:UInt8),val (l++[c])=val l+128^l.length*(c.toNat%128):=by
    intro l c
    induction l with
    | nil=>simp[val]
    | cons x l ih=>simp only[List.cons_append,val,ih,List.length_cons,Nat.pow_succ,Nat.mul_add];rw[Nat.mul_comm (128^l.length) 128,Nat.mul_assoc];omega
   rw[key,List.length_take,Nat.min_eq_left (by omega)]
  rw[hd]
  by_cases h9:i=9
  ·subst h9
   conv=>lhs;unfold vg
   rw[if_neg (by omega),if_pos ⟨rfl,by omega⟩]
   have:vg (9+1) (b.drop (9+1))=none:=by cases b.drop (9+1)<;>simp[vg]
   rw[this]
   rfl
  ·conv=>lhs;unfold vg
   rw[if_neg (by omega),if_neg (by omega),if_neg (by omega)]
   simp only[Option.map_map]
   congr 1
   funext x
   simp only[Function.comp,Prod.mk.injEq]
   refine⟨?_,by omega⟩
   rw[ht,Nat.pow_succ,Nat.mul_add,← Nat.mul_assoc (128^i) 128 x.1]
   omega
theorem aQB (l:List UInt8):val l<128^l.length:=by
 induction l with
 | nil=>simp[val]
 | cons c l ih=>simp only[val,List.length_cons,Nat.pow_succ];omega
theorem aMr (l:List UInt8) (c:UInt8):val (l++[c])=val l+128^l.length*(c.toNat%128):=by
 induction l with
 | nil=>simp[val]
 | cons x l ih=>simp only[List.cons_append,val,ih,List.length_cons,Nat.pow_succ,Nat.mul_add];rw[Nat.mul_comm (128^l.length) 128,Nat.mul_assoc];omega
theorem aKE (b:List UInt8) (i:Nat) (h:i<b.length):b.take (i+1)=b.take i++[b.getD i 0]:=by
 rw[List.take_add_one]
 simp[List.getD_eq_getElem?_getD,List.getElem?_eq_getElem h]
theorem vE (b:List UInt8) (i:Nat) (h:i<b.length):val (b.take (i+1))=val (b.take i)+128^i*((b.getD i 0).toNat%128):=by
 rw[aKE b i h,aMr,List.length_take,Nat.min_eq_left (by omega)]
theorem aGJ (b:List UInt8) (i:Nat) (h:i≤b.length):val (b.take i)<128^i:=by
 have:=aQB (b.take i)
 rwa [List.length_take,Nat.min_eq_left h] at this
theorem aJQ (b:List UInt8) (i:Nat) (h:i<b.length):b.drop i=b.getD i 0::b.drop (i+1):=by
 rw[List.drop_eq_getElem_cons h]
 simp[List.getD_eq_getElem?_getD,List.getElem?_eq_getElem h]
theorem aQI (b:List UInt8) (i:Nat) (h:∀ k,k<i→128≤(b.getD k 0).toNat) (hi:i=min b.length 10):G b=(0,0):=by
 unfold G
 rw[aIf b i h (by omega) (by omega)]
 by_cases hl:i=b.length
 ·subst hl
  simp[vg]
 ·have:vg i (b.drop i)=none:=by
   cases b.drop i with
   | nil=>simp[vg]
   | cons c r=>unfold vg;rw[if_pos (by omega)]
  rw[this]
  rfl
theorem aQn (b:List UInt8) (i:Nat) (h:∀ k,k<i→128≤(b.getD k 0).toNat) (hi:i<b.length) (h9:i≤9) :
  G b=if i=9∧1<(b.getD i 0).toNat then (0,0) else if (b.getD i 0).toNat<128 then (if 0<i∧(b.getD i 0).toNat=0 then (0,0) else (val (b.take (i+1)),i+1)) else G b:=by
 by_cases hc:(b.getD i 0).toNat<128∨i=9
 ·have e:G b=((vg i (b.drop i)).map fun x=>(val (b.take i)+128^i*x.1,x.2+i)).getD (0,0):=by
   unfold G
   rw[aIf b i h (by omega) (by omega)]
  rw[aJQ b i hi] at e
  unfold vg at e
  rw[if_neg (by omega)] at e
  by_cases h91:i=9∧1<(b.getD i 0).toNat
  ·rw[if_pos h91] at e ⊢
   exact e
  ·rw[if_neg h91] at e ⊢
   have hc':(b.getD i 0).toNat<128:=by omega
   rw[if_pos hc'] at e ⊢
   split at e
   ·rename_i h0;rw[if_pos h0];exact e
   ·rename_i h0
    rw[if_neg h0,e,vE b i hi,Nat.mod_eq_of_lt hc']
    simp[Nat.add_comm 1 i]
 ·rw[if_neg (by omega),if_neg (by omega)]
theorem aPo (b:List UInt8) (i:Nat) (hi:i<b.length) (h9:i≤9) (hc:i=9→(b.getD i 0).toNat≤1):(val (b.take i) ||| (b.getD i 0).toNat%128*2^(7*i)%18446744073709551616)%18446744073709551616=val (b.take (i+1)):=by
 have h1:=aGJ b i (by omega)
 have hp:128^i=2^(7*i):=by rw[Nat.pow_mul]
 have h2:(b.getD i 0).toNat%128*2^(7*i)<18446744073709551616:=by
  by_cases e:i=9
  ·subst e
   have:=hc rfl
   simp at *
   omega
  ·have:2^(7*i)≤2^56:=Nat.pow_le_pow_right (by omega) (by omega)
   have h3:(b.getD i 0).toNat%128<128:=Nat.mod_lt _ (by omega)
   calc (b.getD i 0).toNat%128*2^(7*i)≤127*2^56:=Nat.mul_le_mul (by omega) this
    _<_:=by omega
 rw[Nat.mod_eq_of_lt h2,vE b i hi,hp,Nat.mul_comm ((b.getD i 0).toNat%128),Nat.or_comm,← Nat.two_pow_add_eq_or_of_lt (by rw[← hp];exact h1)]
 rw[Nat.add_comm]
 apply Nat.mod_eq_of_lt
 rw[hp] at h1
 by_cases e:i=9
 ·subst e
  have:=hc rfl
  simp at *
  omega
 ·have h3:(b.getD i 0).toNat%128<128:=Nat.mod_lt _ (by omega)
  have h4:2^(7*i)*((b.getD i 0).toNat%128)≤2^(7*i)*127:=Nat.mul_le_mul_left _ (by omega)
  have:2^(7*i)≤2^56:=Nat.pow_le_pow_right (by omega) (by omega)
  omega
end Go.V
