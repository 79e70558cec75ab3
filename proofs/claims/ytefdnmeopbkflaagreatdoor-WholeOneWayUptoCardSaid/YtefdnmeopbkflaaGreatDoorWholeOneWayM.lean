/-
  WholeOneWay: bundles and predicates alike if, and only if, their bytes and texts are.
-/
import Derived.Test.YtefdnmeopbkflaaGreatDoorCards
import Derived.Test.YtefdnmeopbkflaaGreatDoorTie
import Derived.WalkKit
import Derived.ProofKit
import Derived.OpenShut
import Derived.ShutString
import Derived.ChangeOld
import Derived.Below
import Derived.Deep.DeepHandedRow
import Derived.Lib.LaidTab
import Derived.Test.YtefdnmeopbkflaaGreatDoorBOw6
namespace Go.Proofs.YtefdnmeopbkflaaGreatDoor.wholeOneWay
open Go.ChangeShapes Go.WideShapes Go.ChangeAt Go.RowKit
open Go.ChangeMaps (open_string shut_string)
set_option linter.unusedVariables false
set_option maxRecDepth 100000
theorem own:ownKnob Tryz.prog.godebug=none:=by kernel_rfl
theorem aEI:laidOutB Tryz.prog=true:=by kernel_rfl
theorem aQt {H:Type} {enc:TypeId×Value→H} {base base0:Nat} {held:Bool} (v0 v1 v2:Value) (w:World) {d0 d1 d2:DataW H} {p0 p1 p2:List MemPlace} (k0:Value.okWide Tryz.prog w .any base0 77 v0) (h0:DataW.Trod enc Tryz.prog w base (fun _=>true) held 77 v0 d0 p0) (k1:Value.okWide Tryz.prog w .any base0 81 v1) (h1:DataW.Trod enc Tryz.prog w base (fun _=>true) held 81 v1 d1 p1)
  (k2:Value.okWide Tryz.prog w .any base0 81 v2) (h2:DataW.Trod enc Tryz.prog w base (fun _=>true) held 81 v2 d2 p2) (b0:Rows.uptoBulk d0≤1048576) (b1:Rows.uptoBulk d1≤1048576) (b2:Rows.uptoBulk d2≤1048576) (hG:∃ G:Gv,∀ n,512≤n→V.GOk (V.Env.start w n) (@GP G)) :
  Calls Tryz.prog 5 #[v0,v1,v2] w fun e w'=>e=.returned (.bool true)∧Below w.heap.size w w':=by
 obtain⟨G,hG⟩:=hG
 obtain⟨a,b,N0,g,r⟩:=aSi k0 h0
 obtain⟨d,N1,a1,a2,a3,a4,a5,a6⟩:=aCy k1 h1
 obtain⟨o,N2,e1,e2,e3,e4,e5,e6⟩:=aCy k2 h2
 have each:∀ (l:List (List UInt8)) (s:List UInt8),s∈l→s.length≤aTs l:=by
  intro l
  induction l with
  | nil=>intro s hs;cases hs
  | cons x xs ih=>
   intro s hs
   simp only[aTs]
   rcases List.mem_cons.1 hs with rfl|hs
   ·omega
   ·have:=ih s hs;omega
 have t1:=aBm d.names
 have t2:=aBm o.names
 have hd:InP d:=⟨a1,by omega,fun s hs=>by have:=each _ s hs;omega,by omega,a2,a3,a4⟩
 have ho:InP o:=⟨e1,by omega,fun s hs=>by have:=each _ s hs;omega,by omega,e2,e3,e4⟩
 obtain⟨ga,gb⟩:=g b0
 have key:=aSM aQG a b ga gb d o hd ho
 refine V.aFX key w (512+N0+N1+N2) (hG _ (by omega)) ?_
 simp only[V.bY]
 exact⟨_,_,rfl,r _ (by omega),_,_,rfl,a6 _ (by omega),_,_,rfl,e6 _ (by omega),rfl⟩
theorem aIT {H:Type} {d:DataW H} {l:List (DataW H)} (h:d∈l):Rows.uptoBulk d≤Rows.uptoBulkAll l:=by
 induction l with
 | nil=>cases h
 | cons x r ih=>
  simp only[Rows.uptoBulkAll]
  cases List.mem_cons.1 h with
  | inl e=>subst e;omega
  | inr e=>have:=ih e;omega
theorem aLN (H:Type) (enc:TypeId×Value→H) (W:World) (base:Nat) (args:Array Value) (ds gs:List (DataW H)) (before:List MemPlace)
  (hval0:∀ (j:Nat) t v,Tryz.f5.params[j]? = some t→args[j]? = some v→Value.okWide Tryz.prog W .any base t v)
  (hW:DataW.Whole enc Tryz.prog Tryz.f5.params.toList Rows.wholeOneWaySpec.vars false W args.toList ds gs before) (hk:Rows.uptoSmall H (ds++gs)=true) (hL:laidMetH Tryz.prog Rows.wholeOneWayUptoRow.laid W) (hsh:W.ShapedOpen Tryz.prog) :
  Calls Tryz.prog 5 args W fun e W'=>∃ v,e=.returned v∧Rows.wholeOneWaySpec.post enc Tryz.prog Tryz.f5 false true false false W args v W':=by
 have hval:∀ (j:Nat) t v,Tryz.f5.params[j]? = some t→args[j]? = some v→Value.okWide Tryz.prog W .any base t v:=hval0
 have hG:=gok hL hsh
 have hW':=hW
 obtain⟨p,q,hA0,hV,rfl,hfz,hnd⟩:=hW
 have hA:DataW.TrodAll enc Tryz.prog W 0 (fun _=>true) true Tryz.f5.params.toList args.toList ds p:=hA0
 rw[Tryz.params5] at hA hval
 have hsm:Rows.uptoBulkAll (ds++gs)≤1048576:=by simpa[Rows.uptoSmall] using hk
 obtain⟨v0,vs0,d0,ds0,p0,q0,hargs,rfl,rfl,h0,r0⟩:=trodAll_cons hA
 obtain⟨v1,vs1,d1,ds1,p1,q1,rfl,rfl,rfl,h1,r1⟩:=trodAll_cons r0
 obtain⟨v2,vs2,d2,ds2,p2,q2,rfl,rfl,rfl,h2,r2⟩:=trodAll_cons r1
 obtain⟨rfl,rfl,rfl⟩:=trodAll_nil r2
 obtain rfl:args=#[v0,v1,v2]:=by cases args;simp_all
 obtain⟨rfl,rfl⟩:=trodVars_none hV
 have k0:=h0
 have lt0:∀ x∈p0,x.block<W.heap.size:=by obtain⟨m,hm⟩:=k0;exact DataW.trod_lt m _ _ _ hm
 have b0:Rows.uptoBulk d0≤1048576:=Nat.le_trans (aIT (by simp)) hsm
 have k1:=h1
 have lt1:∀ x∈p1,x.block<W.heap.size:=by obtain⟨m,hm⟩:=k1;exact DataW.trod_lt m _ _ _ hm
 have b1:Rows.uptoBulk d1≤1048576:=Nat.le_trans (aIT (by simp)) hsm
 have k2:=h2
 have lt2:∀ x∈p2,x.block<W.heap.size:=by obtain⟨m,hm⟩:=k2;exact DataW.trod_lt m _ _ _ hm
 have b2:Rows.uptoBulk d2≤1048576:=Nat.le_trans (aIT (by simp)) hsm
 clear hA0 hval0
 refine(aQt v0 v1 v2 W (hval 0 77 v0 rfl rfl) h0 (hval 1 81 v1 rfl rfl) h1 (hval 2 81 v2 rfl rfl) h2 b0 b1 b2 hG).mono fun e W' ⟨he,bel⟩=>?_
 subst he
 exact⟨_,rfl,_,_,_,[],_,[],hW',trodAll_mk1 (shut_bool Tryz.underlying4 _),(trodAll_cons_mk (Below.trod aEI (by kernel_rfl) (of_decide_eq_true (by kernel_rfl)) k0 bel lt0) (trodAll_cons_mk (Below.trod aEI (by kernel_rfl) (of_decide_eq_true (by kernel_rfl)) k1 bel lt1) (trodAll_cons_mk (Below.trod aEI (by kernel_rfl) (of_decide_eq_true (by kernel_rfl)) k2 bel lt2) trodAll_mk0))),rfl,bel.frame _,fun h=>by cases h⟩
def zin:Array Value:=#[.agg #[.int .u64 0,.string ByteArray.empty,.slice none 0 0,.bool false,.int .u8 0,.int .u8 0,.int .u8 0,.int .u8 0,.int .u8 0,.int .u8 0,.int .u8 0,.int .u8 0,.int .u8 0,.int .u8 0,.int .u8 0,.int .u8 0,.int .u8 0,.int .u8 0,.int .u8 0,.int .u8 0,.int .u8 0,.int .u8 0,.int .u8 0,.int .u8 0,.int .u8 0,.int .u8 0,.int .u8 0,.int .u8 0,.int .u8 0,.int .u8 0,.int .u8 0,.int .u8 0,.int .u8 0,.int .u8 0,.int .u8 0,.int .u8 0,.slice none 0 0,.int .u64 0,.string ByteArray.empty,.slice none 0 0,.bool false,.int .u8 0,.int .u8 0,.int .u8 0,.int .u8 0,.int .u8 0,.int .u8 0,.int .u8 0,.int .u8 0,.int .u8 0,.int .u8 0,.int .u8 0,.int .u8 0,.int .u8 0,.int .u8 0,.int .u8 0,.int .u8 0,.int .u8 0,.int .u8 0,.int .u8 0,.int .u8 0,.int .u8 0,.int .u8 0,.int .u8 0,.int .u8 0,.int .u8 0,.int .u8 0,.int .u8 0,.int .u8 0,.int .u8 0,.int .u8 0,.int .u8 0,.int .u8 0,.slice none 0 0],.agg #[.int .i64 0,.int .u64 0,.slice none 0 0,.string ByteArray.empty,.bool false,.int .u8 0,.int .u8 0,.int .u8 0,.int .u8 0,.int .u8 0,.int .u8 0,.int .u8 0,.int .u8 0,.int .u8 0,.int .u8 0,.int .u8 0,.int .u8 0,.int .u8 0,.int .u8 0,.int .u8 0,.int .u8 0,.int .i64 0,.float .f64 0],.agg #[.int .i64 0,.int .u64 0,.slice none 0 0,.string ByteArray.empty,.bool false,.int .u8 0,.int .u8 0,.int .u8 0,.int .u8 0,.int .u8 0,.int .u8 0,.int .u8 0,.int .u8 0,.int .u8 0,.int .u8 0,.int .u8 0,.int .u8 0,.int .u8 0,.int .u8 0,.int .u8 0,.int .u8 0,.int .i64 0,.float .f64 0]]
theorem aQd (os:Os) {H:Type} (enc:TypeId×Value→H):∃ places,DataW.whole enc Tryz.prog ((kS os).forCall (fun _ _=>0) ⟨#[],zin,[]⟩).memory Tryz.f5.params.toList Rows.wholeOneWaySpec.vars false zin.toList 8=some ([.agg [.agg [.agg [.lit (.int .u64 0),.lit (.string []),.nil,.lit (.bool false),.agg (List.replicate 32 (.lit (.int .u8 0)))],.nil],.agg [.agg [.lit (.int .u64 0),.lit (.string []),.nil,.lit (.bool false),.agg (List.replicate 32 (.lit (.int .u8 0)))],.nil]],.agg [.lit (.int .i64 0),.lit (.int .u64 0),.nil,.lit (.string []),.agg [.agg [.lit (.bool false),.agg (List.replicate 16 (.lit (.int .u8 0)))],.lit (.int .i64 0)],.lit (.float .f64 0)],.agg [.lit (.int .i64 0),.lit (.int .u64 0),.nil,.lit (.string []),.agg [.agg [.lit (.bool false),.agg (List.replicate 16 (.lit (.int .u8 0)))],.lit (.int .i64 0)],.lit (.float .f64 0)]],[],places):=
 ⟨[],by kernel_rfl⟩
theorem aQu (os:Os):((kS os).forCall (fun _ _=>0) ⟨#[],zin,[]⟩).variablesRefB Tryz.checked.prog=true:=by kernel_rfl
theorem aQv (os:Os):(((kS os).forCall (fun _ _=>0) ⟨#[],zin,[]⟩).heap.toList.drop Tryz.checked.prog.globals.size).take ((begin Tryz.checked.prog (fun _ _=>0) default).world.heap.size - Tryz.checked.prog.globals.size) =
   (begin Tryz.checked.prog (fun _ _=>0) default).world.heap.toList.drop Tryz.checked.prog.globals.size:=by kernel_rfl
theorem aQw (os:Os):Input.okWideB Tryz.checked.prog ((kS os).forCall (fun _ _=>0) ⟨#[],zin,[]⟩) 5 ⟨#[],zin,[]⟩=true:=by kernel_rfl
theorem aQj (os:Os):(kS os).os=os:=rfl
theorem aQx (os:Os) {H:Type} (enc:TypeId×Value→H):(Rows.OpenSpec.upto Rows.wholeOneWaySpec).preRow enc Tryz.prog Tryz.f5 Rows.wholeOneWayUptoRow.domain false Rows.wholeOneWayUptoRow.laid ((kS os).forCall (fun _ _=>0) ⟨#[],zin,[]⟩).memory zin:=by
 obtain⟨places,hx⟩:=aQd os enc
 exact OpenSpec.preRow_of_cond 8 hx (by kernel_rfl) (fun k hk=>by cases hk;kernel_rfl) (by kernel_rfl) (aJY os _)
theorem aPh:Tryz.checked.prog.inits.idxOf? 5=none:=by kernel_rfl
theorem aPX (os:Os) (started:os.Started) (H:Type) (enc:TypeId×Value→H) (F:Stop.Interp) :
  ReturnsInHanded {} Tryz.checked os 5 .any ((Rows.OpenSpec.upto Rows.wholeOneWaySpec).preRow enc Tryz.prog Tryz.f5 Rows.wholeOneWayUptoRow.domain false Rows.wholeOneWayUptoRow.laid) (((Rows.OpenSpec.upto Rows.wholeOneWaySpec).at F).post enc Tryz.prog Tryz.f5 false true false false):=
 returnsInHanded_of_row (C:=Tryz.checked) (s:=Rows.OpenSpec.upto Rows.wholeOneWaySpec) own started aPh Tryz.func5
  (witness_row_atRef (enc:=enc) (C:=Tryz.checked) false (kS os) zin (aQj os) (aQu os) (aQv os) (aQw os) (aQx os enc))
  fun W base args ds gs before hval hW _ hk _ hL hsh _=>aLN H enc W base args ds gs before hval hW (hk _ rfl) hL hsh
theorem aEv {a b:Bool} (hb:b=true) (ha:a=true):(a&&b)=true:=by rw[ha,hb];rfl
theorem aQN:(Rows.wholeOneWayUptoRow.inPlace == Tryz.prog.inPlace 5)=true:=by kernel_rfl
theorem aQO:(Rows.wholeOneWayUptoRow.unfollowed == Tryz.prog.unfollowed 5)=true:=by kernel_rfl
theorem aQP:(Rows.wholeOneWayUptoRow.recurses == Tryz.prog.recurses 5)=true:=by kernel_rfl
theorem aQQ:(Rows.wholeOneWayUptoRow.named == Tryz.prog.varsNamed 5)=true:=by kernel_rfl
theorem aQR:joinedFacts Tryz.prog 5 Tryz.f5 (Rows.OpenSpec.upto Rows.wholeOneWaySpec).bare Rows.wholeOneWayUptoRow=true:=by
 unfold joinedFacts
 iterate 19 refine aEv (by kernel_rfl) ?_
 refine aEv aQQ (aEv aQP (aEv aQO (aEv aQN ?_)))
 kernel_rfl
theorem aQs:Rows.WholeOneWayUptoSaid:=
 OpenClaim.holds_of_cond 5 Tryz.f5 rfl rfl rfl rfl rfl rfl rfl ⟨rfl,rfl,rfl,rfl,rfl⟩ rfl rfl rfl rfl rfl (by kernel_rfl) Tryz.func5 aQR
  (of_decide_eq_true (by kernel_rfl)) (by unfold Func.isWrapper;first|(rw[if_pos (by decide +kernel)];kernel_rfl)|(rw[if_neg (by decide +kernel)];exact⟨rfl,rfl⟩))
  (fun os started H enc _ F=>by rw[OpenClaim.pre_eq_preRow];exact aPX os started H enc F)
theorem plain (f:FuncId) (fn:Func) (hf:Tryz.pinned.checked.prog.funcNamed "chitty/chittytop.WholeOneWay" = some f) (hfn:Tryz.pinned.checked.prog.funcs[f]? = some fn) :
  true=Tryz.pinned.checked.prog.looks []∧∀ (j:Nat) t,fn.params[j]? = some t→Tryz.pinned.checked.prog.wantsStandIn t=false:=by
 obtain rfl:f=5:=Option.some.inj ((show Tryz.prog.funcNamed "chitty/chittytop.WholeOneWay" = some 5 by kernel_rfl).symm.trans hf) |>.symm
 obtain rfl:fn=Tryz.f5:=(Option.some.inj (Tryz.func5.symm.trans hfn)).symm
 refine⟨by kernel_rfl,fun j t ht=>?_⟩
 rw[Tryz.params5] at ht
 have hm:t=77∨t=81∨t=81:=by simpa using Array.mem_of_getElem? ht
 rcases hm with rfl|rfl|rfl
 ·exact(show Tryz.prog.wantsStandIn 77=false by kernel_rfl)
 ·exact(show Tryz.prog.wantsStandIn 81=false by kernel_rfl)
 ·exact(show Tryz.prog.wantsStandIn 81=false by kernel_rfl)
theorem card:Rows.WholeOneWayUptoCardSaid:=
 Claim7.holds_tied_plain_at .later [] _ _ _ _ aQs (fun _ h=>by cases h) (by kernel_rfl) (fun _ h=>by cases h) wholeOneWay_row_tie rfl ⟨rfl,rfl⟩ (by kernel_rfl) rfl plain (by kernel_rfl)
#print axioms card
end Go.Proofs.YtefdnmeopbkflaaGreatDoor.wholeOneWay
