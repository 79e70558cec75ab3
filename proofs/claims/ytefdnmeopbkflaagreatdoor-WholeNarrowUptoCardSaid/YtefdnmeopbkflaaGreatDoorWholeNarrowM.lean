/-
  WholeNarrow: what the narrower one allows, the wider one allows.
-/
import Derived.Test.YtefdnmeopbkflaaGreatDoorCards
import Derived.Test.YtefdnmeopbkflaaGreatDoorTie
import Derived.WalkKit
import Derived.ProofKit
import Derived.OpenShut
import Derived.ShutString
import Derived.ChangeOld
import Derived.Below
import Derived.Deep.DeepHandedRow
import Derived.Lib.LaidTab
import Derived.Test.YtefdnmeopbkflaaGreatDoorBNa6
namespace Go.Proofs.YtefdnmeopbkflaaGreatDoor.wholeNarrow
open Go.ChangeShapes Go.WideShapes Go.ChangeAt Go.RowKit
open Go.ChangeMaps (open_string shut_string)
set_option linter.unusedVariables false
set_option maxRecDepth 100000
theorem own:ownKnob Tryz.prog.godebug=none:=by kernel_rfl
theorem aEI:laidOutB Tryz.prog=true:=by kernel_rfl
theorem aQt {H:Type} {enc:TypeId×Value→H} {base base0:Nat} {held:Bool} (v0 v1 v2:Value) (w:World) {d0 d1 d2:DataW H} {p0 p1 p2:List MemPlace} (k0:Value.okWide Tryz.prog w .any base0 81 v0) (h0:DataW.Trod enc Tryz.prog w base (fun _=>true) held 81 v0 d0 p0) (k1:Value.okWide Tryz.prog w .any base0 81 v1) (h1:DataW.Trod enc Tryz.prog w base (fun _=>true) held 81 v1 d1 p1)
  (k2:Value.okWide Tryz.prog w .any base0 32 v2) (h2:DataW.Trod enc Tryz.prog w base (fun _=>true) held 32 v2 d2 p2) (b0:Rows.uptoBulk d0≤1048576) (b1:Rows.uptoBulk d1≤1048576) (hG:∃ G:Gv,∀ n,512≤n→V.GOk (V.Env.start w n) (@GP G)) :
  Calls Tryz.prog 7 #[v0,v1,v2] w fun e w'=>e=.returned (.bool true)∧Below w.heap.size w w':=by
 obtain⟨G,hG⟩:=hG
 obtain⟨d,N0,a1,a2,a3,a4,a5,a6⟩:=aCy k0 h0
 obtain⟨o,N1,e1,e2,e3,e4,e5,e6⟩:=aCy k1 h1
 obtain⟨rq,u,c,c1,c2,c3,c4,c5,c6⟩:=aJr k2 h2
 have each:∀ (l:List (List UInt8)) (s:List UInt8),s∈l→s.length≤kF l:=by
  intro l
  induction l with
  | nil=>intro s hs;cases hs
  | cons x xs ih=>
   intro s hs
   simp only[kF]
   rcases List.mem_cons.1 hs with rfl|hs
   ·omega
   ·have:=ih s hs;omega
 have t1:=aBm d.names
 have t2:=aBm o.names
 have hd:InP d:=⟨a1,by omega,fun s hs=>by have:=each _ s hs;omega,by omega,a2,a3,a4⟩
 have ho:InP o:=⟨e1,by omega,fun s hs=>by have:=each _ s hs;omega,by omega,e2,e3,e4⟩
 have key:=aJg aQG d o .no .no rfl rfl hd ho rq c1 c2 c3 u c c4
 refine V.aFX key w (512+N0+N1) (hG _ (by omega)) ?_
 simp only[V.bY]
 exact⟨_,_,rfl,a6 _ (by omega),_,_,rfl,e6 _ (by omega),_,_,rfl,c6 _,rfl⟩
theorem aIT {H:Type} {d:DataW H} {l:List (DataW H)} (h:d∈l):Rows.uptoBulk d≤Rows.uptoBulkAll l:=by
 induction l with
 | nil=>cases h
 | cons x r ih=>
  simp only[Rows.uptoBulkAll]
  cases List.mem_cons.1 h with
  | inl e=>subst e;omega
  | inr e=>have:=ih e;omega
theorem aLN (H:Type) (enc:TypeId×Value→H) (W:World) (base:Nat) (args:Array Value) (ds gs:List (DataW H)) (before:List MemPlace)
  (hval0:∀ (j:Nat) t v,Tryz.f7.params[j]? = some t→args[j]? = some v→Value.okWide Tryz.prog W .any base t v)
  (hW:DataW.Whole enc Tryz.prog Tryz.f7.params.toList Rows.wholeNarrowSpec.vars false W args.toList ds gs before) (hk:Rows.uptoSmall H (ds++gs)=true) (hL:laidMetH Tryz.prog Rows.wholeNarrowUptoRow.laid W) (hsh:W.ShapedOpen Tryz.prog) :
  Calls Tryz.prog 7 args W fun e W'=>∃ v,e=.returned v∧Rows.wholeNarrowSpec.post enc Tryz.prog Tryz.f7 false true false false W args v W':=by
 have hval:∀ (j:Nat) t v,Tryz.f7.params[j]? = some t→args[j]? = some v→Value.okWide Tryz.prog W .any base t v:=hval0
 have hG:=gok hL hsh
 have hW':=hW
 obtain⟨p,q,hA0,hV,rfl,hfz,hnd⟩:=hW
 have hA:DataW.TrodAll enc Tryz.prog W 0 (fun _=>true) true Tryz.f7.params.toList args.toList ds p:=hA0
 rw[Tryz.params7] at hA hval
 have hsm:Rows.uptoBulkAll (ds++gs)≤1048576:=by simpa[Rows.uptoSmall] using hk
 obtain⟨v0,vs0,d0,ds0,p0,q0,hargs,rfl,rfl,h0,r0⟩:=trodAll_cons hA
 obtain⟨v1,vs1,d1,ds1,p1,q1,rfl,rfl,rfl,h1,r1⟩:=trodAll_cons r0
 obtain⟨v2,vs2,d2,ds2,p2,q2,rfl,rfl,rfl,h2,r2⟩:=trodAll_cons r1
 obtain⟨rfl,rfl,rfl⟩:=trodAll_nil r2
 obtain rfl:args=#[v0,v1,v2]:=by cases args;simp_all
 obtain⟨rfl,rfl⟩:=trodVars_none hV
 have k0:=h0
 have lt0:∀ x∈p0,x.block<W.heap.size:=by obtain⟨m,hm⟩:=k0;exact DataW.trod_lt m _ _ _ hm
 have b0:Rows.uptoBulk d0≤1048576:=Nat.le_trans (aIT (by simp)) hsm
 have k1:=h1
 have lt1:∀ x∈p1,x.block<W.heap.size:=by obtain⟨m,hm⟩:=k1;exact DataW.trod_lt m _ _ _ hm
 have b1:Rows.uptoBulk d1≤1048576:=Nat.le_trans (aIT (by simp)) hsm
 have k2:=h2
 have lt2:∀ x∈p2,x.block<W.heap.size:=by obtain⟨m,hm⟩:=k2;exact DataW.trod_lt m _ _ _ hm
 clear hA0 hval0
 refine(aQt v0 v1 v2 W (hval 0 81 v0 rfl rfl) h0 (hval 1 81 v1 rfl rfl) h1 (hval 2 32 v2 rfl rfl) h2 b0 b1 hG).mono fun e W' ⟨he,bel⟩=>?_
 subst he
 exact⟨_,rfl,_,_,_,[],_,[],hW',trodAll_mk1 (shut_bool Tryz.underlying4 _),(trodAll_cons_mk (Below.trod aEI (by kernel_rfl) (of_decide_eq_true (by kernel_rfl)) k0 bel lt0) (trodAll_cons_mk (Below.trod aEI (by kernel_rfl) (of_decide_eq_true (by kernel_rfl)) k1 bel lt1) (trodAll_cons_mk (Below.trod aEI (by kernel_rfl) (of_decide_eq_true (by kernel_rfl)) k2 bel lt2) trodAll_mk0))),rfl,bel.frame _,fun h=>by cases h⟩
theorem aQd (os:Os) {H:Type} (enc:TypeId×Value→H):∃ places,DataW.whole enc Tryz.prog ((kS os).forCall (fun _ _=>0) ⟨#[],#[.agg #[.int .i64 0,.int .u64 0,.slice none 0 0,.string ByteArray.empty,.bool false,.int .u8 0,.int .u8 0,.int .u8 0,.int .u8 0,.int .u8 0,.int .u8 0,.int .u8 0,.int .u8 0,.int .u8 0,.int .u8 0,.int .u8 0,.int .u8 0,.int .u8 0,.int .u8 0,.int .u8 0,.int .u8 0,.int .i64 0,.float .f64 0],.agg #[.int .i64 0,.int .u64 0,.slice none 0 0,.string ByteArray.empty,.bool false,.int .u8 0,.int .u8 0,.int .u8 0,.int .u8 0,.int .u8 0,.int .u8 0,.int .u8 0,.int .u8 0,.int .u8 0,.int .u8 0,.int .u8 0,.int .u8 0,.int .u8 0,.int .u8 0,.int .u8 0,.int .u8 0,.int .i64 0,.float .f64 0],.agg #[.string ByteArray.empty,.string ByteArray.empty,.bool false,.int .u8 0,.int .u8 0,.int .u8 0,.int .u8 0,.int .u8 0,.int .u8 0,.int .u8 0,.int .u8 0,.int .u8 0,.int .u8 0,.int .u8 0,.int .u8 0,.int .u8 0,.int .u8 0,.int .u8 0,.int .u8 0,.float .f64 0,.int .u64 0,.int .u64 0]],[]⟩).memory Tryz.f7.params.toList Rows.wholeNarrowSpec.vars false (#[.agg #[.int .i64 0,.int .u64 0,.slice none 0 0,.string ByteArray.empty,.bool false,.int .u8 0,.int .u8 0,.int .u8 0,.int .u8 0,.int .u8 0,.int .u8 0,.int .u8 0,.int .u8 0,.int .u8 0,.int .u8 0,.int .u8 0,.int .u8 0,.int .u8 0,.int .u8 0,.int .u8 0,.int .u8 0,.int .i64 0,.float .f64 0],.agg #[.int .i64 0,.int .u64 0,.slice none 0 0,.string ByteArray.empty,.bool false,.int .u8 0,.int .u8 0,.int .u8 0,.int .u8 0,.int .u8 0,.int .u8 0,.int .u8 0,.int .u8 0,.int .u8 0,.int .u8 0,.int .u8 0,.int .u8 0,.int .u8 0,.int .u8 0,.int .u8 0,.int .u8 0,.int .i64 0,.float .f64 0],.agg #[.string ByteArray.empty,.string ByteArray.empty,.bool false,.int .u8 0,.int .u8 0,.int .u8 0,.int .u8 0,.int .u8 0,.int .u8 0,.int .u8 0,.int .u8 0,.int .u8 0,.int .u8 0,.int .u8 0,.int .u8 0,.int .u8 0,.int .u8 0,.int .u8 0,.int .u8 0,.float .f64 0,.int .u64 0,.int .u64 0]]:Array Value).toList 8=some ([.agg [.lit (.int .i64 0),.lit (.int .u64 0),.nil,.lit (.string []),.agg [.agg [.lit (.bool false),.agg (List.replicate 16 (.lit (.int .u8 0)))],.lit (.int .i64 0)],.lit (.float .f64 0)],.agg [.lit (.int .i64 0),.lit (.int .u64 0),.nil,.lit (.string []),.agg [.agg [.lit (.bool false),.agg (List.replicate 16 (.lit (.int .u8 0)))],.lit (.int .i64 0)],.lit (.float .f64 0)],.agg [.agg [.lit (.string []),.lit (.string []),.agg [.lit (.bool false),.agg (List.replicate 16 (.lit (.int .u8 0)))],.lit (.float .f64 0)],.lit (.int .u64 0),.lit (.int .u64 0)]],[],places):=
 ⟨[],by kernel_rfl⟩
theorem aQu (os:Os):((kS os).forCall (fun _ _=>0) ⟨#[],#[.agg #[.int .i64 0,.int .u64 0,.slice none 0 0,.string ByteArray.empty,.bool false,.int .u8 0,.int .u8 0,.int .u8 0,.int .u8 0,.int .u8 0,.int .u8 0,.int .u8 0,.int .u8 0,.int .u8 0,.int .u8 0,.int .u8 0,.int .u8 0,.int .u8 0,.int .u8 0,.int .u8 0,.int .u8 0,.int .i64 0,.float .f64 0],.agg #[.int .i64 0,.int .u64 0,.slice none 0 0,.string ByteArray.empty,.bool false,.int .u8 0,.int .u8 0,.int .u8 0,.int .u8 0,.int .u8 0,.int .u8 0,.int .u8 0,.int .u8 0,.int .u8 0,.int .u8 0,.int .u8 0,.int .u8 0,.int .u8 0,.int .u8 0,.int .u8 0,.int .u8 0,.int .i64 0,.float .f64 0],.agg #[.string ByteArray.empty,.string ByteArray.empty,.bool false,.int .u8 0,.int .u8 0,.int .u8 0,.int .u8 0,.int .u8 0,.int .u8 0,.int .u8 0,.int .u8 0,.int .u8 0,.int .u8 0,.int .u8 0,.int .u8 0,.int .u8 0,.int .u8 0,.int .u8 0,.int .u8 0,.float .f64 0,.int .u64 0,.int .u64 0]],[]⟩).variablesRefB Tryz.checked.prog=true:=by kernel_rfl
theorem aQv (os:Os):(((kS os).forCall (fun _ _=>0) ⟨#[],#[.agg #[.int .i64 0,.int .u64 0,.slice none 0 0,.string ByteArray.empty,.bool false,.int .u8 0,.int .u8 0,.int .u8 0,.int .u8 0,.int .u8 0,.int .u8 0,.int .u8 0,.int .u8 0,.int .u8 0,.int .u8 0,.int .u8 0,.int .u8 0,.int .u8 0,.int .u8 0,.int .u8 0,.int .u8 0,.int .i64 0,.float .f64 0],.agg #[.int .i64 0,.int .u64 0,.slice none 0 0,.string ByteArray.empty,.bool false,.int .u8 0,.int .u8 0,.int .u8 0,.int .u8 0,.int .u8 0,.int .u8 0,.int .u8 0,.int .u8 0,.int .u8 0,.int .u8 0,.int .u8 0,.int .u8 0,.int .u8 0,.int .u8 0,.int .u8 0,.int .u8 0,.int .i64 0,.float .f64 0],.agg #[.string ByteArray.empty,.string ByteArray.empty,.bool false,.int .u8 0,.int .u8 0,.int .u8 0,.int .u8 0,.int .u8 0,.int .u8 0,.int .u8 0,.int .u8 0,.int .u8 0,.int .u8 0,.int .u8 0,.int .u8 0,.int .u8 0,.int .u8 0,.int .u8 0,.int .u8 0,.float .f64 0,.int .u64 0,.int .u64 0]],[]⟩).heap.toList.drop Tryz.checked.prog.globals.size).take ((begin Tryz.checked.prog (fun _ _=>0) default).world.heap.size - Tryz.checked.prog.globals.size) =
   (begin Tryz.checked.prog (fun _ _=>0) default).world.heap.toList.drop Tryz.checked.prog.globals.size:=by kernel_rfl
theorem aQw (os:Os):Input.okWideB Tryz.checked.prog ((kS os).forCall (fun _ _=>0) ⟨#[],#[.agg #[.int .i64 0,.int .u64 0,.slice none 0 0,.string ByteArray.empty,.bool false,.int .u8 0,.int .u8 0,.int .u8 0,.int .u8 0,.int .u8 0,.int .u8 0,.int .u8 0,.int .u8 0,.int .u8 0,.int .u8 0,.int .u8 0,.int .u8 0,.int .u8 0,.int .u8 0,.int .u8 0,.int .u8 0,.int .i64 0,.float .f64 0],.agg #[.int .i64 0,.int .u64 0,.slice none 0 0,.string ByteArray.empty,.bool false,.int .u8 0,.int .u8 0,.int .u8 0,.int .u8 0,.int .u8 0,.int .u8 0,.int .u8 0,.int .u8 0,.int .u8 0,.int .u8 0,.int .u8 0,.int .u8 0,.int .u8 0,.int .u8 0,.int .u8 0,.int .u8 0,.int .i64 0,.float .f64 0],.agg #[.string ByteArray.empty,.string ByteArray.empty,.bool false,.int .u8 0,.int .u8 0,.int .u8 0,.int .u8 0,.int .u8 0,.int .u8 0,.int .u8 0,.int .u8 0,.int .u8 0,.int .u8 0,.int .u8 0,.int .u8 0,.int .u8 0,.int .u8 0,.int .u8 0,.int .u8 0,.float .f64 0,.int .u64 0,.int .u64 0]],[]⟩) 7 ⟨#[],#[.agg #[.int .i64 0,.int .u64 0,.slice none 0 0,.string ByteArray.empty,.bool false,.int .u8 0,.int .u8 0,.int .u8 0,.int .u8 0,.int .u8 0,.int .u8 0,.int .u8 0,.int .u8 0,.int .u8 0,.int .u8 0,.int .u8 0,.int .u8 0,.int .u8 0,.int .u8 0,.int .u8 0,.int .u8 0,.int .i64 0,.float .f64 0],.agg #[.int .i64 0,.int .u64 0,.slice none 0 0,.string ByteArray.empty,.bool false,.int .u8 0,.int .u8 0,.int .u8 0,.int .u8 0,.int .u8 0,.int .u8 0,.int .u8 0,.int .u8 0,.int .u8 0,.int .u8 0,.int .u8 0,.int .u8 0,.int .u8 0,.int .u8 0,.int .u8 0,.int .u8 0,.int .i64 0,.float .f64 0],.agg #[.string ByteArray.empty,.string ByteArray.empty,.bool false,.int .u8 0,.int .u8 0,.int .u8 0,.int .u8 0,.int .u8 0,.int .u8 0,.int .u8 0,.int .u8 0,.int .u8 0,.int .u8 0,.int .u8 0,.int .u8 0,.int .u8 0,.int .u8 0,.int .u8 0,.int .u8 0,.float .f64 0,.int .u64 0,.int .u64 0]],[]⟩=true:=by kernel_rfl
theorem aQj (os:Os):(kS os).os=os:=rfl
theorem aQx (os:Os) {H:Type} (enc:TypeId×Value→H):(Rows.OpenSpec.upto Rows.wholeNarrowSpec).preRow enc Tryz.prog Tryz.f7 Rows.wholeNarrowUptoRow.domain false Rows.wholeNarrowUptoRow.laid ((kS os).forCall (fun _ _=>0) ⟨#[],#[.agg #[.int .i64 0,.int .u64 0,.slice none 0 0,.string ByteArray.empty,.bool false,.int .u8 0,.int .u8 0,.int .u8 0,.int .u8 0,.int .u8 0,.int .u8 0,.int .u8 0,.int .u8 0,.int .u8 0,.int .u8 0,.int .u8 0,.int .u8 0,.int .u8 0,.int .u8 0,.int .u8 0,.int .u8 0,.int .i64 0,.float .f64 0],.agg #[.int .i64 0,.int .u64 0,.slice none 0 0,.string ByteArray.empty,.bool false,.int .u8 0,.int .u8 0,.int .u8 0,.int .u8 0,.int .u8 0,.int .u8 0,.int .u8 0,.int .u8 0,.int .u8 0,.int .u8 0,.int .u8 0,.int .u8 0,.int .u8 0,.int .u8 0,.int .u8 0,.int .u8 0,.int .i64 0,.float .f64 0],.agg #[.string ByteArray.empty,.string ByteArray.empty,.bool false,.int .u8 0,.int .u8 0,.int .u8 0,.int .u8 0,.int .u8 0,.int .u8 0,.int .u8 0,.int .u8 0,.int .u8 0,.int .u8 0,.int .u8 0,.int .u8 0,.int .u8 0,.int .u8 0,.int .u8 0,.int .u8 0,.float .f64 0,.int .u64 0,.int .u64 0]],[]⟩).memory #[.agg #[.int .i64 0,.int .u64 0,.slice none 0 0,.string ByteArray.empty,.bool false,.int .u8 0,.int .u8 0,.int .u8 0,.int .u8 0,.int .u8 0,.int .u8 0,.int .u8 0,.int .u8 0,.int .u8 0,.int .u8 0,.int .u8 0,.int .u8 0,.int .u8 0,.int .u8 0,.int .u8 0,.int .u8 0,.int .i64 0,.float .f64 0],.agg #[.int .i64 0,.int .u64 0,.slice none 0 0,.string ByteArray.empty,.bool false,.int .u8 0,.int .u8 0,.int .u8 0,.int .u8 0,.int .u8 0,.int .u8 0,.int .u8 0,.int .u8 0,.int .u8 0,.int .u8 0,.int .u8 0,.int .u8 0,.int .u8 0,.int .u8 0,.int .u8 0,.int .u8 0,.int .i64 0,.float .f64 0],.agg #[.string ByteArray.empty,.string ByteArray.empty,.bool false,.int .u8 0,.int .u8 0,.int .u8 0,.int .u8 0,.int .u8 0,.int .u8 0,.int .u8 0,.int .u8 0,.int .u8 0,.int .u8 0,.int .u8 0,.int .u8 0,.int .u8 0,.int .u8 0,.int .u8 0,.int .u8 0,.float .f64 0,.int .u64 0,.int .u64 0]]:=by
 obtain⟨places,hx⟩:=aQd os enc
 exact OpenSpec.preRow_of_cond 8 hx (by kernel_rfl) (fun k hk=>by cases hk;kernel_rfl) (by kernel_rfl) (aJY os _)
theorem aPh:Tryz.checked.prog.inits.idxOf? 7=none:=by kernel_rfl
theorem aPX (os:Os) (started:os.Started) (H:Type) (enc:TypeId×Value→H) (F:Stop.Interp) :
  ReturnsInHanded {} Tryz.checked os 7 .any ((Rows.OpenSpec.upto Rows.wholeNarrowSpec).preRow enc Tryz.prog Tryz.f7 Rows.wholeNarrowUptoRow.domain false Rows.wholeNarrowUptoRow.laid) (((Rows.OpenSpec.upto Rows.wholeNarrowSpec).at F).post enc Tryz.prog Tryz.f7 false true false false):=
 returnsInHanded_of_row (C:=Tryz.checked) (s:=Rows.OpenSpec.upto Rows.wholeNarrowSpec) own started aPh Tryz.func7
  (witness_row_atRef (enc:=enc) (C:=Tryz.checked) false (kS os) #[.agg #[.int .i64 0,.int .u64 0,.slice none 0 0,.string ByteArray.empty,.bool false,.int .u8 0,.int .u8 0,.int .u8 0,.int .u8 0,.int .u8 0,.int .u8 0,.int .u8 0,.int .u8 0,.int .u8 0,.int .u8 0,.int .u8 0,.int .u8 0,.int .u8 0,.int .u8 0,.int .u8 0,.int .u8 0,.int .i64 0,.float .f64 0],.agg #[.int .i64 0,.int .u64 0,.slice none 0 0,.string ByteArray.empty,.bool false,.int .u8 0,.int .u8 0,.int .u8 0,.int .u8 0,.int .u8 0,.int .u8 0,.int .u8 0,.int .u8 0,.int .u8 0,.int .u8 0,.int .u8 0,.int .u8 0,.int .u8 0,.int .u8 0,.int .u8 0,.int .u8 0,.int .i64 0,.float .f64 0],.agg #[.string ByteArray.empty,.string ByteArray.empty,.bool false,.int .u8 0,.int .u8 0,.int .u8 0,.int .u8 0,.int .u8 0,.int .u8 0,.int .u8 0,.int .u8 0,.int .u8 0,.int .u8 0,.int .u8 0,.int .u8 0,.int .u8 0,.int .u8 0,.int .u8 0,.int .u8 0,.float .f64 0,.int .u64 0,.int .u64 0]] (aQj os) (aQu os) (aQv os) (aQw os) (aQx os enc))
  fun W base args ds gs before hval hW _ hk _ hL hsh _=>aLN H enc W base args ds gs before hval hW (hk _ rfl) hL hsh
theorem aEv {a b:Bool} (hb:b=true) (ha:a=true):(a&&b)=true:=by rw[ha,hb];rfl
theorem aQN:(Rows.wholeNarrowUptoRow.inPlace == Tryz.prog.inPlace 7)=true:=by kernel_rfl
theorem aQO:(Rows.wholeNarrowUptoRow.unfollowed == Tryz.prog.unfollowed 7)=true:=by kernel_rfl
theorem aQP:(Rows.wholeNarrowUptoRow.recurses == Tryz.prog.recurses 7)=true:=by kernel_rfl
theorem aQQ:(Rows.wholeNarrowUptoRow.named == Tryz.prog.varsNamed 7)=true:=by kernel_rfl
theorem aQR:joinedFacts Tryz.prog 7 Tryz.f7 (Rows.OpenSpec.upto Rows.wholeNarrowSpec).bare Rows.wholeNarrowUptoRow=true:=by
 unfold joinedFacts
 iterate 19 refine aEv (by kernel_rfl) ?_
 refine aEv aQQ (aEv aQP (aEv aQO (aEv aQN ?_)))
 kernel_rfl
theorem aQs:Rows.WholeNarrowUptoSaid:=
 OpenClaim.holds_of_cond 7 Tryz.f7 rfl rfl rfl rfl rfl rfl rfl ⟨rfl,rfl,rfl,rfl,rfl⟩ rfl rfl rfl rfl rfl (by kernel_rfl) Tryz.func7 aQR
  (of_decide_eq_true (by kernel_rfl)) (by unfold Func.isWrapper;first|(rw[if_pos (by decide +kernel)];kernel_rfl)|(rw[if_neg (by decide +kernel)];exact⟨rfl,rfl⟩))
  (fun os started H enc _ F=>by rw[OpenClaim.pre_eq_preRow];exact aPX os started H enc F)
theorem plain (f:FuncId) (fn:Func) (hf:Tryz.pinned.checked.prog.funcNamed "chitty/chittytop.WholeNarrow" = some f) (hfn:Tryz.pinned.checked.prog.funcs[f]? = some fn) :
  true=Tryz.pinned.checked.prog.looks []∧∀ (j:Nat) t,fn.params[j]? = some t→Tryz.pinned.checked.prog.wantsStandIn t=false:=by
 obtain rfl:f=7:=Option.some.inj ((show Tryz.prog.funcNamed "chitty/chittytop.WholeNarrow" = some 7 by kernel_rfl).symm.trans hf) |>.symm
 obtain rfl:fn=Tryz.f7:=(Option.some.inj (Tryz.func7.symm.trans hfn)).symm
 refine⟨by kernel_rfl,fun j t ht=>?_⟩
 rw[Tryz.params7] at ht
 have hm:t=81∨t=81∨t=32:=by simpa using Array.mem_of_getElem? ht
 rcases hm with rfl|rfl|rfl
 ·exact(show Tryz.prog.wantsStandIn 81=false by kernel_rfl)
 ·exact(show Tryz.prog.wantsStandIn 81=false by kernel_rfl)
 ·exact(show Tryz.prog.wantsStandIn 32=false by kernel_rfl)
theorem card:Rows.WholeNarrowUptoCardSaid:=
 Claim7.holds_tied_plain_at .later [] _ _ _ _ aQs (fun _ h=>by cases h) (by kernel_rfl) (fun _ h=>by cases h) wholeNarrow_row_tie rfl ⟨rfl,rfl⟩ (by kernel_rfl) rfl plain (by kernel_rfl)
#print axioms card
end Go.Proofs.YtefdnmeopbkflaaGreatDoor.wholeNarrow
