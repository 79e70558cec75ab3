import Derived.Test.YtefdnmeopbkflaaGreatDoorCards
import Derived.Test.YtefdnmeopbkflaaGreatDoorTie
import Derived.WalkKit
import Derived.ProofKit
import Derived.OpenShut
import Derived.ShutString
import Derived.ChangeOld
import Derived.Below
import Derived.Deep.DeepHandedRow
import Derived.Lib.LaidTab
import Derived.Test.YtefdnmeopbkflaaGreatDoorBMi5
namespace Go.Proofs.YtefdnmeopbkflaaGreatDoor.wholeMinted
open Go.ChangeShapes Go.WideShapes Go.ChangeAt Go.RowKit
open Go.ChangeMaps (open_string shut_string)
set_option linter.unusedVariables false
set_option maxRecDepth 100000

theorem own : ownKnob Tryz.prog.godebug = none := by kernel_rfl
theorem laidOut : laidOutB Tryz.prog = true := by kernel_rfl

theorem walk (z0 : List Int) (a1 : ByteArray) (v2 : Value) (w : World) (l0 : z0.length = 32) (w0 : ∀ z ∈ z0, (Lit.int .u8 z).wf = true) (w1 : a1.size ≤ maxLen) {base : Nat} (h2 : Value.okWide Tryz.prog w .any base 32 v2) (hG : ∃ G : Gv, ∀ n, 512 ≤ n → V.GOk (V.Env.start w n) (@GP G)) :
    Calls Tryz.prog 3 #[.agg (z0.map (Value.int .u8)).toArray, .string a1, v2] w fun e w' => e = .returned (.bool true) ∧ Below w.heap.size w w' := by
  obtain ⟨G, hG⟩ := hG
  obtain ⟨l, hl, hlen⟩ := V.bytes_Is w0
  have hr := V.repV_Is (V.Env.start w 512) .u8 z0
  rw [hl] at hr
  obtain ⟨s, rfl⟩ : ∃ s : List UInt8, a1 = ⟨s.toArray⟩ := ⟨a1.data.toList, by simp⟩
  have hs : s.length < 9223372036854775808 := by
    have h : s.length ≤ maxLen := w1
    have e : maxLen = 9223372036854775807 := rfl
    omega
  obtain ⟨AK, op, path, u, c, hrep, hA, hR, ho, hp, hu, hc⟩ := open_ask h2
  exact V.law_calls_g (minted_ok Cq_ok l (by omega) s hs AK _ u c hA op path hR ho hp hu hc) w 512 (hG _ (Nat.le_refl _)) (by simp only [V.RepL]; exact ⟨_, _, rfl, hr, _, _, rfl, by simp only [str, V.RepV], _, _, rfl, hrep _, rfl⟩)

theorem contract (H : Type) (enc : TypeId × Value → H) (W : World) (base : Nat) (args : Array Value) (ds gs : List (DataW H)) (before : List MemPlace)
    (hval0 : ∀ (j : Nat) t v, Tryz.f3.params[j]? = some t → args[j]? = some v → Value.okWide Tryz.prog W .any base t v)
    (hW : DataW.Whole enc Tryz.prog Tryz.f3.params.toList Rows.wholeMintedSpec.vars false W args.toList ds gs before) (hL : laidMetH Tryz.prog Rows.wholeMintedRow.laid W) (hsh : W.ShapedOpen Tryz.prog) :
    Calls Tryz.prog 3 args W fun e W' => ∃ v, e = .returned v ∧ Rows.wholeMintedSpec.post enc Tryz.prog Tryz.f3 false true false false W args v W' := by
  have hval : ∀ (j : Nat) t v, Tryz.f3.params[j]? = some t → args[j]? = some v → Value.okWide Tryz.prog W .any base t v := hval0
  have hG := gok hL hsh
  have hW' := hW
  obtain ⟨p, q, hA0, hV, rfl, hfz, hnd⟩ := hW
  have hA : DataW.TrodAll enc Tryz.prog W 0 (fun _ => true) true Tryz.f3.params.toList args.toList ds p := hA0
  rw [Tryz.params3] at hA hval
  obtain ⟨v0, vs0, d0, ds0, p0, q0, hargs, rfl, rfl, h0, r0⟩ := trodAll_cons hA
  obtain ⟨v1, vs1, d1, ds1, p1, q1, rfl, rfl, rfl, h1, r1⟩ := trodAll_cons r0
  obtain ⟨v2, vs2, d2, ds2, p2, q2, rfl, rfl, rfl, h2, r2⟩ := trodAll_cons r1
  obtain ⟨rfl, rfl, rfl⟩ := trodAll_nil r2
  obtain rfl : args = #[v0, v1, v2] := by cases args; simp_all
  obtain ⟨rfl, rfl⟩ := trodVars_none hV
  have k0 := h0
  have lt0 : ∀ x ∈ p0, x.block < W.heap.size := by obtain ⟨m, hm⟩ := k0; exact DataW.trod_lt m _ _ _ hm
  obtain ⟨z0, rfl, l0, w0⟩ := V.open_arrI Tryz.underlying23 Tryz.underlying5 (by kernel_rfl) (by kernel_rfl) (hval 0 23 v0 rfl rfl) h0
  have k1 := h1
  have lt1 : ∀ x ∈ p1, x.block < W.heap.size := by obtain ⟨m, hm⟩ := k1; exact DataW.trod_lt m _ _ _ hm
  obtain ⟨a1, rfl, rfl, rfl, w1⟩ := open_string Tryz.underlying9 (hval 1 9 v1 rfl rfl) h1
  have k2 := h2
  have lt2 : ∀ x ∈ p2, x.block < W.heap.size := by obtain ⟨m, hm⟩ := k2; exact DataW.trod_lt m _ _ _ hm
  clear hA0 hval0
  refine (walk z0 a1 v2 W l0 w0 w1 (hval 2 32 v2 rfl rfl) hG).mono fun e W' ⟨he, bel⟩ => ?_
  subst he
  exact ⟨_, rfl, _, _, _, [], _, [], hW', trodAll_mk1 (shut_bool Tryz.underlying4 _), (trodAll_cons_mk (Below.trod laidOut (by kernel_rfl) (of_decide_eq_true (by kernel_rfl)) k0 bel lt0) (trodAll_cons_mk (Below.trod laidOut (by kernel_rfl) (of_decide_eq_true (by kernel_rfl)) k1 bel lt1) (trodAll_cons_mk (Below.trod laidOut (by kernel_rfl) (of_decide_eq_true (by kernel_rfl)) k2 bel lt2) trodAll_mk0))), rfl, bel.frame _, fun h => by cases h⟩

theorem reads (os : Os) {H : Type} (enc : TypeId × Value → H) : ∃ places, DataW.whole enc Tryz.prog ((laidWorld os).forCall (fun _ _ => 0) ⟨#[], #[.agg (Array.replicate 32 (.int .u8 0)), .string ByteArray.empty, .agg #[.string ByteArray.empty, .string ByteArray.empty, .bool false, .int .u8 0, .int .u8 0, .int .u8 0, .int .u8 0, .int .u8 0, .int .u8 0, .int .u8 0, .int .u8 0, .int .u8 0, .int .u8 0, .int .u8 0, .int .u8 0, .int .u8 0, .int .u8 0, .int .u8 0, .int .u8 0, .float .f64 0, .int .u64 0, .int .u64 0]], []⟩).memory Tryz.f3.params.toList Rows.wholeMintedSpec.vars false (#[.agg (Array.replicate 32 (.int .u8 0)), .string ByteArray.empty, .agg #[.string ByteArray.empty, .string ByteArray.empty, .bool false, .int .u8 0, .int .u8 0, .int .u8 0, .int .u8 0, .int .u8 0, .int .u8 0, .int .u8 0, .int .u8 0, .int .u8 0, .int .u8 0, .int .u8 0, .int .u8 0, .int .u8 0, .int .u8 0, .int .u8 0, .int .u8 0, .float .f64 0, .int .u64 0, .int .u64 0]] : Array Value).toList 8 = some ([.agg (List.replicate 32 (.lit (.int .u8 0))), .lit (.string []), .agg [.agg [.lit (.string []), .lit (.string []), .agg [.lit (.bool false), .agg (List.replicate 16 (.lit (.int .u8 0)))], .lit (.float .f64 0)], .lit (.int .u64 0), .lit (.int .u64 0)]], [], places) :=
  ⟨[], by kernel_rfl⟩
theorem wit1 (os : Os) : ((laidWorld os).forCall (fun _ _ => 0) ⟨#[], #[.agg (Array.replicate 32 (.int .u8 0)), .string ByteArray.empty, .agg #[.string ByteArray.empty, .string ByteArray.empty, .bool false, .int .u8 0, .int .u8 0, .int .u8 0, .int .u8 0, .int .u8 0, .int .u8 0, .int .u8 0, .int .u8 0, .int .u8 0, .int .u8 0, .int .u8 0, .int .u8 0, .int .u8 0, .int .u8 0, .int .u8 0, .int .u8 0, .float .f64 0, .int .u64 0, .int .u64 0]], []⟩).variablesRefB Tryz.checked.prog = true := by kernel_rfl
theorem wit2 (os : Os) : (((laidWorld os).forCall (fun _ _ => 0) ⟨#[], #[.agg (Array.replicate 32 (.int .u8 0)), .string ByteArray.empty, .agg #[.string ByteArray.empty, .string ByteArray.empty, .bool false, .int .u8 0, .int .u8 0, .int .u8 0, .int .u8 0, .int .u8 0, .int .u8 0, .int .u8 0, .int .u8 0, .int .u8 0, .int .u8 0, .int .u8 0, .int .u8 0, .int .u8 0, .int .u8 0, .int .u8 0, .int .u8 0, .float .f64 0, .int .u64 0, .int .u64 0]], []⟩).heap.toList.drop Tryz.checked.prog.globals.size).take ((begin Tryz.checked.prog (fun _ _ => 0) default).world.heap.size - Tryz.checked.prog.globals.size) =
      (begin Tryz.checked.prog (fun _ _ => 0) default).world.heap.toList.drop Tryz.checked.prog.globals.size := by kernel_rfl
theorem wit3 (os : Os) : Input.okWideB Tryz.checked.prog ((laidWorld os).forCall (fun _ _ => 0) ⟨#[], #[.agg (Array.replicate 32 (.int .u8 0)), .string ByteArray.empty, .agg #[.string ByteArray.empty, .string ByteArray.empty, .bool false, .int .u8 0, .int .u8 0, .int .u8 0, .int .u8 0, .int .u8 0, .int .u8 0, .int .u8 0, .int .u8 0, .int .u8 0, .int .u8 0, .int .u8 0, .int .u8 0, .int .u8 0, .int .u8 0, .int .u8 0, .int .u8 0, .float .f64 0, .int .u64 0, .int .u64 0]], []⟩) 3 ⟨#[], #[.agg (Array.replicate 32 (.int .u8 0)), .string ByteArray.empty, .agg #[.string ByteArray.empty, .string ByteArray.empty, .bool false, .int .u8 0, .int .u8 0, .int .u8 0, .int .u8 0, .int .u8 0, .int .u8 0, .int .u8 0, .int .u8 0, .int .u8 0, .int .u8 0, .int .u8 0, .int .u8 0, .int .u8 0, .int .u8 0, .int .u8 0, .int .u8 0, .float .f64 0, .int .u64 0, .int .u64 0]], []⟩ = true := by kernel_rfl
theorem witOs (os : Os) : (laidWorld os).os = os := rfl
theorem wit4 (os : Os) {H : Type} (enc : TypeId × Value → H) : (OpenSpec.ofChange Rows.wholeMintedSpec).preRow enc Tryz.prog Tryz.f3 Rows.wholeMintedRow.domain false Rows.wholeMintedRow.laid ((laidWorld os).forCall (fun _ _ => 0) ⟨#[], #[.agg (Array.replicate 32 (.int .u8 0)), .string ByteArray.empty, .agg #[.string ByteArray.empty, .string ByteArray.empty, .bool false, .int .u8 0, .int .u8 0, .int .u8 0, .int .u8 0, .int .u8 0, .int .u8 0, .int .u8 0, .int .u8 0, .int .u8 0, .int .u8 0, .int .u8 0, .int .u8 0, .int .u8 0, .int .u8 0, .int .u8 0, .int .u8 0, .float .f64 0, .int .u64 0, .int .u64 0]], []⟩).memory #[.agg (Array.replicate 32 (.int .u8 0)), .string ByteArray.empty, .agg #[.string ByteArray.empty, .string ByteArray.empty, .bool false, .int .u8 0, .int .u8 0, .int .u8 0, .int .u8 0, .int .u8 0, .int .u8 0, .int .u8 0, .int .u8 0, .int .u8 0, .int .u8 0, .int .u8 0, .int .u8 0, .int .u8 0, .int .u8 0, .int .u8 0, .int .u8 0, .float .f64 0, .int .u64 0, .int .u64 0]] := by
  obtain ⟨places, hx⟩ := reads os enc
  exact OpenSpec.preRow_of_cond 8 hx (by kernel_rfl) (fun k hk => by cases hk) (by kernel_rfl) (laid_metH os _)
theorem noInit : Tryz.checked.prog.inits.idxOf? 3 = none := by kernel_rfl

theorem lifted (os : Os) (started : os.Started) (H : Type) (enc : TypeId × Value → H) (F : Stop.Interp) :
    ReturnsInHanded {} Tryz.checked os 3 .any ((OpenSpec.ofChange Rows.wholeMintedSpec).preRow enc Tryz.prog Tryz.f3 Rows.wholeMintedRow.domain false Rows.wholeMintedRow.laid) (((OpenSpec.ofChange Rows.wholeMintedSpec).at F).post enc Tryz.prog Tryz.f3 false true false false) :=
  returnsInHanded_of_row (C := Tryz.checked) (s := OpenSpec.ofChange Rows.wholeMintedSpec) own started noInit Tryz.func3
    (witness_row_atRef (enc := enc) (C := Tryz.checked) false (laidWorld os) #[.agg (Array.replicate 32 (.int .u8 0)), .string ByteArray.empty, .agg #[.string ByteArray.empty, .string ByteArray.empty, .bool false, .int .u8 0, .int .u8 0, .int .u8 0, .int .u8 0, .int .u8 0, .int .u8 0, .int .u8 0, .int .u8 0, .int .u8 0, .int .u8 0, .int .u8 0, .int .u8 0, .int .u8 0, .int .u8 0, .int .u8 0, .int .u8 0, .float .f64 0, .int .u64 0, .int .u64 0]] (witOs os) (wit1 os) (wit2 os) (wit3 os) (wit4 os enc))
    fun W base args ds gs before hval hW _ _ _ hL hsh _ => contract H enc W base args ds gs before hval hW hL hsh

theorem and_l {a b : Bool} (hb : b = true) (ha : a = true) : (a && b) = true := by rw [ha, hb]; rfl
theorem fact1 : (Rows.wholeMintedRow.inPlace == Tryz.prog.inPlace 3) = true := by kernel_rfl
theorem fact2 : (Rows.wholeMintedRow.unfollowed == Tryz.prog.unfollowed 3) = true := by kernel_rfl
theorem fact3 : (Rows.wholeMintedRow.recurses == Tryz.prog.recurses 3) = true := by kernel_rfl
theorem fact4 : (Rows.wholeMintedRow.named == Tryz.prog.varsNamed 3) = true := by kernel_rfl
theorem facts : joinedFacts Tryz.prog 3 Tryz.f3 (OpenSpec.ofChange Rows.wholeMintedSpec).bare Rows.wholeMintedRow = true := by
  unfold joinedFacts
  iterate 19 refine and_l (by kernel_rfl) ?_
  refine and_l fact4 (and_l fact3 (and_l fact2 (and_l fact1 ?_)))
  kernel_rfl

theorem said : Rows.WholeMintedSaid :=
  OpenClaim.holds_of_cond 3 Tryz.f3 rfl rfl rfl rfl rfl rfl rfl ⟨rfl, rfl, rfl, rfl, rfl⟩ rfl rfl rfl rfl rfl (by kernel_rfl) Tryz.func3 facts
    (of_decide_eq_true (by kernel_rfl)) (by unfold Func.isWrapper; first | (rw [if_pos (by decide +kernel)]; kernel_rfl) | (rw [if_neg (by decide +kernel)]; exact ⟨rfl, rfl⟩))
    (fun os started H enc _ F => by rw [OpenClaim.pre_eq_preRow]; exact lifted os started H enc F)

theorem plain (f : FuncId) (fn : Func) (hf : Tryz.pinned.checked.prog.funcNamed "chitty/chittytop.WholeMinted" = some f) (hfn : Tryz.pinned.checked.prog.funcs[f]? = some fn) :
    true = Tryz.pinned.checked.prog.looks [] ∧ ∀ (j : Nat) t, fn.params[j]? = some t → Tryz.pinned.checked.prog.wantsStandIn t = false := by
  obtain rfl : f = 3 := Option.some.inj ((show Tryz.prog.funcNamed "chitty/chittytop.WholeMinted" = some 3 by kernel_rfl).symm.trans hf) |>.symm
  obtain rfl : fn = Tryz.f3 := (Option.some.inj (Tryz.func3.symm.trans hfn)).symm
  refine ⟨by kernel_rfl, fun j t ht => ?_⟩
  rw [Tryz.params3] at ht
  have hm : t = 23 ∨ t = 9 ∨ t = 32 := by simpa using Array.mem_of_getElem? ht
  rcases hm with rfl | rfl | rfl
  · exact (show Tryz.prog.wantsStandIn 23 = false by kernel_rfl)
  · exact (show Tryz.prog.wantsStandIn 9 = false by kernel_rfl)
  · exact (show Tryz.prog.wantsStandIn 32 = false by kernel_rfl)

theorem card : Rows.WholeMintedCardSaid :=
  Claim7.holds_tied_plain_at .later [] _ _ _ _ said (fun _ h => by cases h) (by kernel_rfl) (fun _ h => by cases h) wholeMinted_row_tie rfl ⟨rfl, rfl⟩ (by kernel_rfl) rfl plain (by kernel_rfl)
#print axioms card
end Go.Proofs.YtefdnmeopbkflaaGreatDoor.wholeMinted
