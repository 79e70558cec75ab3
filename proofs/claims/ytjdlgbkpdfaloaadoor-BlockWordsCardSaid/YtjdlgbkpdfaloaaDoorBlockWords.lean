/-
  BlockWords, with the table tied to the program's text: of any block its words; of any eight words, and it, the eight behind that.
-/
import Derived.Test.YtjdlgbkpdfaloaaDoorCards
import Derived.Test.YtjdlgbkpdfaloaaDoorTie
import Derived.WalkKit
import Derived.ProofKit
import Derived.OpenShut
import Derived.ShutString
import Derived.ChangeOld
import Derived.Below
import Derived.Deep.DeepHandedRow
import Derived.Lib.LaidTab
import Derived.Test.YtjdlgbkpdfaloaaDoorDi
import Derived.Test.YtjdlgbkpdfaloaaDoorVu
namespace Go.Proofs.YtjdlgbkpdfaloaaDoor.blockWords
open Go.ChangeShapes Go.WideShapes Go.ChangeAt Go.RowKit
open Go.ChangeMaps (open_string shut_string)
set_option linter.unusedVariables false

theorem own : ownKnob Tryd.prog.godebug = none := by kernel_rfl
theorem laidOut : laidOutB Tryd.prog = true := by kernel_rfl
theorem gTab : Tryd.prog.globalNamed "chitty/word.primes" = some 0 := by kernel_rfl
theorem gTabType : (Tryd.prog.globals[0]?).map (·.type) = some 40 := by kernel_rfl
theorem cells40 : Tryd.prog.cellsOf 40 = 64 := by kernel_rfl
theorem cells23 : Tryd.prog.cellsOf 23 = 1 := by kernel_rfl

theorem table {W : World} (h : laidMetH Tryd.prog Rows.blockWordsRow.laid W) : Lib.TabIs Tryd.prog W "chitty/word.primes" .u32 V.tabW :=
  Lib.tabIs_of_head (rest := []) gTab gTabType Tryd.underlying40 Tryd.underlying23 cells23 cells40 h

theorem rlen : V.tabW.length = 64 := rfl
theorem gok {W : World} (h : laidMetH Tryd.prog Rows.blockWordsRow.laid W) (n : Nat) (hn : 64 ≤ n) : V.GOk (V.Env.start W n) GP :=
  V.GOk_one (by rw [rlen]; omega) (by rw [rlen]; omega) fun i hi => (table h).cell gTab i hi

theorem eight (z0 : List Int) (l0 : z0.length = 8) (w0 : ∀ z ∈ z0, (Lit.int .u32 z).wf = true) : ∃ hh, V.words8 hh ∧ z0 = nats hh := by
  have hb : ∀ z ∈ z0, ∃ n : Nat, z = (n : Int) ∧ n < 4294967296 := by
    intro z hz
    have h := w0 z hz
    simp [Lit.wf, IntKind.min, IntKind.max, IntKind.signed, IntKind.bits] at h
    exact ⟨z.toNat, by omega, by omega⟩
  match z0, l0 with
  | [a, b, c, d, e, f, g, h], _ =>
    obtain ⟨a, rfl, ha⟩ := hb a (by simp)
    obtain ⟨b, rfl, hb'⟩ := hb b (by simp)
    obtain ⟨c, rfl, hc⟩ := hb c (by simp)
    obtain ⟨d, rfl, hd⟩ := hb d (by simp)
    obtain ⟨e, rfl, he⟩ := hb e (by simp)
    obtain ⟨f, rfl, hf⟩ := hb f (by simp)
    obtain ⟨g, rfl, hg⟩ := hb g (by simp)
    obtain ⟨h, rfl, hh⟩ := hb h (by simp)
    exact ⟨[a, b, c, d, e, f, g, h], ⟨a, b, c, d, e, f, g, h, rfl, ha, hb', hc, hd, he, hf, hg, hh⟩, rfl⟩

theorem walk (z0 z1 : List Int) (w : World) (l0 : z0.length = 8) (w0 : ∀ z ∈ z0, (Lit.int .u32 z).wf = true) (l1 : z1.length = 64) (w1 : ∀ z ∈ z1, (Lit.int .u8 z).wf = true) (hG : ∀ n, 64 ≤ n → V.GOk (V.Env.start w n) GP) :
    Calls Tryd.prog 6 #[.agg (z0.map (Value.int .u32)).toArray, .agg (z1.map (Value.int .u8)).toArray] w fun e w' => e = .returned (.bool true) ∧ Below w.heap.size w w' := by
  obtain ⟨hh, hw, rfl⟩ := eight z0 l0 w0
  obtain ⟨l, hl, hlen⟩ := V.bytes_Is w1
  have hr0 := V.repV_Is (V.Env.start w 64) .u32 (nats hh)
  have hr := V.repV_Is (V.Env.start w 64) .u8 z1
  rw [hl] at hr
  exact V.law_calls_g (law_words hh l hw (by omega)) w 64 (hG _ (Nat.le_refl _)) (by simp only [V.RepL]; exact ⟨_, _, rfl, hr0, _, _, rfl, hr, rfl⟩)

theorem contract (H : Type) (enc : TypeId × Value → H) (W : World) (base : Nat) (args : Array Value) (ds gs : List (DataW H)) (before : List MemPlace)
    (hval0 : ∀ (j : Nat) t v, Tryd.f6.params[j]? = some t → args[j]? = some v → Value.okWide Tryd.prog W .any base t v)
    (hW : DataW.Whole enc Tryd.prog Tryd.f6.params.toList Rows.blockWordsSpec.vars false W args.toList ds gs before) (hL : laidMetH Tryd.prog Rows.blockWordsRow.laid W) :
    Calls Tryd.prog 6 args W fun e W' => ∃ v, e = .returned v ∧ Rows.blockWordsSpec.post enc Tryd.prog Tryd.f6 false true false false W args v W' := by
  have hval : ∀ (j : Nat) t v, Tryd.f6.params[j]? = some t → args[j]? = some v → Value.okWide Tryd.prog W .any base t v := hval0
  have hG := gok hL
  have hW' := hW
  obtain ⟨p, q, hA0, hV, rfl, hfz, hnd⟩ := hW
  have hA : DataW.TrodAll enc Tryd.prog W 0 (fun _ => true) true Tryd.f6.params.toList args.toList ds p := hA0
  rw [Tryd.params6] at hA hval
  obtain ⟨v0, vs0, d0, ds0, p0, q0, hargs, rfl, rfl, h0, r0⟩ := trodAll_cons hA
  obtain ⟨v1, vs1, d1, ds1, p1, q1, rfl, rfl, rfl, h1, r1⟩ := trodAll_cons r0
  obtain ⟨rfl, rfl, rfl⟩ := trodAll_nil r1
  obtain rfl : args = #[v0, v1] := by cases args; simp_all
  obtain ⟨rfl, rfl⟩ := trodVars_none hV
  have k0 := h0
  have lt0 : ∀ x ∈ p0, x.block < W.heap.size := by obtain ⟨m, hm⟩ := k0; exact DataW.trod_lt m _ _ _ hm
  obtain ⟨z0, rfl, l0, w0⟩ := V.open_arrI Tryd.underlying25 Tryd.underlying23 (by kernel_rfl) (by kernel_rfl) (hval 0 25 v0 rfl rfl) h0
  have k1 := h1
  have lt1 : ∀ x ∈ p1, x.block < W.heap.size := by obtain ⟨m, hm⟩ := k1; exact DataW.trod_lt m _ _ _ hm
  obtain ⟨z1, rfl, l1, w1⟩ := V.open_arrI Tryd.underlying37 Tryd.underlying5 (by kernel_rfl) (by kernel_rfl) (hval 1 37 v1 rfl rfl) h1
  clear hA0 hval0
  refine (walk z0 z1 W l0 w0 l1 w1 hG).mono fun e W' ⟨he, bel⟩ => ?_
  subst he
  exact ⟨_, rfl, _, _, _, [], _, [], hW', trodAll_mk1 (shut_bool Tryd.underlying4 _), (trodAll_cons_mk (Below.trod laidOut (by kernel_rfl) (of_decide_eq_true (by kernel_rfl)) k0 bel lt0) (trodAll_cons_mk (Below.trod laidOut (by kernel_rfl) (of_decide_eq_true (by kernel_rfl)) k1 bel lt1) trodAll_mk0)), rfl, bel.frame _, fun h => by cases h⟩

noncomputable def laidWorld (os : Os) : World :=
  { World.holding Tryd.prog os ⟨#[], #[], []⟩ with heap := (World.holding Tryd.prog os ⟨#[], #[], []⟩).heap.modify 0 fun
      | .cells _ t frozen => .cells (V.tabW.map (Value.int .u32)).toArray t frozen
      | o => o }
theorem laid_met (os : Os) : laidMet Tryd.prog Rows.blockWordsRow.laid ((laidWorld os).forCall (fun _ _ => 0) ⟨#[], #[.agg (Array.replicate 8 (.int .u32 0)), .agg (Array.replicate 64 (.int .u8 0))], []⟩).memory :=
  laidMet_of_run' 8 (by kernel_rfl) (by kernel_rfl)
theorem reads (os : Os) {H : Type} (enc : TypeId × Value → H) : ∃ places, DataW.whole enc Tryd.prog ((laidWorld os).forCall (fun _ _ => 0) ⟨#[], #[.agg (Array.replicate 8 (.int .u32 0)), .agg (Array.replicate 64 (.int .u8 0))], []⟩).memory Tryd.f6.params.toList Rows.blockWordsSpec.vars false (#[.agg (Array.replicate 8 (.int .u32 0)), .agg (Array.replicate 64 (.int .u8 0))] : Array Value).toList 8 = some ([.agg (List.replicate 8 (.lit (.int .u32 0))), .agg (List.replicate 64 (.lit (.int .u8 0)))], [], places) :=
  ⟨[], by kernel_rfl⟩

set_option maxRecDepth 100000 in
theorem lifted (os : Os) (started : os.Started) (H : Type) (enc : TypeId × Value → H) (F : Stop.Interp) :
    ReturnsInHanded {} Tryd.checked os 6 .any ((OpenSpec.ofChange Rows.blockWordsSpec).preRow enc Tryd.prog Tryd.f6 Rows.blockWordsRow.domain false Rows.blockWordsRow.laid) (((OpenSpec.ofChange Rows.blockWordsSpec).at F).post enc Tryd.prog Tryd.f6 false true false false) := by
  obtain ⟨places, hx⟩ := reads os enc
  refine returnsInHanded_of_row (C := Tryd.checked) (s := OpenSpec.ofChange Rows.blockWordsSpec) own started (by kernel_rfl) Tryd.func6
    (witness_row_at (enc := enc) (C := Tryd.checked) false (laidWorld os) #[.agg (Array.replicate 8 (.int .u32 0)), .agg (Array.replicate 64 (.int .u8 0))] rfl (by kernel_rfl) (by kernel_rfl) (by kernel_rfl)
      (OpenSpec.preRow_of_cond 8 hx (by kernel_rfl) (fun k hk => by cases hk) (by kernel_rfl) (laid_met os))) ?_
  intro W base args ds gs before hval hW _ _ _ hL _ _
  exact contract H enc W base args ds gs before hval hW hL

theorem said : Rows.BlockWordsSaid :=
  OpenClaim.holds_of_cond 6 Tryd.f6 rfl rfl rfl rfl rfl rfl rfl ⟨rfl, rfl, rfl, rfl, rfl⟩ rfl rfl rfl rfl rfl (by kernel_rfl) Tryd.func6 (by kernel_rfl)
    (of_decide_eq_true (by kernel_rfl)) (by unfold Func.isWrapper; first | (rw [if_pos (by decide +kernel)]; kernel_rfl) | (rw [if_neg (by decide +kernel)]; exact ⟨rfl, rfl⟩))
    (fun os started H enc _ F => by rw [OpenClaim.pre_eq_preRow]; exact lifted os started H enc F)

theorem plain (f : FuncId) (fn : Func) (hf : Tryd.pinned.checked.prog.funcNamed "chitty/chittylaw02.BlockWords" = some f) (hfn : Tryd.pinned.checked.prog.funcs[f]? = some fn) :
    false = Tryd.pinned.checked.prog.looks [] ∧ ∀ (j : Nat) t, fn.params[j]? = some t → Tryd.pinned.checked.prog.wantsStandIn t = false := by
  obtain rfl : f = 6 := Option.some.inj ((show Tryd.prog.funcNamed "chitty/chittylaw02.BlockWords" = some 6 by kernel_rfl).symm.trans hf) |>.symm
  obtain rfl : fn = Tryd.f6 := (Option.some.inj (Tryd.func6.symm.trans hfn)).symm
  refine ⟨by kernel_rfl, fun j t ht => ?_⟩
  rw [Tryd.params6] at ht
  have hm : t = 25 ∨ t = 37 := by simpa using Array.mem_of_getElem? ht
  rcases hm with rfl | rfl
  · exact (show Tryd.prog.wantsStandIn 25 = false by kernel_rfl)
  · exact (show Tryd.prog.wantsStandIn 37 = false by kernel_rfl)

/-- The card. -/
theorem card : Rows.BlockWordsCardSaid :=
  Claim7.holds_tied_plain_at .later [] _ _ _ _ said (fun _ h => by cases h) (by kernel_rfl) (fun _ h => by cases h) blockWords_row_tie rfl ⟨rfl, rfl⟩ (by kernel_rfl) rfl plain (by kernel_rfl)
#print axioms card
end Go.Proofs.YtjdlgbkpdfaloaaDoor.blockWords
