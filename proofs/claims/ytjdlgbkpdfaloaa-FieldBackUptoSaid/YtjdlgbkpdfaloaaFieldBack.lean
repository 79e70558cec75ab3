/-
  FieldBack, of arguments of bulk at most 1048576: fields come back from their bytes; what is read is written as it was.
-/
import Derived.Test.YtjdlgbkpdfaloaaRows
import Derived.WalkKit
import Derived.ProofKit
import Derived.OpenShut
import Derived.ShutString
import Derived.ChangeOld
import Derived.Below
import Derived.JoinedCond
import Derived.Test.YtjdlgbkpdfaloaaXf
import Derived.Test.YtjdlgbkpdfaloaaVq
import Derived.Test.YtjdlgbkpdfaloaaVz
namespace Go.Proofs.Ytjdlgbkpdfaloaa.fieldBack
open Go.ChangeShapes Go.WideShapes Go.ChangeAt Go.RowKit
open Go.ChangeMaps (open_string shut_string)
set_option linter.unusedVariables false

theorem own : ownKnob Try.prog.godebug = none := by kernel_rfl
theorem laidOut : laidOutB Try.prog = true := by kernel_rfl

theorem one_le {H : Type} (d : DataW H) : 1 ≤ Rows.uptoBulk d := by
  cases d with
  | lit l => cases l <;> simp [Rows.uptoBulk]
  | nil => simp [Rows.uptoBulk]
  | ptr d => simp [Rows.uptoBulk]
  | slice elems spare => simp [Rows.uptoBulk]
  | agg parts => simp [Rows.uptoBulk]
  | iface t d => simp [Rows.uptoBulk]
  | map entries => simp [Rows.uptoBulk]
  | held h => simp [Rows.uptoBulk]
theorem part_le {H : Type} {d : DataW H} {l : List (DataW H)} (h : d ∈ l) : Rows.uptoBulk d ≤ Rows.uptoBulkAll l := by
  induction l with
  | nil => cases h
  | cons x r ih =>
    simp only [Rows.uptoBulkAll]
    cases List.mem_cons.1 h with
    | inl e => subst e; omega
    | inr e => have := ih e; omega
theorem length_le {H : Type} (l : List (DataW H)) : l.length ≤ Rows.uptoBulkAll l := by
  induction l with
  | nil => simp [Rows.uptoBulkAll]
  | cons x r ih => have := one_le x; simp only [Rows.uptoBulkAll, List.length_cons]; omega

theorem fields_le {H : Type} (l : List V.FieldV) : V.bulk l ≤ Rows.uptoBulkAll (l.map (V.fdat (H := H))) := by
  induction l with
  | nil => simp [V.bulk_nil]
  | cons f l ih =>
    rw [V.bulk_cons, List.map_cons]
    simp only [Rows.uptoBulkAll, V.fdat, Rows.uptoBulk]
    omega

theorem walk (a0 : Option Addr) (len0 cap0 : Nat) (z0 : List V.FieldV) (N0 : Nat) (a1 : Option Addr) (len1 cap1 : Nat) (z1 : List V.FieldV) (N1 : Nat) (a2 : Option Addr) (len2 cap2 : Nat) (z2 : List Int) (w : World) (l0 : z0.length = len0) (w0 : ∀ M, N0 ≤ M → V.RepV (V.Env.start w M) (.sl z0.length (V.Fs z0) .no) (.slice a0 len0 cap0))
    (l1 : z1.length = len1) (w1 : ∀ M, N1 ≤ M → V.RepV (V.Env.start w M) (.sl z1.length (V.Fs z1) .no) (.slice a1 len1 cap1)) (w2 : V.IsRow .u8 w a2 len2 cap2 z2) (b0 : V.bulk z0 ≤ 1048576) (b1 : V.bulk z1 ≤ 1048576) (b2 : len2 ≤ 1048576) :
    Calls Try.prog 12 #[.slice a0 len0 cap0, .slice a1 len1 cap1, .slice a2 len2 cap2] w fun e w' => e = .returned (.bool true) ∧ Below w.heap.size w w' := by
  obtain ⟨l, N, rfl, hm, hr⟩ := w2.bytes
  exact V.law_calls (law_fback z0 z1 l b0 b1 (by omega)) w (max N0 (max N1 N)) (by
    simp only [V.RepL]
    exact ⟨_, _, rfl, w0 _ (by omega), _, _, rfl, w1 _ (by omega), _, _, rfl, hr _ (by omega), rfl⟩)

theorem contract (H : Type) (enc : TypeId × Value → H) (W : World) (base : Nat) (args : Array Value) (ds gs : List (DataW H)) (before : List MemPlace)
    (hval0 : ∀ (j : Nat) t v, Try.f12.params[j]? = some t → args[j]? = some v → Value.okWide Try.prog W .any base t v)
    (hW : DataW.Whole enc Try.prog Try.f12.params.toList Rows.fieldBackSpec.vars false W args.toList ds gs before) (hk : Rows.uptoSmall H (ds ++ gs) = true) :
    Calls Try.prog 12 args W fun e W' => ∃ v, e = .returned v ∧ Rows.fieldBackSpec.post enc Try.prog Try.f12 false true false false W args v W' := by
  have hval : ∀ (j : Nat) t v, Try.f12.params[j]? = some t → args[j]? = some v → Value.okWide Try.prog W .any base t v := hval0
  have hW' := hW
  obtain ⟨p, q, hA0, hV, rfl, hfz, hnd⟩ := hW
  have hA : DataW.TrodAll enc Try.prog W 0 (fun _ => true) true Try.f12.params.toList args.toList ds p := hA0
  rw [Try.params12] at hA hval
  have hsm : Rows.uptoBulkAll (ds ++ gs) ≤ 1048576 := by simpa [Rows.uptoSmall] using hk
  obtain ⟨v0, vs0, d0, ds0, p0, q0, hargs, rfl, rfl, h0, r0⟩ := trodAll_cons hA
  obtain ⟨v1, vs1, d1, ds1, p1, q1, rfl, rfl, rfl, h1, r1⟩ := trodAll_cons r0
  obtain ⟨v2, vs2, d2, ds2, p2, q2, rfl, rfl, rfl, h2, r2⟩ := trodAll_cons r1
  obtain ⟨rfl, rfl, rfl⟩ := trodAll_nil r2
  obtain rfl : args = #[v0, v1, v2] := by cases args; simp_all
  obtain ⟨rfl, rfl⟩ := trodVars_none hV
  have k0 := h0
  have lt0 : ∀ x ∈ p0, x.block < W.heap.size := by obtain ⟨m, hm⟩ := k0; exact DataW.trod_lt m _ _ _ hm
  obtain ⟨a0, len0, cap0, rfl⟩ := okWide_slice Try.underlying52 (hval 0 52 v0 rfl rfl)
  obtain ⟨z0, N0, l0, u0, w0⟩ : ∃ (l : List V.FieldV) (N : Nat), l.length = len0 ∧ V.bulk l ≤ Rows.uptoBulk d0 ∧ ∀ M, N ≤ M → V.RepV (V.Env.start W M) (.sl l.length (V.Fs l) .no) (.slice a0 len0 cap0) := by
    obtain ⟨fuel, hf⟩ := h0
    obtain ⟨l, N, h1, h2, h3⟩ := V.open_fields Try.underlying52 Try.underlying58 (by kernel_rfl) rfl rfl (by kernel_rfl) (by kernel_rfl) Try.underlying5 Try.underlying9 hf
    refine ⟨l, N, h1, ?_, h3⟩
    rcases h2 with rfl | ⟨rest, hd⟩
    · exact Nat.zero_le _
    · have h4 := fields_le (H := H) l
      simp only at hd
      rw [hd]
      simp only [Rows.uptoBulk]
      omega
  have b0 : V.bulk z0 ≤ 1048576 := Nat.le_trans u0 (Nat.le_trans (part_le (by simp)) hsm)
  have k1 := h1
  have lt1 : ∀ x ∈ p1, x.block < W.heap.size := by obtain ⟨m, hm⟩ := k1; exact DataW.trod_lt m _ _ _ hm
  obtain ⟨a1, len1, cap1, rfl⟩ := okWide_slice Try.underlying52 (hval 1 52 v1 rfl rfl)
  obtain ⟨z1, N1, l1, u1, w1⟩ : ∃ (l : List V.FieldV) (N : Nat), l.length = len1 ∧ V.bulk l ≤ Rows.uptoBulk d1 ∧ ∀ M, N ≤ M → V.RepV (V.Env.start W M) (.sl l.length (V.Fs l) .no) (.slice a1 len1 cap1) := by
    obtain ⟨fuel, hf⟩ := h1
    obtain ⟨l, N, h1, h2, h3⟩ := V.open_fields Try.underlying52 Try.underlying58 (by kernel_rfl) rfl rfl (by kernel_rfl) (by kernel_rfl) Try.underlying5 Try.underlying9 hf
    refine ⟨l, N, h1, ?_, h3⟩
    rcases h2 with rfl | ⟨rest, hd⟩
    · exact Nat.zero_le _
    · have h4 := fields_le (H := H) l
      simp only at hd
      rw [hd]
      simp only [Rows.uptoBulk]
      omega
  have b1 : V.bulk z1 ≤ 1048576 := Nat.le_trans u1 (Nat.le_trans (part_le (by simp)) hsm)
  have k2 := h2
  have lt2 : ∀ x ∈ p2, x.block < W.heap.size := by obtain ⟨m, hm⟩ := k2; exact DataW.trod_lt m _ _ _ hm
  obtain ⟨a2, len2, cap2, rfl⟩ := okWide_slice Try.underlying24 (hval 2 24 v2 rfl rfl)
  obtain ⟨z2, w2, u2⟩ : ∃ zs, V.IsRow .u8 W a2 len2 cap2 zs ∧ len2 ≤ Rows.uptoBulk d2 := by
    obtain ⟨fuel, hf⟩ := h2
    rcases open_ints Try.underlying24 Try.underlying5 (by kernel_rfl) hf with ⟨hcs, _⟩ | ⟨x, l, c, zs, hcs, _, hl, hm, hz, hd, hcell, hwz⟩
    · simp [Value.cells] at hcs
      obtain ⟨rfl, rfl, rfl⟩ := hcs
      exact ⟨[], .inl ⟨rfl, rfl, rfl, rfl⟩, by omega⟩
    · simp [Value.cells] at hcs
      obtain ⟨rfl, rfl, rfl⟩ := hcs
      refine ⟨zs, .inr ⟨_, rfl, hl, hm, by simpa using hz, hcell, hwz⟩, ?_⟩
      injection hd with hd _
      have hz' : zs.length = cap2 := by simpa using hz
      have h1 := length_le (lits (H := H) .u8 (zs.take len2))
      have h2 : (lits (H := H) .u8 (zs.take len2)).length = len2 := by simp [lits]; omega
      rw [hd]
      simp only [Rows.uptoBulk]
      omega
  have b2 : len2 ≤ 1048576 := Nat.le_trans u2 (Nat.le_trans (part_le (by simp)) hsm)
  clear hA0 hval0
  refine (walk a0 len0 cap0 z0 N0 a1 len1 cap1 z1 N1 a2 len2 cap2 z2 W l0 w0 l1 w1 w2 b0 b1 b2).mono fun e W' ⟨he, bel⟩ => ?_
  subst he
  exact ⟨_, rfl, _, _, _, [], _, [], hW', trodAll_mk1 (shut_bool Try.underlying4 _), (trodAll_cons_mk (Below.trod laidOut (by kernel_rfl) (of_decide_eq_true (by kernel_rfl)) k0 bel lt0) (trodAll_cons_mk (Below.trod laidOut (by kernel_rfl) (of_decide_eq_true (by kernel_rfl)) k1 bel lt1) (trodAll_cons_mk (Below.trod laidOut (by kernel_rfl) (of_decide_eq_true (by kernel_rfl)) k2 bel lt2) trodAll_mk0))), rfl, bel.frame _, fun h => by cases h⟩

set_option maxRecDepth 100000 in
theorem lifted (os : Os) (started : os.Started) (H : Type) (enc : TypeId × Value → H) (F : Stop.Interp) :
    ReturnsInHanded {} Try.checked os 12 .any ((Rows.OpenSpec.upto Rows.fieldBackSpec).pre6 enc Try.prog Try.f12 Rows.fieldBackUptoRow.domain false) (((Rows.OpenSpec.upto Rows.fieldBackSpec).at F).post enc Try.prog Try.f12 false true false false) := by
  refine returnsInHanded_of_cond (C := Try.checked) (s := Rows.OpenSpec.upto Rows.fieldBackSpec) (k := Rows.uptoSmall) rfl own started (by kernel_rfl) Try.func12
    (OpenSpec.witness (enc := enc) (C := Try.checked) (s := Rows.OpenSpec.upto Rows.fieldBackSpec) (k := Rows.uptoSmall) rfl false ⟨#[], #[.slice none 0 0, .slice none 0 0, .slice none 0 0], []⟩ 8 (by kernel_rfl) (by kernel_rfl) (by kernel_rfl)
      (x := ([.nil, .nil, .nil], [], [])) (by kernel_rfl) rfl (by kernel_rfl)) ?_
  intro W base args ds gs before hval hW _ hk _
  exact contract H enc W base args ds gs before hval hW hk

theorem over : Rows.fieldBackUptoRow.holds Try.pinned (Rows.OpenSpec.upto Rows.fieldBackSpec) :=
  OpenClaim.holds_of_cond 12 Try.f12 rfl rfl rfl rfl rfl rfl rfl ⟨rfl, rfl, rfl, rfl, rfl⟩ rfl rfl rfl rfl rfl (by kernel_rfl) Try.func12 (by kernel_rfl)
    (of_decide_eq_true (by kernel_rfl)) (by unfold Func.isWrapper; first | (rw [if_pos (by decide +kernel)]; kernel_rfl) | (rw [if_neg (by decide +kernel)]; exact ⟨rfl, rfl⟩))
    (fun os started H enc _ F => lifted os started H enc F)
/-- The statement. -/
theorem proved : Rows.FieldBackUptoSaid := over
#print axioms proved
end Go.Proofs.Ytjdlgbkpdfaloaa.fieldBack
