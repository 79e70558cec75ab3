/-
  VALUE LOGIC, part u: an array of whole numbers that a call is handed.
-/
import Derived.Test.YtjdlgbkpdfaloaaDoorVs
import Derived.OpenShut
namespace Go.V
set_option linter.unusedVariables false
open Go.ChangeShapes

def intOf : Value → Int
  | .int _ z => z
  | _ => 0

theorem open_arrI {H : Type} {enc : TypeId × Value → H} {P : Program} {W : World} {base : Nat} {sp : Nat → Bool} {held : Bool} {t e : TypeId} {n : Nat} {k : IntKind} (ht : P.underlying t = some (.array n e)) (he : P.underlying e = some (.int k))
    (hc : P.cellsOf e = 1) (hn : P.cellsOf t = n) {r : Reach} {b : Nat} {v : Value} (hok : Value.okWide P W r b t v) {d : DataW H} {p : List MemPlace} (h : DataW.Trod enc P W base sp held t v d p) :
    ∃ zs : List Int, v = .agg (zs.map (Value.int k)).toArray ∧ zs.length = n ∧ ∀ z ∈ zs, (Lit.int k z).wf = true := by
  obtain ⟨cs, rfl, hsz, _⟩ : ∃ cs, v = .agg cs ∧ cs.size = P.cellsOf t ∧ Row.okWide P W r b t cs := by simpa only [Value.okWide, ht] using hok
  obtain ⟨fuel, hf⟩ := h
  obtain ⟨xs, m, rfl, _, hl, hxl, hx⟩ := DataW.trod_array ht hf
  simp only [Value.cells] at hl hx
  have hl' : cs.toList.length = n := by rw [hl, hn]
  have each : ∀ i, i < n → ∃ z, cs.toList[i]? = some (.int k z) ∧ (Lit.int k z).wf = true := by
    intro i hi
    have h1 := hx i hi
    rw [hc, Nat.mul_one] at h1
    obtain ⟨x, hx'⟩ : ∃ x, xs[i]? = some x := ⟨xs[i]'(by omega), List.getElem?_eq_getElem (by omega)⟩
    rw [hx'] at h1
    obtain ⟨z, hz, _, hw⟩ := DataW.trod_int he h1
    refine ⟨z, ?_, hw⟩
    have := congrArg (fun l => l[0]?) hz
    simpa [List.getElem?_take, List.getElem?_drop] using this
  refine ⟨cs.toList.map intOf, ?_, by simpa using hl', ?_⟩
  · have : (cs.toList.map intOf).map (Value.int k) = cs.toList := by
      apply List.ext_getElem?
      intro i
      by_cases hi : i < n
      · obtain ⟨z, hz, _⟩ := each i hi
        simp only [List.getElem?_map]
        rw [hz]
        rfl
      · rw [List.getElem?_eq_none (by simpa using (by omega : cs.toList.length ≤ i)), List.getElem?_eq_none (by omega)]
    rw [this]
  · intro z hz
    obtain ⟨v, hv, rfl⟩ := List.mem_map.1 hz
    obtain ⟨i, hi, rfl⟩ := List.mem_iff_getElem.1 hv
    obtain ⟨z, hz, hw⟩ := each i (by omega)
    rw [List.getElem?_eq_getElem hi] at hz
    injection hz with hz
    rw [hz]
    exact hw

theorem repL_Is (E : Env) (k : IntKind) : ∀ zs : List Int, RepL E (Is k zs) (zs.map (Value.int k))
  | [] => by simp only [Is, List.map_nil, RepL]
  | z :: zs => by
    have := repL_Is E k zs
    simp only [Is, List.map_cons, RepL] at this ⊢
    exact ⟨_, _, rfl, by simp only [I, RepV], this⟩
theorem repV_Is (E : Env) (k : IntKind) (zs : List Int) : RepV E (.agg (Is k zs)) (.agg (zs.map (Value.int k)).toArray) := by
  simp only [RepV]
  exact ⟨_, rfl, repL_Is E k zs⟩

theorem bytes_Is {zs : List Int} (h : ∀ z ∈ zs, (Lit.int .u8 z).wf = true) : ∃ l : List UInt8, Is .u8 zs = Bs l ∧ l.length = zs.length := by
  refine ⟨zs.map fun z => UInt8.ofNat z.toNat, ?_, by simp⟩
  simp only [Is, Bs, List.map_map]
  apply List.map_congr_left
  intro z hz
  have hw := h z hz
  simp [Lit.wf, IntKind.min, IntKind.max, IntKind.signed, IntKind.bits] at hw
  simp only [I, B, Function.comp]
  congr 2
  simp
  omega

theorem nats_Is {k : IntKind} {zs : List Int} (h : ∀ z ∈ zs, 0 ≤ z) : ∃ l : List Nat, Is k zs = Is k (l.map fun n : Nat => (n : Int)) ∧ l.length = zs.length ∧ ∀ n ∈ l, (n : Int) ∈ zs := by
  refine ⟨zs.map Int.toNat, ?_, by simp, ?_⟩
  · congr 1
    rw [List.map_map]
    conv => lhs; rw [← List.map_id zs]
    apply List.map_congr_left
    intro z hz
    have := h z hz
    simp
    omega
  · intro n hn
    obtain ⟨z, hz, rfl⟩ := List.mem_map.1 hn
    have := h z hz
    rwa [Int.toNat_of_nonneg this]
end Go.V
