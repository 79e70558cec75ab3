/-
  VALUE LOGIC, part q: what comes in from outside.
-/
import Derived.Test.YtjdlgbkpdfaloaaDoorVo
import Derived.OpenShut
namespace Go.V
set_option linter.unusedVariables false

/-- A slice of whole numbers that came in: it is nil, or it leads to a row of numbers. -/
def IsRow (k : IntKind) (w : World) (a : Option Addr) (len cap : Nat) (zs : List Int) : Prop :=
  (a = none ∧ len = 0 ∧ cap = 0 ∧ zs = []) ∨
  ∃ x, a = some x ∧ len ≤ cap ∧ cap ≤ maxLen ∧ zs.length = cap ∧ (∀ i, i < zs.length → w.cell? (x.add i) = some (.int k (zs.getD i 0))) ∧ ∀ n ∈ zs, (Lit.int k n).wf = true

theorem cell_lt {w : World} {g o : Nat} {v : Value} (h : w.cell? ⟨g, o, none⟩ = some v) : g < w.heap.size := by
  rcases Nat.lt_or_ge g w.heap.size with h' | h'
  · exact h'
  · simp [World.cell?, Array.getElem?_eq_none h'] at h

/-- Bytes that came in. -/
theorem IsRow.bytes {w : World} {a : Option Addr} {len cap : Nat} {zs : List Int} (h : IsRow .u8 w a len cap zs) :
    ∃ (l : List UInt8) (N : Nat), l.length = len ∧ len ≤ 9223372036854775807 ∧ ∀ M, N ≤ M → RepV (Env.start w M) (.sl l.length (Bs l) .no) (.slice a len cap) := by
  rcases h with ⟨rfl, rfl, rfl, rfl⟩ | ⟨x, rfl, hl, hm, hz, hcell, hwf⟩
  · refine ⟨[], 0, rfl, by omega, fun M _ => ?_⟩
    simp only [RepV]
    exact ⟨none, 0, rfl, Nat.le_refl _, .inl rfl, trivial⟩
  · have hm' : cap ≤ 9223372036854775807 := hm
    by_cases h0 : len = 0
    · subst h0
      refine ⟨[], 0, rfl, by omega, fun M _ => ?_⟩
      simp only [RepV]
      exact ⟨_, cap, rfl, hl, .inl rfl, trivial⟩
    · obtain ⟨b, off, rfl, hc⟩ := ints_at hcell (by omega)
      refine ⟨(zs.take len).map fun z => UInt8.ofNat z.toNat, off + len, by simp; omega, by omega, fun M hM => ?_⟩
      simp only [RepV]
      have hlen : ((zs.take len).map fun z => UInt8.ofNat z.toNat).length = len := by simp; omega
      refine ⟨_, cap, by rw [hlen], by rw [hlen]; exact hl, .inr ⟨b, off, rfl, cell_lt (hc 0 (by omega)), ?_, RepAt.of_cell fun i c hi => ?_⟩, trivial⟩
      · simp only [Bs, List.length_map]
        simp only [Env.start]
        rw [List.length_take]
        omega
      · have hi' : i < len := by
          have := (List.getElem?_eq_some_iff.1 hi).1
          simp only [Bs, List.length_map, List.length_take] at this
          omega
        refine ⟨_, hc i (by omega), ?_⟩
        simp only [Bs, List.map_map, List.getElem?_map, List.getElem?_take, hi', if_true] at hi
        have hz' : zs[i]? = some (zs.getD i 0) := by
          rw [List.getD_eq_getElem?_getD, List.getElem?_eq_getElem (show i < zs.length by omega)]
          rfl
        rw [hz'] at hi
        simp only [Option.map_some, Option.some.injEq] at hi
        subst hi
        have hb := bounds_u8 (hwf (zs.getD i 0) (by
          rw [List.getD_eq_getElem?_getD, List.getElem?_eq_getElem (show i < zs.length by omega)]
          exact List.getElem_mem _))
        simp only [Function.comp, B, RepV]
        congr 1
        simp only [UInt8.toNat_ofNat']
        omega
end Go.V
