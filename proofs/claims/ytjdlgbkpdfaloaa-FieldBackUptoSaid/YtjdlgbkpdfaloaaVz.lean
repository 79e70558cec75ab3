/-
  VALUE LOGIC, part z: a row of fields (a byte and a text) that came in.
-/
import Derived.Test.YtjdlgbkpdfaloaaVw
import Derived.Deep.SlicePairs
namespace Go.V
set_option linter.unusedVariables false
open Go.ChangeShapes

/-- What a field reads as. -/
def fdat {H : Type} (f : FieldV) : DataW H := .agg [.lit (.int .u8 (f.1.toNat : Int)), .lit (.string f.2)]

theorem Fs_at {l : List FieldV} {i : Nat} (h : i < l.length) (d : FieldV) : (Fs l)[i * 2]? = some (B (l.getD i d).1) ∧ (Fs l)[i * 2 + 1]? = some (.val (.string ⟨(l.getD i d).2.toArray⟩)) := by
  have hg := Fs_get h d
  have h0 := congrArg (fun x => x[0]?) hg
  have h1 := congrArg (fun x => x[1]?) hg
  simp only [List.getElem?_take, List.getElem?_drop, FA] at h0 h1
  exact ⟨by simpa using h0, by simpa using h1⟩

theorem open_fields {H : Type} {enc : TypeId × Value → H} {P : Program} {w : World} {base : Nat} {spare : Nat → Bool} {held : Bool} {t e : TypeId} {f0 f1 : Field} {fuel : Nat} {a : Option Addr} {len cap : Nat} {x : DataW H × List MemPlace} (ht : P.underlying t = some (.slice e)) (he : P.underlying e = some (.struct #[f0, f1]))
    (ce : P.cellsOf e = 2) (o0 : f0.offset = 0) (o1 : f1.offset = 1) (c0 : P.cellsOf f0.type = 1) (c1 : P.cellsOf f1.type = 1) (t0 : P.underlying f0.type = some (.int .u8)) (t1 : P.underlying f1.type = some .string)
    (h : DataW.trod enc P w base spare held fuel t [.slice a len cap] = some x) :
    ∃ (l : List FieldV) (N : Nat), l.length = len ∧ (l = [] ∨ ∃ rest, x.1 = .slice (l.map fdat) rest) ∧ ∀ M, N ≤ M → RepV (Env.start w M) (.sl l.length (Fs l) .no) (.slice a len cap) := by
  rcases Deep.open_slice_pairs ht he ce o0 o1 c0 c1 h with ⟨hcs, _⟩ | ⟨a', len', cap', m, n, V0, V1, D0, D1, P0, P1, hcs, hb, hl, hm, hmm, hx, each⟩
  · simp at hcs
    obtain ⟨rfl, rfl, rfl⟩ := hcs
    refine ⟨[], 0, rfl, .inl rfl, fun M _ => ?_⟩
    simp only [RepV]
    exact ⟨none, 0, rfl, Nat.le_refl _, .inl rfl, trivial⟩
  · simp at hcs
    obtain ⟨rfl, rfl, rfl⟩ := hcs
    have hlm : len ≤ m := by rw [hmm]; split <;> omega
    by_cases h0 : len = 0
    · subst h0
      refine ⟨[], 0, rfl, .inl rfl, fun M _ => ?_⟩
      simp only [RepV]
      exact ⟨_, cap, rfl, hl, .inl rfl, trivial⟩
    -- each field
    have one : ∀ i, i < len → ∃ f : FieldV, V0 i = .int .u8 (f.1.toNat : Int) ∧ V1 i = .string ⟨f.2.toArray⟩ ∧ D0 i = .lit (.int .u8 (f.1.toNat : Int)) ∧ D1 i = .lit (.string f.2) := by
      intro i hi
      obtain ⟨_, _, q0, q1⟩ := each i (by omega)
      obtain ⟨z, e0, e1, hw⟩ := DataW.trod_int t0 q0
      obtain ⟨s, e2, e3, _⟩ := DataW.trod_string t1 q1
      have hbz := bounds_u8 hw
      simp only [Prod.mk.injEq] at e1 e3
      simp at e0 e2
      refine ⟨(UInt8.ofNat z.toNat, s.data.toList), ?_, by rw [e2], ?_, e3.1⟩
      · rw [e0]
        congr 1
        simp
        omega
      · rw [e1.1]
        congr 2
        simp
        omega
    obtain ⟨F, hF⟩ : ∃ F : Nat → FieldV, ∀ i, i < len → V0 i = .int .u8 ((F i).1.toNat : Int) ∧ V1 i = .string ⟨(F i).2.toArray⟩ ∧ D0 i = .lit (.int .u8 ((F i).1.toNat : Int)) ∧ D1 i = .lit (.string (F i).2) := by
      refine ⟨fun i => if h : i < len then Classical.choose (one i h) else (0, []), fun i hi => ?_⟩
      simp only [hi, dif_pos]
      exact Classical.choose_spec (one i hi)
    obtain ⟨b, off, spot⟩ := a'
    have hspot : spot = none := by
      have h1 := (each 0 (by omega)).1
      simpa [Addr.add] using World.cell?_spot h1
    subst hspot
    have hget : ∀ i, i < len → ((List.range len).map F).getD i (0, []) = F i := fun i hi => by
      rw [List.getD_eq_getElem?_getD, List.getElem?_map, List.getElem?_range hi]
      rfl
    refine ⟨(List.range len).map F, off + len * 2, by simp, .inr ⟨(List.range (m - len)).map fun j => DataW.agg [D0 (len + j), D1 (len + j)], ?_⟩, fun M hM => ?_⟩
    · rw [hx]
      simp only [List.map_map]
      congr 1
      apply List.map_congr_left
      intro i hi
      obtain ⟨_, _, d0, d1⟩ := hF i (by simpa using hi)
      simp only [Function.comp, fdat, d0, d1]
    · simp only [RepV]
      have hlen : ((List.range len).map F).length = len := by simp
      refine ⟨_, cap, by rw [hlen], by rw [hlen]; exact hl, .inr ⟨b, off, rfl, ?_, ?_, RepAt.of_cell fun j c hj => ?_⟩, trivial⟩
      · have h1 := (each 0 (by omega)).1
        rw [add_off] at h1
        exact cell_lt h1
      · rw [Fs_length, hlen]
        show off + len * 2 ≤ M
        exact hM
      · have hjl : j < len * 2 := by
          have := (List.getElem?_eq_some_iff.1 hj).1
          rwa [Fs_length, hlen] at this
        obtain ⟨i, hi⟩ : ∃ i, i = j / 2 := ⟨_, rfl⟩
        have hil : i < len := by omega
        obtain ⟨a0, a1⟩ := Fs_at (l := (List.range len).map F) (by rw [hlen]; exact hil) (0, [])
        rw [hget i hil] at a0 a1
        obtain ⟨v0, v1, _, _⟩ := hF i hil
        obtain ⟨p0, p1, _, _⟩ := each i (by omega)
        rcases (by omega : j = i * 2 ∨ j = i * 2 + 1) with e | e
        · rw [e, a0] at hj
          injection hj with hj
          subst hj
          refine ⟨_, ?_, by simp only [B, RepV]; exact rfl⟩
          rw [e]
          rw [add_off, v0] at p0
          exact p0
        · rw [e, a1] at hj
          injection hj with hj
          subst hj
          refine ⟨_, ?_, by simp only [RepV]; exact rfl⟩
          rw [e]
          rw [add_off, v1] at p1
          exact p1
end Go.V
