/-
  VALUE LOGIC, part s: rows of whole numbers of one kind.
-/
import Derived.Test.YtjdlgbkpdfaloaaDoorVp
import Derived.Test.YtjdlgbkpdfaloaaDoorVq
namespace Go.V
set_option linter.unusedVariables false

/-- A whole number, a row of them. -/
def I (k : IntKind) (z : Int) : AV := .val (.int k z)
def Is (k : IntKind) (l : List Int) : List AV := l.map (I k)

theorem Is_length (k : IntKind) (l : List Int) : (Is k l).length = l.length := by simp [Is]
theorem Is_nil (k : IntKind) : Is k [] = [] := rfl
theorem Is_cons (k : IntKind) (z : Int) (l : List Int) : I k z :: Is k l = Is k (z :: l) := rfl
theorem Is_append (k : IntKind) (a b : List Int) : Is k (a ++ b) = Is k a ++ Is k b := by simp [Is]
theorem Is_take (k : IntKind) (l : List Int) (n : Nat) : (Is k l).take n = Is k (l.take n) := by simp [Is]
theorem Is_drop (k : IntKind) (l : List Int) (n : Nat) : (Is k l).drop n = Is k (l.drop n) := by simp [Is]
theorem Is_getD {k : IntKind} {l : List Int} {i : Nat} (h : i < l.length) : (Is k l).getD i .top = I k (l.getD i 0) := by
  simp [Is, List.getD_eq_getElem?_getD, List.getElem?_map, List.getElem?_eq_getElem h]
theorem Is_one (k : IntKind) (l : List Int) : (Is k l).all oneC = true := by
  induction l with
  | nil => rfl
  | cons x l ih => simp only [Is, List.map_cons, List.all_cons] at *; rw [ih]; rfl
theorem norefs_Is (k : IntKind) (l : List Int) : norefs (Is k l) = true := by induction l <;> simp_all [Is, I, norefs, noref]
theorem flats_Is (k : IntKind) (l : List Int) : flats (Is k l) = true := by induction l <;> simp_all [Is, I, flats, flat]
theorem zrep_Is (k : IntKind) (n : Nat) : zrep [.int k 0] n = Is k (List.replicate n 0) := by
  induction n with
  | zero => rfl
  | succ n ih =>
    unfold zrep at *
    simp only [List.replicate_succ, List.flatten_cons, ih]
    rfl
theorem Is_set {k : IntKind} {l : List Int} {i : Nat} {z : Int} (h : i < l.length) : Is k (l.take i) ++ [AV.val (.int k z)] ++ Is k (l.drop (i + 1)) = Is k (l.set i z) := by
  rw [List.set_eq_take_append_cons_drop, if_pos h, Is_append, ← Is_cons]
  simp [I]
theorem I_un (k : IntKind) (z : Int) : I k z = .val (.int k z) := rfl

/-- A long row of parts, by one test. -/
def afillB (place : Nat → Option (Nat × Nat)) (cells : List AV) : List (Nat × AV) → Option (List AV)
  | [] => some cells
  | (i, v) :: rest => match place i with
    | none => none
    | some (off, size) => if ((acells v).length == size && decide (off + size ≤ cells.length) && (acells v).all oneC) = true then afillB place (spl cells off (acells v)) rest else none

theorem afillB_sound {place : Nat → Option (Nat × Nat)} : ∀ {parts : List (Nat × AV)} {cells r : List AV}, afillB place cells parts = some r → ∃ C : Prop, afill place cells parts = some (C, r) ∧ C
  | [], cells, r, h => by
    simp only [afillB, Option.some.injEq] at h
    subst h
    exact ⟨True, rfl, trivial⟩
  | (i, v) :: rest, cells, r, h => by
    unfold afillB at h
    unfold afill
    cases hp : place i with
    | none => rw [hp] at h; cases h
    | some x =>
      obtain ⟨off, size⟩ := x
      rw [hp] at h
      simp only at h ⊢
      split at h
      case isFalse => cases h
      rename_i hc
      simp only [Bool.and_eq_true, beq_iff_eq, decide_eq_true_eq] at hc
      obtain ⟨C, h1, h2⟩ := afillB_sound h
      rw [h1]
      exact ⟨_, rfl, ⟨hc.1.1, hc.1.2, hc.2⟩, h2⟩

theorem buildSlice_B {P : Program} {t e : TypeId} {n sz : Nat} {z : List Value} {parts : List (Nat × AV)} {os : List AObj} {k : AV → List AObj → Prop} (cells : List AV) (hu : P.underlying t = some (.slice e)) (hs : tsz P e = some sz) (hz : tzero P e = some z)
    (hB : afillB (fun i => some (i * sz, sz)) (zrep z n) parts = some cells) (hzl : z.length = sz) (hn : n * sz ≤ 16777216) (hk : k (.sl n cells .full) os) : andR (abuildSlice P t n parts os) k := by
  obtain ⟨C, h1, h2⟩ := afillB_sound hB
  unfold abuildSlice
  rw [hu]
  simp only [hs, hz]
  rw [h1]
  exact ⟨⟨h2, hzl, hn⟩, hk⟩

theorem zvs_Is (k : IntKind) (n : Nat) : (zvs k n).map cav = Is k (List.replicate n 0) := by
  simp only [zvs, Is, List.map_replicate]
  rfl

/-- A long array, by one test. -/
theorem build_B {P : Program} {t e : TypeId} {n sz : Nat} {z : List Value} {parts : List (Nat × AV)} {k : AV → Prop} (cells : List AV) (hu : P.underlying t = some (.array n e)) (hs : tsz P e = some sz) (hz : tzero P t = some z)
    (hB : afillB (fun i => some (i * sz, sz)) (z.map cav) parts = some cells) (hk : k (.agg cells)) : andO (abuild P t parts) k := by
  obtain ⟨C, h1, h2⟩ := afillB_sound hB
  unfold abuild
  rw [hu]
  simp only [hs, hz]
  rw [h1]
  exact ⟨h2, hk⟩

/-- What is known without any package-level variable is known with them. -/
theorem ACalls.g {P : Program} {G : List (Nat × List AV)} {f : FuncId} {args : List AV} {outs : List AObj} {Q : AV → List AObj → Prop} (h : ACalls P [] f args outs Q) : ACalls P G f args outs Q :=
  ⟨h.1, fun E vs h1 h2 _ => h.2 E vs h1 h2 (fun g cells hm => by simp at hm)⟩

open RowKit in
theorem law_calls_g {P : Program} {G : List (Nat × List AV)} {f : FuncId} {args : List AV} {vs : List Value} (h : ACalls P G f args [] (fun r os => os = [] ∧ r = .val (.bool true))) (w : World) (N : Nat) (hG : GOk (Env.start w N) G) (hr : RepL (Env.start w N) args vs) :
    Calls P f vs.toArray w fun e w' => e = .returned (.bool true) ∧ Below w.heap.size w w' := by
  refine (h.2 (Env.start w N) vs hr (ObjsRep_nil w N) hG).mono ?_
  rintro e w' ⟨E', v, r, outs', rfl, rfl, ⟨rfl, rfl⟩, hv, ho, hx⟩
  simp only [RepV] at hv
  subst hv
  refine ⟨rfl, hx.os, hx.tape, hx.output, hx.size, fun k hk => (hx.frame k hk ?_).1⟩
  rintro ⟨r, o, h1, _⟩
  simp at h1

theorem GOk_one {w : World} {N g : Nat} {k : IntKind} {l : List Int} (hN : l.length ≤ N) (hpos : 0 < l.length) (hc : ∀ i, i < l.length → w.cell? ⟨g, i, none⟩ = some (.int k (l.getD i 0))) : GOk (Env.start w N) [(g, Is k l)] := by
  intro g' cells hm
  simp only [List.mem_singleton, Prod.mk.injEq] at hm
  obtain ⟨rfl, rfl⟩ := hm
  refine ⟨cell_lt (hc 0 hpos), by simpa [Is_length, Env.start] using hN, RepAt.of_cell fun i c hi => ?_, fun c hm => ?_⟩
  · have hi' : i < l.length := by
      have := (List.getElem?_eq_some_iff.1 hi).1
      simpa [Is_length] using this
    refine ⟨_, by rw [Nat.zero_add]; exact hc i hi', ?_⟩
    have e : (Is k l)[i]? = some (I k (l.getD i 0)) := by
      simp [Is, List.getD_eq_getElem?_getD, List.getElem?_map, List.getElem?_eq_getElem hi']
    rw [e] at hi
    injection hi with hi
    subst hi
    simp only [I, RepV]
  · simp only [Is, List.mem_map] at hm
    obtain ⟨z, _, rfl⟩ := hm
    exact ⟨_, rfl⟩
end Go.V
