/-
  Texts of one proof, merged: Vq, Vs, Vv, Vw, Vy, Vt, Vu, Vza.
-/
import Derived.Test.YtjdlgbkpdfaloaaDoorBS1
import Derived.OpenShut
import Derived.Deep.Matrix
/-
  VALUE LOGIC, part q: what comes in from outside.
-/
namespace Go.V
set_option linter.unusedVariables false

/-- A slice of whole numbers that came in: it is nil, or it leads to a row of numbers. -/
def IsRow (k : IntKind) (w : World) (a : Option Addr) (len cap : Nat) (zs : List Int) : Prop :=
  (a = none ∧ len = 0 ∧ cap = 0 ∧ zs = []) ∨
  ∃ x, a = some x ∧ len ≤ cap ∧ cap ≤ maxLen ∧ zs.length = cap ∧ (∀ i, i < zs.length → w.cell? (x.add i) = some (.int k (zs.getD i 0))) ∧ ∀ n ∈ zs, (Lit.int k n).wf = true

theorem cell_lt {w : World} {g o : Nat} {v : Value} (h : w.cell? ⟨g, o, none⟩ = some v) : g < w.heap.size := by
  rcases Nat.lt_or_ge g w.heap.size with h' | h'
  · exact h'
  · simp [World.cell?, Array.getElem?_eq_none h'] at h

/-- Bytes that came in. -/
theorem IsRow.bytes {w : World} {a : Option Addr} {len cap : Nat} {zs : List Int} (h : IsRow .u8 w a len cap zs) :
    ∃ (l : List UInt8) (N : Nat), l.length = len ∧ len ≤ 9223372036854775807 ∧ ∀ M, N ≤ M → RepV (Env.start w M) (.sl l.length (Bs l) .no) (.slice a len cap) := by
  rcases h with ⟨rfl, rfl, rfl, rfl⟩ | ⟨x, rfl, hl, hm, hz, hcell, hwf⟩
  · refine ⟨[], 0, rfl, by omega, fun M _ => ?_⟩
    simp only [RepV]
    exact ⟨none, 0, rfl, Nat.le_refl _, .inl rfl, trivial⟩
  · have hm' : cap ≤ 9223372036854775807 := hm
    by_cases h0 : len = 0
    · subst h0
      refine ⟨[], 0, rfl, by omega, fun M _ => ?_⟩
      simp only [RepV]
      exact ⟨_, cap, rfl, hl, .inl rfl, trivial⟩
    · obtain ⟨b, off, rfl, hc⟩ := ints_at hcell (by omega)
      refine ⟨(zs.take len).map fun z => UInt8.ofNat z.toNat, off + len, by simp; omega, by omega, fun M hM => ?_⟩
      simp only [RepV]
      have hlen : ((zs.take len).map fun z => UInt8.ofNat z.toNat).length = len := by simp; omega
      refine ⟨_, cap, by rw [hlen], by rw [hlen]; exact hl, .inr ⟨b, off, rfl, cell_lt (hc 0 (by omega)), ?_, RepAt.of_cell fun i c hi => ?_⟩, trivial⟩
      · simp only [Bs, List.length_map]
        simp only [Env.start]
        rw [List.length_take]
        omega
      · have hi' : i < len := by
          have := (List.getElem?_eq_some_iff.1 hi).1
          simp only [Bs, List.length_map, List.length_take] at this
          omega
        refine ⟨_, hc i (by omega), ?_⟩
        simp only [Bs, List.map_map, List.getElem?_map, List.getElem?_take, hi', if_true] at hi
        have hz' : zs[i]? = some (zs.getD i 0) := by
          rw [List.getD_eq_getElem?_getD, List.getElem?_eq_getElem (show i < zs.length by omega)]
          rfl
        rw [hz'] at hi
        simp only [Option.map_some, Option.some.injEq] at hi
        subst hi
        have hb := bounds_u8 (hwf (zs.getD i 0) (by
          rw [List.getD_eq_getElem?_getD, List.getElem?_eq_getElem (show i < zs.length by omega)]
          exact List.getElem_mem _))
        simp only [Function.comp, B, RepV]
        congr 1
        simp only [UInt8.toNat_ofNat']
        omega
end Go.V
/-
  VALUE LOGIC, part s: rows of whole numbers of one kind.
-/
namespace Go.V
set_option linter.unusedVariables false

/-- A whole number, a row of them. -/
def I (k : IntKind) (z : Int) : AV := .val (.int k z)
def Is (k : IntKind) (l : List Int) : List AV := l.map (I k)

theorem Is_length (k : IntKind) (l : List Int) : (Is k l).length = l.length := by simp [Is]
theorem Is_nil (k : IntKind) : Is k [] = [] := rfl
theorem Is_cons (k : IntKind) (z : Int) (l : List Int) : I k z :: Is k l = Is k (z :: l) := rfl
theorem Is_append (k : IntKind) (a b : List Int) : Is k (a ++ b) = Is k a ++ Is k b := by simp [Is]
theorem Is_take (k : IntKind) (l : List Int) (n : Nat) : (Is k l).take n = Is k (l.take n) := by simp [Is]
theorem Is_drop (k : IntKind) (l : List Int) (n : Nat) : (Is k l).drop n = Is k (l.drop n) := by simp [Is]
theorem Is_getD {k : IntKind} {l : List Int} {i : Nat} (h : i < l.length) : (Is k l).getD i .top = I k (l.getD i 0) := by
  simp [Is, List.getD_eq_getElem?_getD, List.getElem?_map, List.getElem?_eq_getElem h]
theorem Is_one (k : IntKind) (l : List Int) : (Is k l).all oneC = true := by
  induction l with
  | nil => rfl
  | cons x l ih => simp only [Is, List.map_cons, List.all_cons] at *; rw [ih]; rfl
theorem norefs_Is (k : IntKind) (l : List Int) : norefs (Is k l) = true := by induction l <;> simp_all [Is, I, norefs, noref]
theorem flats_Is (k : IntKind) (l : List Int) : flats (Is k l) = true := by induction l <;> simp_all [Is, I, flats, flat]
theorem zrep_Is (k : IntKind) (n : Nat) : zrep [.int k 0] n = Is k (List.replicate n 0) := by
  induction n with
  | zero => rfl
  | succ n ih =>
    unfold zrep at *
    simp only [List.replicate_succ, List.flatten_cons, ih]
    rfl
theorem Is_set {k : IntKind} {l : List Int} {i : Nat} {z : Int} (h : i < l.length) : Is k (l.take i) ++ [AV.val (.int k z)] ++ Is k (l.drop (i + 1)) = Is k (l.set i z) := by
  rw [List.set_eq_take_append_cons_drop, if_pos h, Is_append, ← Is_cons]
  simp [I]
theorem I_un (k : IntKind) (z : Int) : I k z = .val (.int k z) := rfl

/-- A long row of parts, by one test. -/
def afillB (place : Nat → Option (Nat × Nat)) (cells : List AV) : List (Nat × AV) → Option (List AV)
  | [] => some cells
  | (i, v) :: rest => match place i with
    | none => none
    | some (off, size) => if ((acells v).length == size && decide (off + size ≤ cells.length) && (acells v).all oneC) = true then afillB place (spl cells off (acells v)) rest else none

theorem afillB_sound {place : Nat → Option (Nat × Nat)} : ∀ {parts : List (Nat × AV)} {cells r : List AV}, afillB place cells parts = some r → ∃ C : Prop, afill place cells parts = some (C, r) ∧ C
  | [], cells, r, h => by
    simp only [afillB, Option.some.injEq] at h
    subst h
    exact ⟨True, rfl, trivial⟩
  | (i, v) :: rest, cells, r, h => by
    unfold afillB at h
    unfold afill
    cases hp : place i with
    | none => rw [hp] at h; cases h
    | some x =>
      obtain ⟨off, size⟩ := x
      rw [hp] at h
      simp only at h ⊢
      split at h
      case isFalse => cases h
      rename_i hc
      simp only [Bool.and_eq_true, beq_iff_eq, decide_eq_true_eq] at hc
      obtain ⟨C, h1, h2⟩ := afillB_sound h
      rw [h1]
      exact ⟨_, rfl, ⟨hc.1.1, hc.1.2, hc.2⟩, h2⟩

theorem buildSlice_B {P : Program} {t e : TypeId} {n sz : Nat} {z : List Value} {parts : List (Nat × AV)} {os : List AObj} {k : AV → List AObj → Prop} (cells : List AV) (hu : P.underlying t = some (.slice e)) (hs : tsz P e = some sz) (hz : tzero P e = some z)
    (hB : afillB (fun i => some (i * sz, sz)) (zrep z n) parts = some cells) (hzl : z.length = sz) (hn : n * sz ≤ 16777216) (hk : k (.sl n cells .full) os) : andR (abuildSlice P t n parts os) k := by
  obtain ⟨C, h1, h2⟩ := afillB_sound hB
  unfold abuildSlice
  rw [hu]
  simp only [hs, hz]
  rw [h1]
  exact ⟨⟨h2, hzl, hn⟩, hk⟩

theorem zvs_Is (k : IntKind) (n : Nat) : (zvs k n).map cav = Is k (List.replicate n 0) := by
  simp only [zvs, Is, List.map_replicate]
  rfl

/-- A long array, by one test. -/
theorem build_B {P : Program} {t e : TypeId} {n sz : Nat} {z : List Value} {parts : List (Nat × AV)} {k : AV → Prop} (cells : List AV) (hu : P.underlying t = some (.array n e)) (hs : tsz P e = some sz) (hz : tzero P t = some z)
    (hB : afillB (fun i => some (i * sz, sz)) (z.map cav) parts = some cells) (hk : k (.agg cells)) : andO (abuild P t parts) k := by
  obtain ⟨C, h1, h2⟩ := afillB_sound hB
  unfold abuild
  rw [hu]
  simp only [hs, hz]
  rw [h1]
  exact ⟨h2, hk⟩

/-- What is known without any package-level variable is known with them. -/
theorem ACalls.g {P : Program} {G : List (Nat × List AV)} {f : FuncId} {args : List AV} {outs : List AObj} {Q : AV → List AObj → Prop} (h : ACalls P [] f args outs Q) : ACalls P G f args outs Q :=
  ⟨h.1, fun E vs h1 h2 _ => h.2 E vs h1 h2 (fun g cells hm => by simp at hm)⟩

open RowKit in
theorem law_calls_g {P : Program} {G : List (Nat × List AV)} {f : FuncId} {args : List AV} {vs : List Value} (h : ACalls P G f args [] (fun r os => os = [] ∧ r = .val (.bool true))) (w : World) (N : Nat) (hG : GOk (Env.start w N) G) (hr : RepL (Env.start w N) args vs) :
    Calls P f vs.toArray w fun e w' => e = .returned (.bool true) ∧ Below w.heap.size w w' := by
  refine (h.2 (Env.start w N) vs hr (ObjsRep_nil w N) hG).mono ?_
  rintro e w' ⟨E', v, r, outs', rfl, rfl, ⟨rfl, rfl⟩, hv, ho, hx⟩
  simp only [RepV] at hv
  subst hv
  refine ⟨rfl, hx.os, hx.tape, hx.output, hx.size, fun k hk => (hx.frame k hk ?_).1⟩
  rintro ⟨r, o, h1, _⟩
  simp at h1

theorem GOk_one {w : World} {N g : Nat} {k : IntKind} {l : List Int} (hN : l.length ≤ N) (hpos : 0 < l.length) (hc : ∀ i, i < l.length → w.cell? ⟨g, i, none⟩ = some (.int k (l.getD i 0))) : GOk (Env.start w N) [(g, Is k l)] := by
  intro g' cells hm
  simp only [List.mem_singleton, Prod.mk.injEq] at hm
  obtain ⟨rfl, rfl⟩ := hm
  refine ⟨cell_lt (hc 0 hpos), by simpa [Is_length, Env.start] using hN, RepAt.of_cell fun i c hi => ?_, fun c hm => ?_⟩
  · have hi' : i < l.length := by
      have := (List.getElem?_eq_some_iff.1 hi).1
      simpa [Is_length] using this
    refine ⟨_, by rw [Nat.zero_add]; exact hc i hi', ?_⟩
    have e : (Is k l)[i]? = some (I k (l.getD i 0)) := by
      simp [Is, List.getD_eq_getElem?_getD, List.getElem?_map, List.getElem?_eq_getElem hi']
    rw [e] at hi
    injection hi with hi
    subst hi
    simp only [I, RepV]
  · simp only [Is, List.mem_map] at hm
    obtain ⟨z, _, rfl⟩ := hm
    exact ⟨_, rfl⟩
end Go.V
/-
  VALUE LOGIC, part v: an object is given up: its cells are never written again.
-/
namespace Go.V
set_option linter.unusedVariables false
set_option linter.unusedSimpArgs false

theorem Weak.freeze {G : List (Nat × List AV)} {nt : Nat} {s : List (Nat × AV)} {os : List AObj} (i r : Nat) (c : AV) (cs : List AV) (h : lk s i = .ptr r 0) (ho : os[r]? = some (.cells (c :: cs))) (hn : norefs (c :: cs) = true) :
    Weak G ⟨nt, s, os⟩ ⟨nt, (i, .cptr (c :: cs)) :: s, os.set r .dead⟩ := fun E a hr => by
  have hi := hr.slots i
  simp only at hi
  rw [h] at hi
  simp only [RepV] at hi
  obtain ⟨hrk, g0, hρ0, hv⟩ := hi
  obtain ⟨hk, hobj, hdis⟩ := hr.objs
  rcases hobj r _ ho with e | ⟨g, vs, t, fz, hρ, hh, hfz, hlim, hlen, hrep⟩
  · cases e
  have eg : g0 = g := by
    rw [hρ0] at hρ
    injection hρ with hρ
    injection hρ with hρ
    injection hρ with hρ
  subst eg
  have hown : ownBlk (.cells (c :: cs)) (E.ρ r) = some g0 := by rw [hρ]; rfl
  have hgs : g0 < E.w.heap.size := get_lt hh
  let E' : Env := { E with lim := fun x => if x = g0 then (c :: cs).length else E.lim x }
  have hle : ∀ x, E.lim x ≤ E'.lim x := fun x => by
    show E.lim x ≤ if x = g0 then _ else _
    split
    · rename_i e; subst e; rw [hlim]; exact Nat.zero_le _
    · exact Nat.le_refl _
  have hne : ∀ x, x ≠ g0 → E'.lim x = E.lim x := fun x hx => if_neg hx
  have hx : Ext0 E E' := ⟨Nat.le_refl _, fun x _ => hle x, fun _ _ _ _ => rfl, Nat.le_refl _, fun _ _ => .refl _⟩
  have hset : ∀ (r' : Nat) (o : AObj), (os.set r .dead)[r']? = some o → o = .dead ∨ (r' ≠ r ∧ os[r']? = some o) := by
    intro r' o h'
    rw [List.getElem?_set] at h'
    split at h'
    · split at h'
      · injection h' with h'; exact .inl h'.symm
      · cases h'
    · rename_i hne'; exact .inr ⟨fun e => hne' e.symm, h'⟩
  refine ⟨E', rfl, ⟨hr.size, fun j => ?_, hr.defers, ⟨by simpa using hk, fun r' o h' => ?_, fun r1 r2 o1 o2 x h1 h2 b1 b2 => ?_⟩, hr.glob.mono hx⟩, ?_⟩
  · simp only [lk]
    split
    · rename_i e
      subst e
      rw [hv]
      simp only [RepV]
      refine ⟨g0, 0, rfl, hgs, ?_, ?_⟩
      · show 0 + (c :: cs).length ≤ if g0 = g0 then _ else _
        rw [if_pos rfl, Nat.zero_add]
        exact Nat.le_refl _
      · have h1 : RepAt E g0 0 (c :: cs) := hrep.at_ (off := 0) hh
        exact norefsAt_move (E := E) (E' := E') rfl (fun x _ => hle x) g0 _ _ hn h1
    · exact RepV.mono hx _ _ (hr.slots j)
  · rcases hset r' o h' with rfl | ⟨hne', h''⟩
    · trivial
    · refine (hobj r' o h'').stay hx fun x hb => ⟨rfl, hne x fun e => ?_⟩
      subst e
      exact hne' (hdis r' r o _ x h'' ho hb hown)
  · rcases hset r1 o1 h1 with rfl | ⟨_, h1'⟩
    · simp [ownBlk] at b1
    · rcases hset r2 o2 h2 with rfl | ⟨_, h2'⟩
      · simp [ownBlk] at b2
      · exact hdis r1 r2 o1 o2 x h1' h2' b1 b2
  · refine { hx with os := rfl, tape := rfl, output := rfl, frame := fun x hx' hno => ⟨rfl, hne x fun e => hno ?_⟩, own := fun x hw _ => ?_ }
    · subst e
      exact ⟨r, _, ho, hown⟩
    · obtain ⟨r', o, h', hb⟩ := hw
      rcases hset r' o h' with rfl | ⟨_, h''⟩
      · simp [ownBlk] at hb
      · exact ⟨r', o, h'', hb⟩

theorem awp_freeze {P : Program} {G : List (Nat × List AV)} {c : Code} {nt : Nat} {s : List (Nat × AV)} {os : List AObj} {Q : Exit → St → Prop} (i r : Nat) (cs : List AV) (h : lk s i = .ptr r 0) (ho : os[r]? = some (.cells cs)) (hp : 0 < cs.length) (hn : norefs cs = true)
    (hq : awp P G c ⟨nt, (i, .cptr cs) :: s, os.set r .dead⟩ Q) : awp P G c ⟨nt, s, os⟩ Q := by
  cases cs with
  | nil => simp at hp
  | cons c0 cs => exact awp_weak (.freeze i r c0 cs h ho hn) hq

theorem ACalls.args {P : Program} {G : List (Nat × List AV)} {f : FuncId} {as as' : List AV} {outs : List AObj} {Q : AV → List AObj → Prop} (h : ACalls P G f as outs Q) (ha : ∀ E vs, RepL E as' vs → RepL E as vs) : ACalls P G f as' outs Q :=
  ⟨h.1, fun E vs hl ho hG => h.2 E vs (ha E vs hl) ho hG⟩
theorem RepV.noperm {E : Env} {n : Nat} {cells : List AV} {p : Perm} {v : Value} (h : RepV E (.sl n cells p) v) : RepV E (.sl n cells .no) v := by
  simp only [RepV] at h ⊢
  obtain ⟨A, cap, h1, h2, h3, _⟩ := h
  exact ⟨A, cap, h1, h2, h3, trivial⟩
theorem RepL.noperm {E : Env} {n : Nat} {cells : List AV} {p : Perm} {r : List AV} {vs : List Value} (h : RepL E (.sl n cells p :: r) vs) : RepL E (.sl n cells .no :: r) vs := by
  simp only [RepL] at h ⊢
  obtain ⟨v, vs', h1, h2, h3⟩ := h
  exact ⟨v, vs', h1, h2.noperm, h3⟩
theorem RepL.noperm2 {E : Env} {x : AV} {n : Nat} {cells : List AV} {p : Perm} {r : List AV} {vs : List Value} (h : RepL E (x :: .sl n cells p :: r) vs) : RepL E (x :: .sl n cells .no :: r) vs := by
  simp only [RepL] at h ⊢
  obtain ⟨v, vs', h1, h2, v2, vs2, h3, h4, h5⟩ := h
  exact ⟨v, vs', h1, h2, v2, vs2, h3, h4.noperm, h5⟩
end Go.V
/-
  VALUE LOGIC, part w: objects that nobody looks at any more; fields (a byte and a text) in rows.
-/
namespace Go.V
set_option linter.unusedVariables false
set_option linter.unusedSimpArgs false

theorem Weak.dead {G : List (Nat × List AV)} {nt : Nat} {s : List (Nat × AV)} {os : List AObj} (r : Nat) : Weak G ⟨nt, s, os⟩ ⟨nt, s, os.set r .dead⟩ := fun E a hr => by
  obtain ⟨hk, hobj, hdis⟩ := hr.objs
  have hset : ∀ (r' : Nat) (o : AObj), (os.set r .dead)[r']? = some o → o = .dead ∨ os[r']? = some o := by
    intro r' o h'
    rw [List.getElem?_set] at h'
    split at h'
    · split at h'
      · injection h' with h'; exact .inl h'.symm
      · cases h'
    · exact .inr h'
  refine ⟨E, rfl, ⟨hr.size, hr.slots, hr.defers, ⟨by simpa using hk, fun r' o h' => ?_, fun r1 r2 o1 o2 x h1 h2 b1 b2 => ?_⟩, hr.glob⟩, ?_⟩
  · rcases hset r' o h' with rfl | h''
    · trivial
    · exact hobj r' o h''
  · rcases hset r1 o1 h1 with rfl | h1'
    · simp [ownBlk] at b1
    · rcases hset r2 o2 h2 with rfl | h2'
      · simp [ownBlk] at b2
      · exact hdis r1 r2 o1 o2 x h1' h2' b1 b2
  · refine { Ext0.refl E with os := rfl, tape := rfl, output := rfl, frame := fun x hx' hno => ⟨rfl, rfl⟩, own := fun x hw _ => ?_ }
    obtain ⟨r', o, h', hb⟩ := hw
    rcases hset r' o h' with rfl | h''
    · simp [ownBlk] at hb
    · exact ⟨r', o, h'', hb⟩

theorem awp_dead {P : Program} {G : List (Nat × List AV)} {c : Code} {nt : Nat} {s : List (Nat × AV)} {os : List AObj} {Q : Exit → St → Prop} (r : Nat) (hq : awp P G c ⟨nt, s, os.set r .dead⟩ Q) : awp P G c ⟨nt, s, os⟩ Q := awp_weak (.dead r) hq

/-- So many dead objects. -/
def dd (n : Nat) : List AObj := List.replicate n .dead
theorem dd_length (n : Nat) : (dd n).length = n := List.length_replicate ..
theorem dd_zero : dd 0 = [] := rfl
theorem dd_at (n : Nat) (x : AObj) : (dd n ++ [x])[n]? = some x := by
  rw [List.getElem?_append_right (by rw [dd_length]; exact Nat.le_refl _), dd_length, Nat.sub_self]
  rfl
theorem dd_set (n : Nat) (x y : AObj) : (dd n ++ [x]).set n y = dd n ++ [y] := by
  rw [List.set_append_right _ _ (by rw [dd_length]; exact Nat.le_refl _), dd_length, Nat.sub_self]
  rfl
theorem dd_kill (n : Nat) : dd n ++ [.dead] = dd (n + 1) := by
  unfold dd
  rw [List.replicate_succ']

/-- A field: a byte and a text. -/
abbrev FieldV := UInt8 × List UInt8
def FA (f : FieldV) : List AV := [B f.1, .val (.string ⟨f.2.toArray⟩)]
def Fs (l : List FieldV) : List AV := l.flatMap FA
theorem FA_length (f : FieldV) : (FA f).length = 2 := rfl
theorem Fs_length (l : List FieldV) : (Fs l).length = l.length * 2 := by
  induction l with
  | nil => rfl
  | cons f l ih => simp only [Fs, List.flatMap_cons, List.length_append, List.length_cons] at *; rw [ih, FA_length]; omega
theorem Fs_append (a b : List FieldV) : Fs (a ++ b) = Fs a ++ Fs b := by simp [Fs]
theorem Fs_one (f : FieldV) : Fs [f] = FA f := by simp [Fs]
theorem Fs_nil : Fs [] = [] := rfl
theorem Fs_drop (l : List FieldV) : ∀ i, (Fs l).drop (i * 2) = Fs (l.drop i) := by
  induction l with
  | nil => intro i; simp [Fs]
  | cons f l ih =>
    intro i
    cases i with
    | zero => simp
    | succ i =>
      have := ih i
      simp only [Fs, List.flatMap_cons, List.drop_succ_cons] at *
      rw [show (i + 1) * 2 = i * 2 + 1 + 1 by omega]
      exact this
theorem Fs_take1 (f : FieldV) (l : List FieldV) : (Fs (f :: l)).take 2 = FA f := rfl
theorem Fs_get {l : List FieldV} {i : Nat} (h : i < l.length) (d : FieldV) : ((Fs l).drop (i * 2)).take 2 = FA (l.getD i d) := by
  rw [Fs_drop]
  have : l.drop i = l.getD i d :: l.drop (i + 1) := by
    rw [List.getD_eq_getElem?_getD, List.getElem?_eq_getElem h]
    exact List.drop_eq_getElem_cons h
  rw [this, Fs_take1]
theorem norefs_FA (f : FieldV) : norefs (FA f) = true := rfl
theorem norefs_Fs (l : List FieldV) : norefs (Fs l) = true := by
  induction l with
  | nil => rfl
  | cons f l ih => rw [show Fs (f :: l) = FA f ++ Fs l from rfl, norefs_append, ih]; rfl
theorem flats_FA (f : FieldV) : flats (FA f) = true := rfl
theorem FA_oneC (f : FieldV) : (FA f).all oneC = true := rfl
theorem Fs_oneC (l : List FieldV) : (Fs l).all oneC = true := by
  induction l with
  | nil => rfl
  | cons f l ih => rw [show Fs (f :: l) = FA f ++ Fs l from rfl, List.all_append, ih]; rfl
end Go.V
/-
  VALUE LOGIC, part y: a function that is handed objects, or hands back new ones.
-/
namespace Go.V
set_option linter.unusedVariables false
set_option linter.unusedSimpArgs false

/-- A value as it goes out, where the objects 'is' go out with it. -/
def outv (is : List Nat) : AV → Option AV
  | .ptr r off => if is.contains r then some (.ptr (is.idxOf r) off) else none
  | .sl m cells (.tok r) => if is.contains r = true ∧ norefs cells = true then some (.sl m cells (.tok (is.idxOf r))) else none
  | a => if noref a = true then some a else none

theorem outv_sound {E E2 : Env} {is : List Nat} (hw : E2.w = E.w) (hl : E2.lim = E.lim) (hk : E2.k = is.length) (hρ : ∀ i, i < is.length → E2.ρ i = E.ρ (is.getD i 0)) {a a' : AV} {v : Value} (h : outv is a = some a') (hr : RepV E a v) : RepV E2 a' v := by
  have at' : ∀ r, is.contains r = true → is.idxOf r < E2.k ∧ E2.ρ (is.idxOf r) = E.ρ r := fun r hc => by
    have hm : r ∈ is := by simpa using hc
    have hlt := List.idxOf_lt_length_iff.2 hm
    refine ⟨by rw [hk]; exact hlt, ?_⟩
    rw [hρ _ hlt, List.getD_eq_getElem?_getD, List.getElem?_eq_getElem hlt]
    simp
  unfold outv at h
  split at h
  · rename_i r off
    split at h
    case isFalse => cases h
    rename_i hc
    injection h with h
    subst h
    simp only [RepV] at hr ⊢
    obtain ⟨_, g, hg, hv⟩ := hr
    exact ⟨(at' r hc).1, g, by rw [(at' r hc).2]; exact hg, hv⟩
  · rename_i m cells r
    split at h
    case isFalse => cases h
    rename_i hc
    injection h with h
    subst h
    simp only [RepV] at hr ⊢
    obtain ⟨A, cap, hv, hn, hcs, hp⟩ := hr
    refine ⟨A, cap, hv, hn, ?_, ?_⟩
    · rcases hcs with e | ⟨g, o, hA, hg, ho, hat⟩
      · exact .inl e
      · exact .inr ⟨g, o, hA, by rw [hw]; exact hg, by rw [hl]; exact ho, norefsAt_move (E := E) (E' := E2) hw (fun g _ => by rw [hl]; exact Nat.le_refl _) g cells o hc.2 hat⟩
    · obtain ⟨_, A', m', c, e, hle, heq⟩ := hp
      exact ⟨(at' r hc.1).1, A', m', c, by rw [(at' r hc.1).2]; exact e, hle, fun hm => by rw [(at' r hc.1).2]; exact heq hm⟩
  · split at h
    case isFalse => cases h
    rename_i hn
    injection h with h
    subst h
    exact noref_move (E := E) (E' := E2) hw (fun g _ => by rw [hl]; exact Nat.le_refl _) _ _ hn hr

/-- What a function hands back, where the objects 'is' go out with it: a flat value, or what lies in a slot. -/
def resH (P : Program) (ts : List TypeId) (rvs : List ResultVar) (is : List Nat) (st : St) (r : AV) : Prop :=
  (∃ C, ares P ts rvs st = some (C, r) ∧ C ∧ flat r = true) ∨ (∃ x, rvs = [.tmp x] ∧ outv is (lk st.slots x) = some r)

/-- The end of a function that hands back objects. -/
def FinH (P : Program) (ts : List TypeId) (rvs : List ResultVar) (n0 : Nat) (Q : AV → List AObj → Prop) : Exit → St → Prop
  | e, st => (e = .normal ∨ e = .ret) ∧ ∃ (is : List Nat) (os : List AObj) (r : AV), n0 ≤ is.length ∧ (∀ i, i < n0 → is.getD i 0 = i) ∧ (∀ i j, i < is.length → j < is.length → is.getD i 0 = is.getD j 0 → i = j) ∧ os.length = is.length ∧
      (∀ i, i < is.length → st.objs[is.getD i 0]? = os[i]?) ∧ (∀ o ∈ os, objOk o = true) ∧ resH P ts rvs is st r ∧ Q r os

theorem acallsH_of_awp {P : Program} {G : List (Nat × List AV)} {f : FuncId} {fn : Func} {c : Code} {args : List AV} {outs : List AObj} {Q : AV → List AObj → Prop} (hf : P.funcs[f]? = some fn) (hb : fn.body = some c) (hn : (fn.name == "runtime.NumGoroutine") = false)
    {nt : Nat} {rts : Array TypeId} {rvs : Array ResultVar} (hnt : fn.ntmps = nt) (hrt : fn.resultTypes = rts) (hrv : fn.results = rvs) (hle : args.length ≤ nt)
    (h : awp P G c ⟨nt, argSlots 0 args, outs⟩ (FinH P rts.toList rvs.toList outs.length Q)) : ACalls P G f args outs Q := by
  subst hnt hrt hrv
  refine ⟨⟨fn, hf, by simp [hb], hn⟩, fun E vs hl ho hG => ?_⟩
  refine calls_of_wp hf hb ?_
  have hlen := hl.length
  have hrep : Rep G E ⟨fn.ntmps, argSlots 0 args, outs⟩ { tmps := vs.toArray ++ Array.replicate (fn.ntmps - vs.toArray.size) undef, defers := [] } := by
    refine ⟨by simp; omega, fun i => ?_, rfl, ho, hG⟩
    have := lk_argSlots E args vs 0 i hl
    simp only [Nat.zero_le, if_true, Nat.sub_zero] at this
    have e : (vs.toArray ++ Array.replicate (fn.ntmps - vs.toArray.size) undef).getD i undef = (vs[i]?).getD undef := by
      rw [Array.getD_eq_getD_getElem?, Array.getElem?_append]
      split
      · simp
      · rename_i hge
        have : vs.length ≤ i := by simpa using hge
        rw [List.getElem?_eq_none this]
        simp only [Array.getElem?_replicate]
        split <;> rfl
    rw [e]
    exact this
  refine wp_mono (h E _ hrep) ?_
  rintro e a' w' ⟨st', E', rfl, ⟨he, is, os, r, hn0, hid, hinj, hol, hos, hok, hres, hq⟩, hr', hx'⟩
  obtain ⟨hk', hobj', hdis'⟩ := hr'.objs
  let E2 : Env := { w := E'.w, lim := E'.lim, k := is.length, ρ := fun i => E'.ρ (is.getD i 0) }
  have hro : ∀ i o, os[i]? = some o → i < is.length ∧ st'.objs[is.getD i 0]? = some o := fun i o hi => by
    have hlt : i < is.length := by rw [← hol]; exact (List.getElem?_eq_some_iff.1 hi).1
    exact ⟨hlt, (hos i hlt).trans hi⟩
  have ho2 : ObjsRep E2 os := by
    refine ⟨hol.symm, fun i o hi => ?_, fun i j o o' g hi hj b1 b2 => ?_⟩
    · exact ObjRep.move (E := E') (E' := E2) rfl rfl (hok o (List.mem_of_getElem? hi)) (hobj' _ o (hro i o hi).2)
    · exact hinj i j (hro i o hi).1 (hro j o' hj).1 (hdis' _ _ o o' g (hro i o hi).2 (hro j o' hj).2 b1 b2)
  have hx2 : Ext E outs E2 os := by
    refine { size := hx'.size, lim := hx'.lim, cell := hx'.cell, k := by rw [ho.1]; exact hn0, ρ := fun i hi => ?_, os := hx'.os, tape := hx'.tape, output := hx'.output, frame := hx'.frame, own := fun g hw hg => ?_ }
    · show RefLe (E.ρ i) (E'.ρ (is.getD i 0))
      rw [ho.1] at hi
      rw [hid i hi]
      exact hx'.ρ i (by rw [ho.1]; exact hi)
    · obtain ⟨i, o, hi, hb'⟩ := hw
      exact hx'.own g ⟨_, o, (hro i o hi).2, hb'⟩ hg
  obtain ⟨u, hu, hrun⟩ : ∃ u, RepV E2 r u ∧ (results fn a'.tmps).run P E'.w = .ok u E'.w := by
    rcases hres with ⟨C, h1, hC, hflat⟩ | ⟨x, hx, ho'⟩
    · obtain ⟨u, hu, hrun⟩ := ares_sound (P := P) hr' h1 hC
      exact ⟨u, flat_move r u hflat hu, hrun⟩
    · refine ⟨a'.tmps.getD x undef, outv_sound (E := E') (E2 := E2) rfl rfl rfl (fun i _ => rfl) ho' (hr'.slots x), ?_⟩
      have e : fn.results = #[.tmp x] := by
        apply Array.ext'
        rw [hx]
      have hm : ((#[ResultVar.tmp x] : Array ResultVar).mapM (m := Sem) (rvSem a'.tmps)).run P E'.w = .ok #[a'.tmps.getD x undef] E'.w := by
        rw [Array.mapM_eq_mapM_toList]
        simp only [Sem.run_map]
        rfl
      rw [results_eq, e]
      simp only [Sem.run_bind]
      rw [hm]
      simp
  have hfin : ∃ E2 v r' outs', E2.w = E'.w ∧ Ending.returned u = .returned v ∧ Q r' outs' ∧ RepV E2 r' v ∧ ObjsRep E2 outs' ∧ Ext E outs E2 outs' := ⟨E2, u, r, os, rfl, rfl, hq, hu, ho2, hx2⟩
  rcases he with rfl | rfl
  · exact ⟨hr'.defers, u, hrun, hfin⟩
  · exact ⟨hr'.defers, u, hrun, hfin⟩

/-- The end of a function that hands back a slice that may grow. -/
theorem FinH_tok {P : Program} {ts : List TypeId} {Q : AV → List AObj → Prop} {nt : Nat} {s : List (Nat × AV)} {os : List AObj} (x i sz : Nat) {n : Nat} {cells : List AV} (h : lk s x = .sl n cells (.tok i)) (ho : os[i]? = some (.tok sz n)) (hn : norefs cells = true)
    (hq : Q (.sl n cells (.tok 0)) [.tok sz n]) : FinH P ts [.tmp x] 0 Q .ret ⟨nt, s, os⟩ :=
  ⟨.inr rfl, [i], [.tok sz n], _, Nat.zero_le _, fun j h => absurd h (Nat.not_lt_zero j), fun a b ha hb _ => by simp at ha hb; omega, rfl, fun j hj => by
    have : j = 0 := by simpa using hj
    subst this
    exact ho, fun o ho => by simp at ho; subst ho; rfl, .inr ⟨x, rfl, by simp [h, outv, hn]⟩, hq⟩
/-- The end of a function that hands back a pointer to an object that it made. -/
theorem FinH_ptr {P : Program} {ts : List TypeId} {Q : AV → List AObj → Prop} {nt : Nat} {s : List (Nat × AV)} {os : List AObj} (x i off : Nat) {y : AObj} (h : lk s x = .ptr i off) (ho : os[i]? = some y) (hn : objOk y = true)
    (hq : Q (.ptr 0 off) [y]) : FinH P ts [.tmp x] 0 Q .ret ⟨nt, s, os⟩ :=
  ⟨.inr rfl, [i], [y], _, Nat.zero_le _, fun j h => absurd h (Nat.not_lt_zero j), fun a b ha hb _ => by simp at ha hb; omega, rfl, fun j hj => by
    have : j = 0 := by simpa using hj
    subst this
    exact ho, fun o ho => by simp at ho; subst ho; exact hn, .inr ⟨x, rfl, by simp [h, outv]⟩, hq⟩
/-- The end of a function that was handed one object, and hands back a flat value. -/
theorem FinH_one {P : Program} {ts : List TypeId} {rvs : List ResultVar} {Q : AV → List AObj → Prop} {e : Exit} {nt : Nat} {s : List (Nat × AV)} {os : List AObj} {y : AObj} {C : Prop} {r : AV} (he : e = .normal ∨ e = .ret) (ho : os[0]? = some y) (hn : objOk y = true)
    (hr : ares P ts rvs ⟨nt, s, os⟩ = some (C, r)) (hC : C) (hf : flat r = true) (hq : Q r [y]) : FinH P ts rvs 1 Q e ⟨nt, s, os⟩ :=
  ⟨he, [0], [y], r, Nat.le_refl _, fun j hj => by
    have : j = 0 := by omega
    subst this
    rfl, fun a b ha hb _ => by simp at ha hb; omega, rfl, fun j hj => by
    have : j = 0 := by simpa using hj
    subst this
    exact ho, fun o ho => by simp at ho; subst ho; exact hn, .inl ⟨C, hr, hC, hf⟩, hq⟩

/-- A marked call that hands back a slice that may grow. -/
theorem andH_tok {P : Program} {G : List (Nat × List AV)} {f : FuncId} {as as' : List AV} {objs : List AObj} {k : AV → List AObj → Prop} {n sz : Nat} {cells : List AV} (hv : hviews none as = some as') (h : ACalls P G f as' [] (fun r o => o = [.tok sz n] ∧ r = .sl n cells (.tok 0))) (hn : norefs cells = true)
    (hk : k (.sl n cells (.tok objs.length)) (objs ++ [.tok sz n])) : andH P G (some f) as objs k :=
  andH_new hv h (fun o ho => by simp at ho; subst ho; rfl) (by simp [hres, hn]) hk
/-- A marked call that hands back a pointer to a new object. -/
theorem andH_ptr {P : Program} {G : List (Nat × List AV)} {f : FuncId} {as as' : List AV} {objs : List AObj} {k : AV → List AObj → Prop} {off : Nat} {y : AObj} (hv : hviews none as = some as') (h : ACalls P G f as' [] (fun r o => o = [y] ∧ r = .ptr 0 off)) (hn : objOk y = true)
    (hk : k (.ptr objs.length off) (objs ++ [y])) : andH P G (some f) as objs k :=
  andH_new hv h (fun o ho => by simp at ho; subst ho; exact hn) (by simp [hres]) hk
end Go.V
/-
  VALUE LOGIC, part t: bytes that are built, and turned into bytes (a conversion from a type of slices to the same marks their block, as the model has it).
-/
namespace Go.V
set_option linter.unusedVariables false
set_option linter.unusedSimpArgs false

theorem conv_osl_sound {P : Program} {E : Env} {t e : TypeId} {u : Value} {objs : List AObj} {r n : Nat} {cap : Option Nat} {c : AV} {cs : List AV} (ht : P.underlying t = some (.slice e)) (he : P.underlying e = some (.int .u8)) (hn : 0 < n)
    (hr : RepV E (.osl r 0 n cap) u) (hor : objs[r]? = some (.cells (c :: cs))) (hnr : norefs (c :: cs) = true) (ho : ObjsRep E objs) :
    ∃ E', (convert t t u).run P E.w = .ok u E'.w ∧ RepV E' (.sl n (c :: cs) .no) u ∧ ObjsRep E' (objs.set r .dead) ∧ Ext E objs E' (objs.set r .dead) := by
  simp only [RepV] at hr
  obtain ⟨hrk, A, cp, hu, hncap, _, hA⟩ := hr
  obtain ⟨g0, hρ0, hA0⟩ := hA hn
  subst hA0
  subst hu
  obtain ⟨hk, hobj, hdis⟩ := ho
  rcases hobj r _ hor with e' | ⟨g, vs, t', fz, hρ, hh, hfz, hlim, hlen, hrep⟩
  · cases e'
  have eg : g0 = g := by
    rw [hρ0] at hρ
    injection hρ with hρ
    injection hρ with hρ
    injection hρ with hρ
  subst eg
  have hown : ownBlk (.cells (c :: cs)) (E.ρ r) = some g0 := by rw [hρ]; rfl
  have hgs : g0 < E.w.heap.size := get_lt hh
  let w' : World := E.w.freeze ⟨g0, vs.size, none⟩ 1
  have hw' : w' = { E.w with heap := E.w.heap.modify g0 fun
      | .cells c elem (lo, hi) => .cells c elem (if lo == hi then (vs.size, vs.size + 1) else (min lo vs.size, max hi (vs.size + 1)))
      | o => o } := rfl
  have hheap : ∀ x, x ≠ g0 → w'.heap[x]? = E.w.heap[x]? := fun x hx => by
    rw [hw']
    simp only [Array.getElem?_modify]
    rw [if_neg (fun e => hx e.symm)]
  have hheapg : ∃ fz', w'.heap[g0]? = some (.cells vs t' fz') := by
    rw [hw']
    simp only [Array.getElem?_modify, if_true, hh, Option.map_some]
    exact ⟨_, rfl⟩
  have hsz : w'.heap.size = E.w.heap.size := by rw [hw']; simp
  have hcell : ∀ x o, w'.cell? ⟨x, o, none⟩ = E.w.cell? ⟨x, o, none⟩ := fun x o => by
    unfold World.cell?
    by_cases hx : x = g0
    · subst hx
      obtain ⟨fz', h1⟩ := hheapg
      simp only [h1, hh]
    · simp only [hheap x hx]
  let E1 : Env := { E with lim := fun x => if x = g0 then (c :: cs).length else E.lim x }
  let E' : Env := { E1 with w := w' }
  have hle : ∀ x, E.lim x ≤ E1.lim x := fun x => by
    show E.lim x ≤ if x = g0 then _ else _
    split
    · rename_i e; subst e; rw [hlim]; exact Nat.zero_le _
    · exact Nat.le_refl _
  have hne : ∀ x, x ≠ g0 → E1.lim x = E.lim x := fun x hx => if_neg hx
  have hx : Ext0 E E' := ⟨by show _ ≤ w'.heap.size; rw [hsz]; exact Nat.le_refl _, fun x _ => hle x, fun x o _ _ => hcell x o, Nat.le_refl _, fun _ _ => .refl _⟩
  have hx1 : Ext0 E1 E' := ⟨by show _ ≤ w'.heap.size; rw [hsz]; exact Nat.le_refl _, fun x _ => Nat.le_refl _, fun x o _ _ => hcell x o, Nat.le_refl _, fun _ _ => .refl _⟩
  have hset : ∀ (r' : Nat) (o : AObj), (objs.set r .dead)[r']? = some o → o = .dead ∨ (r' ≠ r ∧ objs[r']? = some o) := by
    intro r' o h'
    rw [List.getElem?_set] at h'
    split at h'
    · split at h'
      · injection h' with h'; exact .inl h'.symm
      · cases h'
    · rename_i hne'; exact .inr ⟨fun e => hne' e.symm, h'⟩
  refine ⟨E', ?_, ?_, ⟨by simpa using hk, fun r' o h' => ?_, fun r1 r2 o1 o2 x h1 h2 b1 b2 => ?_⟩, ?_⟩
  · have hshape : E.w.shape? g0 = some (t', vs.size) := by
      unfold World.shape?
      rw [hh]
    simp [convert, run_underlying ht, run_underlying he, markStringish, hshape]
    rfl
  · simp only [RepV]
    refine ⟨_, cp, rfl, hncap, .inr ⟨g0, 0, rfl, ?_, ?_, ?_⟩, trivial⟩
    · show g0 < w'.heap.size
      rw [hsz]; exact hgs
    · show 0 + (c :: cs).length ≤ if g0 = g0 then _ else _
      rw [if_pos rfl, Nat.zero_add]
      exact Nat.le_refl _
    · have h1 : RepAt E g0 0 (c :: cs) := hrep.at_ (off := 0) hh
      have h2 : RepAt E1 g0 0 (c :: cs) := norefsAt_move (E := E) (E' := E1) rfl (fun x _ => hle x) g0 _ _ hnr h1
      exact RepAt.mono hx1 g0 hgs _ _ (by
        show 0 + (c :: cs).length ≤ if g0 = g0 then _ else _
        rw [if_pos rfl, Nat.zero_add]
        exact Nat.le_refl _) h2
  · rcases hset r' o h' with rfl | ⟨hne', h''⟩
    · trivial
    · refine (hobj r' o h'').stay hx fun x hb => ?_
      have hxg : x ≠ g0 := fun e => by
        subst e
        exact hne' (hdis r' r o _ x h'' hor hb hown)
      exact ⟨hheap x hxg, hne x hxg⟩
  · rcases hset r1 o1 h1 with rfl | ⟨_, h1'⟩
    · simp [ownBlk] at b1
    · rcases hset r2 o2 h2 with rfl | ⟨_, h2'⟩
      · simp [ownBlk] at b2
      · exact hdis r1 r2 o1 o2 x h1' h2' b1 b2
  · refine { hx with os := rfl, tape := rfl, output := rfl, frame := fun x hx' hno => ?_, own := fun x hw _ => ?_ }
    · have hxg : x ≠ g0 := fun e => hno (by subst e; exact ⟨r, _, hor, hown⟩)
      exact ⟨hheap x hxg, hne x hxg⟩
    · obtain ⟨r', o, h', hb⟩ := hw
      rcases hset r' o h' with rfl | ⟨_, h''⟩
      · simp [ownBlk] at hb
      · exact ⟨r', o, h'', hb⟩

/-- A region that builds a slice of bytes, and turns it into bytes first of all. -/
theorem awp_region_conv (M : List Nat) {P : Program} {G : List (Nat × List AV)} {Q : Exit → St → Prop} {nt : Nat} {s : List (Nat × AV)} {os : List AObj} {id d0 d1 n : Nat} {t e ty0 ty1 : TypeId} {parts : Array (Nat × Operand)} {p0 p1 : String} {a0 a1 : Array Edge} {rest : List Oper} {C : Prop} {c : AV} {cs : List AV}
    (ht : P.underlying t = some (.slice e)) (he : P.underlying e = some (.int .u8)) (hn : 0 < n) (hd0 : d0 < nt) (hd1 : d1 < nt)
    (h0 : abuildOwn P t n (aparts (ev G s) parts) os = .ok C (.osl os.length 0 n (some n)) (os ++ [.cells (c :: cs)])) (hC : C) (hnr : norefs (c :: cs) = true)
    (h : aopsK P G M (⟨some d0, .buildSlice t n parts, ty0, p0, a0, none⟩ :: ⟨some d1, .convert t t (.tmp d0), ty1, p1, a1, none⟩ :: rest).toArray rest ⟨nt, (d1, .sl n (c :: cs) .no) :: (d0, .osl os.length 0 n (some n)) :: s, os ++ [.dead]⟩ (Q .normal)) :
    awp P G (.region id (⟨some d0, .buildSlice t n parts, ty0, p0, a0, none⟩ :: ⟨some d1, .convert t t (.tmp d0), ty1, p1, a1, none⟩ :: rest).toArray false) ⟨nt, s, os⟩ Q := fun E a hr => by
  refine wp_region_lit ?_
  obtain ⟨E1, u, hrun1, hv1, ho1, hx1⟩ := aval_sound (P := P) (mt := true) (g := a.eval) (o := ⟨some d0, .buildSlice t n parts, ty0, p0, a0, none⟩) (fun x => ev_sound hr x) (by simp only [aval, if_true]; exact h0) hC hr.objs
  have hr1 := hr.put (d := some d0) hx1 ho1 hv1 hd0
  have hsl := ev_sound hr1 (.tmp d0)
  have hev : ev G ((⟨nt, s, os⟩ : St).put (some d0) (.osl os.length 0 n (some n)) (os ++ [.cells (c :: cs)])).slots (.tmp d0) = .osl os.length 0 n (some n) := by
    simp [St.put, ev, lk]
  rw [hev] at hsl
  obtain ⟨E2, hrun2, hv2, ho2, hx2⟩ := conv_osl_sound ht he hn hsl (by simp : (os ++ [AObj.cells (c :: cs)])[os.length]? = some (.cells (c :: cs))) hnr ho1
  have hset : (os ++ [AObj.cells (c :: cs)]).set os.length .dead = os ++ [.dead] := by
    rw [List.set_append_right _ _ (Nat.le_refl _), Nat.sub_self]
    rfl
  rw [hset] at ho2 hx2
  have hr2 := hr1.put (d := some d1) hx2 ho2 hv2 hd1
  have hl2 := aopsK_sound (M := M) (Q := Q) rest _ E2 _ hr2 h
  have hl1 : wpList P (⟨some d0, .buildSlice t n parts, ty0, p0, a0, none⟩ :: ⟨some d1, .convert t t (.tmp d0), ty1, p1, a1, none⟩ :: rest).toArray (RQ P G E os Q) (⟨some d1, .convert t t (.tmp d0), ty1, p1, a1, none⟩ :: rest) (a.put (some d0) u) E1.w := by
    unfold wpList
    rw [if_pos (by simp [Region.wanted])]
    refine .inl ?_
    unfold Oper.wp
    have e2 : (execOp (a.put (some d0) u).eval ⟨some d1, .convert t t (.tmp d0), ty1, p1, a1, none⟩).run P E1.w = .ok (.value ((a.put (some d0) u).eval (.tmp d0))) E2.w := by
      simp only [execOp, Sem.run_bind, hrun2, Result.andThen_ok, Sem.run_pure]
    rw [e2]
    exact wpList_mono (fun e a w ⟨s, E3, e1, e2, e3, e4⟩ => ⟨s, E3, e1, e2, e3, (hx1.trans hx2).trans e4⟩) rest _ E2.w hl2
  unfold wpList
  rw [if_pos (by simp [Region.wanted])]
  refine .inl ?_
  unfold Oper.wp
  rcases hrun1 with e | ⟨e, rfl⟩
  · rw [e]; exact hl1
  · rw [e]; exact hl1
end Go.V
/-
  VALUE LOGIC, part u: an array of whole numbers that a call is handed.
-/
namespace Go.V
set_option linter.unusedVariables false
open Go.ChangeShapes

def intOf : Value → Int
  | .int _ z => z
  | _ => 0

theorem open_arrI {H : Type} {enc : TypeId × Value → H} {P : Program} {W : World} {base : Nat} {sp : Nat → Bool} {held : Bool} {t e : TypeId} {n : Nat} {k : IntKind} (ht : P.underlying t = some (.array n e)) (he : P.underlying e = some (.int k))
    (hc : P.cellsOf e = 1) (hn : P.cellsOf t = n) {r : Reach} {b : Nat} {v : Value} (hok : Value.okWide P W r b t v) {d : DataW H} {p : List MemPlace} (h : DataW.Trod enc P W base sp held t v d p) :
    ∃ zs : List Int, v = .agg (zs.map (Value.int k)).toArray ∧ zs.length = n ∧ ∀ z ∈ zs, (Lit.int k z).wf = true := by
  obtain ⟨cs, rfl, hsz, _⟩ : ∃ cs, v = .agg cs ∧ cs.size = P.cellsOf t ∧ Row.okWide P W r b t cs := by simpa only [Value.okWide, ht] using hok
  obtain ⟨fuel, hf⟩ := h
  obtain ⟨xs, m, rfl, _, hl, hxl, hx⟩ := DataW.trod_array ht hf
  simp only [Value.cells] at hl hx
  have hl' : cs.toList.length = n := by rw [hl, hn]
  have each : ∀ i, i < n → ∃ z, cs.toList[i]? = some (.int k z) ∧ (Lit.int k z).wf = true := by
    intro i hi
    have h1 := hx i hi
    rw [hc, Nat.mul_one] at h1
    obtain ⟨x, hx'⟩ : ∃ x, xs[i]? = some x := ⟨xs[i]'(by omega), List.getElem?_eq_getElem (by omega)⟩
    rw [hx'] at h1
    obtain ⟨z, hz, _, hw⟩ := DataW.trod_int he h1
    refine ⟨z, ?_, hw⟩
    have := congrArg (fun l => l[0]?) hz
    simpa [List.getElem?_take, List.getElem?_drop] using this
  refine ⟨cs.toList.map intOf, ?_, by simpa using hl', ?_⟩
  · have : (cs.toList.map intOf).map (Value.int k) = cs.toList := by
      apply List.ext_getElem?
      intro i
      by_cases hi : i < n
      · obtain ⟨z, hz, _⟩ := each i hi
        simp only [List.getElem?_map]
        rw [hz]
        rfl
      · rw [List.getElem?_eq_none (by simpa using (by omega : cs.toList.length ≤ i)), List.getElem?_eq_none (by omega)]
    rw [this]
  · intro z hz
    obtain ⟨v, hv, rfl⟩ := List.mem_map.1 hz
    obtain ⟨i, hi, rfl⟩ := List.mem_iff_getElem.1 hv
    obtain ⟨z, hz, hw⟩ := each i (by omega)
    rw [List.getElem?_eq_getElem hi] at hz
    injection hz with hz
    rw [hz]
    exact hw

theorem repL_Is (E : Env) (k : IntKind) : ∀ zs : List Int, RepL E (Is k zs) (zs.map (Value.int k))
  | [] => by simp only [Is, List.map_nil, RepL]
  | z :: zs => by
    have := repL_Is E k zs
    simp only [Is, List.map_cons, RepL] at this ⊢
    exact ⟨_, _, rfl, by simp only [I, RepV], this⟩
theorem repV_Is (E : Env) (k : IntKind) (zs : List Int) : RepV E (.agg (Is k zs)) (.agg (zs.map (Value.int k)).toArray) := by
  simp only [RepV]
  exact ⟨_, rfl, repL_Is E k zs⟩

theorem bytes_Is {zs : List Int} (h : ∀ z ∈ zs, (Lit.int .u8 z).wf = true) : ∃ l : List UInt8, Is .u8 zs = Bs l ∧ l.length = zs.length := by
  refine ⟨zs.map fun z => UInt8.ofNat z.toNat, ?_, by simp⟩
  simp only [Is, Bs, List.map_map]
  apply List.map_congr_left
  intro z hz
  have hw := h z hz
  simp [Lit.wf, IntKind.min, IntKind.max, IntKind.signed, IntKind.bits] at hw
  simp only [I, B, Function.comp]
  congr 2
  simp
  omega

theorem nats_Is {k : IntKind} {zs : List Int} (h : ∀ z ∈ zs, 0 ≤ z) : ∃ l : List Nat, Is k zs = Is k (l.map fun n : Nat => (n : Int)) ∧ l.length = zs.length ∧ ∀ n ∈ l, (n : Int) ∈ zs := by
  refine ⟨zs.map Int.toNat, ?_, by simp, ?_⟩
  · congr 1
    rw [List.map_map]
    conv => lhs; rw [← List.map_id zs]
    apply List.map_congr_left
    intro z hz
    have := h z hz
    simp
    omega
  · intro n hn
    obtain ⟨z, hz, rfl⟩ := List.mem_map.1 hn
    have := h z hz
    rwa [Int.toNat_of_nonneg this]
end Go.V
/-
  VALUE LOGIC, part za: a row of rows of bytes that came in.
-/
namespace Go.V
set_option linter.unusedVariables false
open Go.ChangeShapes

/-- Rows of bytes, as a row. -/
def PSv (l : List (List UInt8)) : List AV := l.map fun b => .sl b.length (Bs b) .no

theorem max_bound (f : Nat → Nat) : ∀ n, ∃ N, ∀ i, i < n → f i ≤ N
  | 0 => ⟨0, fun i h => by omega⟩
  | n + 1 => by
    obtain ⟨N, hN⟩ := max_bound f n
    refine ⟨max N (f n), fun i hi => ?_⟩
    by_cases h : i = n
    · subst h; exact Nat.le_max_right _ _
    · exact Nat.le_trans (hN i (by omega)) (Nat.le_max_left _ _)

theorem open_byte_rows {H : Type} {enc : TypeId × Value → H} {P : Program} {w : World} {base : Nat} {held : Bool} {t e q : TypeId} {fuel : Nat} {a : Option Addr} {len cap : Nat} {x : DataW H × List MemPlace} (ht : P.underlying t = some (.slice e)) (he : P.underlying e = some (.slice q)) (hq : P.underlying q = some (.int .u8))
    (ce : P.cellsOf e = 1) (cq : P.cellsOf q = 1) (h : DataW.trod enc P w base (fun _ => true) held fuel t [.slice a len cap] = some x) :
    ∃ (l : List (List UInt8)) (N : Nat), l.length = len ∧ len ≤ 9223372036854775807 ∧ (∀ b ∈ l, b.length ≤ 9223372036854775807) ∧ ∀ M, N ≤ M → RepV (Env.start w M) (.sl l.length (PSv l) .no) (.slice a len cap) := by
  rcases Deep.open_int_rows ht he hq ce cq h with ⟨hcs, _⟩ | ⟨a', len', cap', A, L, C, Z, hcs, hb, hl, hm, hx, each⟩
  · simp at hcs
    obtain ⟨rfl, rfl, rfl⟩ := hcs
    refine ⟨[], 0, rfl, by omega, fun b hb => by simp at hb, fun M _ => ?_⟩
    simp only [RepV]
    exact ⟨none, 0, rfl, Nat.le_refl _, .inl rfl, trivial⟩
  · simp at hcs
    obtain ⟨rfl, rfl, rfl⟩ := hcs
    have hml : maxLen ≤ 9223372036854775807 := by decide
    by_cases h0 : len = 0
    · subst h0
      refine ⟨[], 0, rfl, by omega, fun b hb => by simp at hb, fun M _ => ?_⟩
      simp only [RepV]
      exact ⟨_, cap, rfl, hl, .inl rfl, trivial⟩
    have one : ∀ i, i < len → ∃ y : List UInt8 × Nat, y.1.length = L i ∧ L i ≤ 9223372036854775807 ∧ ∀ M, y.2 ≤ M → RepV (Env.start w M) (.sl y.1.length (Bs y.1) .no) (.slice (A i) (L i) (C i)) := by
      intro i hi
      obtain ⟨h1, h2, h3, h4, h5, h6, h7⟩ := each i (by omega)
      have hrow : IsRow .u8 w (A i) (L i) (C i) (Z i) := by
        cases hA : A i with
        | none =>
          have hc := h6 hA
          refine .inl ⟨rfl, by omega, hc, ?_⟩
          exact List.length_eq_zero_iff.1 (by omega)
        | some a'' => exact .inr ⟨a'', rfl, h2, h3, h4, fun c hc => (h7 a'' hA).2 c (by omega), h5⟩
      obtain ⟨l, N, e1, e2, e3⟩ := hrow.bytes
      exact ⟨(l, N), e1, by omega, fun M hM => e3 M hM⟩
    obtain ⟨F, hF⟩ : ∃ F : Nat → List UInt8 × Nat, ∀ i, i < len → (F i).1.length = L i ∧ L i ≤ 9223372036854775807 ∧ ∀ M, (F i).2 ≤ M → RepV (Env.start w M) (.sl (F i).1.length (Bs (F i).1) .no) (.slice (A i) (L i) (C i)) := by
      refine ⟨fun i => if h : i < len then Classical.choose (one i h) else ([], 0), fun i hi => ?_⟩
      simp only [hi, dif_pos]
      exact Classical.choose_spec (one i hi)
    obtain ⟨b, off, spot⟩ := a'
    have hspot : spot = none := by
      have h1 := (each 0 (by omega)).1
      simpa [Addr.add] using World.cell?_spot h1
    subst hspot
    obtain ⟨N, hN⟩ := max_bound (fun i => (F i).2) len
    refine ⟨(List.range len).map fun i => (F i).1, max N (off + len), by simp, by omega, fun x hx => ?_, fun M hM => ?_⟩
    · obtain ⟨i, hi, rfl⟩ := List.mem_map.1 hx
      obtain ⟨h1, h2, _⟩ := hF i (by simpa using hi)
      omega
    · simp only [RepV]
      refine ⟨_, cap, by simp, by simpa using hl, .inr ⟨b, off, rfl, ?_, ?_, RepAt.of_cell fun j c hj => ?_⟩, trivial⟩
      · have h1 := (each 0 (by omega)).1
        rw [add_off] at h1
        exact cell_lt h1
      · simp only [PSv, List.length_map, List.length_range]
        show off + len ≤ M
        omega
      · have hjl : j < len := by
          have := (List.getElem?_eq_some_iff.1 hj).1
          simpa [PSv] using this
        have e : (PSv ((List.range len).map fun i => (F i).1))[j]? = some (.sl (F j).1.length (Bs (F j).1) .no) := by
          simp [PSv, List.getElem?_map, List.getElem?_range hjl]
        rw [e] at hj
        injection hj with hj
        subst hj
        obtain ⟨p0, _⟩ := each j (by omega)
        rw [add_off] at p0
        exact ⟨_, p0, (hF j hjl).2.2 M (by have := hN j hjl; omega)⟩
end Go.V
