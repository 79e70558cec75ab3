/-
  VALUE LOGIC, part a. No program in sight: values without addresses ('AV'), what they stand for in a world, and what of that stays when the world goes on.
-/
import Derived.Calls
import Derived.Tactics
import Derived.Laws.Sem
import Derived.Laws.World
import Derived.Laws.Rows
import Derived.Laws.Cells
import Derived.Laws.Append
import Derived.Laws.Bits
namespace Go.V
set_option linter.unusedVariables false
set_option linter.unusedSimpArgs false

/-- What is known of a slice's room: nothing; there is none; it is the token's own. -/
inductive Perm where
  | no
  | full
  | tok (r : Nat)

/-- Values without addresses. 'sl': a slice's cells, never written again; 'osl', 'ptr': into an object of the call's own; 'cptr': into cells that are never written again. -/
inductive AV where
  | top
  | val (v : Value)
  | agg (cs : List AV)
  | tup (cs : List AV)
  | sl (n : Nat) (cells : List AV) (p : Perm)
  | osl (r off n : Nat) (cap : Option Nat)
  | ptr (r off : Nat)
  | cptr (cells : List AV)

/-- An object of the call's own: cells that may be written; a slice that may grow (its element's size, its length); nothing any more. -/
inductive AObj where
  | cells (cs : List AV)
  | tok (sz n : Nat)
  | dead

structure Env where
  w : World
  lim : Nat → Nat
  k : Nat
  ρ : Nat → Value

def PermOk (E : Env) (n : Nat) (v : Value) (cap : Nat) : Perm → Prop
  | .no => True
  | .full => cap = n
  | .tok r => r < E.k ∧ ∃ A m c, E.ρ r = .slice A m c ∧ n ≤ m ∧ (n = m → v = E.ρ r)

mutual
def RepV (E : Env) : AV → Value → Prop
  | .top, _ => True
  | .val u, v => v = u
  | .agg cs, v => ∃ vs : List Value, v = .agg vs.toArray ∧ RepL E cs vs
  | .tup cs, v => ∃ vs : List Value, v = .tuple vs.toArray ∧ RepL E cs vs
  | .sl n cells p, v => ∃ (A : Option Addr) (cap : Nat), v = .slice A n cap ∧ n ≤ cap ∧
      (cells = [] ∨ ∃ g o, A = some ⟨g, o, none⟩ ∧ g < E.w.heap.size ∧ o + cells.length ≤ E.lim g ∧ RepAt E g o cells) ∧ PermOk E n v cap p
  | .osl r off n cap, v => r < E.k ∧ ∃ (A : Option Addr) (c : Nat), v = .slice A n c ∧ n ≤ c ∧ (∀ k, cap = some k → c = k) ∧
      (0 < n → ∃ g, E.ρ r = .pointer (some ⟨g, 0, none⟩) ∧ A = some ⟨g, off, none⟩)
  | .ptr r off, v => r < E.k ∧ ∃ g, E.ρ r = .pointer (some ⟨g, 0, none⟩) ∧ v = .pointer (some ⟨g, off, none⟩)
  | .cptr cells, v => ∃ g o, v = .pointer (some ⟨g, o, none⟩) ∧ g < E.w.heap.size ∧ o + cells.length ≤ E.lim g ∧ RepAt E g o cells
def RepL (E : Env) : List AV → List Value → Prop
  | [], vs => vs = []
  | c :: cs, vs => ∃ v vs', vs = v :: vs' ∧ RepV E c v ∧ RepL E cs vs'
def RepAt (E : Env) (g : Nat) (o : Nat) : List AV → Prop
  | [] => True
  | c :: cs => (∃ v, E.w.cell? ⟨g, o, none⟩ = some v ∧ RepV E c v) ∧ RepAt E g (o + 1) cs
end

/-- A token's slice grows; all else stays. -/
def RefLe (u v : Value) : Prop := u = v ∨ ∃ A n c A' n' c', u = .slice A n c ∧ v = .slice A' n' c' ∧ n < n'

theorem RefLe.refl (u : Value) : RefLe u u := .inl rfl
theorem RefLe.trans {u v x : Value} (h : RefLe u v) (h' : RefLe v x) : RefLe u x := by
  rcases h with rfl | ⟨A, n, c, A', n', c', rfl, rfl, hlt⟩
  · exact h'
  · rcases h' with rfl | ⟨B, m, d, B', m', d', e, rfl, hlt'⟩
    · exact .inr ⟨_, _, _, _, _, _, rfl, rfl, hlt⟩
    · injection e with _ e _
      subst e
      exact .inr ⟨_, _, _, _, _, _, rfl, rfl, by omega⟩

structure Ext0 (E E' : Env) : Prop where
  size : E.w.heap.size ≤ E'.w.heap.size
  lim : ∀ g, g < E.w.heap.size → E.lim g ≤ E'.lim g
  cell : ∀ g o, g < E.w.heap.size → o < E.lim g → E'.w.cell? ⟨g, o, none⟩ = E.w.cell? ⟨g, o, none⟩
  k : E.k ≤ E'.k
  ρ : ∀ r, r < E.k → RefLe (E.ρ r) (E'.ρ r)

theorem Ext0.refl (E : Env) : Ext0 E E := ⟨Nat.le_refl _, fun _ _ => Nat.le_refl _, fun _ _ _ _ => rfl, Nat.le_refl _, fun _ _ => .refl _⟩
theorem Ext0.trans {E E' E'' : Env} (h : Ext0 E E') (h' : Ext0 E' E'') : Ext0 E E'' :=
  ⟨Nat.le_trans h.size h'.size, fun g hg => Nat.le_trans (h.lim g hg) (h'.lim g (Nat.lt_of_lt_of_le hg h.size)),
   fun g o hg ho => (h'.cell g o (Nat.lt_of_lt_of_le hg h.size) (Nat.lt_of_lt_of_le ho (h.lim g hg))).trans (h.cell g o hg ho),
   Nat.le_trans h.k h'.k, fun r hr => (h.ρ r hr).trans (h'.ρ r (Nat.lt_of_lt_of_le hr h.k))⟩

theorem PermOk.mono {E E' : Env} (h : Ext0 E E') {n : Nat} {v : Value} {cap : Nat} : ∀ {p : Perm}, PermOk E n v cap p → PermOk E' n v cap p
  | .no, _ => trivial
  | .full, hp => hp
  | .tok r, ⟨hr, A, m, c, e, hle, heq⟩ => by
    refine ⟨Nat.lt_of_lt_of_le hr h.k, ?_⟩
    rcases h.ρ r hr with e' | ⟨B, m1, d, B', m', d', e1, e2, hlt⟩
    · exact ⟨A, m, c, e' ▸ e, hle, fun hn => e' ▸ heq hn⟩
    · rw [e] at e1
      injection e1 with _ e1 _
      subst e1
      exact ⟨B', m', d', e2, by omega, fun hn => by omega⟩

mutual
theorem RepV.mono {E E' : Env} (h : Ext0 E E') : ∀ (a : AV) (v : Value), RepV E a v → RepV E' a v
  | .top, _, _ => by simp only [RepV]
  | .val u, v, hr => by simpa only [RepV] using hr
  | .agg cs, v, hr => by
    simp only [RepV] at hr ⊢
    obtain ⟨vs, rfl, hl⟩ := hr
    exact ⟨vs, rfl, RepL.mono h cs vs hl⟩
  | .tup cs, v, hr => by
    simp only [RepV] at hr ⊢
    obtain ⟨vs, rfl, hl⟩ := hr
    exact ⟨vs, rfl, RepL.mono h cs vs hl⟩
  | .sl n cells p, v, hr => by
    simp only [RepV] at hr ⊢
    obtain ⟨A, cap, hv, hn, hc, hp⟩ := hr
    refine ⟨A, cap, hv, hn, ?_, hp.mono h⟩
    rcases hc with rfl | ⟨g, o, hA, hg, ho, hat⟩
    · exact .inl rfl
    · exact .inr ⟨g, o, hA, Nat.lt_of_lt_of_le hg h.size, Nat.le_trans ho (h.lim g hg), RepAt.mono h g hg cells o ho hat⟩
  | .osl r off n cap, v, hr => by
    simp only [RepV] at hr ⊢
    obtain ⟨hk, A, c, hv, hn, hcap, hpos⟩ := hr
    refine ⟨Nat.lt_of_lt_of_le hk h.k, A, c, hv, hn, hcap, fun hp => ?_⟩
    obtain ⟨g, hg, hA⟩ := hpos hp
    rcases h.ρ r hk with e | ⟨_, _, _, _, _, _, e, _⟩
    · exact ⟨g, e ▸ hg, hA⟩
    · rw [hg] at e; cases e
  | .ptr r off, v, hr => by
    simp only [RepV] at hr ⊢
    obtain ⟨hk, g, hg, hv⟩ := hr
    refine ⟨Nat.lt_of_lt_of_le hk h.k, g, ?_, hv⟩
    rcases h.ρ r hk with e | ⟨_, _, _, _, _, _, e, _⟩
    · exact e ▸ hg
    · rw [hg] at e; cases e
  | .cptr cells, v, hr => by
    simp only [RepV] at hr ⊢
    obtain ⟨g, o, hv, hg, ho, hat⟩ := hr
    exact ⟨g, o, hv, Nat.lt_of_lt_of_le hg h.size, Nat.le_trans ho (h.lim g hg), RepAt.mono h g hg cells o ho hat⟩
theorem RepL.mono {E E' : Env} (h : Ext0 E E') : ∀ (cs : List AV) (vs : List Value), RepL E cs vs → RepL E' cs vs
  | [], vs, hr => by simpa only [RepL] using hr
  | c :: cs, vs, hr => by
    simp only [RepL] at hr ⊢
    obtain ⟨v, vs', rfl, h1, h2⟩ := hr
    exact ⟨v, vs', rfl, RepV.mono h c v h1, RepL.mono h cs vs' h2⟩
theorem RepAt.mono {E E' : Env} (h : Ext0 E E') (g : Nat) (hg : g < E.w.heap.size) : ∀ (cs : List AV) (o : Nat), o + cs.length ≤ E.lim g → RepAt E g o cs → RepAt E' g o cs
  | [], o, _, _ => by simp only [RepAt]
  | c :: cs, o, ho, hr => by
    simp only [RepAt] at hr ⊢
    simp only [List.length_cons] at ho
    obtain ⟨⟨v, hc, hv⟩, hrest⟩ := hr
    exact ⟨⟨v, (h.cell g o hg (by omega)).trans hc, RepV.mono h c v hv⟩, RepAt.mono h g hg cs (o + 1) (by omega) hrest⟩
end

theorem RepL.length {E : Env} : ∀ {cs : List AV} {vs : List Value}, RepL E cs vs → vs.length = cs.length
  | [], vs, h => by simp only [RepL] at h; subst h; rfl
  | c :: cs, vs, h => by
    simp only [RepL] at h
    obtain ⟨v, vs', rfl, _, h2⟩ := h
    simp only [List.length_cons, RepL.length h2]

theorem RepL.get {E : Env} : ∀ {cs : List AV} {vs : List Value}, RepL E cs vs → ∀ (i : Nat) (c : AV), cs[i]? = some c → ∃ v, vs[i]? = some v ∧ RepV E c v
  | [], vs, h, i, c, hc => by simp at hc
  | c0 :: cs, vs, h, i, c, hc => by
    simp only [RepL] at h
    obtain ⟨v, vs', rfl, h1, h2⟩ := h
    cases i with
    | zero => simp at hc; subst hc; exact ⟨v, rfl, h1⟩
    | succ i => simp at hc; simpa using RepL.get h2 i c hc

theorem RepL.of_get {E : Env} : ∀ {cs : List AV} {vs : List Value}, vs.length = cs.length → (∀ (i : Nat) (c : AV) (v : Value), cs[i]? = some c → vs[i]? = some v → RepV E c v) → RepL E cs vs
  | [], vs, hl, h => by simp only [RepL]; exact List.eq_nil_of_length_eq_zero (by simpa using hl)
  | c :: cs, [], hl, h => by simp at hl
  | c :: cs, v :: vs, hl, h => by
    simp only [RepL]
    exact ⟨v, vs, rfl, h 0 c v rfl rfl, RepL.of_get (by simpa using hl) fun i c' v' hc hv => h (i + 1) c' v' (by simpa using hc) (by simpa using hv)⟩

theorem RepL.append {E : Env} {as bs : List AV} {us vs : List Value} (h : RepL E as us) (h' : RepL E bs vs) : RepL E (as ++ bs) (us ++ vs) := by
  induction as generalizing us with
  | nil => simp only [RepL] at h; subst h; exact h'
  | cons a as ih =>
    simp only [RepL] at h
    obtain ⟨v, vs', rfl, h1, h2⟩ := h
    simp only [List.cons_append, RepL]
    exact ⟨v, vs' ++ vs, rfl, h1, ih h2⟩

theorem RepL.take {E : Env} {as : List AV} {us : List Value} (h : RepL E as us) (n : Nat) : RepL E (as.take n) (us.take n) := by
  induction as generalizing us n with
  | nil => simp only [RepL] at h; subst h; simp [RepL]
  | cons a as ih =>
    simp only [RepL] at h
    obtain ⟨v, vs', rfl, h1, h2⟩ := h
    cases n with
    | zero => simp [RepL]
    | succ n => simp only [List.take_succ_cons, RepL]; exact ⟨v, _, rfl, h1, ih h2 n⟩

theorem RepL.drop {E : Env} {as : List AV} {us : List Value} (h : RepL E as us) (n : Nat) : RepL E (as.drop n) (us.drop n) := by
  induction as generalizing us n with
  | nil => simp only [RepL] at h; subst h; simp [RepL]
  | cons a as ih =>
    simp only [RepL] at h
    obtain ⟨v, vs', rfl, h1, h2⟩ := h
    cases n with
    | zero => simp only [List.drop_zero, RepL]; exact ⟨v, vs', rfl, h1, h2⟩
    | succ n => simp only [List.drop_succ_cons]; exact ih h2 n

theorem RepAt.cell {E : Env} {g : Nat} : ∀ {cs : List AV} {o : Nat}, RepAt E g o cs → ∀ (i : Nat) (c : AV), cs[i]? = some c → ∃ v, E.w.cell? ⟨g, o + i, none⟩ = some v ∧ RepV E c v
  | [], o, h, i, c, hc => by simp at hc
  | c0 :: cs, o, h, i, c, hc => by
    simp only [RepAt] at h
    cases i with
    | zero => simp at hc; subst hc; exact h.1
    | succ i =>
      simp at hc
      have := RepAt.cell h.2 i c hc
      rwa [show o + 1 + i = o + (i + 1) by omega] at this

theorem RepAt.of_cell {E : Env} {g : Nat} : ∀ {cs : List AV} {o : Nat}, (∀ (i : Nat) (c : AV), cs[i]? = some c → ∃ v, E.w.cell? ⟨g, o + i, none⟩ = some v ∧ RepV E c v) → RepAt E g o cs
  | [], o, h => by simp only [RepAt]
  | c :: cs, o, h => by
    simp only [RepAt]
    refine ⟨h 0 c rfl, RepAt.of_cell fun i c' hc => ?_⟩
    have := h (i + 1) c' (by simpa using hc)
    rwa [show o + (i + 1) = o + 1 + i by omega] at this

theorem RepAt.drop {E : Env} {g o : Nat} {cs : List AV} (h : RepAt E g o cs) (n : Nat) : RepAt E g (o + n) (cs.drop n) :=
  RepAt.of_cell fun i c hc => by
    rw [List.getElem?_drop] at hc
    have := h.cell (n + i) c hc
    rwa [show o + (n + i) = o + n + i by omega] at this
theorem RepAt.take {E : Env} {g o : Nat} {cs : List AV} (h : RepAt E g o cs) (n : Nat) : RepAt E g o (cs.take n) :=
  RepAt.of_cell fun i c hc => by
    rw [List.getElem?_take] at hc
    split at hc
    · exact h.cell i c hc
    · cases hc

/-- The cells, as values. -/
theorem RepAt.vals {E : Env} {g : Nat} : ∀ {cs : List AV} {o : Nat}, RepAt E g o cs → ∃ vs : List Value, RepL E cs vs ∧ ∀ j v, vs[j]? = some v → E.w.cell? ⟨g, o + j, none⟩ = some v
  | [], o, _ => ⟨[], by simp only [RepL], fun j v h => by simp at h⟩
  | c :: cs, o, h => by
    simp only [RepAt] at h
    obtain ⟨⟨v, hc, hv⟩, hrest⟩ := h
    obtain ⟨vs, hl, hcs⟩ := RepAt.vals hrest
    refine ⟨v :: vs, by simp only [RepL]; exact ⟨v, vs, rfl, hv, hl⟩, fun j u hu => ?_⟩
    cases j with
    | zero => simp at hu; subst hu; exact hc
    | succ j =>
      simp at hu
      have := hcs j u hu
      rwa [show o + 1 + j = o + (j + 1) by omega] at this

end Go.V
