/-
  VALUE LOGIC, part b: a call's own objects, the state of an activation, what code comes to ('awp'), what a function comes to ('ACalls'); the rules for code and for calls.
-/
import Derived.Test.YtjdlgbkpdfaloaaDoorVa
namespace Go.V
set_option linter.unusedVariables false
set_option linter.unusedSimpArgs false

/-- No cell of the row is frozen. -/
def FzOk (vs : Array Value) (fz : Nat × Nat) : Prop := fz.1 = fz.2 ∨ vs.size ≤ fz.1

def ObjRep (E : Env) (u : Value) : AObj → Prop
  | .cells cs => cs = [] ∨ ∃ g vs t fz, u = .pointer (some ⟨g, 0, none⟩) ∧ E.w.heap[g]? = some (.cells vs t fz) ∧ FzOk vs fz ∧ E.lim g = 0 ∧ cs.length ≤ vs.size ∧ RepL E cs (vs.toList.take cs.length)
  | .tok sz n => ∃ A c, u = .slice A n c ∧ n ≤ c ∧
      (n < c → ∃ g o vs t fz, A = some ⟨g, o, none⟩ ∧ E.w.heap[g]? = some (.cells vs t fz) ∧ FzOk vs fz ∧ o + c * sz ≤ vs.size ∧ E.lim g ≤ o + n * sz)
  | .dead => True

def ownBlk : AObj → Value → Option Nat
  | .cells (_ :: _), .pointer (some a) => some a.block
  | .tok _ _, .slice (some a) n c => if n < c then some a.block else none
  | _, _ => none

def ObjsRep (E : Env) (objs : List AObj) : Prop :=
  E.k = objs.length ∧ (∀ r o, objs[r]? = some o → ObjRep E (E.ρ r) o) ∧
  (∀ r r' o o' g, objs[r]? = some o → objs[r']? = some o' → ownBlk o (E.ρ r) = some g → ownBlk o' (E.ρ r') = some g → r = r')

def Ow (E : Env) (objs : List AObj) (g : Nat) : Prop := ∃ r o, objs[r]? = some o ∧ ownBlk o (E.ρ r) = some g

structure Ext (E : Env) (objs : List AObj) (E' : Env) (objs' : List AObj) : Prop extends Ext0 E E' where
  os : E'.w.os = E.w.os
  tape : E'.w.tape = E.w.tape
  output : E'.w.output = E.w.output
  frame : ∀ g, g < E.w.heap.size → ¬ Ow E objs g → E'.w.heap[g]? = E.w.heap[g]? ∧ E'.lim g = E.lim g
  own : ∀ g, Ow E' objs' g → g < E.w.heap.size → Ow E objs g

theorem Ext.refl (E : Env) (objs : List AObj) : Ext E objs E objs :=
  { Ext0.refl E with os := rfl, tape := rfl, output := rfl, frame := fun _ _ _ => ⟨rfl, rfl⟩, own := fun _ h _ => h }
theorem Ext.trans {E E' E'' : Env} {o o' o'' : List AObj} (h : Ext E o E' o') (h' : Ext E' o' E'' o'') : Ext E o E'' o'' :=
  { h.toExt0.trans h'.toExt0 with
    os := h'.os.trans h.os, tape := h'.tape.trans h.tape, output := h'.output.trans h.output
    frame := fun g hg hn => by
      have h1 := h.frame g hg hn
      have h2 := h'.frame g (Nat.lt_of_lt_of_le hg h.size) (fun hw => hn (h.own g hw hg))
      exact ⟨h2.1.trans h1.1, h2.2.trans h1.2⟩
    own := fun g hw hg => h.own g (h'.own g hw (Nat.lt_of_lt_of_le hg h.size)) hg }

/-- The state of an activation: how many temporaries there are, what is known of some, the call's own objects. -/
structure St where
  nt : Nat
  slots : List (Nat × AV)
  objs : List AObj

def lk : List (Nat × AV) → Nat → AV
  | [], _ => .top
  | (i, a) :: r, j => if i = j then a else lk r j

/-- Package-level variables whose cells are known and never written. -/
def GOk (E : Env) (G : List (Nat × List AV)) : Prop := ∀ g cells, (g, cells) ∈ G → g < E.w.heap.size ∧ cells.length ≤ E.lim g ∧ RepAt E g 0 cells ∧ ∀ c, c ∈ cells → ∃ v, c = .val v

structure Rep (G : List (Nat × List AV)) (E : Env) (st : St) (a : Act) : Prop where
  size : a.tmps.size = st.nt
  slots : ∀ i, RepV E (lk st.slots i) (a.tmps.getD i undef)
  defers : a.defers = []
  objs : ObjsRep E st.objs
  glob : GOk E G

theorem GOk.mono {E E' : Env} {G} (h : Ext0 E E') (hg : GOk E G) : GOk E' G := fun g cells hm => by
  obtain ⟨h1, h2, h3, h4⟩ := hg g cells hm
  exact ⟨Nat.lt_of_lt_of_le h1 h.size, Nat.le_trans h2 (h.lim g h1), RepAt.mono h g h1 cells 0 (by omega) h3, h4⟩

/-- The same world, and no lower bounds. -/
theorem GOk.move {E E' : Env} {G} (hw : E'.w = E.w) (hl : ∀ g, g < E.w.heap.size → E.lim g ≤ E'.lim g) (hg : GOk E G) : GOk E' G := fun g cells hm => by
  obtain ⟨h1, h2, h3, h4⟩ := hg g cells hm
  refine ⟨by rw [hw]; exact h1, Nat.le_trans h2 (hl g h1), RepAt.of_cell fun i c hc => ?_, h4⟩
  obtain ⟨v, hv, hr⟩ := h3.cell i c hc
  obtain ⟨u, rfl⟩ := h4 c (List.mem_of_getElem? hc)
  exact ⟨v, by rw [hw]; exact hv, by simpa only [RepV] using hr⟩

/-- What code comes to, from whatever the state stands for. -/
def awp (P : Program) (G : List (Nat × List AV)) (c : Code) (st : St) (Q : Exit → St → Prop) : Prop :=
  ∀ (E : Env) (a : Act), Rep G E st a → c.wp P (fun e a' w' => ∃ st' E', E'.w = w' ∧ Q e st' ∧ Rep G E' st' a' ∧ Ext E st.objs E' st'.objs) a E.w

section
variable {P : Program} {G : List (Nat × List AV)} {st : St} {Q : Exit → St → Prop}

theorem awp_mono {c : Code} {Q' : Exit → St → Prop} (h : awp P G c st Q) (hq : ∀ e st', Q e st' → Q' e st') : awp P G c st Q' :=
  fun E a hr => wp_mono (h E a hr) fun e a w ⟨st', E', h1, h2, h3⟩ => ⟨st', E', h1, hq _ _ h2, h3⟩

/-- What the state stands for stands for another state, too. -/
def Weak (G : List (Nat × List AV)) (st st' : St) : Prop := ∀ (E : Env) (a : Act), Rep G E st a → ∃ E', E'.w = E.w ∧ Rep G E' st' a ∧ Ext E st.objs E' st'.objs

theorem Weak.refl (st : St) : Weak G st st := fun E a h => ⟨E, rfl, h, .refl _ _⟩
theorem Weak.trans {a b c : St} (h : Weak G a b) (h' : Weak G b c) : Weak G a c := fun E x hr => by
  obtain ⟨E1, e1, h1, x1⟩ := h E x hr
  obtain ⟨E2, e2, h2, x2⟩ := h' E1 x h1
  exact ⟨E2, e2.trans e1, h2, x1.trans x2⟩

theorem awp_weak {c : Code} {st' : St} (hw : Weak G st st') (h : awp P G c st' Q) : awp P G c st Q := fun E a hr => by
  obtain ⟨E', e, hr', hx⟩ := hw E a hr
  rw [← e]
  exact wp_mono (h E' a hr') fun e a w ⟨st'', E'', h1, h2, h3, h4⟩ => ⟨st'', E'', h1, h2, h3, hx.trans h4⟩

/-- Less is known of the temporaries. -/
theorem Weak.slots {nt : Nat} {s s' : List (Nat × AV)} {objs : List AObj} (h : ∀ i, lk s' i = lk s i ∨ lk s' i = .top) : Weak G ⟨nt, s, objs⟩ ⟨nt, s', objs⟩ := fun E a hr =>
  ⟨E, rfl, ⟨hr.size, fun i => by
    rcases h i with e | e
    · simp only; rw [e]; exact hr.slots i
    · simp only; rw [e]; simp only [RepV], hr.defers, hr.objs, hr.glob⟩, .refl _ _⟩

theorem lk_sub : ∀ (s' s : List (Nat × AV)), (∀ p, p ∈ s' → lk s p.1 = p.2) → ∀ i, lk s' i = lk s i ∨ lk s' i = .top
  | [], s, _, i => .inr rfl
  | (j, x) :: r, s, h, i => by
    simp only [lk]
    split
    · rename_i e
      subst e
      exact .inl (h (j, x) (by simp)).symm
    · exact lk_sub r s (fun p hp => h p (by simp [hp])) i

theorem Weak.sub {nt : Nat} {s s' : List (Nat × AV)} {objs : List AObj} (h : ∀ p, p ∈ s' → lk s p.1 = p.2) : Weak G ⟨nt, s, objs⟩ ⟨nt, s', objs⟩ := .slots (lk_sub s' s h)

theorem awp_skip (h : Q .normal st) : awp P G .skip st Q := fun E a hr => wp_skip ⟨st, E, rfl, h, hr, .refl _ _⟩
theorem awp_ret (h : Q .ret st) : awp P G .ret st Q := fun E a hr => wp_ret ⟨st, E, rfl, h, hr, .refl _ _⟩
theorem awp_exit {id : Nat} (h : Q (.exit id) st) : awp P G (.exit id) st Q := fun E a hr => wp_exit ⟨st, E, rfl, h, hr, .refl _ _⟩

/-- The way on from one code to the next. -/
def Then (K : St → Prop) (Q : Exit → St → Prop) : Exit → St → Prop
  | .normal, s => K s
  | e, s => Q e s

theorem awp_seq {x y : Code} (h : awp P G x st (Then (fun s => awp P G y s Q) Q)) : awp P G (.seq x y) st Q := fun E a hr => by
  refine wp_seq (wp_mono (h E a hr) ?_)
  rintro e a' w' ⟨st', E', rfl, hq, hr', hx⟩
  cases e with
  | normal =>
    refine wp_mono (hq E' a' hr') ?_
    rintro e a'' w'' ⟨st'', E'', h1, h2, h3, h4⟩
    exact ⟨st'', E'', h1, h2, h3, hx.trans h4⟩
  | _ => exact ⟨st', E', rfl, hq, hr', hx⟩

theorem awp_seq_k {x y : Code} (h : ∀ K : St → Prop, (∀ s, awp P G y s Q → K s) → awp P G x st (Then K Q)) : awp P G (.seq x y) st Q := awp_seq (h _ fun _ h => h)

theorem awp_cond {c : Operand} {x y : Code} {t : Nat} {b : Bool} (hc : c = .tmp t) (hl : lk st.slots t = .val (.bool b))
    (h1 : b = true → awp P G x st Q) (h2 : b = false → awp P G y st Q) : awp P G (.cond c x y) st Q := fun E a hr => by
  subst hc
  have hs := hr.slots t
  rw [hl] at hs
  simp only [RepV] at hs
  refine wp_cond_split (t := b) hs (fun e => h1 e E a hr) (fun e => h2 e E a hr)

def InBlock (id : Nat) (K : St → Prop) (Q : Exit → St → Prop) : Exit → St → Prop
  | .normal, s => K s
  | .exit j, s => if j = id then K s else Q (.exit j) s
  | e, s => Q e s

theorem awp_block {id : Nat} {c : Code} (h : awp P G c st (InBlock id (Q .normal) Q)) : awp P G (.block id c) st Q := fun E a hr => by
  refine wp_block (wp_mono (h E a hr) ?_)
  rintro e a' w' ⟨st', E', rfl, hq, hr', hx⟩
  cases e with
  | normal => exact ⟨st', E', rfl, hq, hr', hx⟩
  | exit j =>
    simp only [InBlock] at hq
    simp only [Exit.inBlock]
    split
    · rename_i e; rw [if_pos e] at hq; exact ⟨st', E', rfl, hq, hr', hx⟩
    · rename_i e; rw [if_neg e] at hq; exact ⟨st', E', rfl, hq, hr', hx⟩
  | goto l => exact ⟨st', E', rfl, hq, hr', hx⟩
  | ret => exact ⟨st', E', rfl, hq, hr', hx⟩
  | panic ch => exact ⟨st', E', rfl, hq, hr', hx⟩
  | outgrown => exact ⟨st', E', rfl, hq, hr', hx⟩

/-- A loop: a family of states, what holds of its parameter, what gets less. -/
theorem awp_loop {α : Type} {c : Code} (S : α → St) (I : α → Prop) (μ : α → Nat) (x : α) (h₀ : I x)
    (round : ∀ x, I x → awp P G c (S x) (Then (fun s => ∃ y, I y ∧ μ y < μ x ∧ Weak G s (S y)) Q)) : awp P G (.loop c) (S x) Q := fun E a hr => by
  intro b k cs
  have key : ∀ (n : Nat) (y : α) (E1 : Env) (a' : Act), μ y = n → I y → Rep G E1 (S y) a' → Ext E (S x).objs E1 (S y).objs →
      ∃ e a2 w2, (∃ st' E', E'.w = w2 ∧ Q e st' ∧ Rep G E' st' a2 ∧ Ext E (S x).objs E' st'.objs) ∧ Arrives P (lone (b.at a' (.code c :: .inLoop c :: k)) cs E1.w) b k cs e a2 w2 := by
    intro n
    induction n using Nat.strongRecOn with
    | _ n ih =>
      intro y E1 a' hn hI hr1 hx1
      obtain ⟨e, a₁, w₁, ⟨st1, E2, rfl, hq, hr2, hx2⟩, harr⟩ := round y hI E1 a' hr1 b (.inLoop c :: k) cs
      cases e with
      | normal =>
        obtain ⟨z, hIz, hlt, hw⟩ := hq
        obtain ⟨E3, e3, hr3, hx3⟩ := hw E2 a₁ hr2
        obtain ⟨e₂, a₂, w₂, hq₂, harr₂⟩ := ih (μ z) (hn ▸ hlt) z E3 a₁ rfl hIz hr3 ((hx1.trans hx2).trans hx3)
        rw [e3] at harr₂
        exact ⟨e₂, a₂, w₂, hq₂, .of_steps (Steps.trans harr (.one step_inLoop)) harr₂⟩
      | exit id => exact ⟨_, a₁, _, ⟨st1, E2, rfl, hq, hr2, hx1.trans hx2⟩, .pass (x := .inLoop c) rfl (fun _ _ => .inl (by simp)) harr⟩
      | goto l => exact ⟨_, a₁, _, ⟨st1, E2, rfl, hq, hr2, hx1.trans hx2⟩, .pass (x := .inLoop c) rfl (fun _ _ => .inl (by simp)) harr⟩
      | ret => exact ⟨_, a₁, _, ⟨st1, E2, rfl, hq, hr2, hx1.trans hx2⟩, .pass (x := .inLoop c) rfl (fun _ _ => .inl (by simp)) harr⟩
      | panic ch => exact ⟨_, a₁, _, ⟨st1, E2, rfl, hq, hr2, hx1.trans hx2⟩, .pass (x := .inLoop c) rfl (fun _ _ => .inl (by simp)) harr⟩
      | outgrown => exact ⟨_, a₁, _, ⟨st1, E2, rfl, hq, hr2, hx1.trans hx2⟩, .pass (x := .inLoop c) rfl (fun _ _ => .inl (by simp)) harr⟩
  obtain ⟨e, a', w', hq, harr⟩ := key _ x E a rfl h₀ hr (.refl _ _)
  exact ⟨e, a', w', hq, .of_steps (.one step_loop) harr⟩

end
end Go.V
