/-
  VALUE LOGIC, part v: an object is given up: its cells are never written again.
-/
import Derived.Test.YtjdlgbkpdfaloaaDoorVs
namespace Go.V
set_option linter.unusedVariables false
set_option linter.unusedSimpArgs false

theorem Weak.freeze {G : List (Nat × List AV)} {nt : Nat} {s : List (Nat × AV)} {os : List AObj} (i r : Nat) (c : AV) (cs : List AV) (h : lk s i = .ptr r 0) (ho : os[r]? = some (.cells (c :: cs))) (hn : norefs (c :: cs) = true) :
    Weak G ⟨nt, s, os⟩ ⟨nt, (i, .cptr (c :: cs)) :: s, os.set r .dead⟩ := fun E a hr => by
  have hi := hr.slots i
  simp only at hi
  rw [h] at hi
  simp only [RepV] at hi
  obtain ⟨hrk, g0, hρ0, hv⟩ := hi
  obtain ⟨hk, hobj, hdis⟩ := hr.objs
  rcases hobj r _ ho with e | ⟨g, vs, t, fz, hρ, hh, hfz, hlim, hlen, hrep⟩
  · cases e
  have eg : g0 = g := by
    rw [hρ0] at hρ
    injection hρ with hρ
    injection hρ with hρ
    injection hρ with hρ
  subst eg
  have hown : ownBlk (.cells (c :: cs)) (E.ρ r) = some g0 := by rw [hρ]; rfl
  have hgs : g0 < E.w.heap.size := get_lt hh
  let E' : Env := { E with lim := fun x => if x = g0 then (c :: cs).length else E.lim x }
  have hle : ∀ x, E.lim x ≤ E'.lim x := fun x => by
    show E.lim x ≤ if x = g0 then _ else _
    split
    · rename_i e; subst e; rw [hlim]; exact Nat.zero_le _
    · exact Nat.le_refl _
  have hne : ∀ x, x ≠ g0 → E'.lim x = E.lim x := fun x hx => if_neg hx
  have hx : Ext0 E E' := ⟨Nat.le_refl _, fun x _ => hle x, fun _ _ _ _ => rfl, Nat.le_refl _, fun _ _ => .refl _⟩
  have hset : ∀ (r' : Nat) (o : AObj), (os.set r .dead)[r']? = some o → o = .dead ∨ (r' ≠ r ∧ os[r']? = some o) := by
    intro r' o h'
    rw [List.getElem?_set] at h'
    split at h'
    · split at h'
      · injection h' with h'; exact .inl h'.symm
      · cases h'
    · rename_i hne'; exact .inr ⟨fun e => hne' e.symm, h'⟩
  refine ⟨E', rfl, ⟨hr.size, fun j => ?_, hr.defers, ⟨by simpa using hk, fun r' o h' => ?_, fun r1 r2 o1 o2 x h1 h2 b1 b2 => ?_⟩, hr.glob.mono hx⟩, ?_⟩
  · simp only [lk]
    split
    · rename_i e
      subst e
      rw [hv]
      simp only [RepV]
      refine ⟨g0, 0, rfl, hgs, ?_, ?_⟩
      · show 0 + (c :: cs).length ≤ if g0 = g0 then _ else _
        rw [if_pos rfl, Nat.zero_add]
        exact Nat.le_refl _
      · have h1 : RepAt E g0 0 (c :: cs) := hrep.at_ (off := 0) hh
        exact norefsAt_move (E := E) (E' := E') rfl (fun x _ => hle x) g0 _ _ hn h1
    · exact RepV.mono hx _ _ (hr.slots j)
  · rcases hset r' o h' with rfl | ⟨hne', h''⟩
    · trivial
    · refine (hobj r' o h'').stay hx fun x hb => ⟨rfl, hne x fun e => ?_⟩
      subst e
      exact hne' (hdis r' r o _ x h'' ho hb hown)
  · rcases hset r1 o1 h1 with rfl | ⟨_, h1'⟩
    · simp [ownBlk] at b1
    · rcases hset r2 o2 h2 with rfl | ⟨_, h2'⟩
      · simp [ownBlk] at b2
      · exact hdis r1 r2 o1 o2 x h1' h2' b1 b2
  · refine { hx with os := rfl, tape := rfl, output := rfl, frame := fun x hx' hno => ⟨rfl, hne x fun e => hno ?_⟩, own := fun x hw _ => ?_ }
    · subst e
      exact ⟨r, _, ho, hown⟩
    · obtain ⟨r', o, h', hb⟩ := hw
      rcases hset r' o h' with rfl | ⟨_, h''⟩
      · simp [ownBlk] at hb
      · exact ⟨r', o, h'', hb⟩

theorem awp_freeze {P : Program} {G : List (Nat × List AV)} {c : Code} {nt : Nat} {s : List (Nat × AV)} {os : List AObj} {Q : Exit → St → Prop} (i r : Nat) (cs : List AV) (h : lk s i = .ptr r 0) (ho : os[r]? = some (.cells cs)) (hp : 0 < cs.length) (hn : norefs cs = true)
    (hq : awp P G c ⟨nt, (i, .cptr cs) :: s, os.set r .dead⟩ Q) : awp P G c ⟨nt, s, os⟩ Q := by
  cases cs with
  | nil => simp at hp
  | cons c0 cs => exact awp_weak (.freeze i r c0 cs h ho hn) hq

theorem ACalls.args {P : Program} {G : List (Nat × List AV)} {f : FuncId} {as as' : List AV} {outs : List AObj} {Q : AV → List AObj → Prop} (h : ACalls P G f as outs Q) (ha : ∀ E vs, RepL E as' vs → RepL E as vs) : ACalls P G f as' outs Q :=
  ⟨h.1, fun E vs hl ho hG => h.2 E vs (ha E vs hl) ho hG⟩
theorem RepV.noperm {E : Env} {n : Nat} {cells : List AV} {p : Perm} {v : Value} (h : RepV E (.sl n cells p) v) : RepV E (.sl n cells .no) v := by
  simp only [RepV] at h ⊢
  obtain ⟨A, cap, h1, h2, h3, _⟩ := h
  exact ⟨A, cap, h1, h2, h3, trivial⟩
theorem RepL.noperm {E : Env} {n : Nat} {cells : List AV} {p : Perm} {r : List AV} {vs : List Value} (h : RepL E (.sl n cells p :: r) vs) : RepL E (.sl n cells .no :: r) vs := by
  simp only [RepL] at h ⊢
  obtain ⟨v, vs', h1, h2, h3⟩ := h
  exact ⟨v, vs', h1, h2.noperm, h3⟩
theorem RepL.noperm2 {E : Env} {x : AV} {n : Nat} {cells : List AV} {p : Perm} {r : List AV} {vs : List Value} (h : RepL E (x :: .sl n cells p :: r) vs) : RepL E (x :: .sl n cells .no :: r) vs := by
  simp only [RepL] at h ⊢
  obtain ⟨v, vs', h1, h2, v2, vs2, h3, h4, h5⟩ := h
  exact ⟨v, vs', h1, h2, v2, vs2, h3, h4.noperm, h5⟩
end Go.V
