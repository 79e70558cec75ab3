/-
  VALUE LOGIC, part w: objects that nobody looks at any more; fields (a byte and a text) in rows.
-/
import Derived.Test.YtjdlgbkpdfaloaaDoorVv
namespace Go.V
set_option linter.unusedVariables false
set_option linter.unusedSimpArgs false

theorem Weak.dead {G : List (Nat × List AV)} {nt : Nat} {s : List (Nat × AV)} {os : List AObj} (r : Nat) : Weak G ⟨nt, s, os⟩ ⟨nt, s, os.set r .dead⟩ := fun E a hr => by
  obtain ⟨hk, hobj, hdis⟩ := hr.objs
  have hset : ∀ (r' : Nat) (o : AObj), (os.set r .dead)[r']? = some o → o = .dead ∨ os[r']? = some o := by
    intro r' o h'
    rw [List.getElem?_set] at h'
    split at h'
    · split at h'
      · injection h' with h'; exact .inl h'.symm
      · cases h'
    · exact .inr h'
  refine ⟨E, rfl, ⟨hr.size, hr.slots, hr.defers, ⟨by simpa using hk, fun r' o h' => ?_, fun r1 r2 o1 o2 x h1 h2 b1 b2 => ?_⟩, hr.glob⟩, ?_⟩
  · rcases hset r' o h' with rfl | h''
    · trivial
    · exact hobj r' o h''
  · rcases hset r1 o1 h1 with rfl | h1'
    · simp [ownBlk] at b1
    · rcases hset r2 o2 h2 with rfl | h2'
      · simp [ownBlk] at b2
      · exact hdis r1 r2 o1 o2 x h1' h2' b1 b2
  · refine { Ext0.refl E with os := rfl, tape := rfl, output := rfl, frame := fun x hx' hno => ⟨rfl, rfl⟩, own := fun x hw _ => ?_ }
    obtain ⟨r', o, h', hb⟩ := hw
    rcases hset r' o h' with rfl | h''
    · simp [ownBlk] at hb
    · exact ⟨r', o, h'', hb⟩

theorem awp_dead {P : Program} {G : List (Nat × List AV)} {c : Code} {nt : Nat} {s : List (Nat × AV)} {os : List AObj} {Q : Exit → St → Prop} (r : Nat) (hq : awp P G c ⟨nt, s, os.set r .dead⟩ Q) : awp P G c ⟨nt, s, os⟩ Q := awp_weak (.dead r) hq

/-- So many dead objects. -/
def dd (n : Nat) : List AObj := List.replicate n .dead
theorem dd_length (n : Nat) : (dd n).length = n := List.length_replicate ..
theorem dd_zero : dd 0 = [] := rfl
theorem dd_at (n : Nat) (x : AObj) : (dd n ++ [x])[n]? = some x := by
  rw [List.getElem?_append_right (by rw [dd_length]; exact Nat.le_refl _), dd_length, Nat.sub_self]
  rfl
theorem dd_set (n : Nat) (x y : AObj) : (dd n ++ [x]).set n y = dd n ++ [y] := by
  rw [List.set_append_right _ _ (by rw [dd_length]; exact Nat.le_refl _), dd_length, Nat.sub_self]
  rfl
theorem dd_kill (n : Nat) : dd n ++ [.dead] = dd (n + 1) := by
  unfold dd
  rw [List.replicate_succ']

/-- A field: a byte and a text. -/
abbrev FieldV := UInt8 × List UInt8
def FA (f : FieldV) : List AV := [B f.1, .val (.string ⟨f.2.toArray⟩)]
def Fs (l : List FieldV) : List AV := l.flatMap FA
theorem FA_length (f : FieldV) : (FA f).length = 2 := rfl
theorem Fs_length (l : List FieldV) : (Fs l).length = l.length * 2 := by
  induction l with
  | nil => rfl
  | cons f l ih => simp only [Fs, List.flatMap_cons, List.length_append, List.length_cons] at *; rw [ih, FA_length]; omega
theorem Fs_append (a b : List FieldV) : Fs (a ++ b) = Fs a ++ Fs b := by simp [Fs]
theorem Fs_one (f : FieldV) : Fs [f] = FA f := by simp [Fs]
theorem Fs_nil : Fs [] = [] := rfl
theorem Fs_drop (l : List FieldV) : ∀ i, (Fs l).drop (i * 2) = Fs (l.drop i) := by
  induction l with
  | nil => intro i; simp [Fs]
  | cons f l ih =>
    intro i
    cases i with
    | zero => simp
    | succ i =>
      have := ih i
      simp only [Fs, List.flatMap_cons, List.drop_succ_cons] at *
      rw [show (i + 1) * 2 = i * 2 + 1 + 1 by omega]
      exact this
theorem Fs_take1 (f : FieldV) (l : List FieldV) : (Fs (f :: l)).take 2 = FA f := rfl
theorem Fs_get {l : List FieldV} {i : Nat} (h : i < l.length) (d : FieldV) : ((Fs l).drop (i * 2)).take 2 = FA (l.getD i d) := by
  rw [Fs_drop]
  have : l.drop i = l.getD i d :: l.drop (i + 1) := by
    rw [List.getD_eq_getElem?_getD, List.getElem?_eq_getElem h]
    exact List.drop_eq_getElem_cons h
  rw [this, Fs_take1]
theorem norefs_FA (f : FieldV) : norefs (FA f) = true := rfl
theorem norefs_Fs (l : List FieldV) : norefs (Fs l) = true := by
  induction l with
  | nil => rfl
  | cons f l ih => rw [show Fs (f :: l) = FA f ++ Fs l from rfl, norefs_append, ih]; rfl
theorem flats_FA (f : FieldV) : flats (FA f) = true := rfl
theorem FA_oneC (f : FieldV) : (FA f).all oneC = true := rfl
theorem Fs_oneC (l : List FieldV) : (Fs l).all oneC = true := by
  induction l with
  | nil => rfl
  | cons f l ih => rw [show Fs (f :: l) = FA f ++ Fs l from rfl, List.all_append, ih]; rfl
end Go.V
