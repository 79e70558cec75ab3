/-
  VALUE LOGIC, part d: slicing, indexing, fields, lengths, extraction, picks, min and max.
-/
import Derived.Test.YtjdlgbkpdfaloaaDoorVc
namespace Go.V
set_option linter.unusedVariables false
set_option linter.unusedSimpArgs false

def toV (x : IntKind × Int) : Value := .int x.1 x.2

/-- A bound of a slice expression, if it is a whole number. -/
def bopt : Option AV → Option (Option (IntKind × Int))
  | none => some none
  | some (.val (.int k i)) => some (some (k, i))
  | some _ => none

theorem bopt_sound {E : Env} {f : Operand → AV} {g : Operand → Value} (hfg : ∀ x, RepV E (f x) (g x)) {o : Option Operand} {b : Option (IntKind × Int)} (h : bopt (o.map f) = some b) : o.map g = b.map toV := by
  cases o with
  | none => simp [bopt] at h; subst h; rfl
  | some x =>
    simp only [Option.map_some] at h ⊢
    have := hfg x
    unfold bopt at h
    split at h
    · rename_i he; cases he
    · rename_i k i he
      injection he with he
      rw [he] at this
      simp only [RepV] at this
      injection h with h
      subst h
      simp only [Option.map_some, toV, this]
    · cases h

theorem run_bound {P : Program} (w : World) (k : IntKind) (i : Int) (y : Nat) (code : BoundsCode) (h0 : 0 ≤ i) (h1 : i ≤ y) : (Instr.sliceBound (.int k i) y code).run P w = .ok i.toNat w := run_sliceBound w k i y code h0 h1

def lowOf (lo : Option (IntKind × Int)) : Int := match lo with | some x => x.2 | none => 0
def highOf (n : Nat) (hi : Option (IntKind × Int)) : Int := match hi with | some x => x.2 | none => n

theorem run_bounds {P : Program} (w : World) (b : Bool) (len cap : Nat) (lo hi mx : Option (IntKind × Int)) (hlen : len ≤ cap)
    (hl : 0 ≤ lowOf lo) (hlh : lowOf lo ≤ highOf len hi) (hhm : highOf len hi ≤ highOf cap mx) (hm : highOf cap mx ≤ cap) (hmx : mx = none ∨ hi ≠ none) :
    (Instr.sliceBounds b len cap (lo.map toV) (hi.map toV) (mx.map toV)).run P w = .ok ((lowOf lo).toNat, (highOf len hi).toNat, (highOf cap mx).toNat) w := by
  have e1 : ((highOf cap mx).toNat : Int) = highOf cap mx := Int.toNat_of_nonneg (by omega)
  have e2 : ((highOf len hi).toNat : Int) = highOf len hi := Int.toNat_of_nonneg (by omega)
  cases mx with
  | none =>
    cases hi with
    | none =>
      cases lo with
      | none => simp [Instr.sliceBounds, lowOf, highOf]
      | some l =>
        simp only [lowOf, highOf] at *
        simp [Instr.sliceBounds, toV, run_bound, *]
    | some h =>
      simp only [lowOf, highOf] at *
      cases lo with
      | none => simp [Instr.sliceBounds, toV, run_bound, *, (by omega : 0 ≤ h.2), (by omega : h.2 ≤ (cap : Int))]
      | some l => simp [Instr.sliceBounds, toV, run_bound, *, (by omega : 0 ≤ h.2), (by omega : h.2 ≤ (cap : Int))]
  | some m =>
    cases hi with
    | none => simp at hmx
    | some h =>
      simp only [lowOf, highOf] at *
      cases lo with
      | none => simp [Instr.sliceBounds, toV, run_bound, *, (by omega : 0 ≤ h.2), (by omega : 0 ≤ m.2)]
      | some l => simp [Instr.sliceBounds, toV, run_bound, *, (by omega : 0 ≤ h.2), (by omega : 0 ≤ m.2)]

def sliceP (p : Perm) (hi mx : Option (IntKind × Int)) : Perm :=
  match mx, hi, p with
  | some _, _, _ => .full
  | none, none, .full => .full
  | _, _, _ => .no

def aslice (P : Program) (t : TypeId) (x : AV) (lo hi mx : Option AV) : Option (Prop × AV) :=
  match bopt lo, bopt hi, bopt mx with
  | some lo, some hi, some mx =>
    match P.underlying t, x with
    | some (.slice e), .sl n cells p =>
      match tsz P e with
      | some sz => some ((cells.length = n * sz ∧ 0 ≤ lowOf lo ∧ lowOf lo ≤ highOf n hi ∧ highOf n hi ≤ highOf n mx ∧ highOf n mx ≤ n ∧ (mx = none ∨ (hi ≠ none ∧ highOf n hi = highOf n mx))),
          .sl (highOf n hi - lowOf lo).toNat ((cells.drop ((lowOf lo).toNat * sz)).take ((highOf n hi - lowOf lo).toNat * sz)) (sliceP p hi mx))
      | none => none
    | some (.slice e), .osl r off n cap =>
      match tsz P e with
      | some sz => some ((0 ≤ lowOf lo ∧ lowOf lo ≤ highOf n hi ∧ highOf n hi ≤ n ∧ mx = none),
          .osl r (off + (lowOf lo).toNat * sz) (highOf n hi - lowOf lo).toNat (cap.map (· - (lowOf lo).toNat)))
      | none => none
    | some (.array N e), .ptr r off =>
      match tsz P e with
      | some sz => some ((0 ≤ lowOf lo ∧ lowOf lo ≤ highOf N hi ∧ highOf N hi ≤ highOf N mx ∧ highOf N mx ≤ N ∧ (mx = none ∨ hi ≠ none)),
          .osl r (off + (lowOf lo).toNat * sz) (highOf N hi - lowOf lo).toNat (some (highOf N mx - lowOf lo).toNat))
      | none => none
    | some (.array N e), .cptr cells =>
      match tsz P e with
      | some sz => some ((lo = none ∧ hi = none ∧ mx = none ∧ cells.length = N * sz ∧ 0 < N), .sl N cells .full)
      | none => none
    | some .string, .val (.string s) => some ((0 ≤ lowOf lo ∧ lowOf lo ≤ highOf s.size hi ∧ highOf s.size hi ≤ s.size ∧ mx = none),
          .val (.string (s.extract (lowOf lo).toNat (highOf s.size hi).toNat)))
    | _, _ => none
  | _, _, _ => none

theorem add_off (g o n : Nat) : Addr.add ⟨g, o, none⟩ n = ⟨g, o + n, none⟩ := by unfold Addr.add; split <;> simp_all

theorem sliceP_ok {E : Env} {n n' cap cap' : Nat} {p : Perm} {hi mx : Option (IntKind × Int)} {v v' : Value} (hp : PermOk E n v cap p)
    (h1 : mx ≠ none → cap' = n') (h2 : mx = none → hi = none → cap = n → cap' = n') : PermOk E n' v' cap' (sliceP p hi mx) := by
  cases mx with
  | some m => exact h1 (by simp)
  | none =>
    cases hi with
    | some h => simp only [sliceP]; trivial
    | none =>
      cases p with
      | full => exact h2 rfl rfl hp
      | no => simp only [sliceP]; trivial
      | tok r => simp only [sliceP]; trivial

theorem sl_cut {E : Env} {sz n cap : Nat} {A : Option Addr} {cells : List AV} (l n' : Nat) (hlen : cells.length = n * sz) (hn' : l + n' ≤ n) (hcap : n ≤ cap)
    (hc : cells = [] ∨ ∃ g o, A = some ⟨g, o, none⟩ ∧ g < E.w.heap.size ∧ o + cells.length ≤ E.lim g ∧ RepAt E g o cells) (m : Nat) (hm : l + n' ≤ m) :
    (((cells.drop (l * sz)).take (n' * sz)) = [] ∨ ∃ g o, (if m = l then A else A.map (·.add (l * sz))) = some ⟨g, o, none⟩ ∧ g < E.w.heap.size ∧ o + ((cells.drop (l * sz)).take (n' * sz)).length ≤ E.lim g ∧ RepAt E g o ((cells.drop (l * sz)).take (n' * sz))) := by
  rcases hc with rfl | ⟨g, o, rfl, hg, ho, hat⟩
  · left; simp
  · by_cases h0 : n' = 0
    · left; simp [h0]
    · right
      rw [if_neg (by omega)]
      refine ⟨g, o + l * sz, by simp [add_off], hg, ?_, (hat.drop _).take _⟩
      rw [List.length_take, List.length_drop]
      have h1 : l * sz ≤ n * sz := Nat.mul_le_mul_right _ (by omega)
      omega

theorem aslice_sound {P : Program} {E : Env} {t : TypeId} {x v : AV} {f : Operand → AV} {g : Operand → Value} (hfg : ∀ x, RepV E (f x) (g x)) {lo hi mx : Option Operand} {C : Prop} {u : Value}
    (h : aslice P t x (lo.map f) (hi.map f) (mx.map f) = some (C, v)) (hC : C) (hx : RepV E x u) :
    ∃ u', RepV E v u' ∧ (Instr.sliceAt t u (lo.map g) (hi.map g) (mx.map g)).run P E.w = .ok u' E.w := by
  unfold aslice at h
  split at h
  case h_2 => cases h
  rename_i lo' hi' mx' hlo hhi hmx
  rw [bopt_sound hfg hlo, bopt_sound hfg hhi, bopt_sound hfg hmx]
  split at h
  · -- a slice of cells
    rename_i e n cells p ht
    split at h
    case h_2 => cases h
    rename_i sz hsz
    simp only [Option.some.injEq, Prod.mk.injEq] at h
    obtain ⟨rfl, rfl⟩ := h
    obtain ⟨hlen, h0, h1, h2, h3, h4⟩ := hC
    simp only [RepV] at hx
    obtain ⟨A, cap, rfl, hn, hc, hp⟩ := hx
    have hM : highOf n mx' = highOf cap mx' ∨ (mx' = none) := by cases mx' <;> simp [highOf]
    have hM2 : highOf n hi' ≤ highOf cap mx' ∧ highOf cap mx' ≤ cap := by
      rcases hM with e | e
      · rw [← e]; omega
      · subst e; simp only [highOf] at *; omega
    have hb := run_bounds (P := P) E.w true n cap lo' hi' mx' hn h0 h1 hM2.1 hM2.2 (by rcases h4 with h | h; exact .inl h; exact .inr h.1)
    refine ⟨_, ?_, by simp only [Instr.sliceAt, Instr.slice, Sem.run_bind, run_underlying ht, Result.andThen_ok, hb, run_sizeOf hsz, Sem.run_pure]; rfl⟩
    simp only [RepV]
    have e : (highOf n hi').toNat - (lowOf lo').toNat = (highOf n hi' - lowOf lo').toNat := by omega
    refine ⟨_, _, by rw [e], ?_, ?_, ?_⟩
    · have := hM2; omega
    · exact sl_cut (lowOf lo').toNat (highOf n hi' - lowOf lo').toNat hlen (by omega) hn hc (highOf cap mx').toNat (by omega)
    · refine sliceP_ok (v := _) hp (fun hm => ?_) (fun hm hh hcap => ?_)
      · rcases h4 with h | h
        · exact absurd h hm
        · have := hM.resolve_right hm
          omega
      · subst hm hh hcap
        simp only [highOf] at *
        omega
  · -- a slice of an object
    rename_i e r off n cap ht
    split at h
    case h_2 => cases h
    rename_i sz hsz
    simp only [Option.some.injEq, Prod.mk.injEq] at h
    obtain ⟨rfl, rfl⟩ := h
    obtain ⟨h0, h1, h2, rfl⟩ := hC
    simp only [RepV] at hx
    obtain ⟨hk, A, c, rfl, hn, hcap, hpos⟩ := hx
    have hb := run_bounds (P := P) E.w true n c lo' hi' none hn h0 h1 (by show _ ≤ (c : Int); omega) (by show (c : Int) ≤ c; omega) (.inl rfl)
    simp only [Option.map_none] at hb ⊢
    have e1 : (highOf n hi').toNat - (lowOf lo').toNat = (highOf n hi' - lowOf lo').toNat := by omega
    refine ⟨_, ?_, by simp only [Instr.sliceAt, Instr.slice, Sem.run_bind, run_underlying ht, Result.andThen_ok, hb, run_sizeOf hsz, Sem.run_pure]; rfl⟩
    simp only [RepV]
    refine ⟨hk, _, _, by rw [e1], ?_, ?_, ?_⟩
    · show _ ≤ ((c : Int)).toNat - _; omega
    · intro k hk'
      cases cap with
      | none => simp at hk'
      | some k' =>
        have := hcap k' rfl
        subst this
        simp only [Option.map_some, Option.some.injEq] at hk'
        show ((c : Int)).toNat - _ = _
        omega
    · intro hp
      obtain ⟨g', hg, rfl⟩ := hpos (by omega)
      refine ⟨g', hg, ?_⟩
      rw [if_neg (by show ¬ ((c : Int)).toNat = _; omega)]
      simp [add_off]
  · -- an array
    rename_i N e r off ht
    split at h
    case h_2 => cases h
    rename_i sz hsz
    simp only [Option.some.injEq, Prod.mk.injEq] at h
    obtain ⟨rfl, rfl⟩ := h
    obtain ⟨h0, h1, h2, h3, h4⟩ := hC
    simp only [RepV] at hx
    obtain ⟨hk, g', hg, rfl⟩ := hx
    have hb := run_bounds (P := P) E.w false N N lo' hi' mx' (Nat.le_refl _) h0 h1 h2 h3 h4
    have e1 : (highOf N hi').toNat - (lowOf lo').toNat = (highOf N hi' - lowOf lo').toNat := by omega
    have e2 : (highOf N mx').toNat - (lowOf lo').toNat = (highOf N mx' - lowOf lo').toNat := by omega
    refine ⟨_, ?_, by simp only [Instr.sliceAt, Instr.sureAddr, Sem.run_bind, run_underlying ht, Result.andThen_ok, hb, run_sizeOf hsz, Sem.run_pure]; rfl⟩
    simp only [RepV]
    refine ⟨hk, _, _, by rw [e1, e2], by omega, fun k hk' => by injection hk', fun hp => ⟨g', hg, ?_⟩⟩
    rw [if_neg (by omega)]
    simp [add_off]
  · -- an array that is never written again
    rename_i N e cells ht
    split at h
    case h_2 => cases h
    rename_i sz hsz
    simp only [Option.some.injEq, Prod.mk.injEq] at h
    obtain ⟨rfl, rfl⟩ := h
    obtain ⟨rfl, rfl, rfl, hlen, hN⟩ := hC
    simp only [RepV] at hx
    obtain ⟨g', o', rfl, hg, hl, hat⟩ := hx
    have hb := run_bounds (P := P) E.w false N N none none none (Nat.le_refl _) (by simp [lowOf]) (by simp [lowOf, highOf]) (by simp [highOf]) (by simp [highOf]) (.inl rfl)
    refine ⟨_, ?_, by simp only [Instr.sliceAt, Instr.sureAddr, Sem.run_bind, run_underlying ht, Result.andThen_ok, hb, run_sizeOf hsz, Sem.run_pure]; rfl⟩
    simp only [RepV, lowOf, highOf]
    refine ⟨some ⟨g', o', none⟩, N, ?_, Nat.le_refl _, .inr ⟨g', o', rfl, hg, hl, hat⟩, rfl⟩
    have hn : ¬ N = 0 := by omega
    simp [add_off, hn]
  · -- a string
    rename_i s ht
    simp only [Option.some.injEq, Prod.mk.injEq] at h
    obtain ⟨rfl, rfl⟩ := h
    obtain ⟨h0, h1, h2, rfl⟩ := hC
    simp only [RepV] at hx
    subst hx
    have hb := run_bounds (P := P) E.w false s.size s.size lo' hi' none (Nat.le_refl _) h0 h1 (by show _ ≤ (s.size : Int); omega) (by show (s.size : Int) ≤ _; omega) (.inl rfl)
    simp only [Option.map_none] at hb ⊢
    refine ⟨_, by simp only [RepV]; rfl, ?_⟩
    simp only [Instr.sliceAt, Instr.slice, Sem.run_bind, run_underlying ht, Result.andThen_ok, Option.isSome_none, Bool.false_eq_true, if_false, hb, Sem.run_pure]
  · cases h

end Go.V
