/-
  VALUE LOGIC, part t: bytes that are built, and turned into bytes (a conversion from a type of slices to the same marks their block, as the model has it).
-/
import Derived.Test.YtjdlgbkpdfaloaaDoorVy
namespace Go.V
set_option linter.unusedVariables false
set_option linter.unusedSimpArgs false

theorem conv_osl_sound {P : Program} {E : Env} {t e : TypeId} {u : Value} {objs : List AObj} {r n : Nat} {cap : Option Nat} {c : AV} {cs : List AV} (ht : P.underlying t = some (.slice e)) (he : P.underlying e = some (.int .u8)) (hn : 0 < n)
    (hr : RepV E (.osl r 0 n cap) u) (hor : objs[r]? = some (.cells (c :: cs))) (hnr : norefs (c :: cs) = true) (ho : ObjsRep E objs) :
    ∃ E', (convert t t u).run P E.w = .ok u E'.w ∧ RepV E' (.sl n (c :: cs) .no) u ∧ ObjsRep E' (objs.set r .dead) ∧ Ext E objs E' (objs.set r .dead) := by
  simp only [RepV] at hr
  obtain ⟨hrk, A, cp, hu, hncap, _, hA⟩ := hr
  obtain ⟨g0, hρ0, hA0⟩ := hA hn
  subst hA0
  subst hu
  obtain ⟨hk, hobj, hdis⟩ := ho
  rcases hobj r _ hor with e' | ⟨g, vs, t', fz, hρ, hh, hfz, hlim, hlen, hrep⟩
  · cases e'
  have eg : g0 = g := by
    rw [hρ0] at hρ
    injection hρ with hρ
    injection hρ with hρ
    injection hρ with hρ
  subst eg
  have hown : ownBlk (.cells (c :: cs)) (E.ρ r) = some g0 := by rw [hρ]; rfl
  have hgs : g0 < E.w.heap.size := get_lt hh
  let w' : World := E.w.freeze ⟨g0, vs.size, none⟩ 1
  have hw' : w' = { E.w with heap := E.w.heap.modify g0 fun
      | .cells c elem (lo, hi) => .cells c elem (if lo == hi then (vs.size, vs.size + 1) else (min lo vs.size, max hi (vs.size + 1)))
      | o => o } := rfl
  have hheap : ∀ x, x ≠ g0 → w'.heap[x]? = E.w.heap[x]? := fun x hx => by
    rw [hw']
    simp only [Array.getElem?_modify]
    rw [if_neg (fun e => hx e.symm)]
  have hheapg : ∃ fz', w'.heap[g0]? = some (.cells vs t' fz') := by
    rw [hw']
    simp only [Array.getElem?_modify, if_true, hh, Option.map_some]
    exact ⟨_, rfl⟩
  have hsz : w'.heap.size = E.w.heap.size := by rw [hw']; simp
  have hcell : ∀ x o, w'.cell? ⟨x, o, none⟩ = E.w.cell? ⟨x, o, none⟩ := fun x o => by
    unfold World.cell?
    by_cases hx : x = g0
    · subst hx
      obtain ⟨fz', h1⟩ := hheapg
      simp only [h1, hh]
    · simp only [hheap x hx]
  let E1 : Env := { E with lim := fun x => if x = g0 then (c :: cs).length else E.lim x }
  let E' : Env := { E1 with w := w' }
  have hle : ∀ x, E.lim x ≤ E1.lim x := fun x => by
    show E.lim x ≤ if x = g0 then _ else _
    split
    · rename_i e; subst e; rw [hlim]; exact Nat.zero_le _
    · exact Nat.le_refl _
  have hne : ∀ x, x ≠ g0 → E1.lim x = E.lim x := fun x hx => if_neg hx
  have hx : Ext0 E E' := ⟨by show _ ≤ w'.heap.size; rw [hsz]; exact Nat.le_refl _, fun x _ => hle x, fun x o _ _ => hcell x o, Nat.le_refl _, fun _ _ => .refl _⟩
  have hx1 : Ext0 E1 E' := ⟨by show _ ≤ w'.heap.size; rw [hsz]; exact Nat.le_refl _, fun x _ => Nat.le_refl _, fun x o _ _ => hcell x o, Nat.le_refl _, fun _ _ => .refl _⟩
  have hset : ∀ (r' : Nat) (o : AObj), (objs.set r .dead)[r']? = some o → o = .dead ∨ (r' ≠ r ∧ objs[r']? = some o) := by
    intro r' o h'
    rw [List.getElem?_set] at h'
    split at h'
    · split at h'
      · injection h' with h'; exact .inl h'.symm
      · cases h'
    · rename_i hne'; exact .inr ⟨fun e => hne' e.symm, h'⟩
  refine ⟨E', ?_, ?_, ⟨by simpa using hk, fun r' o h' => ?_, fun r1 r2 o1 o2 x h1 h2 b1 b2 => ?_⟩, ?_⟩
  · have hshape : E.w.shape? g0 = some (t', vs.size) := by
      unfold World.shape?
      rw [hh]
    simp [convert, run_underlying ht, run_underlying he, markStringish, hshape]
    rfl
  · simp only [RepV]
    refine ⟨_, cp, rfl, hncap, .inr ⟨g0, 0, rfl, ?_, ?_, ?_⟩, trivial⟩
    · show g0 < w'.heap.size
      rw [hsz]; exact hgs
    · show 0 + (c :: cs).length ≤ if g0 = g0 then _ else _
      rw [if_pos rfl, Nat.zero_add]
      exact Nat.le_refl _
    · have h1 : RepAt E g0 0 (c :: cs) := hrep.at_ (off := 0) hh
      have h2 : RepAt E1 g0 0 (c :: cs) := norefsAt_move (E := E) (E' := E1) rfl (fun x _ => hle x) g0 _ _ hnr h1
      exact RepAt.mono hx1 g0 hgs _ _ (by
        show 0 + (c :: cs).length ≤ if g0 = g0 then _ else _
        rw [if_pos rfl, Nat.zero_add]
        exact Nat.le_refl _) h2
  · rcases hset r' o h' with rfl | ⟨hne', h''⟩
    · trivial
    · refine (hobj r' o h'').stay hx fun x hb => ?_
      have hxg : x ≠ g0 := fun e => by
        subst e
        exact hne' (hdis r' r o _ x h'' hor hb hown)
      exact ⟨hheap x hxg, hne x hxg⟩
  · rcases hset r1 o1 h1 with rfl | ⟨_, h1'⟩
    · simp [ownBlk] at b1
    · rcases hset r2 o2 h2 with rfl | ⟨_, h2'⟩
      · simp [ownBlk] at b2
      · exact hdis r1 r2 o1 o2 x h1' h2' b1 b2
  · refine { hx with os := rfl, tape := rfl, output := rfl, frame := fun x hx' hno => ?_, own := fun x hw _ => ?_ }
    · have hxg : x ≠ g0 := fun e => hno (by subst e; exact ⟨r, _, hor, hown⟩)
      exact ⟨hheap x hxg, hne x hxg⟩
    · obtain ⟨r', o, h', hb⟩ := hw
      rcases hset r' o h' with rfl | ⟨_, h''⟩
      · simp [ownBlk] at hb
      · exact ⟨r', o, h'', hb⟩

/-- A region that builds a slice of bytes, and turns it into bytes first of all. -/
theorem awp_region_conv (M : List Nat) {P : Program} {G : List (Nat × List AV)} {Q : Exit → St → Prop} {nt : Nat} {s : List (Nat × AV)} {os : List AObj} {id d0 d1 n : Nat} {t e ty0 ty1 : TypeId} {parts : Array (Nat × Operand)} {p0 p1 : String} {a0 a1 : Array Edge} {rest : List Oper} {C : Prop} {c : AV} {cs : List AV}
    (ht : P.underlying t = some (.slice e)) (he : P.underlying e = some (.int .u8)) (hn : 0 < n) (hd0 : d0 < nt) (hd1 : d1 < nt)
    (h0 : abuildOwn P t n (aparts (ev G s) parts) os = .ok C (.osl os.length 0 n (some n)) (os ++ [.cells (c :: cs)])) (hC : C) (hnr : norefs (c :: cs) = true)
    (h : aopsK P G M (⟨some d0, .buildSlice t n parts, ty0, p0, a0, none⟩ :: ⟨some d1, .convert t t (.tmp d0), ty1, p1, a1, none⟩ :: rest).toArray rest ⟨nt, (d1, .sl n (c :: cs) .no) :: (d0, .osl os.length 0 n (some n)) :: s, os ++ [.dead]⟩ (Q .normal)) :
    awp P G (.region id (⟨some d0, .buildSlice t n parts, ty0, p0, a0, none⟩ :: ⟨some d1, .convert t t (.tmp d0), ty1, p1, a1, none⟩ :: rest).toArray false) ⟨nt, s, os⟩ Q := fun E a hr => by
  refine wp_region_lit ?_
  obtain ⟨E1, u, hrun1, hv1, ho1, hx1⟩ := aval_sound (P := P) (mt := true) (g := a.eval) (o := ⟨some d0, .buildSlice t n parts, ty0, p0, a0, none⟩) (fun x => ev_sound hr x) (by simp only [aval, if_true]; exact h0) hC hr.objs
  have hr1 := hr.put (d := some d0) hx1 ho1 hv1 hd0
  have hsl := ev_sound hr1 (.tmp d0)
  have hev : ev G ((⟨nt, s, os⟩ : St).put (some d0) (.osl os.length 0 n (some n)) (os ++ [.cells (c :: cs)])).slots (.tmp d0) = .osl os.length 0 n (some n) := by
    simp [St.put, ev, lk]
  rw [hev] at hsl
  obtain ⟨E2, hrun2, hv2, ho2, hx2⟩ := conv_osl_sound ht he hn hsl (by simp : (os ++ [AObj.cells (c :: cs)])[os.length]? = some (.cells (c :: cs))) hnr ho1
  have hset : (os ++ [AObj.cells (c :: cs)]).set os.length .dead = os ++ [.dead] := by
    rw [List.set_append_right _ _ (Nat.le_refl _), Nat.sub_self]
    rfl
  rw [hset] at ho2 hx2
  have hr2 := hr1.put (d := some d1) hx2 ho2 hv2 hd1
  have hl2 := aopsK_sound (M := M) (Q := Q) rest _ E2 _ hr2 h
  have hl1 : wpList P (⟨some d0, .buildSlice t n parts, ty0, p0, a0, none⟩ :: ⟨some d1, .convert t t (.tmp d0), ty1, p1, a1, none⟩ :: rest).toArray (RQ P G E os Q) (⟨some d1, .convert t t (.tmp d0), ty1, p1, a1, none⟩ :: rest) (a.put (some d0) u) E1.w := by
    unfold wpList
    rw [if_pos (by simp [Region.wanted])]
    refine .inl ?_
    unfold Oper.wp
    have e2 : (execOp (a.put (some d0) u).eval ⟨some d1, .convert t t (.tmp d0), ty1, p1, a1, none⟩).run P E1.w = .ok (.value ((a.put (some d0) u).eval (.tmp d0))) E2.w := by
      simp only [execOp, Sem.run_bind, hrun2, Result.andThen_ok, Sem.run_pure]
    rw [e2]
    exact wpList_mono (fun e a w ⟨s, E3, e1, e2, e3, e4⟩ => ⟨s, E3, e1, e2, e3, (hx1.trans hx2).trans e4⟩) rest _ E2.w hl2
  unfold wpList
  rw [if_pos (by simp [Region.wanted])]
  refine .inl ?_
  unfold Oper.wp
  rcases hrun1 with e | ⟨e, rfl⟩
  · rw [e]; exact hl1
  · rw [e]; exact hl1
end Go.V
