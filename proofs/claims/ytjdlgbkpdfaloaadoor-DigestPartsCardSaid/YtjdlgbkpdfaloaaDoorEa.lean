/- The walks of a digest. -/
import Derived.Test.YtjdlgbkpdfaloaaDoorDh
import Derived.Test.YtjdlgbkpdfaloaaDoorPd
import Derived.Test.YtjdlgbkpdfaloaaDoorVt
import Derived.Test.YtjdlgbkpdfaloaaDoorVu
namespace Go.Proofs.YtjdlgbkpdfaloaaDoor
open Go Go.V
set_option linter.unusedSimpArgs false
set_option linter.unusedVariables false

def start8 : List Nat := [1779033703, 3144134277, 1013904242, 2773480762, 1359893119, 2600822924, 528734635, 1541459225]
/-- A digest's cells. -/
def DC (h : List Nat) (r : List UInt8) (m : Nat) : List AV := Is .u32 (nats h) ++ (Bs r ++ [.val (.int .u64 (m : Int))])

theorem nats_length (h : List Nat) : (nats h).length = h.length := List.length_map _
theorem DC_length (h : List Nat) (r : List UInt8) (m : Nat) (hh : h.length = 8) (hr : r.length = 64) : (DC h r m).length = 73 := by
  simp only [DC, List.length_append, Is_length, Bs_length, nats_length, hh, hr]
  rfl
theorem DC_take73 (h : List Nat) (r : List UInt8) (m : Nat) (hh : h.length = 8) (hr : r.length = 64) : (DC h r m).take 73 = DC h r m := List.take_of_length_le (by rw [DC_length h r m hh hr]; exact Nat.le_refl _)
theorem DC_drop8 (h : List Nat) (r : List UInt8) (m : Nat) (hh : h.length = 8) : (DC h r m).drop 8 = Bs r ++ [.val (.int .u64 (m : Int))] := by
  have e : (Is .u32 (nats h)).length = 8 := by rw [Is_length, nats_length, hh]
  unfold DC
  rw [← e, List.drop_left]
theorem DC_take8 (h : List Nat) (r : List UInt8) (m : Nat) (hh : h.length = 8) : (DC h r m).take 8 = Is .u32 (nats h) := by
  have e : (Is .u32 (nats h)).length = 8 := by rw [Is_length, nats_length, hh]
  unfold DC
  rw [← e, List.take_left]
theorem DC_rest (h : List Nat) (r : List UInt8) (m : Nat) (hh : h.length = 8) (hr : r.length = 64) : ((DC h r m).drop 8).take 64 = Bs r := by
  rw [DC_drop8 h r m hh]
  have e : (Bs r).length = 64 := by rw [Bs_length, hr]
  rw [← e, List.take_left]
theorem DC_get72 (h : List Nat) (r : List UInt8) (m : Nat) (hh : h.length = 8) (hr : r.length = 64) (d : AV) : (DC h r m).getD 72 d = .val (.int .u64 (m : Int)) := by
  have e : (Bs r).length = 64 := by rw [Bs_length, hr]
  have : (DC h r m)[72]? = some (.val (.int .u64 (m : Int))) := by
    have h1 : ((DC h r m).drop 8)[64]? = (DC h r m)[72]? := by rw [List.getElem?_drop]
    rw [← h1, DC_drop8 h r m hh, List.getElem?_append_right (by omega), e]
    rfl
  rw [List.getD_eq_getElem?_getD, this]
  rfl
theorem DC_set72 (h : List Nat) (r : List UInt8) (m m' : Nat) (hh : h.length = 8) (hr : r.length = 64) : (DC h r m).set 72 (.val (.int .u64 (m' : Int))) = DC h r m' := by
  have e1 : (Is .u32 (nats h)).length = 8 := by rw [Is_length, nats_length, hh]
  have e : (Bs r).length = 64 := by rw [Bs_length, hr]
  unfold DC
  rw [List.set_append_right _ _ (by omega), e1, List.set_append_right _ _ (by omega), e]
  rfl
theorem DC_put8 (h h' : List Nat) (r : List UInt8) (m : Nat) (hh : h.length = 8) : Is .u32 (nats h') ++ (DC h r m).drop 8 = DC h' r m := by
  rw [DC_drop8 h r m hh]
  rfl
theorem DC_oneC (h : List Nat) (r : List UInt8) (m : Nat) : (DC h r m).all oneC = true := by
  have h1 : ∀ l : List Int, (Is .u32 l).all oneC = true := fun l => by
    rw [List.all_eq_true]
    intro x hx
    obtain ⟨z, _, rfl⟩ := List.mem_map.1 hx
    rfl
  have h2 : (Bs r).all oneC = true := by
    rw [List.all_eq_true]
    intro x hx
    obtain ⟨z, _, rfl⟩ := List.mem_map.1 hx
    rfl
  rw [DC, List.all_append, List.all_append, h1, h2]
  rfl
theorem Is_oneC (k : IntKind) (l : List Int) : (Is k l).all oneC = true := by
  rw [List.all_eq_true]
  intro x hx
  obtain ⟨z, _, rfl⟩ := List.mem_map.1 hx
  rfl
theorem DC_norefs (h : List Nat) (r : List UInt8) (m : Nat) : norefs (DC h r m) = true := by
  simp [DC, norefs_append, norefs_Is, norefs_Bs, norefs, noref]
theorem FinH_one_ptr {P : Program} {ts : List TypeId} {Q : AV → List AObj → Prop} {nt : Nat} {s : List (Nat × AV)} {os : List AObj} (x i off : Nat) {y0 y1 : AObj} (h : lk s x = .ptr i off) (h0 : os[0]? = some y0) (hi : os[i]? = some y1) (hne : i ≠ 0) (n0 : objOk y0 = true) (n1 : objOk y1 = true)
    (hq : Q (.ptr 1 off) [y0, y1]) : FinH P ts [.tmp x] 1 Q .ret ⟨nt, s, os⟩ := by
  have hidx : [0, i].idxOf i = 1 := by
    cases i with
    | zero => exact absurd rfl hne
    | succ i => simp [List.idxOf_cons]
  refine ⟨.inr rfl, [0, i], [y0, y1], _, by simp, fun j hj => ?_, fun a b ha hb e => ?_, rfl, fun j hj => ?_, fun o ho => ?_, .inr ⟨x, rfl, by simp [h, outv, hidx]⟩, hq⟩
  · have : j = 0 := by omega
    subst this
    rfl
  · simp only [List.length_cons, List.length_nil] at ha hb
    rcases (by omega : a = 0 ∨ a = 1) with rfl | rfl <;> rcases (by omega : b = 0 ∨ b = 1) with rfl | rfl
    · rfl
    · exact absurd e.symm hne
    · exact absurd e hne
    · rfl
  · simp only [List.length_cons, List.length_nil] at hj
    rcases (by omega : j = 0 ∨ j = 1) with rfl | rfl
    · exact h0
    · exact hi
  · simp only [List.mem_cons, List.not_mem_nil, or_false] at ho
    rcases ho with rfl | rfl
    · exact n0
    · exact n1

theorem wstart8_ok : ACalls Tryd.prog [] 13 [] [] (fun r os => os = [] ∧ r = .agg (Is .u32 (nats start8))) := by
  refine acalls_of_awp Tryd.func13 rfl rfl Tryd.ntmps13 (rts := #[25]) rfl Tryd.results13 (by simp) ?_
  simp only [argSlots, Nat.reduceAdd]
  refine awp_seq_k fun K hK => awp_region [] ?_
  simp only [K_eqs, aalloc, tzeros, List.length_nil, zvs_Is, List.replicate_succ, List.replicate_zero, List.nil_append, Nat.reduceLT, K_nil, Then, true_and, K_ops]
  (repeat' apply And.intro) <;> try (first | exact True.intro | omega)
  refine hK _ ?_
  clear hK K
  refine awp_seq_k fun K hK => awp_region [] ?_
  simp only [K_eqs]
  refine build_B (Is .u32 (nats start8)) Tryd.underlying25 (sz := 1) (z := zvs .u32 8) (by simp only [tszs]) (by simp only [tzeros]) (by kernel_rfl) ?_
  have hl : (nats start8).length = 8 := rfl
  simp only [Nat.reduceLT, K_store, astore, K_ops, reduceCtorEq, if_true, if_false, List.getElem?_cons_zero, tszs, acells, Is_one, Is_length, hl, Nat.zero_add, List.length_cons, List.length_nil, Nat.reduceAdd, Nat.le_refl, and_true, spl, List.take_zero, List.nil_append, Is_drop, List.drop_succ_cons, List.drop_nil, List.set_cons_zero, K_nil, Then, true_and]
  refine hK _ ?_
  rw [Is_nil, List.append_nil]
  have ht : (nats start8).take 8 = nats start8 := rfl
  refine awp_ret ?_
  simp only [K_fin, ares, aress, ares1, aload, K_ops, reduceCtorEq, if_true, if_false, List.getElem?_cons_zero, apart, isAggD, Tryd.underlying25, tszs, Nat.zero_add, Is_length, hl, Nat.le_refl, List.drop_zero, Is_take, ht, afin, noref, norefs_Is, and_true, true_and]

theorem new_ok : ACalls Tryd.prog [] 39 [] [] (fun r os => os = [.cells (DC start8 (List.replicate 64 0) 0)] ∧ r = .ptr 0 0) := by
  obtain ⟨fs, hu, hs⟩ : ∃ fs, Tryd.prog.underlying 66 = some (.struct fs) ∧ sfields Tryd.prog fs = some [(0, 8), (8, 64), (72, 1)] := ⟨_, Tryd.underlying66, by kernel_rfl⟩
  refine acallsH_of_awp Tryd.func39 rfl rfl Tryd.ntmps39 (rts := #[51]) rfl Tryd.results39 (by simp) ?_
  simp only [argSlots, Nat.reduceAdd]
  refine awp_seq_k fun K hK => awp_region [] ?_
  simp only [List.length_nil, List.replicate_succ, List.replicate_zero, K_eqs, Nat.reduceLT, K_ops, cav, K_nil, Then, true_and]
  (repeat' apply And.intro) <;> try (first | exact True.intro | omega)
  refine hK _ ?_
  clear hK K
  refine awp_seq_k fun K hK => awp_region [] ?_
  simp only [List.length_nil, List.replicate_succ, List.replicate_zero, K_call, Nat.reduceLT, Nat.reduceAdd, List.contains_nil, Bool.false_eq_true, K_ops, List.map_nil, if_false, aviews, true_and]
  refine andC_eq (by simp [norefs_Bs, norefs, noref, norefs_Is, flats_Is]) (wstart8_ok) (by simp [noref, norefs, norefs_Bs, flat, norefs_Is, flats_Is]) ?_
  have hl : (nats start8).length = 8 := rfl
  simp only [RestC_eqs, K_eqs, abuild, tzeros, hu, hs, List.map_cons, cav, List.map_nil, aparts, K_ops, reduceCtorEq, if_false, if_true, afill, List.getElem?_cons_zero, spl, List.take_zero, acells, List.nil_append, Is_length, hl, Nat.zero_add, List.drop_succ_cons, List.drop_zero, List.length_cons, List.length_nil, Nat.reduceAdd, Nat.reduceLeDiff, Is_one, and_true, Nat.reduceLT, abox, Nat.reduceEqDiff, K_nil, Then, true_and, List.all_append, List.all_cons, oneC, Value.oneCell', List.all_nil, Bool.and_true]
  refine hK _ ?_
  clear hK K
  refine awp_keep [0] ?_
  simp only [keep_eqs, K_ops, Nat.reduceEqDiff, if_true, if_false]
  refine awp_ret ?_
  exact FinH_ptr 0 0 0 rfl rfl (by kernel_rfl) ⟨rfl, rfl⟩

theorem len_ok (h : List Nat) (r : List UInt8) (m : Nat) (hh : h.length = 8) (hr : r.length = 64) : ACalls Tryd.prog [] 43 [.ptr 0 0] [.cells (DC h r m)] (fun v os => os = [.cells (DC h r m)] ∧ v = .val (.int .u64 (m : Int))) := by
  have hl := DC_length h r m hh hr
  have h72 := DC_get72 h r m hh hr
  have hn := DC_norefs h r m
  generalize DC h r m = D at hl h72 hn
  refine acallsH_of_awp Tryd.func43 rfl rfl Tryd.ntmps43 (rts := #[56]) rfl Tryd.results43 (by simp) ?_
  simp only [argSlots, Nat.reduceAdd]
  refine awp_seq_k fun K hK => awp_region [] ?_
  simp only [List.length_cons, List.length_nil, Nat.zero_add, K_eqs, Nat.reduceLT, K_ops, cav, K_nil, Then, true_and]
  (repeat' apply And.intro) <;> try (first | exact True.intro | omega)
  refine hK _ ?_
  clear hK K
  refine awp_seq_k fun K hK => awp_region [] ?_
  simp only [List.length_cons, List.length_nil, Nat.zero_add, K_eqs, Nat.reduceLT, K_ops, reduceCtorEq, if_true, if_false, anil, Nat.reduceEqDiff, afieldAddr, Tryd.underlying66, List.getElem?_toArray, List.getElem?_cons_succ, List.getElem?_cons_zero, tszs, ne_eq, not_false_eq_true, true_and, aload, List.contains_nil, Bool.false_eq_true, apart, isAggD, Tryd.underlying56, K_nil, Then, hl, h72]
  refine hK _ ?_
  clear hK K
  refine awp_keep [0, 2] ?_
  simp only [keep_eqs, K_ops, Nat.reduceEqDiff, if_true, if_false]
  refine awp_ret ?_
  exact FinH_one (.inr rfl) rfl (by simpa [objOk] using hn) rfl (by simp [lk, noref]) rfl ⟨rfl, rfl⟩

theorem clone_ok (h : List Nat) (r : List UInt8) (m : Nat) (hh : h.length = 8) (hr : r.length = 64) : ACalls Tryd.prog [] 42 [.ptr 0 0] [.cells (DC h r m)] (fun v os => os = [.cells (DC h r m), .cells (DC h r m)] ∧ v = .ptr 1 0) := by
  obtain ⟨fs, hu, hs⟩ : ∃ fs, Tryd.prog.underlying 66 = some (.struct fs) ∧ sfields Tryd.prog fs = some [(0, 8), (8, 64), (72, 1)] := ⟨_, Tryd.underlying66, by kernel_rfl⟩
  have hl := DC_length h r m hh hr
  have ht := DC_take73 h r m hh hr
  have ho := DC_oneC h r m
  have hn := DC_norefs h r m
  generalize DC h r m = D at hl ht ho hn
  refine acallsH_of_awp Tryd.func42 rfl rfl Tryd.ntmps42 (rts := #[51]) rfl Tryd.results42 (by simp) ?_
  simp only [argSlots, Nat.reduceAdd]
  refine awp_seq_k fun K hK => awp_region [] ?_
  simp only [List.length_cons, List.length_nil, Nat.zero_add, K_eqs, Nat.reduceLT, K_ops, cav, K_nil, Then, true_and]
  (repeat' apply And.intro) <;> try (first | exact True.intro | omega)
  refine hK _ ?_
  clear hK K
  refine awp_seq_k fun K hK => awp_region [] ?_
  simp only [List.length_cons, List.length_nil, Nat.zero_add, K_eqs, Nat.reduceLT, K_ops, reduceCtorEq, if_true, if_false, anil, Nat.reduceEqDiff, aload, List.contains_nil, Bool.false_eq_true, apart, isAggD, hu, tszs, List.drop_zero, aalloc, tzeros, List.map_cons, cav, List.map_nil, List.cons_append, List.nil_append, K_store, astore, acells, spl, K_nil, Then, true_and, List.getElem?_cons_succ, List.getElem?_cons_zero, Nat.reduceAdd, List.take_zero, List.set_cons_succ, List.set_cons_zero, hl, Nat.le_refl, ht, ho, and_true, List.drop_succ_cons, List.drop_nil, List.append_nil]
  refine hK _ ?_
  clear hK K
  refine awp_keep [0, 3] ?_
  simp only [keep_eqs, K_ops, Nat.reduceEqDiff, if_true, if_false]
  refine awp_seq_k fun K hK => awp_region [] ?_
  simp only [List.length_cons, List.length_nil, Nat.zero_add, K_eqs, Nat.reduceLT, K_ops, reduceCtorEq, if_true, if_false, K_nil, Then, true_and]
  (repeat' apply And.intro) <;> try (first | exact True.intro | omega)
  refine hK _ ?_
  clear hK K
  refine awp_keep [2] ?_
  simp only [keep_eqs, K_ops, Nat.reduceEqDiff, if_true, if_false]
  refine awp_ret ?_
  exact FinH_one_ptr 2 1 0 rfl rfl rfl (by omega) (by simpa [objOk] using hn) (by simpa [objOk] using hn) ⟨rfl, rfl⟩
end Go.Proofs.YtjdlgbkpdfaloaaDoor
