/- The walks of a digest's Sum, and of the sum of parts. -/
import Derived.Test.YtjdlgbkpdfaloaaDoorEb
namespace Go.Proofs.YtjdlgbkpdfaloaaDoor
open Go Go.V
set_option linter.unusedSimpArgs false
set_option linter.unusedVariables false

/-- A digest's sum. -/
def sumB (C : List Nat → List UInt8 → List Nat) (s : DS) : List UInt8 := (runs C s (padL s.many)).h.flatMap be4
theorem be4s_length (l : List Nat) : (l.flatMap be4).length = 4 * l.length := by
  induction l with
  | nil => rfl
  | cons x l ih => simp only [List.flatMap_cons, List.length_append, List.length_cons, ih]; simp [be4]; omega
theorem padL_len (n : Nat) : (n + (padL n).length) % 64 = 0 ∧ (padL n).length ≤ 72 := by
  simp only [padL, List.length_cons, List.length_append, List.length_replicate, be4, List.length_nil, padZ]
  omega

theorem flats_Bs (l : List UInt8) : flats (Bs l) = true := by
  induction l with
  | nil => rfl
  | cons c l ih => rw [show Bs (c :: l) = B c :: Bs l from rfl]; simp [flats, B, flat, ih]
theorem ares_cell {P : Program} {ty : TypeId} {nt : Nat} {s : List (Nat × AV)} {os : List AObj} {x r n : Nat} {cs : List AV} (hx : lk s x = .ptr r 0) (ho : os[r]? = some (.cells cs)) (hn : tsz P ty = some n) (hag : isAggD (P.underlying ty) = some true) (hl : cs.length = n) :
    ares P [ty] [.cell x ty] ⟨nt, s, os⟩ = some (((0 + n ≤ cs.length) ∧ noref (.agg cs) = true) ∧ True, .agg cs) := by
  have ht : (cs.drop 0).take n = cs := by rw [List.drop_zero]; exact List.take_of_length_le (by omega)
  simp only [ares, aress, ares1, hx, aload, ho, apart, hag, hn, ht, afin]
theorem nats_getD (h : List Nat) (i : Nat) (hi : i < h.length) : (nats h).getD i 0 = ((h.getD i 0 : Nat) : Int) := by
  simp [nats, List.getD_eq_getElem?_getD, hi]
theorem take_be4 (h : List Nat) (i : Nat) (hi : i < h.length) : (h.take (i + 1)).flatMap be4 = (h.take i).flatMap be4 ++ be4 (h.getD i 0) := by
  rw [List.take_add_one, List.getElem?_eq_getElem hi, List.flatMap_append, List.getD_eq_getElem?_getD, List.getElem?_eq_getElem hi]
  simp

theorem sum_dok {C : List Nat → List UInt8 → List Nat} (hC : COk C) (s : DS) (hs : DOk s) (hm : s.many ≤ 900000000) :
    ACalls Tryd.prog GP 41 [.ptr 0 0] [.cells (DC s.h s.rest s.many)] (fun v os => os = [.cells (DC s.h s.rest s.many)] ∧ v = .agg (Bs (sumB C s))) := by
  have hh := words8_length hs.1
  have hr := hs.2
  have hDl := DC_length s.h s.rest s.many hh hr
  have h72 := DC_get72 s.h s.rest s.many hh hr
  have hp := padL_len s.many
  have cC := (clone_ok s.h s.rest s.many hh hr).g (G := GP)
  have cW := write_ok hC s hs (padL s.many) .no (by omega)
  have cP := (pad_ok s.many (by omega)).g (G := GP)
  have hok := runs_ok hC.1 hs (padL s.many)
  have hn := DC_norefs s.h s.rest s.many
  unfold sumB
  generalize runs C s (padL s.many) = e at cW hok
  generalize padL s.many = pl at *
  have hh2 := words8_length hok.1
  have hDl2 := DC_length e.h e.rest e.many hh2 hok.2
  have h8 := DC_take8 e.h e.rest e.many hh2
  have hn2 := DC_norefs e.h e.rest e.many
  generalize DC s.h s.rest s.many = D at *
  generalize DC e.h e.rest e.many = D2 at *
  obtain ⟨z, hz, hzl⟩ : ∃ z : List UInt8, (zvs .u8 32).map cav = Bs z ∧ z.length = 32 := ⟨List.replicate 32 0, by simp [zvs, Bs, B, cav], by simp⟩
  refine acallsH_of_awp Tryd.func41 rfl rfl Tryd.ntmps41 (rts := #[47]) rfl Tryd.results41 (by simp) ?_
  simp only [argSlots, Nat.reduceAdd]
  refine awp_seq_k fun K hK => awp_region [] ?_
  simp only [List.length_cons, List.length_nil, Nat.zero_add, K_eqs, aalloc, tzeros, hz, List.cons_append, List.nil_append, Nat.reduceLT, K_nil, Then, true_and, K_ops]
  (repeat' apply And.intro) <;> try (first | exact True.intro | omega)
  refine hK _ ?_
  clear hK K
  refine awp_seq_k fun K hK => awp_region [1000008] ?_
  simp only [List.length_cons, List.length_nil, Nat.zero_add, K_eqs, Nat.reduceLT, K_ops, reduceCtorEq, if_true, if_false, K_call, Nat.reduceAdd, List.contains_cons, beq_self_eq_true, List.contains_nil, Bool.or_false, List.map_cons, Nat.reduceEqDiff, List.map_nil, Nat.reduceBEq, Bool.false_eq_true, aviews, aview, true_and]
  refine andH_one (v' := .ptr 2 0) 0 (.cells D) rfl (by simpa [objOk] using hn) (by simp [hviews, hview]) cC (by simp [objOk, hn]) (by simp [hres]) ?_
  simp only [List.set_cons_zero, List.cons_append, List.nil_append, RestH_eqs, K_eqs, Nat.reduceLT, K_ops, Nat.reduceEqDiff, reduceCtorEq, if_false, if_true, K_nil, Then, true_and]
  refine hK _ ?_
  clear hK K
  refine awp_keep [0, 2, 3] ?_
  simp only [keep_eqs, K_ops, Nat.reduceEqDiff, if_true, if_false]
  refine awp_seq_k fun K hK => awp_region [1000015] ?_
  simp only [List.length_cons, List.length_nil, Nat.zero_add, K_eqs, Nat.reduceLT, K_ops, reduceCtorEq, Nat.reduceEqDiff, if_true, if_false, anil, afieldAddr, Tryd.underlying66, List.getElem?_toArray, List.getElem?_cons_succ, List.getElem?_cons_zero, tszs, ne_eq, not_false_eq_true, true_and, aload, List.contains_cons, Nat.reduceBEq, List.contains_nil, Bool.or_false, Bool.false_eq_true, apart, isAggD, Tryd.underlying56, K_call, Nat.reduceAdd, List.map_cons, List.map_nil, aviews, aview, ntok, List.headD_cons, hDl, h72, noref, and_true]
  refine andC_eq (by simp [norefs_Bs, norefs, noref]) (cP) (by simp [noref, norefs, norefs_Bs, flat]) ?_
  simp only [RestC_eqs, K_call, Nat.reduceLT, Nat.reduceAdd, List.contains_cons, beq_self_eq_true, List.contains_nil, Bool.or_false, K_ops, List.map_cons, Nat.reduceEqDiff, reduceCtorEq, if_false, if_true, List.map_nil, Nat.reduceBEq, Bool.false_eq_true, aviews, aview, norefs_Bs, ntok, and_true, true_and]
  refine andH_one (v' := .tup []) 2 (.cells D) rfl (by simpa [objOk] using hn) (by simp [hviews, hview, norefs_Bs, ntok]) cW (by simp [objOk, hn2]) (by simp [hres, noref, norefs]) ?_
  simp only [List.set_cons_succ, List.set_cons_zero, List.append_nil, RestH_eqs, K_nil, Then]
  refine hK _ ?_
  clear hK K
  refine awp_keep [2, 3] ?_
  simp only [keep_eqs, K_ops, Nat.reduceEqDiff, if_true, if_false]
  refine awp_seq_k fun K hK => awp_region [] ?_
  simp only [List.length_cons, List.length_nil, Nat.zero_add, K_eqs, Nat.reduceLT, K_ops, cav, K_nil, Then, true_and]
  (repeat' apply And.intro) <;> try (first | exact True.intro | omega)
  refine hK _ ?_
  clear hK K
  refine awp_noperm 4 rfl ?_
  refine awp_keep [2, 3, 4] ?_
  simp only [keep_eqs, K_ops, Nat.reduceEqDiff, if_true, if_false]
  refine awp_seq_k fun K1 hK1 => ?_
  refine awp_seq_k fun K hK => awp_region [] ?_
  simp only [List.length_cons, List.length_nil, Nat.zero_add, K_eqs, Nat.reduceLT, K_ops, Nat.reduceEqDiff, if_false, if_true, anil, afieldAddr, Tryd.underlying66, List.getElem?_toArray, List.getElem?_cons_zero, tszs, ne_eq, reduceCtorEq, not_false_eq_true, Nat.add_zero, true_and, List.drop_zero, aload, List.contains_nil, Bool.false_eq_true, apart, isAggD, Tryd.underlying25, cav, K_nil, Then, List.getElem?_cons_succ, hDl2, Nat.reduceLeDiff, h8]
  refine hK _ ?_
  clear hK K
  refine awp_keep [2, 4, 19, 20] ?_
  simp only [keep_eqs, K_ops, Nat.reduceEqDiff, if_true, if_false]
  have hnl : (nats e.h).length = 8 := by rw [nats_length, hh2]
  refine awp_block ?_
  refine awp_loop_from (fun i : Nat => ⟨30, [(2, .ptr 1 0), (4, .sl ((e.h.take i).flatMap be4).length (Bs ((e.h.take i).flatMap be4)) .no), (19, .agg (Is .u32 (nats e.h))), (20, .val (.int .i64 (i : Int)))], [.cells D, .cells (Bs z), .cells D2]⟩)
    (fun i => i ≤ 8) (fun i => 8 - i) 0 (by omega) (.of_keep [2, 4, 19, 20] rfl) ?_
  intro i hi
  refine awp_seq_k fun K hK => awp_region [] ?_
  simp only [List.length_cons, List.length_nil, Nat.zero_add, K_eqs, K_ops, Nat.reduceEqDiff, if_true, if_false, cav, K_int, aint, d_lt, Nat.reduceLT, K_nil, Then, true_and]
  (repeat' apply And.intro) <;> try (first | exact True.intro | omega)
  refine hK _ ?_
  clear hK K
  refine awp_seq ?_
  refine awp_cond rfl rfl (fun h => ?_) (fun h => ?_)
  · have hlt : i < 8 := by have := of_decide_eq_true h; omega
    refine awp_skip ?_
    simp only [Then]
    refine awp_keep [2, 4, 19, 20] ?_
    simp only [keep_eqs, K_ops, Nat.reduceEqDiff, if_true, if_false]
    have hget := nats_getD e.h i (by omega)
    have htk := take_be4 e.h i (by omega)
    have hlen := be4s_length (e.h.take i)
    have hlen1 := be4s_length (e.h.take (i + 1))
    rw [List.length_take] at hlen hlen1
    have e1 : ((e.h.take i).flatMap be4).length + 4 = ((e.h.take (i + 1)).flatMap be4).length := by omega
    have cPut := (put_ok ((e.h.take i).flatMap be4) .no (e.h.getD i 0) (by omega)).g (G := GP)
    rw [← htk, e1] at cPut
    generalize (e.h.take i).flatMap be4 = A at cPut hlen e1 ⊢
    generalize e.h.getD i 0 = x at cPut hget
    refine awp_seq ?_
    refine awp_block ?_
    refine awp_seq_k fun K hK => awp_region [] ?_
    have hgI : (Is .u32 (nats e.h)).getD i .top = .val (.int .u32 (x : Int)) := by rw [Is_getD (by omega), hget]; rfl
    simp only [List.length_cons, List.length_nil, Nat.zero_add, K_eqs, aidx, K_ops, Nat.reduceEqDiff, if_true, if_false, Tryd.underlying25, tszs, apart, isAggD, Tryd.underlying23, Int.toNat_natCast, Nat.mul_one, Is_length, hnl, hgI, Int.cast_ofNat_Int, Nat.reduceLT, K_nil, Then, true_and]
    refine ⟨⟨⟨by omega, by omega⟩, by omega⟩, hK _ ?_⟩
    clear hK K
    refine awp_keep [2, 4, 6, 19, 20] ?_
    simp only [keep_eqs, K_ops, Nat.reduceEqDiff, if_true, if_false]
    refine awp_region [] ?_
    simp only [List.length_cons, List.length_nil, Nat.zero_add, K_eqs, Nat.reduceLT, K_ops, Nat.reduceEqDiff, if_false, if_true, K_call, Nat.reduceAdd, List.contains_nil, Bool.false_eq_true, List.map_cons, List.map_nil, aviews, aview, norefs_Bs, ntok, noref, and_true, Bool.or_false, true_and]
    refine andC_eq (by simp [norefs_Bs, norefs, noref]) (cPut) (by simp [noref, norefs, norefs_Bs, flat]) ?_
    simp only [RestC_eqs, K_eqs, Nat.reduceLT, K_ops, Nat.reduceEqDiff, if_false, if_true, K_nil, true_and]
    simp only [InBlock, Then]
    refine awp_keep [2, 4, 19, 20] ?_
    simp only [keep_eqs, K_ops, Nat.reduceEqDiff, if_true, if_false]
    have h6 : IntKind.i64.wrap ((i + 1 : Nat) : Int) = ((i + 1 : Nat) : Int) := n_i64 (by omega)
    refine awp_region [] ?_
    simp only [K_eqs, K_ops, Nat.reduceEqDiff, if_true, if_false, cav, K_int, aint, n_add, h6, Nat.reduceLT, K_nil, Then, true_and]
    refine ⟨i + 1, by omega, by omega, .of_keep [2, 4, 19, 20] rfl⟩
  · have he : i = 8 := by have := of_decide_eq_false h; omega
    subst he
    refine awp_exit ?_
    simp only [Then, InBlock, if_true]
    refine hK1 _ ?_
    clear hK1 K1
    have htk : e.h.take 8 = e.h := List.take_of_length_le (by omega)
    have hlen := be4s_length e.h
    rw [hh2] at hlen
    rw [htk]
    generalize e.h.flatMap be4 = A at hlen ⊢
    refine awp_keep [2, 4] ?_
    simp only [keep_eqs, K_ops, Nat.reduceEqDiff, if_true, if_false]
    have hA : A.length = 32 := hlen
    have ht32 : A.take 32 = A := List.take_of_length_le (by omega)
    have zd : z.drop 32 = [] := List.drop_eq_nil_of_le (by omega)
    refine awp_seq_k fun K hK => awp_region [] ?_
    simp only [hA, List.length_cons, List.length_nil, Nat.zero_add, K_eqs, Nat.reduceLT, K_ops, Nat.reduceEqDiff, if_true, if_false, aarrayAt, Tryd.underlying47, Bs_length, Nat.le_refl, and_true, aload, List.contains_nil, Bool.false_eq_true, apart, isAggD, tszs, List.drop_zero, K_store, astore, List.getElem?_cons_succ, List.getElem?_cons_zero, acells, hzl, spl, List.take_zero, List.nil_append, Bs_drop, List.set_cons_succ, List.set_cons_zero, K_nil, Then, true_and, Bs_take, ht32, Bs_one, zd, Bs_nil, List.append_nil]
    refine hK _ ?_
    clear hK K
    refine awp_keep [2] ?_
    simp only [keep_eqs, K_ops, Nat.reduceEqDiff, if_true, if_false]
    refine awp_ret ?_
    have hsz : tsz Tryd.prog 47 = some 32 := by simp only [tszs]
    exact FinH_one (.inr rfl) rfl (by simpa [objOk] using hn) (ares_cell rfl rfl hsz (by rw [Tryd.underlying47]; rfl) (by rw [Bs_length, hA])) ⟨⟨by rw [Bs_length, hA]; omega, by simp [noref, norefs_Bs]⟩, trivial⟩ (by simp [flat, flats_Bs]) ⟨rfl, rfl⟩

theorem sumB_length {C : List Nat → List UInt8 → List Nat} (hC : COk C) (s : DS) (hs : DOk s) : (sumB C s).length = 32 := by
  rw [sumB, be4s_length, words8_length (runs_ok hC.1 hs (padL s.many)).1]
end Go.Proofs.YtjdlgbkpdfaloaaDoor
