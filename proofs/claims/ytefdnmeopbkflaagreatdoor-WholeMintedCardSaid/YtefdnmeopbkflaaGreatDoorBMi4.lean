/-
  Texts of one proof, merged: Ge, Gf, Gg, Gh, Xd, Wk, Gi, Gj, Ka, Kb, Gk, Kc, Kd, Ke, Kf, Ta.
-/
import Derived.Test.YtefdnmeopbkflaaGreatDoorBMi3
set_option linter.unusedSimpArgs false
set_option linter.unusedVariables false
namespace Go.Proofs.YtefdnmeopbkflaaGreatDoor
open Go Go.V
set_option linter.unusedSimpArgs false
set_option linter.unusedVariables false
set_option maxRecDepth 20000

theorem fputT_ok [Gv] (l : List UInt8) (p : Perm) (f : FieldV) (hl : l.length ≤ 35184372088832) (hf : f.2.length ≤ 35184372088832) : ACalls Tryz.prog G0 51 [.sl l.length (Bs l) p, .agg (FA f)] [] (fun r os => os = [.tok 1 (l ++ fby f).length] ∧ r = .sl (l ++ fby f).length (Bs (l ++ fby f)) (.tok 0)) := by
  obtain ⟨k, v⟩ := f
  simp only at hf
  have hv10 := vb_len10 (n := v.length) (by omega)
  have lt : l.take l.length = l := List.take_of_length_le (Nat.le_refl _)
  refine acallsH_of_awp Tryz.func51 rfl rfl Tryz.ntmps51 (rts := #[54]) rfl Tryz.results51 (by simp) ?_
  simp only [argSlots, Nat.reduceAdd]
  refine awp_seq_k fun K hK => awp_region [] ?_
  simp only [qq, FA, B, K_eqs, aboxF, acells, K_ops, reduceCtorEq, List.all_cons, oneC, Value.oneCell', List.all_nil, abox, Nat.reduceLT, cav, K_nil, Then]
  (repeat' apply And.intro) <;> try (first | exact True.intro | omega)
  refine hK _ ?_
  clear hK K
  refine awp_freeze 3 0 [AV.val (Value.int IntKind.u8 (k.toNat : Int)), AV.val (Value.string { data := v.toArray })] rfl rfl (by simp) rfl ?_
  refine awp_keep [0, 3] ?_
  simp only [keep_eqs, K_ops, Nat.reduceEqDiff, if_true, if_false]
  refine awp_seq_k fun K hK => ?_
  refine awp_draw [12] (by kernel_rfl) (by kernel_rfl) ?_
  simp only [qq, K_eqs, Nat.reduceLT, K_ops, reduceCtorEq, abuiltin, Nat.reduceEqDiff, List.contains_cons, Nat.reduceBEq, amaplen, alen, Tryz.underlying54, aslice, bopt, Option.map_none, Option.map_some, tszs, Bs_length, Nat.mul_one, lowOf, highOf, ne_eq, Bs_drop, Bs_take, sliceP, afieldAddr, Tryz.underlying124, Nat.reduceAdd, Nat.reduceLeDiff, aload, beq_self_eq_true, apart, isAggD, Tryz.underlying5, abuildOwn, tzeros, zrep_byte, List.replicate_succ, List.replicate_zero, aparts, afill, spl, acells, abuildSlice, aappend, tbys, appSrc, srcCells, K_nil, Then, List.all_cons, oneC, Value.oneCell', List.all_nil, List.drop_nil, Bs_nil, Int.le_refl, or_true, Int.sub_zero, Int.toNat_natCast, Int.toNat_zero, lt]
  refine ⟨by omega, ⟨by omega, by omega⟩, hK _ ?_⟩
  clear hK K
  refine awp_keep [0, 3] ?_
  simp only [keep_eqs, K_ops, Nat.reduceEqDiff, if_true, if_false]
  obtain ⟨L, hL⟩ : ∃ L, L = l ++ [k] := ⟨_, rfl⟩
  have hLl : l.length + 1 = L.length := by rw [hL, List.length_append]; rfl
  have hLb : Bs l ++ [AV.val (Value.int IntKind.u8 (k.toNat : Int))] = Bs L := by rw [hL, Bs_append]; rfl
  rw [hLl, hLb]
  have hvn : v.length % 18446744073709551616 = v.length := Nat.mod_eq_of_lt (by omega)
  have cP := fun q => vputT_ok L q v.length (by omega) (by omega)
  have hres : l ++ fby (k, v) = (L ++ vb v.length) ++ v := by rw [hL]; simp [fby]
  rw [hres]
  generalize hQ : L ++ vb v.length = Q at cP ⊢
  have hQl : Q.length ≤ 35184372088832 + 11 := by rw [← hQ, List.length_append]; omega
  refine awp_seq_k fun K hK => ?_
  refine awp_draw [1000020, 17, 22] (by kernel_rfl) (by kernel_rfl) ?_
  simp only [qq, K_eqs, Nat.reduceLT, K_ops, reduceCtorEq, afieldAddr, Tryz.underlying124, tszs, Nat.reduceEqDiff, ne_eq, Nat.reduceAdd, Nat.reduceLeDiff, aload, List.contains_cons, Nat.reduceBEq, beq_self_eq_true, Bool.false_or, apart, isAggD, Tryz.underlying9, abuiltin, amaplen, alen, K_conv, Tryz.underlying30, aconvO, aview, ntok, Tryz.underlying3, aconv, Option.isSome_some, K_call, K_clo, aviews, norefs_Bs, List.tail_cons, List.headD_cons, ba_size, n_u64, hvn]
  refine andH_tok (by simp [hviews, hview, noref, norefs, norefs_Bs, ntok]) (cP .no) (by simp [norefs_Bs]) ?_
  simp only [qq, Nat.reduceAdd, RestH_eqs, K_eqs, afieldAddr, Tryz.underlying124, tszs, K_ops, Nat.reduceEqDiff, reduceCtorEq, ne_eq, Nat.reduceLeDiff, Nat.reduceLT, aload, List.contains_cons, Nat.reduceBEq, beq_self_eq_true, Bool.false_or, apart, isAggD, Tryz.underlying9, abuiltin, aappend, Tryz.underlying54, tbys, tzeros, appSrc, srcCells, Nat.mul_one, Bs_length, K_nil, Then, ba_size, Bs_one, ← Bs_append]
  refine ⟨⟨by omega, by omega⟩, hK _ ?_⟩
  clear hK K
  refine awp_keep [4] ?_
  simp only [keep_eqs, K_ops, Nat.reduceEqDiff, if_true, if_false]
  rw [show Q.length + v.length = (Q ++ v).length by simp]
  refine awp_ret ?_
  exact FinH_tok 4 2 1 rfl rfl (norefs_Bs _) ⟨rfl, rfl⟩


def smallC (c : CavV) : Prop := c.text.length ≤ 200000 ∧ c.id.length ≤ 200000 ∧ c.vault.length ≤ 200000 ∧ c.party < 18446744073709551616

def jo (i n : Nat) : List AObj := match i with
  | 0 => []
  | i + 1 => dd (2 * i + 1) ++ [.tok 1 n]
def jp (i : Nat) : Perm := match i with
  | 0 => .full
  | i + 1 => .tok (2 * i + 1)
theorem jo_weak [Gv] (i n : Nat) (b : List UInt8) (x y z : AV) : Weak G0 ⟨17, [(3, .sl b.length (Bs b) (jp i)), (6, x), (7, y), (8, z)], jo i n⟩ ⟨17, [(3, .sl b.length (Bs b) .no), (6, x), (7, y), (8, z)], dd (2 * i)⟩ := by
  cases i with
  | zero => exact .trans (.noperm 3 _ _ _ rfl) (.of_keep [3, 6, 7, 8] (by exact rfl))
  | succ i =>
    refine .trans (.noperm 3 _ _ _ rfl) (.trans (.dead (2 * i + 1)) ?_)
    rw [show (jo (i + 1) n).set (2 * i + 1) .dead = dd (2 * (i + 1)) by rw [show jo (i + 1) n = dd (2 * i + 1) ++ [.tok 1 n] from rfl, dd_set, dd_kill]; rfl]
    exact .of_keep [3, 6, 7, 8] rfl

theorem fjoinT_ok [Gv] (l : List FieldV) (p : Perm) (hb : bulk l ≤ 1048576) (h0 : l ≠ []) : ACalls Tryz.prog G0 50 [.sl l.length (Fs l) p] [] (fun r os => os = [.tok 1 (V.join l).length] ∧ r = .sl (V.join l).length (Bs (V.join l)) (.tok 0)) := by
  have hlb := length_bulk l
  refine acallsH_of_awp Tryz.func50 rfl rfl Tryz.ntmps50 (rts := #[54]) rfl Tryz.results50 (by simp) ?_
  simp only [argSlots, Nat.reduceAdd]
  refine awp_seq_k fun K hK => awp_region [] ?_
  simp only [qq, K_eqs, Nat.reduceLT, K_ops, cav, K_nil, Then]
  (repeat' apply And.intro) <;> try (first | exact True.intro | omega)
  refine hK _ ?_
  clear hK K
  refine awp_seq_k fun K hK => awp_region [] ?_
  simp only [qq, K_eqs, Nat.reduceLT, K_ops, cav, K_nil, Then]
  (repeat' apply And.intro) <;> try (first | exact True.intro | omega)
  refine hK _ ?_
  clear hK K
  refine awp_keep [0, 3] ?_
  simp only [keep_eqs, K_ops, Nat.reduceEqDiff, if_true, if_false]
  refine awp_seq_k fun K1 hK1 => ?_
  refine awp_seq_k fun K hK => awp_region [] ?_
  simp only [qq, K_eqs, Nat.reduceLT, K_ops, reduceCtorEq, abuiltin, Nat.reduceEqDiff, amaplen, alen, Tryz.underlying186, cav, K_nil, Then]
  (repeat' apply And.intro) <;> try (first | exact True.intro | omega)
  refine hK _ ?_
  clear hK K
  refine awp_keep [3, 6, 7, 8] ?_
  simp only [keep_eqs, K_ops, Nat.reduceEqDiff, if_true, if_false]
  refine awp_block ?_
  refine awp_loop_from (fun i : Nat => ⟨17, [(3, .sl (V.join (l.take i)).length (Bs (V.join (l.take i))) (jp i)), (6, .sl l.length (Fs l) p), (7, .val (.int .i64 (l.length : Int))), (8, .val (.int .i64 (i : Int)))], jo i (V.join (l.take i)).length⟩)
    (fun i => i ≤ l.length) (fun i => l.length - i) 0 (by omega) (.of_keep [3, 6, 7, 8] (by exact rfl)) ?_
  intro i hi
  refine awp_seq_k fun K hK => awp_region [] ?_
  simp only [qq, K_eqs, K_ops, Nat.reduceEqDiff, K_binC, K_int, aint, d_ltn, Nat.reduceLT, K_nil, Then]
  (repeat' apply And.intro) <;> try (first | exact True.intro | omega)
  refine hK _ ?_
  clear hK K
  refine awp_seq ?_
  refine awp_cond rfl rfl (fun h => ?_) (fun h => ?_)
  · have hlt : i < l.length := of_decide_eq_true h
    refine awp_skip ?_
    simp only [Then]
    refine awp_keep [3, 6, 7, 8] ?_
    simp only [keep_eqs, K_ops, Nat.reduceEqDiff, if_true, if_false]
    refine awp_weak (jo_weak i _ _ _ _ _) ?_
    refine awp_seq ?_
    refine awp_block ?_
    have hg := Fs_get hlt (0, [])
    have hj1 : V.join (l.take (i + 1)) = V.join (l.take i) ++ fby (l.getD i (0, [])) := by
      rw [take_snocF l i hlt, join_append, join_cons, join_nil, List.append_nil]
    have hjl := join_len (l.take i) (by have := bulk_take_le l i; omega)
    have hbt := bulk_take_le l i
    have hmem : (l.getD i (0, [])).2.length + 1 ≤ bulk l := bulk_mem (by rw [List.getD_eq_getElem?_getD, List.getElem?_eq_getElem hlt]; exact List.getElem_mem hlt)
    generalize hf : l.getD i (0, []) = f at hg hj1 hmem
    have cP := fputT_ok (V.join (l.take i)) .no f (by omega) (by omega)
    have hfl : (Fs l).length = l.length * 2 := Fs_length l
    refine awp_seq_k fun K hK => awp_region [] ?_
    simp only [qq, K_eqs, aidxAddr, K_ops, Nat.reduceEqDiff, Tryz.underlying186, tszs, hfl, Nat.reduceLT, Int.toNat_natCast, aload, apart, isAggD, Tryz.underlying124, aalloc, tzeros, dd_length, cav, K_store, astore, acells, spl, K_nil, Then, dd_at, Nat.reduceAdd, dd_set, List.length_drop, hg, FA_oneC, FA_length, List.drop_nil]
    refine ⟨by omega, by omega, hK _ ?_⟩
    clear hK K
    refine awp_keep [3, 5, 6, 7, 8] ?_
    simp only [keep_eqs, K_ops, Nat.reduceEqDiff, if_true, if_false]
    refine awp_region [1000014] ?_
    simp only [qq, K_eqs, Nat.reduceLT, K_ops, Nat.reduceEqDiff, aload, List.contains_cons, Nat.reduceBEq, dd_at, apart, isAggD, Tryz.underlying124, tszs, FA_length, FA_take, K_call, Nat.reduceAdd, beq_self_eq_true, K_clo, aviews, aview, norefs_Bs, ntok, List.tail_cons, List.headD_cons]
    refine andH_tok (by simp [hviews, hview, noref, norefs, norefs_Bs, ntok, norefs_FA]) cP (norefs_Bs _) ?_
    simp only [qq, RestH_eqs, K_eqs, Nat.reduceLT, K_ops, Nat.reduceEqDiff, K_nil]
    simp only [InBlock, Then]
    refine awp_dead (2 * i) ?_
    have hset : (dd (2 * i) ++ [AObj.cells (FA f)] ++ [AObj.tok 1 (V.join (l.take i) ++ fby f).length]).set (2 * i) .dead = dd (2 * i + 1) ++ [AObj.tok 1 (V.join (l.take i) ++ fby f).length] := by
      rw [List.set_append_left _ _ (by simp [dd_length]), dd_set, dd_kill]
    have hlen1 : (dd (2 * i) ++ [AObj.cells (FA f)]).length = 2 * i + 1 := by simp [dd_length]
    rw [hset, hlen1, ← hj1]
    refine awp_keep [3, 6, 7, 8] ?_
    simp only [keep_eqs, K_ops, Nat.reduceEqDiff, if_true, if_false]
    have h6 : IntKind.i64.wrap ((i + 1 : Nat) : Int) = ((i + 1 : Nat) : Int) := n_i64 (by omega)
    refine awp_region [] ?_
    simp only [qq, K_eqs, K_ops, Nat.reduceEqDiff, cav, K_binC, K_int, aint, n_add, h6, Nat.reduceLT, K_nil, Then]
    exact ⟨i + 1, by omega, by omega, .of_keep [3, 6, 7, 8] rfl⟩
  · have he : i = l.length := by have := of_decide_eq_false h; omega
    subst he
    refine awp_exit ?_
    simp only [Then, InBlock, if_true]
    refine hK1 _ ?_
    clear hK1 K1
    rw [List.take_length]
    obtain ⟨m, hm⟩ : ∃ m, l.length = m + 1 := ⟨l.length - 1, by have := List.length_pos_iff.2 h0; omega⟩
    rw [hm, show jo (m + 1) (V.join l).length = dd (2 * m + 1) ++ [.tok 1 (V.join l).length] from rfl, show jp (m + 1) = .tok (2 * m + 1) from rfl]
    refine awp_keep [3] ?_
    simp only [keep_eqs, K_ops, Nat.reduceEqDiff, if_true, if_false]
    refine awp_seq_k fun K hK => awp_region [] ?_
    simp only [qq, K_eqs, Nat.reduceLT, K_ops, Nat.reduceEqDiff, K_nil, Then]
    (repeat' apply And.intro) <;> try (first | exact True.intro | omega)
    refine hK _ ?_
    clear hK K
    refine awp_keep [2] ?_
    simp only [keep_eqs, K_ops, Nat.reduceEqDiff, if_true, if_false]
    refine awp_ret ?_
    exact FinH_tok 2 (2 * m + 1) 1 rfl (dd_at _ _) (norefs_Bs _) ⟨rfl, rfl⟩

def encC (c : CavV) : List UInt8 := if c.third then V.join [(4, vb c.party), (5, c.id), (6, c.vault)] else V.join [(3, c.text)]
def encT (t : TokV) : List UInt8 := V.join [(1, vb t.key), (2, t.id)] ++ t.cavs.flatMap encC ++ V.join [(7, [if t.bound then 1 else 0]), (8, t.tag)]

theorem pnumber_ok [Gv] (n : Nat) (hn : n < 18446744073709551616) : ACalls Tryz.prog G0 105 [.val (.int .u64 (n : Int))] [] (fun r os => os = [] ∧ r = .val (.string ⟨(vb n).toArray⟩)) := by
  have cP := vput_ok [] .full n hn (by simp)
  rw [List.nil_append] at cP
  refine acalls_of_awp Tryz.func105 rfl rfl Tryz.ntmps105 (rts := #[9]) rfl Tryz.results105 (by simp) ?_
  simp only [argSlots, Nat.reduceAdd]
  refine awp_seq_k fun K hK => awp_region [] ?_
  simp only [qq, K_eqs, Nat.reduceLT, K_ops, cav, K_nil, Then]
  (repeat' apply And.intro) <;> try (first | exact True.intro | omega)
  refine hK _ ?_
  clear hK K
  refine awp_seq_k fun K hK => awp_region [] ?_
  simp only [qq, K_eqs, Nat.reduceLT, K_ops, reduceCtorEq, K_call, Nat.reduceAdd, cav, Nat.reduceEqDiff, K_clo, aviews, aview, norefs, ntok, noref]
  refine andC_eq (by simp [norefs_Bs, norefs, noref]) (cP) (by simp [noref, norefs, norefs_Bs, flat]) ?_
  simp only [qq, RestC_eqs, K_conv, Tryz.underlying9, aconvO, aview, K_ops, Nat.reduceEqDiff, reduceCtorEq, norefs_Bs, ntok, aconv, Tryz.underlying54, Tryz.underlying5, Bs_length, Bs_isByte, Bs_bytes, Nat.reduceLT, K_eqs, K_nil, Then]
  refine hK _ ?_
  clear hK K
  refine awp_keep [2] ?_
  simp only [keep_eqs, K_ops, Nat.reduceEqDiff, if_true, if_false]
  refine awp_ret ?_
  simp only [qq, K_fin, ares, aress, ares1, afin, K_ops, noref]

theorem pcav_ok [Gv] (c : CavV) (hs : smallC c) : ACalls Tryz.prog G0 106 [.agg (CA c)] [] (fun r os => os = [] ∧ r = .sl (encC c).length (Bs (encC c)) .no) := by
  obtain ⟨third, text, party, id, vault⟩ := c
  obtain ⟨ht, hi, hv, hp⟩ := hs
  simp only [CA, str] at *
  have hv10 := vb_len10 (n := party) hp
  have cN := pnumber_ok party hp
  have cJ1 := fjoin_ok [(3, text)] .full (by simp [bulk]; omega)
  have cJ2 := fjoin_ok [(4, vb party), (5, id), (6, vault)] .full (by simp [bulk]; omega)
  have hE : encC ⟨third, text, party, id, vault⟩ = if third then V.join [(4, vb party), (5, id), (6, vault)] else V.join [(3, text)] := rfl
  rw [hE]
  clear hE
  generalize V.join [(3, text)] = J1 at *
  generalize V.join [(4, vb party), (5, id), (6, vault)] = J2 at *
  generalize vb party = vp at *
  simp only [Fs, FA, List.flatMap_cons, List.flatMap_nil, List.append_nil, List.cons_append, List.nil_append, B, UInt8.reduceToNat, Int.cast_ofNat_Int] at cJ1 cJ2
  refine acalls_of_awp Tryz.func106 rfl rfl Tryz.ntmps106 (rts := #[54]) rfl Tryz.results106 (by simp) ?_
  simp only [argSlots, Nat.reduceAdd]
  refine awp_seq_k fun K hK => awp_region [] ?_
  simp only [qq, K_eqs, aboxF, acells, K_ops, List.all_cons, oneC, Value.oneCell', List.all_nil, abox, Nat.reduceLT, cav, K_nil, Then]
  (repeat' apply And.intro) <;> try (first | exact True.intro | omega)
  refine hK _ ?_
  clear hK K
  refine awp_keep [1] ?_
  simp only [keep_eqs, K_ops, Nat.reduceEqDiff, if_true, if_false]
  refine awp_seq_k fun K1 hK1 => ?_
  refine awp_seq_k fun K hK => awp_region [] ?_
  simp only [qq, K_eqs, afieldAddr, Tryz.underlying74, tszs, K_ops, ne_eq, reduceCtorEq, Nat.reduceLT, aload, Nat.reduceEqDiff, apart, isAggD, Tryz.underlying4, aun, K_nil, Then, Nat.reduceAdd]
  (repeat' apply And.intro) <;> try (first | exact True.intro | omega)
  refine hK _ ?_
  clear hK K
  cases third with
  | false =>
    refine awp_condT rfl ?_
    refine awp_keep [1] ?_
    simp only [keep_eqs, K_ops, Nat.reduceEqDiff, if_true, if_false]
    refine awp_seq_k fun K hK => awp_region [] ?_
    simp only [qq, K_eqs, afieldAddr, Tryz.underlying74, tszs, K_ops, ne_eq, reduceCtorEq, Nat.reduceLT, aload, Nat.reduceEqDiff, apart, isAggD, Tryz.underlying9, abuild, tzeros, Tryz.underlying124, tsfs, cav, aparts, afill, spl, acells, Nat.reduceAdd, Nat.reduceLeDiff, List.all_cons, oneC, Value.oneCell', List.all_nil, abuildOwn, Tryz.underlying186, zrep_1, Nat.zero_mul, Nat.reduceMul, abuildSlice, K_call, K_clo, aviews, aview, norefs_append, ntok, Bool.true_and, norefs, noref, List.getD_cons_succ, List.drop_nil]
    refine andC_eq (by simp [norefs_Bs, norefs, noref]) (cJ1) (by simp [noref, norefs, norefs_Bs, flat]) ?_
    simp only [qq, RestC_eqs, K_eqs, Nat.reduceLT, K_ops, Nat.reduceEqDiff, K_nil, Then]
    refine hK _ ?_
    clear hK K
    refine awp_keep [2] ?_
    simp only [keep_eqs, K_ops, Nat.reduceEqDiff, if_true, if_false]
    refine awp_ret ?_
    simp only [qq, Then, K_fin, ares, aress, ares1, afin, K_ops, norefs_Bs, ntok]
  | true =>
    refine awp_condF rfl (awp_skip (hK1 _ ?_))
    clear hK1 K1
    refine awp_keep [1] ?_
    simp only [keep_eqs, K_ops, Nat.reduceEqDiff, if_true, if_false]
    refine awp_seq_k fun K hK => ?_
    refine awp_draw [] (by kernel_rfl) (by kernel_rfl) ?_
    simp only [qq, K_eqs, afieldAddr, Tryz.underlying74, tszs, K_ops, ne_eq, reduceCtorEq, Nat.reduceLT, aload, Nat.reduceEqDiff, apart, isAggD, Tryz.underlying30, K_call, Nat.reduceAdd, K_clo, aviews, aview, ntok, List.headD_cons, List.getD_cons_succ, noref]
    refine andC_eq (by simp [norefs_Bs, norefs, noref]) (cN) (by simp [noref, norefs, norefs_Bs, flat]) ?_
    simp only [qq, RestC_eqs, K_eqs, abuild, tzeros, Tryz.underlying124, tsfs, cav, aparts, K_ops, Nat.reduceEqDiff, afill, spl, acells, Nat.reduceAdd, List.drop_nil, List.all_cons, oneC, Value.oneCell', List.all_nil, Nat.reduceLeDiff, Nat.reduceLT, afieldAddr, Tryz.underlying74, tszs, ne_eq, reduceCtorEq, aload, apart, isAggD, Tryz.underlying9, abuildOwn, Tryz.underlying186, zrep_3, Nat.reduceMul, Nat.zero_mul, abuildSlice, K_call, K_clo, aviews, aview, norefs_append, ntok, Bool.true_and, norefs, noref, List.getD_cons_succ]
    refine andC_eq (by simp [norefs_Bs, norefs, noref]) (cJ2) (by simp [noref, norefs, norefs_Bs, flat]) ?_
    simp only [qq, RestC_eqs, K_eqs, Nat.reduceLT, K_ops, Nat.reduceEqDiff, K_nil, Then]
    refine hK _ ?_
    clear hK K
    refine awp_keep [2] ?_
    simp only [keep_eqs, K_ops, Nat.reduceEqDiff, if_true, if_false]
    refine awp_ret ?_
    simp only [qq, K_fin, ares, aress, ares1, afin, K_ops, norefs_Bs, ntok]

theorem smallC_of [Gv] {t : TokV} (h : small t) {c : CavV} (hc : c ∈ t.cavs) : smallC c := ⟨(h.2.2.1 c hc).1, (h.2.2.1 c hc).2.1, (h.2.2.1 c hc).2.2, h.2.2.2.2.2 c hc⟩
theorem encC_len [Gv] (c : CavV) (h : smallC c) : (encC c).length ≤ 8000000 := by
  obtain ⟨ht, hi, hv, hp⟩ := h
  have hv10 := vb_len10 (n := c.party) hp
  unfold encC
  split
  · refine Nat.le_trans (join_len _ (by simp [bulk]; omega)) ?_
    simp [bulk]
    omega
  · refine Nat.le_trans (join_len _ (by simp [bulk]; omega)) ?_
    simp [bulk]
    omega
theorem encCs_len [Gv] (l : List CavV) (h : ∀ c ∈ l, smallC c) : (l.flatMap encC).length ≤ 8000000 * l.length := by
  induction l with
  | nil => simp
  | cons c l ih =>
    have h1 := encC_len c (h c (List.mem_cons_self ..))
    have h2 := ih fun d hd => h d (List.mem_cons_of_mem _ hd)
    rw [List.flatMap_cons, List.length_append, List.length_cons]
    omega

theorem pencode_ok [Gv] (t : TokV) (p : Perm) (hs : small t) (hp : (match p with | .tok _ => false | _ => true) = true) :
    ACalls Tryz.prog G0 49 [.agg (TA t p)] [] (fun r os => os = [] ∧ r = if okT t then .tup [.sl (encT t).length (Bs (encT t)) .no, .val (.int .i64 0)] else .tup [.sl 0 [] .full, .val (.int .i64 1)]) := by
  have hoc := TA_oneC t p
  have hlen := TA_length t p hs.2.2.2.1
  obtain ⟨g0, g1, g2, g3⟩ := TA_get t p
  have g4 := TA_tag t p
  have hnT := norefs_TA t p hp
  have cK := pcheck_ok t p hs hp
  have cN := pnumber_ok t.key hs.2.2.2.2.1
  have hv10 := vb_len10 (n := t.key) hs.2.2.2.2.1
  have cJ1 := fjoinT_ok [(1, vb t.key), (2, t.id)] .full (by have := hs.1; simp [bulk]; omega) (by simp)
  have cJ2 := fun b : Bool => fjoin_ok [(7, [if b then 1 else 0]), (8, t.tag)] .full (by have := hs.2.2.2.1; simp [bulk]; omega)
  have hj1 : (V.join [(1, vb t.key), (2, t.id)]).length ≤ 3000000 := by
    refine Nat.le_trans (join_len _ (by have := hs.1; simp [bulk]; omega)) ?_
    have := hs.1
    simp [bulk]
    omega
  have hj2 : ∀ b : Bool, (V.join [(7, [if b then 1 else 0]), (8, t.tag)]).length ≤ 3000000 := by
    intro b
    refine Nat.le_trans (join_len _ (by have := hs.2.2.2.1; simp [bulk]; omega)) ?_
    have := hs.2.2.2.1
    simp [bulk]
    omega
  have hE : encT t = V.join [(1, vb t.key), (2, t.id)] ++ t.cavs.flatMap encC ++ V.join [(7, [if t.bound then 1 else 0]), (8, t.tag)] := rfl
  have ht32 := hs.2.2.2.1
  simp only [Fs, FA, List.flatMap_cons, List.flatMap_nil, List.append_nil, List.cons_append, List.nil_append, B, UInt8.reduceToNat, Int.cast_ofNat_Int, List.length_cons, List.length_nil, Nat.reduceAdd] at cJ1 cJ2
  generalize hT : TA t p = T at *
  simp only [str] at g1
  have hTk : T.take 36 = T := List.take_of_length_le (by omega)
  refine acalls_of_awp Tryz.func49 rfl rfl Tryz.ntmps49 (rts := #[54,37]) rfl Tryz.results49 (by simp) ?_
  simp only [argSlots, Nat.reduceAdd]
  refine awp_seq_k fun K hK => awp_region [] ?_
  simp only [qq, K_eqs, aboxF, acells, K_ops, hoc, abox, Nat.reduceLT, cav, K_nil, Then]
  (repeat' apply And.intro) <;> try (first | exact True.intro | omega)
  refine hK _ ?_
  clear hK K
  refine awp_keep [1, 2, 3] ?_
  simp only [keep_eqs, K_ops, Nat.reduceEqDiff, if_true, if_false]
  refine awp_seq_k fun K1 hK1 => ?_
  refine awp_seq_k fun K hK => awp_region [] ?_
  simp only [qq, K_eqs, aload, K_ops, Nat.reduceEqDiff, apart, isAggD, Tryz.underlying67, tszs, hlen, hTk, Nat.reduceLT, K_call, Nat.reduceAdd, K_clo, aviews, aview, ntok, List.headD_cons, noref]
  refine andC_eq hnT cK rfl ?_
  simp only [qq, RestC_eqs, K_eqs, Nat.reduceLT, K_ops, Nat.reduceEqDiff, K_nil, Then]
  refine hK _ ?_
  clear hK K
  refine awp_keep [1, 4] ?_
  simp only [keep_eqs, K_ops, Nat.reduceEqDiff, if_true, if_false]
  refine awp_seq_k fun K hK => awp_region [] ?_
  simp only [qq, K_eqs, Nat.reduceLT, K_ops, Nat.reduceEqDiff, cav, K_binC, K_int, aint, K_nil, Then]
  (repeat' apply And.intro) <;> try (first | exact True.intro | omega)
  refine hK _ ?_
  clear hK K
  cases ho : okT t with
  | false =>
    refine awp_condT (by simp only [K_ops, lk]; simp [ho]) ?_
    refine awp_keep [4] ?_
    simp only [keep_eqs, K_ops, Nat.reduceEqDiff, if_true, if_false]
    refine awp_seq_k fun K hK => awp_region [] ?_
    simp only [qq, K_eqs, Nat.reduceLT, K_ops, cav, Nat.reduceEqDiff, K_nil, Then]
    (repeat' apply And.intro) <;> try (first | exact True.intro | omega)
    refine hK _ ?_
    clear hK K
    rw [if_neg (by simp)]
    refine awp_ret ?_
    simp only [qq, Then, K_fin, ares, aress, ares1, afin, K_ops, Nat.reduceEqDiff, norefs, ntok, noref]
  | true =>
  refine awp_condF (by simp only [K_ops, lk]; simp [ho]) (awp_skip (hK1 _ ?_))
  clear hK1 K1
  refine awp_keep [1] ?_
  simp only [keep_eqs, K_ops, Nat.reduceEqDiff, if_true, if_false]
  refine awp_seq_k fun K hK => ?_
  refine awp_draw [1000022] (by kernel_rfl) (by kernel_rfl) ?_
  simp only [qq, K_eqs, afieldAddr, Tryz.underlying67, tszs, K_ops, ne_eq, reduceCtorEq, Nat.reduceLT, aload, Nat.reduceEqDiff, List.contains_cons, Nat.reduceBEq, apart, isAggD, Tryz.underlying30, K_call, Nat.reduceAdd, K_clo, aviews, aview, ntok, List.headD_cons, hlen, g0, noref]
  refine andC_eq (by simp [norefs_Bs, norefs, noref]) (cN) (by simp [noref, norefs, norefs_Bs, flat]) ?_
  simp only [qq, RestC_eqs, K_eqs, abuild, tzeros, Tryz.underlying124, tsfs, cav, aparts, K_ops, Nat.reduceEqDiff, afill, spl, acells, Nat.reduceAdd, List.drop_nil, List.all_cons, oneC, Value.oneCell', List.all_nil, Nat.reduceLeDiff, Nat.reduceLT, afieldAddr, Tryz.underlying67, tszs, ne_eq, reduceCtorEq, aload, List.contains_cons, Nat.reduceBEq, apart, isAggD, Tryz.underlying9, abuildOwn, Tryz.underlying186, zrep_2, Nat.reduceMul, Nat.zero_mul, abuildSlice, K_call, beq_self_eq_true, K_clo, aviews, aview, norefs_append, ntok, Bool.true_and, hlen, g1]
  refine andH_tok (by simp [hviews, hview, noref, norefs, norefs_Bs, ntok]) cJ1 (norefs_Bs _) ?_
  simp only [qq, RestH_eqs, K_eqs, Nat.reduceLT, K_ops, Nat.reduceEqDiff, K_nil, Then]
  refine hK _ ?_
  clear hK K
  refine awp_keep [1, 5] ?_
  simp only [keep_eqs, K_ops, Nat.reduceEqDiff, if_true, if_false]
  rw [if_pos ho]
  rw [hE]
  generalize V.join [(1, vb t.key), (2, t.id)] = J1 at *
  refine awp_seq_k fun K1 hK1 => ?_
  refine awp_seq_k fun K hK => awp_region [] ?_
  simp only [qq, K_eqs, afieldAddr, Tryz.underlying67, tszs, K_ops, Nat.reduceEqDiff, ne_eq, reduceCtorEq, Nat.reduceLT, aload, apart, isAggD, Tryz.underlying65, abuiltin, amaplen, alen, cav, K_nil, Then, hlen, g2]
  (repeat' apply And.intro) <;> try (first | exact True.intro | omega)
  refine hK _ ?_
  clear hK K
  refine awp_keep [1, 5, 24, 25, 26] ?_
  simp only [keep_eqs, K_ops, Nat.reduceEqDiff, if_true, if_false]
  have hCl := CS_length t.cavs
  refine awp_block ?_
  refine awp_loop_from (fun i : Nat => ⟨47, [(1, .ptr 0 0), (5, .sl (J1 ++ (t.cavs.take i).flatMap encC).length (Bs (J1 ++ (t.cavs.take i).flatMap encC)) (.tok 1)), (24, .sl t.cavs.length (CS t.cavs) p), (25, .val (.int .i64 (t.cavs.length : Int))), (26, .val (.int .i64 (i : Int)))], .cells T :: .tok 1 (J1 ++ (t.cavs.take i).flatMap encC).length :: dd i⟩)
    (fun i => i ≤ t.cavs.length) (fun i => t.cavs.length - i) 0 (by omega) (by simp only [List.take_zero, List.flatMap_nil, List.append_nil]; exact .of_keep [1, 5, 24, 25, 26] rfl) ?_
  intro i hi
  refine awp_seq_k fun K hK => awp_region [] ?_
  simp only [qq, K_eqs, K_ops, Nat.reduceEqDiff, K_binC, K_int, aint, d_ltn, Nat.reduceLT, K_nil, Then]
  (repeat' apply And.intro) <;> try (first | exact True.intro | omega)
  refine hK _ ?_
  clear hK K
  refine awp_seq ?_
  refine awp_cond rfl rfl (fun hq => ?_) (fun hq => ?_)
  · have hlt : i < t.cavs.length := of_decide_eq_true hq
    refine awp_skip ?_
    simp only [Then]
    refine awp_keep [1, 5, 24, 25, 26] ?_
    simp only [keep_eqs, K_ops, Nat.reduceEqDiff, if_true, if_false]
    have hget := CS_get hlt (t.cavs[i])
    rw [List.getD_eq_getElem?_getD, List.getElem?_eq_getElem hlt] at hget
    simp only [Option.getD_some] at hget
    have hsm := smallC_of hs (List.getElem_mem hlt)
    have cC := pcav_ok t.cavs[i] hsm
    have hcl := encC_len t.cavs[i] hsm
    have htl := encCs_len (t.cavs.take i) (fun c hc => smallC_of hs (List.mem_of_mem_take hc))
    have hmx := hs.2.1
    rw [List.length_take, Nat.min_eq_left hi] at htl
    have hE1 : J1 ++ (t.cavs.take (i + 1)).flatMap encC = J1 ++ (t.cavs.take i).flatMap encC ++ encC t.cavs[i] := by
      rw [List.take_add_one, List.getElem?_eq_getElem hlt, List.flatMap_append, List.append_assoc]
      simp
    have hlA : (J1 ++ (t.cavs.take i).flatMap encC).length ≤ 3000000 + 8000000 * i := by rw [List.length_append]; omega
    generalize hA1 : J1 ++ (t.cavs.take (i + 1)).flatMap encC = A1 at *
    generalize J1 ++ (t.cavs.take i).flatMap encC = A at *
    generalize t.cavs[i] = c at *
    have hco := CA_oneC c
    have hcn := norefs_CA c
    have hc5 : (CA c).length = 5 := rfl
    generalize CA c = cs at *
    refine awp_seq ?_
    refine awp_block ?_
    refine awp_seq_k fun K hK => awp_region [] ?_
    simp only [qq, K_eqs, aidxAddr, K_ops, Nat.reduceEqDiff, Tryz.underlying65, tszs, hCl, Nat.reduceLT, Int.toNat_natCast, aload, apart, isAggD, Tryz.underlying74, aalloc, tzeros, dd_length, cav, K_store, astore, acells, spl, K_nil, Then, dd_at, Nat.reduceAdd, dd_set, List.length_drop, hget, hco, hc5, List.drop_nil]
    refine ⟨⟨by omega, by omega⟩, by omega, hK _ ?_⟩
    clear hK K
    refine awp_keep [1, 5, 7, 24, 25, 26] ?_
    simp only [keep_eqs, K_ops, Nat.reduceEqDiff, if_true, if_false]
    have hct : cs.take 5 = cs := List.take_of_length_le (by omega)
    refine awp_region [] ?_
    simp only [qq, K_eqs, Nat.reduceLT, K_ops, Nat.reduceEqDiff, aload, dd_at, apart, isAggD, Tryz.underlying74, tszs, hc5, hct, K_call, Nat.reduceAdd, K_clo, aviews, aview, ntok, List.headD_cons, noref]
    refine andC_eq hcn cC (by simp [noref, norefs_Bs]) ?_
    simp only [qq, RestC_eqs, K_eqs, abuiltin, K_ops, Nat.reduceEqDiff, aappend, Tryz.underlying54, tszs, tbys, tzeros, appSrc, srcCells, Bs_length, Nat.mul_one, Nat.reduceLT, Bs_one, K_nil]
    refine ⟨⟨by omega, by omega⟩, ?_⟩
    simp only [InBlock, Then]
    refine awp_dead (i + 2) ?_
    rw [← Bs_append, show A.length + (encC c).length = (A ++ encC c).length by simp, ← hE1]
    rw [List.set_cons_succ, List.set_cons_succ, dd_set, dd_kill]
    refine awp_keep [1, 5, 24, 25, 26] ?_
    simp only [keep_eqs, K_ops, Nat.reduceEqDiff, if_true, if_false]
    have h6 : IntKind.i64.wrap ((i + 1 : Nat) : Int) = ((i + 1 : Nat) : Int) := n_i64 (by omega)
    refine awp_region [] ?_
    simp only [qq, K_eqs, K_ops, Nat.reduceEqDiff, cav, K_binC, K_int, aint, n_add, h6, Nat.reduceLT, K_nil, Then]
    subst hA1
    exact ⟨i + 1, by omega, by omega, .of_keep [1, 5, 24, 25, 26] rfl⟩
  · have he : i = t.cavs.length := by have := of_decide_eq_false hq; omega
    subst he
    refine awp_exit ?_
    simp only [Then, InBlock, if_true]
    refine hK1 _ ?_
    clear hK1 K1
    have htl := encCs_len t.cavs (fun c hc => smallC_of hs hc)
    have hmx := hs.2.1
    rw [List.take_length]
    have hlA : (J1 ++ t.cavs.flatMap encC).length ≤ 3000000 + 8000000 * t.cavs.length := by rw [List.length_append]; omega
    generalize J1 ++ t.cavs.flatMap encC = A at *
    refine awp_keep [1, 5] ?_
    simp only [keep_eqs, K_ops, Nat.reduceEqDiff, if_true, if_false]
    refine awp_seq_k fun K hK => awp_region [] ?_
    simp only [qq, K_eqs, Nat.reduceLT, K_ops, cav, K_nil, Then]
    (repeat' apply And.intro) <;> try (first | exact True.intro | omega)
    refine hK _ ?_
    clear hK K
    refine awp_keep [1, 5, 8] ?_
    simp only [keep_eqs, K_ops, Nat.reduceEqDiff, if_true, if_false]
    refine awp_seq_k fun K2 hK2 => ?_
    refine awp_seq_k fun K hK => awp_region [] ?_
    simp only [qq, K_eqs, afieldAddr, Tryz.underlying67, tszs, K_ops, Nat.reduceEqDiff, ne_eq, reduceCtorEq, Nat.reduceLT, aload, apart, isAggD, Tryz.underlying4, K_nil, Then, hlen, g3]
    (repeat' apply And.intro) <;> try (first | exact True.intro | omega)
    refine hK _ ?_
    clear hK K
    have next : ∀ s, Weak G0 s ⟨47, [(1, .ptr 0 0), (5, .sl A.length (Bs A) (.tok 1)), (8, str [if t.bound then 1 else 0])], .cells T :: .tok 1 A.length :: dd t.cavs.length⟩ → K2 s := by
      intro s hw
      refine hK2 s (awp_weak hw ?_)
      clear hK2 K2 hw
      simp only [str]
      have cJ := cJ2 t.bound
      have hl2 := hj2 t.bound
      generalize (if t.bound then 1 else 0 : UInt8) = bb at *
      generalize V.join [(7, [bb]), (8, t.tag)] = J2 at *
      have hbl : (Bs t.tag).length = 32 := by rw [Bs_length, ht32]
      have hbt : (Bs t.tag).take 32 = Bs t.tag := List.take_of_length_le (by omega)
      refine awp_seq_k fun K hK => ?_
      refine awp_region [42] ?_
      simp only [qq, K_eqs, Nat.reduceLT, K_ops, Nat.reduceEqDiff, abuild, tzeros, Tryz.underlying124, tsfs, cav, aparts, afill, spl, acells, Nat.reduceAdd, List.drop_nil, List.all_cons, oneC, Value.oneCell', List.all_nil, Nat.reduceLeDiff, afieldAddr, Tryz.underlying67, tszs, ne_eq, reduceCtorEq, aslice, bopt, Option.map_none, Tryz.underlying23, lowOf, Int.le_refl, highOf, not_true_eq_false, or_false, Int.sub_zero, Int.toNat_natCast, Int.toNat_zero, Nat.zero_mul, sliceP, K_conv, Tryz.underlying9, List.contains_cons, beq_self_eq_true, aconvO, aview, ntok, Tryz.underlying54, aconv, Tryz.underlying5, Nat.reduceBEq, abuildOwn, Tryz.underlying186, zrep_2, Nat.reduceMul, abuildSlice, K_call, K_clo, aviews, norefs_append, Bool.true_and, norefs, noref, Int.cast_ofNat_Int, Int.reduceLE, Nat.mul_one, hlen, g4, hbt, norefs_Bs, hbl, Bs_isByte, Bs_bytes]
      refine andC_eq (by simp [norefs_Bs, norefs, noref]) (cJ) (by simp [noref, norefs, norefs_Bs, flat]) ?_
      simp only [qq, RestC_eqs, K_eqs, abuiltin, K_ops, Nat.reduceEqDiff, aappend, Tryz.underlying54, tszs, tbys, tzeros, appSrc, srcCells, Bs_length, Nat.mul_one, Nat.reduceLT, Bs_one, ← Bs_append, cav, K_nil, Then]
      refine ⟨by omega, hK _ ?_⟩
      clear hK K
      refine awp_noperm 2 rfl ?_
      refine awp_keep [2, 3] ?_
      simp only [keep_eqs, K_ops, Nat.reduceEqDiff, if_true, if_false]
      rw [show A.length + J2.length = (A ++ J2).length by simp]
      refine awp_ret ?_
      simp only [qq, K_fin, ares, aress, ares1, afin, K_ops, Nat.reduceEqDiff, norefs_Bs, ntok, noref]
    cases hbd : t.bound with
    | true =>
      refine awp_condT (by simp only [K_ops, lk]; simp [hbd]) ?_
      refine awp_keep [1, 5] ?_
      simp only [keep_eqs, K_ops, Nat.reduceEqDiff, if_true, if_false]
      refine awp_region [] ?_
      simp only [qq, K_eqs, Nat.reduceLT, K_ops, cav, K_nil, Then]
      rw [hbd] at next
      exact next _ (.of_keep [1, 5, 8] (by exact rfl))
    | false =>
      refine awp_condF (by simp only [K_ops, lk]; simp [hbd]) (awp_skip ?_)
      rw [hbd] at next
      exact next _ (.of_keep [1, 5, 8] (by exact rfl))
def notok : Perm → Bool
  | .tok _ => false
  | _ => true

theorem sclone_ok [Gv] (l : List CavV) (p : Perm) (hp : notok p = true) (hl : l.length ≤ 1000000) : ACalls Tryz.prog G0 133 [.sl l.length (CS l) p] [] (fun r os => os = [.tok 5 l.length] ∧ r = .sl l.length (CS l) (.tok 0)) := by
  have hCl := CS_length l
  have hnC := norefs_CS l
  have hoc : (CS l).all oneC = true := by
    rw [List.all_eq_true]
    intro x hx
    obtain ⟨c, _, hc⟩ := List.mem_flatMap.1 hx
    exact List.all_eq_true.1 (CA_oneC c) x hc
  have hnil : CS l = [] → l = [] := fun h => by rw [h] at hCl; simp only [List.length_nil] at hCl; exact List.length_eq_zero_iff.1 (by omega)
  have hcs : CS l = [] ∨ CS l ≠ [] := by cases CS l <;> simp
  refine acallsH_of_awp Tryz.func133 rfl rfl Tryz.ntmps133 (rts := #[65]) rfl Tryz.results133 (by simp) ?_
  simp only [argSlots, Nat.reduceAdd]
  refine awp_seq_k fun K hK => awp_region [] ?_
  simp only [qq, K_eqs, Nat.reduceLT, K_ops, cav, K_nil, Then]
  (repeat' apply And.intro) <;> try (first | exact True.intro | omega)
  refine hK _ ?_
  clear hK K
  refine awp_seq_k fun K1 hK1 => ?_
  refine awp_seq_k fun K hK => ?_
  refine awp_isnil (ht := Tryz.underlying65) (hs := rfl) (by omega) (by omega) fun b hb => hK _ ?_
  clear hK K
  cases b with
  | true =>
    refine awp_condT rfl ?_
    have h0 := hnil (hb rfl)
    subst h0
    refine awp_keep [0] ?_
    simp only [keep_eqs, K_ops, Nat.reduceEqDiff, if_true, if_false]
    refine awp_seq_k fun K hK => awp_region [] ?_
    simp only [qq, K_eqs, Nat.reduceLT, K_ops, cav, K_nil, Then]
    (repeat' apply And.intro) <;> try (first | exact True.intro | omega)
    refine hK _ ?_
    clear hK K
    refine awp_keep [2] ?_
    simp only [keep_eqs, K_ops, Nat.reduceEqDiff, if_true, if_false]
    refine awp_tok 5 2 rfl ?_
    refine awp_ret ?_
    exact FinH_tok 2 0 5 rfl rfl rfl ⟨rfl, rfl⟩
  | false =>
    refine awp_condF rfl (awp_skip (hK1 _ ?_))
    clear hK1 K1
    refine awp_keep [0] ?_
    simp only [keep_eqs, K_ops, Nat.reduceEqDiff, if_true, if_false]
    refine awp_seq_k fun K hK => awp_region [] ?_
    simp only [qq, K_eqs, abuildOwn, Tryz.underlying65, tszs, tzeros, zrep_0, aparts, afill, Nat.reduceAdd, Nat.zero_mul, Nat.reduceLeDiff, abuildSlice, K_ops, Nat.reduceLT, reduceCtorEq, abuiltin, Nat.reduceEqDiff, aappend, tbys, appSrc, srcCells, hCl, hoc, K_nil, Then]
    refine ⟨⟨by omega, by omega⟩, hK _ ?_⟩
    clear hK K
    refine awp_keep [2] ?_
    simp only [keep_eqs, K_ops, Nat.reduceEqDiff, if_true, if_false]
    refine awp_ret ?_
    exact FinH_tok 2 0 5 rfl rfl (norefs_CS _) ⟨rfl, rfl⟩

theorem rens_TA [Gv] (σ : Nat → Nat) (t : TokV) (r : Nat) : rens σ (TA t (.tok r)) = TA t (.tok (σ r)) := by
  have h1 := rens_noref σ _ (norefs_CS t.cavs)
  have h2 := rens_noref σ _ (norefs_Bs t.tag)
  unfold TA str
  rw [rens_map, List.map_append, ← rens_map, ← rens_map, h2]
  simp only [rens, ren, h1, renP]
theorem nps_TA [Gv] (t : TokV) (p : Perm) : nps (TA t p) = TA t (ntok p) := by
  have h1 := nps_noref _ (norefs_CS t.cavs)
  have h2 := nps_noref _ (norefs_Bs t.tag)
  unfold TA str
  rw [nps_append, h2]
  simp only [nps, np, h1]
theorem refs_TA [Gv] (p : Nat → Bool) (t : TokV) (r : Nat) (h : p r = true) : refs p (TA t (.tok r)) = true := by
  have h1 := refs_noref p _ (norefs_CS t.cavs)
  have h2 := refs_noref p _ (norefs_Bs t.tag)
  unfold TA str
  simp only [refs, ref, h1, h2, refP, h, Bool.and_true, Bool.true_and, List.cons_append, List.nil_append]

theorem pclone_ok [Gv] (t : TokV) (p : Perm) (hs : small t) (hp : notok p = true) :
    ACalls Tryz.prog G0 65 [.agg (TA t p)] [] (fun r os => os = [.tok 5 t.cavs.length] ∧ r = .agg (TA t (.tok 0))) := by
  have hoc := TA_oneC t p
  have hlen := TA_length t p hs.2.2.2.1
  obtain ⟨g0, g1, g2, g3⟩ := TA_get t p
  have hset : (TA t p).take 2 ++ [.sl t.cavs.length (CS t.cavs) (.tok 2)] ++ (TA t p).drop 3 = TA t (.tok 2) := rfl
  have cC := sclone_ok t.cavs (ntok p) (by cases p <;> rfl) hs.2.1
  generalize hT : TA t p = T at *
  refine acallsG_of_awp Tryz.func65 rfl rfl Tryz.ntmps65 (rts := #[67]) rfl Tryz.results65 (by simp) ?_
  simp only [argSlots, Nat.reduceAdd]
  refine awp_seq_k fun K hK => awp_region [] ?_
  simp only [qq, K_eqs, aboxF, acells, K_ops, hoc, abox, Nat.reduceLT, aalloc, tzeros, cav, K_nil, Then]
  (repeat' apply And.intro) <;> try (first | exact True.intro | omega)
  refine hK _ ?_
  clear hK K
  refine awp_keep [1, 2] ?_
  simp only [keep_eqs, K_ops, Nat.reduceEqDiff, if_true, if_false]
  refine awp_seq_k fun K hK => awp_region [1000005] ?_
  simp only [qq, K_eqs, afieldAddr, Tryz.underlying67, tszs, K_ops, Nat.reduceEqDiff, ne_eq, reduceCtorEq, Nat.reduceLT, aload, List.contains_cons, Nat.reduceBEq, apart, isAggD, Tryz.underlying65, K_call, Nat.reduceAdd, beq_self_eq_true, K_clo, aviews, aview, ntok, List.headD_cons, hlen, g2]
  refine andH_tok (by simp [hviews, hview, noref, norefs, norefs_Bs, ntok, norefs_CS]) cC (norefs_CS _) ?_
  simp only [qq, Nat.reduceAdd, RestH_eqs, K_eqs, afieldAddr, Tryz.underlying67, tszs, K_ops, Nat.reduceEqDiff, ne_eq, reduceCtorEq, Nat.reduceLT, K_store, astore, acells, List.all_cons, oneC, List.all_nil, spl, K_nil, Then, hlen, Nat.reduceLeDiff]
  refine hK _ ?_
  clear hK K
  have hl2 := TA_length t (.tok 2) hs.2.2.2.1
  have ho2 := TA_oneC t (.tok 2)
  have hr2 : rens (fun r => [2].idxOf r) (TA t (.tok 2)) = TA t (.tok 0) := rens_TA _ t 2
  have hf2 : ∀ p : Nat → Bool, p 2 = true → refs p (TA t (.tok 2)) = true := fun p h => refs_TA p t 2 h
  rw [hset]
  generalize TA t (.tok 0) = T0 at *
  generalize TA t (.tok 2) = T2 at *
  have ht2 : T2.take 36 = T2 := List.take_of_length_le (by omega)
  have hd2 : T2.drop 36 = [] := List.drop_eq_nil_of_le (by omega)
  refine awp_keep [1, 2] ?_
  simp only [keep_eqs, K_ops, Nat.reduceEqDiff, if_true, if_false]
  refine awp_seq_k fun K hK => awp_region [] ?_
  simp only [qq, K_eqs, aload, K_ops, Nat.reduceEqDiff, apart, isAggD, Tryz.underlying67, tszs, hl2, ht2, Nat.reduceLT, K_store, astore, acells, Nat.reduceAdd, spl, K_nil, Then, ho2, List.drop_nil]
  refine hK _ ?_
  clear hK K
  refine awp_keep [2] ?_
  simp only [keep_eqs, K_ops, Nat.reduceEqDiff, if_true, if_false]
  refine awp_ret ?_
  refine FinG_mk [2] ⟨by simp, by simp, by decide, by simp, by simp [refO]⟩ ?_
  simp only [qq, andO, aresN, aresNs, aresN1, aload, K_ops, apart, isAggD, Tryz.underlying67, tszs, hl2, ht2, List.contains_cons]
  exact ⟨hf2 _ rfl, rfl, by simp only [ren]; rw [hr2]⟩

theorem pcopy_ok [Gv] (t : TokV) (p : Perm) (hs : small t) (hp : notok p = true) :
    ACalls Tryz.prog G0 65 [.agg (TA t p)] [] (fun r os => os = [] ∧ r = .agg (TA t .no)) := by
  have hoc := TA_oneC t p
  have hlen := TA_length t p hs.2.2.2.1
  obtain ⟨g0, g1, g2, g3⟩ := TA_get t p
  have hset : (TA t p).take 2 ++ [.sl t.cavs.length (CS t.cavs) (.tok 2)] ++ (TA t p).drop 3 = TA t (.tok 2) := rfl
  have cC := sclone_ok t.cavs (ntok p) (by cases p <;> rfl) hs.2.1
  generalize hT : TA t p = T at *
  refine acalls_of_awp Tryz.func65 rfl rfl Tryz.ntmps65 (rts := #[67]) rfl Tryz.results65 (by simp) ?_
  simp only [argSlots, Nat.reduceAdd]
  refine awp_seq_k fun K hK => awp_region [] ?_
  simp only [qq, K_eqs, aboxF, acells, K_ops, hoc, abox, Nat.reduceLT, aalloc, tzeros, cav, K_nil, Then]
  (repeat' apply And.intro) <;> try (first | exact True.intro | omega)
  refine hK _ ?_
  clear hK K
  refine awp_keep [1, 2] ?_
  simp only [keep_eqs, K_ops, Nat.reduceEqDiff, if_true, if_false]
  refine awp_seq_k fun K hK => awp_region [1000005] ?_
  simp only [qq, K_eqs, afieldAddr, Tryz.underlying67, tszs, K_ops, Nat.reduceEqDiff, ne_eq, reduceCtorEq, Nat.reduceLT, aload, List.contains_cons, Nat.reduceBEq, apart, isAggD, Tryz.underlying65, K_call, Nat.reduceAdd, beq_self_eq_true, K_clo, aviews, aview, ntok, List.headD_cons, hlen, g2]
  refine andH_tok (by simp [hviews, hview, noref, norefs, norefs_Bs, ntok, norefs_CS]) cC (norefs_CS _) ?_
  simp only [qq, Nat.reduceAdd, RestH_eqs, K_eqs, afieldAddr, Tryz.underlying67, tszs, K_ops, Nat.reduceEqDiff, ne_eq, reduceCtorEq, Nat.reduceLT, K_store, astore, acells, List.all_cons, oneC, List.all_nil, spl, K_nil, Then, hlen, Nat.reduceLeDiff]
  refine hK _ ?_
  clear hK K
  rw [hset]
  refine awp_keep [1, 2] ?_
  simp only [keep_eqs, K_ops, Nat.reduceEqDiff, if_true, if_false]
  refine awp_np ?_
  have hnp : nps (TA t (.tok 2)) = TA t .no := nps_TA t (.tok 2)
  have hl2 := TA_length t .no hs.2.2.2.1
  have ho2 := TA_oneC t .no
  have hn2 := norefs_TA t .no rfl
  simp only [List.map_cons, List.map_nil, np, npO, nps, ntok, hnp]
  generalize TA t .no = T2 at *
  have ht2 : T2.take 36 = T2 := List.take_of_length_le (by omega)
  have hd2 : T2.drop 36 = [] := List.drop_eq_nil_of_le (by omega)
  refine awp_seq_k fun K hK => awp_region [] ?_
  simp only [qq, K_eqs, aload, K_ops, Nat.reduceEqDiff, apart, isAggD, Tryz.underlying67, tszs, hl2, ht2, Nat.reduceLT, K_store, astore, acells, Nat.reduceAdd, spl, K_nil, Then, ho2, List.drop_nil]
  refine hK _ ?_
  clear hK K
  refine awp_keep [2] ?_
  simp only [keep_eqs, K_ops, Nat.reduceEqDiff, if_true, if_false]
  refine awp_ret ?_
  simp only [qq, K_fin, ares, aress, ares1, aload, K_ops, apart, isAggD, Tryz.underlying67, tszs, hl2, ht2, afin, noref, hn2]

def startB (C : List Nat → List UInt8 → List Nat) (key : List UInt8) (n : Nat) (id : List UInt8) : List UInt8 := deriveB C key [109, 105, 110, 116] [be8 n 8, id]
def nextB (C : List Nat → List UInt8 → List Nat) (tag : List UInt8) (c : CavV) : List UInt8 := deriveB C tag [99, 97, 118, 101, 97, 116] [encC c]
theorem fin_cell23 [Gv] {Q : AV → List AObj → Prop} {nt : Nat} {s : List (Nat × AV)} {os : List AObj} {x r : Nat} {R : List UInt8} (h : lk s x = .ptr r 0) (ho : os[r]? = some (.cells (Bs R))) (hl : R.length = 32) (hq : Q (.agg (Bs R)) []) :
    V.Fin Tryz.prog [23] [.cell x 23] Q .ret ⟨nt, s, os⟩ := by
  have hsz : tsz Tryz.prog 23 = some 32 := by simp only [tszs]
  exact ⟨_, _, ares_cell h ho hsz (by rw [Tryz.underlying23]; rfl) (by rw [Bs_length, hl]), ⟨⟨by rw [Bs_length, hl]; omega, by simp [noref, norefs_Bs]⟩, trivial⟩, hq⟩

theorem cstart_ok [Gv] {C : List Nat → List UInt8 → List Nat} (hC : COk C) (key : List UInt8) (hk : key.length = 32) (n : Nat) (hn : n < 18446744073709551616) (id : List UInt8) (hi : id.length ≤ 200000) :
    ACalls Tryz.prog GP 63 [.agg (Bs key), .val (.int .u64 (n : Int)), str id] [] (fun r os => os = [] ∧ r = .agg (Bs (startB C key n id))) := by
  have cN := (number_ok n hn).g (G := GP)
  have cD := derive_ok hC key [109, 105, 110, 116] hk [be8 n 8, id] .full (by simp) (by simp [frameB, frame1, be8_length]; omega) (by simp)
  have hl := deriveB_length hC key [109, 105, 110, 116] [be8 n 8, id]
  unfold startB
  generalize deriveB C key [109, 105, 110, 116] [be8 n 8, id] = R at *
  have hb8 := be8_length n 8
  generalize be8 n 8 = n8 at *
  simp only [SS, List.map_cons, List.map_nil, List.length_cons, List.length_nil, Nat.reduceAdd] at cD
  have hkt : key.take 32 = key := List.take_of_length_le (by omega)
  have hkl : (Bs key).length = 32 := by rw [Bs_length]; omega
  have hRl : (Bs R).length = 32 := by rw [Bs_length]; omega
  simp only [str]
  refine acalls_of_awp Tryz.func63 rfl rfl Tryz.ntmps63 (rts := #[23]) rfl Tryz.results63 (by simp) ?_
  simp only [argSlots, Nat.reduceAdd]
  refine awp_seq_k fun K hK => awp_region [] ?_
  simp only [qq, K_eqs, aboxF, acells, K_ops, reduceCtorEq, Bs_one, abox, Nat.reduceLT, aalloc, tzeros, zvs_u8, K_nil, Then]
  (repeat' apply And.intro) <;> try (first | exact True.intro | omega)
  refine hK _ ?_
  clear hK K
  refine awp_keep [1, 2, 3, 6] ?_
  simp only [keep_eqs, K_ops, Nat.reduceEqDiff, if_true, if_false]
  refine awp_seq_k fun K hK => ?_
  refine awp_draw [] (by kernel_rfl) (by kernel_rfl) ?_
  simp only [qq, K_eqs, aload, K_ops, Nat.reduceEqDiff, apart, isAggD, Tryz.underlying23, tszs, hkl, Bs_take, hkt, Nat.reduceLT, K_call, Nat.reduceAdd, K_clo, aviews, aview, noref]
  refine andC_eq (by simp [norefs_Bs, norefs, noref]) (cN) (by simp [noref, norefs, norefs_Bs, flat]) ?_
  simp only [qq, RestC_eqs, K_conv, Tryz.underlying9, aconvO, aview, K_ops, Nat.reduceEqDiff, norefs_Bs, ntok, aconv, Tryz.underlying54, Tryz.underlying5, Bs_length, hb8, Bs_isByte, Bs_bytes, Nat.reduceLT, K_eqs, abuildOwn, Tryz.underlying43, tszs, tzeros, Nat.mul_one, zrep_2, cav, aparts, afill, spl, acells, Nat.reduceAdd, List.drop_nil, List.all_cons, oneC, Value.oneCell', List.all_nil, Nat.reduceLeDiff, abuildSlice, K_call, K_clo, aviews, noref, norefs]
  refine andC_eq (by simp [norefs, noref, norefs_Bs]) cD (by simp [noref, norefs_Bs]) ?_
  simp only [qq, RestC_eqs, K_store, astore, K_ops, Nat.reduceEqDiff, tszs, acells, Bs_one, hRl, Bs_length, Z_length, Nat.reduceLT, spl, Bs_drop, K_nil, Then]
  refine hK _ ?_
  clear hK K
  rw [show (Z 32).drop 32 = [] from List.drop_eq_nil_of_le (by rw [Z_length]; exact Nat.le_refl _), Bs_nil, List.append_nil]
  refine awp_keep [6] ?_
  simp only [keep_eqs, K_ops, Nat.reduceEqDiff, if_true, if_false]
  refine awp_ret ?_
  exact fin_cell23 rfl rfl hl ⟨rfl, rfl⟩

theorem cnext_ok [Gv] {C : List Nat → List UInt8 → List Nat} (hC : COk C) (tag : List UInt8) (hk : tag.length = 32) (c : CavV) (hc : smallC c) :
    ACalls Tryz.prog GP 66 [.agg (Bs tag), .agg (CA c)] [] (fun r os => os = [] ∧ r = .agg (Bs (nextB C tag c))) := by
  have cN := (pcav_ok c hc).g (G := GP)
  have hcl := encC_len c hc
  have cD := derive_ok hC tag [99, 97, 118, 101, 97, 116] hk [encC c] .full (by simp) (by simp [frameB, frame1, be8_length]; omega) (by simp)
  have hl := deriveB_length hC tag [99, 97, 118, 101, 97, 116] [encC c]
  unfold nextB
  generalize deriveB C tag [99, 97, 118, 101, 97, 116] [encC c] = R at *
  generalize encC c = e at *
  simp only [SS, List.map_cons, List.map_nil, List.length_cons, List.length_nil, Nat.reduceAdd] at cD
  have hkt : tag.take 32 = tag := List.take_of_length_le (by omega)
  have hkl : (Bs tag).length = 32 := by rw [Bs_length]; omega
  have hRl : (Bs R).length = 32 := by rw [Bs_length]; omega
  have ho := CA_oneC c
  have hcl : (CA c).length = 5 := rfl
  have hcn := norefs_CA c
  generalize CA c = cs at *
  have hct : cs.take 5 = cs := List.take_of_length_le (by omega)
  refine acalls_of_awp Tryz.func66 rfl rfl Tryz.ntmps66 (rts := #[23]) rfl Tryz.results66 (by simp) ?_
  simp only [argSlots, Nat.reduceAdd]
  refine awp_seq_k fun K hK => awp_region [] ?_
  simp only [qq, K_eqs, aboxF, acells, K_ops, reduceCtorEq, Bs_one, abox, Nat.reduceLT, Nat.reduceEqDiff, ho, aalloc, tzeros, Nat.reduceAdd, zvs_u8, K_nil, Then]
  (repeat' apply And.intro) <;> try (first | exact True.intro | omega)
  refine hK _ ?_
  clear hK K
  refine awp_keep [2, 3, 4] ?_
  simp only [keep_eqs, K_ops, Nat.reduceEqDiff, if_true, if_false]
  refine awp_seq_k fun K hK => ?_
  refine awp_draw [] (by kernel_rfl) (by kernel_rfl) ?_
  simp only [qq, K_eqs, aload, K_ops, Nat.reduceEqDiff, apart, isAggD, Tryz.underlying23, tszs, hkl, Bs_take, hkt, Nat.reduceLT, Tryz.underlying74, hcl, hct, K_call, Nat.reduceAdd, K_clo, aviews, aview, ntok, List.headD_cons, noref]
  refine andC_eq (by simp [norefs, noref, hcn]) cN (by simp [noref, norefs_Bs]) ?_
  simp only [qq, RestC_eqs, K_conv, Tryz.underlying9, aconvO, aview, K_ops, Nat.reduceEqDiff, norefs_Bs, ntok, aconv, Tryz.underlying54, Tryz.underlying5, Bs_length, Bs_isByte, Bs_bytes, Nat.reduceLT, K_eqs, abuildOwn, Tryz.underlying43, tszs, tzeros, Nat.mul_one, zrep_1, cav, aparts, afill, spl, acells, List.drop_nil, List.all_cons, oneC, Value.oneCell', List.all_nil, Nat.reduceLeDiff, Nat.reduceAdd, abuildSlice, K_call, K_clo, aviews, noref, norefs]
  refine andC_eq (by simp [norefs, noref, norefs_Bs]) cD (by simp [noref, norefs_Bs]) ?_
  simp only [qq, RestC_eqs, K_store, astore, K_ops, Nat.reduceEqDiff, tszs, acells, Bs_one, hRl, Bs_length, Z_length, Nat.reduceLT, spl, Bs_drop, K_nil, Then]
  refine hK _ ?_
  clear hK K
  rw [show (Z 32).drop 32 = [] from List.drop_eq_nil_of_le (by rw [Z_length]; exact Nat.le_refl _), Bs_nil, List.append_nil]
  refine awp_keep [4] ?_
  simp only [keep_eqs, K_ops, Nat.reduceEqDiff, if_true, if_false]
  refine awp_ret ?_
  exact fin_cell23 rfl rfl hl ⟨rfl, rfl⟩

def tagAt (C : List Nat → List UInt8 → List Nat) (t0 : List UInt8) (l : List CavV) : List UInt8 := l.foldl (nextB C) t0
theorem tagAt_take [Gv] (C : List Nat → List UInt8 → List Nat) (t0 : List UInt8) (l : List CavV) (i : Nat) (h : i < l.length) : tagAt C t0 (l.take (i + 1)) = nextB C (tagAt C t0 (l.take i)) l[i] := by
  unfold tagAt
  rw [List.take_add_one, List.getElem?_eq_getElem h, List.foldl_append]
  rfl
theorem tagAt_length [Gv] {C : List Nat → List UInt8 → List Nat} (hC : COk C) (t0 : List UInt8) (h0 : t0.length = 32) (l : List CavV) : (tagAt C t0 l).length = 32 := by
  induction l generalizing t0 with
  | nil => exact h0
  | cons c l ih => exact ih _ (deriveB_length hC _ _ _)
def tagsB (C : List Nat → List UInt8 → List Nat) (t0 : List UInt8) (l : List CavV) (i : Nat) : List UInt8 := (List.range (i + 1)).flatMap fun j => tagAt C t0 (l.take j)
theorem tagsB_succ [Gv] (C : List Nat → List UInt8 → List Nat) (t0 : List UInt8) (l : List CavV) (i : Nat) : tagsB C t0 l (i + 1) = tagsB C t0 l i ++ tagAt C t0 (l.take (i + 1)) := by
  unfold tagsB
  rw [List.range_succ, List.flatMap_append]
  simp
theorem tagsB_length [Gv] {C : List Nat → List UInt8 → List Nat} (hC : COk C) (t0 : List UInt8) (h0 : t0.length = 32) (l : List CavV) (i : Nat) : (tagsB C t0 l i).length = (i + 1) * 32 := by
  induction i with
  | zero => simpa [tagsB] using tagAt_length hC t0 h0 (l.take 0)
  | succ i ih => rw [tagsB_succ, List.length_append, ih, tagAt_length hC t0 h0]; omega
theorem tagsB_last [Gv] {C : List Nat → List UInt8 → List Nat} (hC : COk C) (t0 : List UInt8) (h0 : t0.length = 32) (l : List CavV) (i : Nat) : (tagsB C t0 l i).drop (i * 32) = tagAt C t0 (l.take i) := by
  cases i with
  | zero => simp [tagsB]
  | succ i =>
    rw [tagsB_succ, List.drop_append_of_le_length (by rw [tagsB_length hC t0 h0]; omega), List.drop_eq_nil_of_le (by rw [tagsB_length hC t0 h0]; omega)]
    rfl

theorem ctags_ok [Gv] {C : List Nat → List UInt8 → List Nat} (hC : COk C) (key : List UInt8) (hk : key.length = 32) (t : TokV) (p : Perm) (hs : small t) (hp : notok p = true) :
    ACalls Tryz.prog GP 72 [.agg (Bs key), .agg (TA t p)] [] (fun r os => os = [] ∧ r = .sl (t.cavs.length + 1) (Bs (tagsB C (startB C key t.key t.id) t.cavs t.cavs.length)) .no) := by
  have hoc := TA_oneC t p
  have hlen := TA_length t p hs.2.2.2.1
  obtain ⟨g0, g1, g2, g3⟩ := TA_get t p
  have cS := cstart_ok hC key hk t.key hs.2.2.2.2.1 t.id hs.1
  have hsl : (startB C key t.key t.id).length = 32 := deriveB_length hC _ _ _
  generalize startB C key t.key t.id = t0 at *
  generalize hT : TA t p = T at *
  simp only [str] at g1 cS
  have hkt : key.take 32 = key := List.take_of_length_le (by omega)
  have hkl : (Bs key).length = 32 := by rw [Bs_length]; omega
  have hbt : (Bs t0).length = 32 := by rw [Bs_length]; omega
  have hCl := CS_length t.cavs
  have ht1 : tagsB C t0 t.cavs 0 = t0 := by simp [tagsB, tagAt]
  refine acalls_of_awp Tryz.func72 rfl rfl Tryz.ntmps72 (rts := #[148]) rfl Tryz.results72 (by simp) ?_
  simp only [argSlots, Nat.reduceAdd]
  refine awp_seq_k fun K hK => awp_region [] ?_
  simp only [qq, K_eqs, aboxF, acells, K_ops, reduceCtorEq, Bs_one, abox, Nat.reduceLT, Nat.reduceEqDiff, hoc, cav, K_nil, Then]
  (repeat' apply And.intro) <;> try (first | exact True.intro | omega)
  refine hK _ ?_
  clear hK K
  refine awp_keep [2, 3, 4] ?_
  simp only [keep_eqs, K_ops, Nat.reduceEqDiff, if_true, if_false]
  refine awp_seq_k fun K hK => awp_region [] ?_
  simp only [qq, K_eqs, aload, K_ops, Nat.reduceEqDiff, apart, isAggD, Tryz.underlying23, tszs, hkl, Bs_take, hkt, Nat.reduceLT, afieldAddr, Tryz.underlying67, ne_eq, reduceCtorEq, Tryz.underlying30, Tryz.underlying9, K_call, Nat.reduceAdd, K_clo, aviews, aview, ntok, List.headD_cons, List.tail_cons, hlen, g1, noref, g0, norefs_Bs]
  refine andC_eq (by simp [norefs, noref, norefs_Bs]) cS (by simp [noref, norefs_Bs]) ?_
  simp only [qq, RestC_eqs, K_eqs, abuildOwn, Tryz.underlying148, tszs, tzeros, zrep_1, zvs_u8, aparts, K_ops, Nat.reduceEqDiff, afill, spl, Nat.zero_mul, acells, hbt, Bs_drop, Bs_length, Z_length, Bs_one, zvs_length, Nat.reduceMul, Nat.reduceLeDiff, Nat.reduceAdd, abuildSlice, Nat.reduceLT, K_nil, Then]
  rw [show (Z 32).drop 32 = [] from List.drop_eq_nil_of_le (by rw [Z_length]; exact Nat.le_refl _), Bs_nil, List.append_nil]
  refine hK _ ?_
  clear hK K
  refine awp_tok 32 5 rfl ?_
  refine awp_keep [3, 5] ?_
  simp only [keep_eqs, K_ops, Nat.reduceEqDiff, if_true, if_false]
  refine awp_seq_k fun K1 hK1 => ?_
  refine awp_seq_k fun K hK => awp_region [] ?_
  simp only [qq, Nat.reduceAdd, K_eqs, afieldAddr, Tryz.underlying67, tszs, K_ops, Nat.reduceEqDiff, ne_eq, reduceCtorEq, Nat.reduceLT, aload, apart, isAggD, Tryz.underlying65, abuiltin, amaplen, alen, cav, K_nil, Then, hlen, g2]
  (repeat' apply And.intro) <;> try (first | exact True.intro | omega)
  refine hK _ ?_
  clear hK K
  refine awp_keep [5, 16, 17, 18] ?_
  simp only [keep_eqs, K_ops, Nat.reduceEqDiff, if_true, if_false]
  rw [← ht1]
  refine awp_block ?_
  refine awp_loop_from (fun i : Nat => ⟨34, [(5, .sl (i + 1) (Bs (tagsB C t0 t.cavs i)) (.tok 2)), (16, .sl t.cavs.length (CS t.cavs) p), (17, .val (.int .i64 (t.cavs.length : Int))), (18, .val (.int .i64 (i : Int)))], .cells (Bs key) :: .cells T :: .tok 32 (i + 1) :: dd i⟩)
    (fun i => i ≤ t.cavs.length) (fun i => t.cavs.length - i) 0 (by omega) (.of_keep [5, 16, 17, 18] (by exact rfl)) ?_
  intro i hi
  refine awp_seq_k fun K hK => awp_region [] ?_
  simp only [qq, K_eqs, K_ops, Nat.reduceEqDiff, K_binC, K_int, aint, d_ltn, Nat.reduceLT, K_nil, Then]
  (repeat' apply And.intro) <;> try (first | exact True.intro | omega)
  refine hK _ ?_
  clear hK K
  refine awp_seq ?_
  refine awp_cond rfl rfl (fun hq => ?_) (fun hq => ?_)
  · have hlt : i < t.cavs.length := of_decide_eq_true hq
    refine awp_skip ?_
    simp only [Then]
    refine awp_keep [5, 16, 17, 18] ?_
    simp only [keep_eqs, K_ops, Nat.reduceEqDiff, if_true, if_false]
    have hget := CS_get hlt (t.cavs[i])
    rw [List.getD_eq_getElem?_getD, List.getElem?_eq_getElem hlt] at hget
    simp only [Option.getD_some] at hget
    have hsm := smallC_of hs (List.getElem_mem hlt)
    have hmx := hs.2.1
    have htl := tagsB_length hC t0 hsl t.cavs i
    have htl1 := tagsB_length hC t0 hsl t.cavs (i + 1)
    have hE1 := tagsB_succ C t0 t.cavs i
    rw [tagAt_take C t0 t.cavs i hlt] at hE1
    have hlast := tagsB_last hC t0 hsl t.cavs i
    have hal := tagAt_length hC t0 hsl (t.cavs.take i)
    have cX := cnext_ok hC (tagAt C t0 (t.cavs.take i)) hal t.cavs[i] hsm
    have hnl : (nextB C (tagAt C t0 (t.cavs.take i)) t.cavs[i]).length = 32 := deriveB_length hC _ _ _
    generalize nextB C (tagAt C t0 (t.cavs.take i)) t.cavs[i] = nx at *
    generalize tagAt C t0 (t.cavs.take i) = at' at *
    generalize hA1 : tagsB C t0 t.cavs (i + 1) = A1 at *
    generalize tagsB C t0 t.cavs i = A at *
    generalize t.cavs[i] = c at *
    have hco := CA_oneC c
    have hcn := norefs_CA c
    have hc5 : (CA c).length = 5 := rfl
    generalize CA c = cs at *
    have hct : cs.take 5 = cs := List.take_of_length_le (by omega)
    have hnb : (Bs nx).length = 32 := by rw [Bs_length]; omega
    refine awp_seq ?_
    refine awp_block ?_
    refine awp_seq_k fun K hK => awp_region [] ?_
    simp only [qq, K_eqs, Nat.reduceLT, K_ops, Nat.reduceEqDiff, aidxAddr, Tryz.underlying65, tszs, hCl, Int.toNat_natCast, aload, apart, isAggD, Tryz.underlying74, aalloc, tzeros, dd_length, cav, K_store, astore, acells, spl, K_nil, Then, dd_at, Nat.reduceAdd, dd_set, List.length_drop, hget, hco, hc5, List.drop_nil]
    refine ⟨⟨by omega, by omega⟩, by omega, hK _ ?_⟩
    clear hK K
    refine awp_keep [5, 6, 7, 16, 17, 18] ?_
    simp only [keep_eqs, K_ops, Nat.reduceEqDiff, if_true, if_false]
    have hat : at'.take 32 = at' := List.take_of_length_le (by omega)
    have hz : (Z 32).drop 32 = [] := List.drop_eq_nil_of_le (by rw [Z_length]; exact Nat.le_refl _)
    refine awp_draw [] (by kernel_rfl) (by kernel_rfl) ?_
    simp only [qq, K_eqs, Nat.reduceLT, K_ops, Nat.reduceEqDiff, aidxAddr, Tryz.underlying148, tszs, Bs_length, htl, Int.toNat_natCast, Bs_drop, hlast, aload, apart, isAggD, Tryz.underlying23, dd_at, Tryz.underlying74, hct, K_call, Nat.reduceAdd, K_clo, aviews, aview, ntok, List.headD_cons, List.tail_cons, noref, hal, Bs_take, hat, norefs_Bs]
    refine ⟨⟨by omega, by omega⟩, by omega, ?_⟩
    refine andC_eq hcn cX (by simp [noref, norefs_Bs]) ?_
    simp only [qq, RestC_eqs, K_eqs, abuildOwn, Tryz.underlying148, tszs, tzeros, zrep_1, zvs_u8, aparts, K_ops, Nat.reduceEqDiff, afill, spl, Nat.zero_mul, acells, hnb, Bs_drop, hz, Bs_nil, Bs_length, Z_length, Bs_one, zvs_length, Nat.reduceMul, Nat.reduceLeDiff, abuildSlice, Nat.reduceLT, abuiltin, aappend, tbys, appSrc, srcCells, htl, K_nil]
    refine ⟨⟨by omega, by omega⟩, ?_⟩
    simp only [InBlock, Then]
    refine awp_dead (i + 3) ?_
    rw [← Bs_append, ← hE1]
    rw [List.set_cons_succ, List.set_cons_succ, List.set_cons_succ, dd_set, dd_kill]
    refine awp_keep [5, 16, 17, 18] ?_
    simp only [keep_eqs, K_ops, Nat.reduceEqDiff, if_true, if_false]
    have h6 : IntKind.i64.wrap ((i + 1 : Nat) : Int) = ((i + 1 : Nat) : Int) := n_i64 (by omega)
    refine awp_region [] ?_
    simp only [qq, K_eqs, K_ops, Nat.reduceEqDiff, cav, K_binC, K_int, aint, n_add, h6, Nat.reduceLT, K_nil, Then]
    subst hA1
    exact ⟨i + 1, by omega, by omega, .of_keep [5, 16, 17, 18] rfl⟩
  · have he : i = t.cavs.length := by have := of_decide_eq_false hq; omega
    subst he
    refine awp_exit ?_
    simp only [Then, InBlock, if_true]
    refine hK1 _ ?_
    clear hK1 K1
    refine awp_noperm 5 rfl ?_
    refine awp_keep [5] ?_
    simp only [keep_eqs, K_ops, Nat.reduceEqDiff, if_true, if_false]
    refine awp_seq_k fun K hK => awp_region [] ?_
    simp only [qq, K_eqs, Nat.reduceLT, K_ops, Nat.reduceEqDiff, K_nil, Then]
    (repeat' apply And.intro) <;> try (first | exact True.intro | omega)
    refine hK _ ?_
    clear hK K
    refine awp_keep [4] ?_
    simp only [keep_eqs, K_ops, Nat.reduceEqDiff, if_true, if_false]
    refine awp_ret ?_
    simp only [qq, K_fin, ares, aress, ares1, afin, K_ops, norefs_Bs, ntok]
def zeroT : TokV := ⟨0, [], [], false, List.replicate 32 0⟩
theorem zeroT_lit [Gv] : ([.val (.int .u64 0), .val (.string ⟨#[]⟩), .sl 0 [] .full, .val (.bool false), .val (.int .u8 0), .val (.int .u8 0), .val (.int .u8 0), .val (.int .u8 0), .val (.int .u8 0), .val (.int .u8 0), .val (.int .u8 0), .val (.int .u8 0), .val (.int .u8 0), .val (.int .u8 0), .val (.int .u8 0), .val (.int .u8 0), .val (.int .u8 0), .val (.int .u8 0), .val (.int .u8 0), .val (.int .u8 0), .val (.int .u8 0), .val (.int .u8 0), .val (.int .u8 0), .val (.int .u8 0), .val (.int .u8 0), .val (.int .u8 0), .val (.int .u8 0), .val (.int .u8 0), .val (.int .u8 0), .val (.int .u8 0), .val (.int .u8 0), .val (.int .u8 0), .val (.int .u8 0), .val (.int .u8 0), .val (.int .u8 0), .val (.int .u8 0)] : List AV) = TA zeroT .full := rfl
def mintT (C : List Nat → List UInt8 → List Nat) (key : List UInt8) (n : Nat) (id : List UInt8) : TokV := ⟨n, id, [], false, startB C key n id⟩
theorem small_mintT [Gv] {C : List Nat → List UInt8 → List Nat} (hC : COk C) (key : List UInt8) (n : Nat) (hn : n < 18446744073709551616) (id : List UInt8) (hi : id.length ≤ 200000) : small (mintT C key n id) := by
  refine ⟨hi, by simp [mintT], by simp [mintT], deriveB_length hC _ _ _, hn, by simp [mintT]⟩

theorem cmint_ok [Gv] {C : List Nat → List UInt8 → List Nat} (hC : COk C) (key : List UInt8) (hk : key.length = 32) (n : Nat) (hn : n < 18446744073709551616) (id : List UInt8) (hi : id.length ≤ 200000) :
    ACalls Tryz.prog GP 25 [.agg (Bs key), .val (.int .u64 (n : Int)), str id] [] (fun r os => os = [] ∧ r = if okT (mintT C key n id) then .tup [.agg (TA (mintT C key n id) .full), .val (.int .i64 0)] else .tup [.agg (TA zeroT .full), .val (.int .i64 1)]) := by
  have cS := cstart_ok hC key hk n hn id hi
  have cK := (pcheck_ok (mintT C key n id) .full (small_mintT hC key n hn id hi) rfl).g (G := GP)
  have hlT := TA_length (mintT C key n id) .full (deriveB_length hC _ _ _)
  have hoT := TA_oneC (mintT C key n id) .full
  have hnT := norefs_TA (mintT C key n id) .full rfl
  have hT : TA (mintT C key n id) .full = [.val (.int .u64 (n : Int)), str id, .sl 0 [] .full, .val (.bool false)] ++ Bs (startB C key n id) := rfl
  have hsl : (startB C key n id).length = 32 := deriveB_length hC _ _ _
  have hz0 := zeroT_lit
  have hlz := TA_length zeroT .full (by simp [zeroT])
  have hoz := TA_oneC zeroT .full
  have hzt : (TA zeroT .full).take 36 = TA zeroT .full := List.take_of_length_le (Nat.le_of_eq hlz)
  have hnz := norefs_TA zeroT .full rfl
  have hbs : (Bs (startB C key n id)).length = 32 := by rw [Bs_length]; omega
  generalize okT (mintT C key n id) = ok at *
  generalize startB C key n id = s0 at *
  generalize TA (mintT C key n id) .full = T at *
  generalize TA zeroT .full = T0 at *
  simp only [str] at *
  have hkt : key.take 32 = key := List.take_of_length_le (by omega)
  have hTt : T.take 36 = T := List.take_of_length_le (by omega)
  have hTd : T.drop 36 = [] := List.drop_eq_nil_of_le (by omega)
  refine acalls_of_awp Tryz.func25 rfl rfl Tryz.ntmps25 (rts := #[67,37]) rfl Tryz.results25 (by simp) ?_
  simp only [argSlots, Nat.reduceAdd]
  refine awp_seq_k fun K hK => awp_region [] ?_
  simp only [qq, K_eqs, aboxF, acells, K_ops, reduceCtorEq, Bs_one, abox, Nat.reduceLT, aalloc, tzeros, cav, K_nil, Then]
  (repeat' apply And.intro) <;> try (first | exact True.intro | omega)
  refine hK _ ?_
  clear hK K
  refine awp_keep [1, 2, 3, 6, 7] ?_
  simp only [keep_eqs, K_ops, Nat.reduceEqDiff, if_true, if_false]
  refine awp_seq_k fun K hK => awp_region [] ?_
  simp only [qq, K_eqs, Nat.reduceLT, K_ops, Nat.reduceEqDiff, aload, apart, isAggD, Tryz.underlying23, tszs, Bs_length, hk, Bs_take, hkt, K_call, Nat.reduceAdd, K_clo, aviews, aview, ntok, List.headD_cons, noref, norefs_Bs]
  refine andC_eq (by simp [norefs, noref, norefs_Bs]) cS (by simp [noref, norefs_Bs]) ?_
  simp only [qq, RestC_eqs, K_eqs, abuild, tzeros, Tryz.underlying67, tsfs, cav, aparts, K_ops, Nat.reduceEqDiff, afill, spl, acells, Nat.reduceAdd, hbs, List.drop_nil, Bs_one, Nat.reduceLeDiff, List.all_cons, oneC, Value.oneCell', List.all_nil, Nat.reduceLT, aalloc, K_store, astore, tszs, K_nil, Then]
  refine hK _ ?_
  clear hK K
  simp only [List.cons_append, List.nil_append] at hT
  rw [← hT]
  refine awp_keep [6, 7, 8] ?_
  simp only [keep_eqs, K_ops, Nat.reduceEqDiff, if_true, if_false]
  refine awp_seq_k fun K1 hK1 => ?_
  refine awp_seq_k fun K hK => awp_region [] ?_
  simp only [qq, K_eqs, aload, K_ops, Nat.reduceEqDiff, apart, isAggD, Tryz.underlying67, tszs, hlT, hTt, Nat.reduceLT, K_call, Nat.reduceAdd, K_clo, aviews, aview, ntok, List.headD_cons, noref]
  refine andC_eq hnT cK rfl ?_
  simp only [qq, RestC_eqs, K_eqs, Nat.reduceLT, K_ops, Nat.reduceEqDiff, K_nil, Then]
  refine hK _ ?_
  clear hK K
  refine awp_keep [6, 7, 8, 9] ?_
  simp only [keep_eqs, K_ops, Nat.reduceEqDiff, if_true, if_false]
  refine awp_seq_k fun K hK => awp_region [] ?_
  simp only [qq, K_eqs, Nat.reduceLT, K_ops, Nat.reduceEqDiff, cav, K_binC, K_int, aint, K_nil, Then]
  (repeat' apply And.intro) <;> try (first | exact True.intro | omega)
  refine hK _ ?_
  clear hK K
  cases ok with
  | true =>
    refine awp_condF rfl (awp_skip (hK1 _ ?_))
    clear hK1 K1
    refine awp_keep [6, 8] ?_
    simp only [keep_eqs, K_ops, Nat.reduceEqDiff, if_true, if_false]
    refine awp_seq_k fun K hK => awp_region [] ?_
    simp only [qq, K_eqs, aload, K_ops, Nat.reduceEqDiff, apart, isAggD, Tryz.underlying67, tszs, hlT, hTt, Nat.reduceLT, K_store, astore, acells, Nat.reduceAdd, spl, cav, K_nil, Then, hoT, List.drop_nil]
    refine hK _ ?_
    clear hK K
    refine awp_keep [6, 7] ?_
    simp only [keep_eqs, K_ops, Nat.reduceEqDiff, if_true, if_false]
    refine awp_ret ?_
    simp only [qq, K_fin, ares, aress, ares1, aload, K_ops, Nat.reduceEqDiff, apart, isAggD, Tryz.underlying67, tszs, hlT, hTt, afin, noref, hnT]
  | false =>
    refine awp_condT rfl ?_
    refine awp_keep [6, 9] ?_
    simp only [keep_eqs, K_ops, Nat.reduceEqDiff, if_true, if_false]
    refine awp_seq_k fun K hK => awp_region [] ?_
    simp only [qq, K_eqs, abuild, tzeros, Tryz.underlying67, tsfs, cav, aparts, afill, Nat.reduceLT, K_ops, Nat.reduceEqDiff, K_store, astore, tszs, acells, Nat.reduceAdd, spl, K_nil, Then, List.all_cons, oneC, Value.oneCell', List.all_nil, List.drop_nil]
    refine hK _ ?_
    clear hK K
    refine awp_keep [6, 7] ?_
    simp only [keep_eqs, K_ops, Nat.reduceEqDiff, if_true, if_false]
    simp only [hz0]
    refine awp_ret ?_
    simp only [qq, Then, K_fin, ares, aress, ares1, aload, K_ops, Nat.reduceEqDiff, apart, isAggD, Tryz.underlying67, tszs, hlz, hzt, afin, noref, hnz]

def addT (C : List Nat → List UInt8 → List Nat) (t : TokV) (c : CavV) : TokV := { t with cavs := t.cavs ++ [c], tag := nextB C t.tag c }
theorem CS_append [Gv] (a b : List CavV) : CS (a ++ b) = CS a ++ CS b := List.flatMap_append
theorem CS_one [Gv] (c : CavV) : CS [c] = CA c := by simp [CS]

theorem cadd_ok [Gv] {C : List Nat → List UInt8 → List Nat} (hC : COk C) (t : TokV) (p : Perm) (hs : small t) (hp : notok p = true) (hb : t.bound = false) (c : CavV) (hc : smallC c) (hs' : small (addT C t c)) :
    ACalls Tryz.prog GP 26 [.agg (TA t p), .agg (CA c)] [] (fun r os => os = [] ∧ r = if okT (addT C t c) then .tup [.agg (TA (addT C t c) .no), .val (.int .i64 0)] else .tup [.agg (TA zeroT .full), .val (.int .i64 1)]) := by
  have hoc := TA_oneC t p
  have hlen := TA_length t p hs.2.2.2.1
  have hnT := norefs_TA t p (by cases p <;> simp_all [notok])
  obtain ⟨g0, g1, g2, g3⟩ := TA_get t p
  rw [hb] at g3
  have g4 := TA_tag t p
  have cC := (pclone_ok t p hs hp).g (G := GP)
  have cN := cnext_ok hC t.tag hs.2.2.2.1 c hc
  have cK := (pcheck_ok (addT C t c) .no hs' rfl).g (G := GP)
  have hz0 := zeroT_lit
  have hlz := TA_length zeroT .full (by simp [zeroT])
  have hoz := TA_oneC zeroT .full
  have hzt : (TA zeroT .full).take 36 = TA zeroT .full := List.take_of_length_le (Nat.le_of_eq hlz)
  have hnz := norefs_TA zeroT .full rfl
  have hco := CA_oneC c
  have hcn := norefs_CA c
  have hc5 : (CA c).length = 5 := rfl
  have hct : (CA c).take 5 = CA c := List.take_of_length_le (by omega)
  have hTt : (TA t p).take 36 = TA t p := List.take_of_length_le (by omega)
  have hr0 : ∀ σ, rens σ (TA t (.tok 0)) = TA t (.tok (σ 0)) := fun σ => rens_TA σ t 0
  have hf0 : ∀ q : Nat → Bool, q 0 = true → refs q (TA t (.tok 0)) = true := fun q h => refs_TA q t 0 h
  have hfin : (TA (addT C t c) .no) = [.val (.int .u64 (t.key : Int)), str t.id, .sl (t.cavs.length + 1) (CS t.cavs ++ CA c) .no, .val (.bool t.bound)] ++ Bs (nextB C t.tag c) := by
    rw [← CS_one c, ← CS_append]
    simp [TA, addT]
  have hnl : (nextB C t.tag c).length = 32 := deriveB_length hC _ _ _
  have hmid : ∀ r, TA t (.tok r) = [.val (.int .u64 (t.key : Int)), str t.id, .sl t.cavs.length (CS t.cavs) (.tok r), .val (.bool t.bound)] ++ Bs t.tag := fun r => rfl
  have ht32 := hs.2.2.2.1
  generalize okT (addT C t c) = ok at *
  generalize TA zeroT .full = T0 at *
  refine acalls_of_awp Tryz.func26 rfl rfl Tryz.ntmps26 (rts := #[67,37]) rfl Tryz.results26 (by simp) ?_
  simp only [argSlots, Nat.reduceAdd]
  refine awp_seq_k fun K hK => awp_region [] ?_
  simp only [qq, K_eqs, aboxF, acells, K_ops, reduceCtorEq, hoc, abox, Nat.reduceLT, Nat.reduceEqDiff, hco, aalloc, tzeros, Nat.reduceAdd, cav, K_nil, Then]
  (repeat' apply And.intro) <;> try (first | exact True.intro | omega)
  refine hK _ ?_
  clear hK K
  refine awp_keep [2, 3, 4, 5] ?_
  simp only [keep_eqs, K_ops, Nat.reduceEqDiff, if_true, if_false]
  rw [hz0]
  refine awp_seq_k fun K1 hK1 => ?_
  refine awp_seq_k fun K hK => awp_region [] ?_
  simp only [qq, K_eqs, afieldAddr, Tryz.underlying67, tszs, K_ops, Nat.reduceEqDiff, ne_eq, reduceCtorEq, Nat.reduceLT, aload, apart, isAggD, Tryz.underlying4, K_nil, Then, hlen, g3]
  (repeat' apply And.intro) <;> try (first | exact True.intro | omega)
  refine hK _ ?_
  clear hK K
  refine awp_condF rfl (awp_skip (hK1 _ ?_))
  clear hK1 K1
  refine awp_keep [2, 3, 4, 5] ?_
  simp only [keep_eqs, K_ops, Nat.reduceEqDiff, if_true, if_false]
  refine awp_seq_k fun K hK => awp_region [1000012] ?_
  simp only [qq, K_eqs, aload, K_ops, Nat.reduceEqDiff, List.contains_cons, Nat.reduceBEq, apart, isAggD, Tryz.underlying67, tszs, hlen, hTt, Nat.reduceLT, K_call, Nat.reduceAdd, beq_self_eq_true, K_clo, aviews, aview, ntok, List.headD_cons]
  refine andH_new1 [67] (C := True ∧ True) (by simp [gviews, gview, refs_noref _ _ hnT, rens_noref _ _ hnT]) ⟨trivial, trivial⟩ cC (hf0 _ rfl) ?_
  have hl3 := TA_length t (.tok 3) hs.2.2.2.1
  have ho3 := TA_oneC t (.tok 3)
  have hd3 : ∀ l : List AV, l.length = 36 → l.drop 36 = [] := fun l h => List.drop_eq_nil_of_le (by omega)
  simp only [qq, ren, Nat.reduceAdd, hr0, RestH_eqs, K_eqs, aalloc, tzeros, cav, Nat.reduceLT, K_store, astore, K_ops, Nat.reduceEqDiff, tszs, acells, ho3, hl3, spl, K_nil, Then, List.drop_nil]
  refine hK _ ?_
  clear hK K
  refine awp_keep [2, 3, 4, 5, 6] ?_
  simp only [keep_eqs, K_ops, Nat.reduceEqDiff, if_true, if_false]
  have g32 : (TA t (.tok 3)).getD 2 .top = .sl t.cavs.length (CS t.cavs) (.tok 3) := rfl
  have hs4 : ∀ x, (TA t (.tok 3)).take 2 ++ [x] ++ (TA t (.tok 3)).drop 3 = [.val (.int .u64 (t.key : Int)), str t.id, x, .val (.bool t.bound)] ++ Bs t.tag := fun x => rfl
  have hCl := CS_length t.cavs
  have hmx := hs.2.1
  refine awp_seq_k fun K hK => awp_region [] ?_
  simp only [qq, K_eqs, afieldAddr, Tryz.underlying67, tszs, K_ops, Nat.reduceEqDiff, ne_eq, reduceCtorEq, Nat.reduceLT, aload, apart, isAggD, Tryz.underlying65, Tryz.underlying74, hc5, hct, abuildOwn, tzeros, zrep_1, cav, aparts, afill, spl, Nat.zero_mul, acells, Nat.reduceAdd, Nat.reduceMul, Nat.reduceLeDiff, abuildSlice, abuiltin, aappend, tbys, appSrc, srcCells, K_store, astore, K_nil, Then, hco, List.drop_nil, hl3, g32, hCl, List.all_cons, oneC, List.all_nil]
  rw [hs4]
  refine ⟨⟨by omega, by omega⟩, hK _ ?_⟩
  clear hK K
  refine awp_keep [2, 3, 4, 5, 6] ?_
  simp only [keep_eqs, K_ops, Nat.reduceEqDiff, if_true, if_false]
  obtain ⟨T4, hT4⟩ : ∃ T4 : List AV, T4 = [.val (.int .u64 (t.key : Int)), str t.id, .sl (t.cavs.length + 1) (CS t.cavs ++ CA c) (.tok 3), .val (.bool t.bound)] ++ Bs t.tag := ⟨_, rfl⟩
  rw [← hT4]
  have hl4 : T4.length = 36 := by rw [hT4]; simp [Bs_length, ht32]
  have hs5 : ∀ x, T4.take 4 ++ x ++ T4.drop 36 = [.val (.int .u64 (t.key : Int)), str t.id, .sl (t.cavs.length + 1) (CS t.cavs ++ CA c) (.tok 3), .val (.bool t.bound)] ++ x := by
    intro x
    rw [hd3 _ hl4, hT4]
    simp
  have hbt : (Bs t.tag).take 32 = Bs t.tag := List.take_of_length_le (by rw [Bs_length]; omega)
  have htt : t.tag.take 32 = t.tag := List.take_of_length_le (by omega)
  have hbl : (Bs (nextB C t.tag c)).length = 32 := by rw [Bs_length]; omega
  have hbo : (Bs (nextB C t.tag c)).all oneC = true := by
    rw [List.all_eq_true]
    intro x hx
    obtain ⟨z, _, rfl⟩ := List.mem_map.1 hx
    rfl
  generalize nextB C t.tag c = nx at *
  refine awp_seq_k fun K hK => awp_region [] ?_
  simp only [qq, K_eqs, afieldAddr, Tryz.underlying67, tszs, K_ops, Nat.reduceEqDiff, ne_eq, reduceCtorEq, Nat.reduceLT, aload, apart, isAggD, Tryz.underlying23, Tryz.underlying74, hc5, hct, K_call, Nat.reduceAdd, K_clo, aviews, aview, ntok, List.headD_cons, List.tail_cons, noref, hlen, g4, hbt, norefs_Bs]
  refine andC_eq (by simp [noref, hcn]) cN (by simp [noref, norefs_Bs]) ?_
  simp only [qq, RestC_eqs, K_eqs, afieldAddr, Tryz.underlying67, tszs, K_ops, Nat.reduceEqDiff, ne_eq, reduceCtorEq, Nat.reduceLT, K_store, astore, acells, hbo, hbl, spl, K_nil, Then, Nat.reduceAdd, hl4]
  refine hK _ ?_
  clear hK K
  rw [hs5]
  refine awp_keep [4, 6] ?_
  simp only [keep_eqs, K_ops, Nat.reduceEqDiff, if_true, if_false]
  refine awp_np ?_
  have hnp5 : nps ([.val (.int .u64 (t.key : Int)), str t.id, .sl (t.cavs.length + 1) (CS t.cavs ++ CA c) (.tok 3), .val (.bool t.bound)] ++ Bs nx) = TA (addT C t c) .no := by
    rw [hfin, nps_append, nps_noref _ (norefs_Bs nx)]
    simp only [nps, np, str, ntok, nps_append, nps_noref _ (norefs_CS t.cavs), nps_noref _ hcn]
  simp only [List.map_cons, List.map_nil, np, npO, nps_noref _ hnT, nps_noref _ hcn, nps_noref _ hnz, hnp5]
  clear hs5 hT4 hnp5 hfin hl4 T4
  have hl6 := TA_length (addT C t c) .no hs'.2.2.2.1
  have ho6 := TA_oneC (addT C t c) .no
  have hn6 := norefs_TA (addT C t c) .no rfl
  generalize TA (addT C t c) .no = T6 at *
  have ht6 : T6.take 36 = T6 := List.take_of_length_le (by omega)
  have hd6 : T6.drop 36 = [] := List.drop_eq_nil_of_le (by omega)
  refine awp_seq_k fun K1 hK1 => ?_
  refine awp_seq_k fun K hK => awp_region [] ?_
  simp only [qq, K_eqs, aload, K_ops, Nat.reduceEqDiff, apart, isAggD, Tryz.underlying67, tszs, hl6, ht6, Nat.reduceLT, K_call, Nat.reduceAdd, K_clo, aviews, aview, ntok, List.headD_cons, noref]
  refine andC_eq hn6 cK rfl ?_
  simp only [qq, RestC_eqs, K_eqs, Nat.reduceLT, K_ops, Nat.reduceEqDiff, K_nil, Then]
  refine hK _ ?_
  clear hK K
  refine awp_keep [4, 6, 7] ?_
  simp only [keep_eqs, K_ops, Nat.reduceEqDiff, if_true, if_false]
  refine awp_seq_k fun K hK => awp_region [] ?_
  simp only [qq, K_eqs, Nat.reduceLT, K_ops, Nat.reduceEqDiff, cav, K_binC, K_int, aint, K_nil, Then]
  (repeat' apply And.intro) <;> try (first | exact True.intro | omega)
  refine hK _ ?_
  clear hK K
  cases ok with
  | true =>
    refine awp_condF rfl (awp_skip (hK1 _ ?_))
    clear hK1 K1
    refine awp_keep [4, 6] ?_
    simp only [keep_eqs, K_ops, Nat.reduceEqDiff, if_true, if_false]
    refine awp_seq_k fun K hK => awp_region [] ?_
    simp only [qq, K_eqs, aload, K_ops, Nat.reduceEqDiff, apart, isAggD, Tryz.underlying67, tszs, hl6, ht6, Nat.reduceLT, K_store, astore, acells, hlz, spl, cav, K_nil, Then, ho6, hd3 _ hlz]
    refine hK _ ?_
    clear hK K
    refine awp_keep [4, 5] ?_
    simp only [keep_eqs, K_ops, Nat.reduceEqDiff, if_true, if_false]
    refine awp_ret ?_
    simp only [qq, K_fin, ares, aress, ares1, aload, K_ops, Nat.reduceEqDiff, apart, isAggD, Tryz.underlying67, tszs, hl6, ht6, afin, noref, hn6]
  | false =>
    refine awp_condT rfl ?_
    refine awp_keep [4, 7] ?_
    simp only [keep_eqs, K_ops, Nat.reduceEqDiff, if_true, if_false]
    refine awp_seq_k fun K hK => awp_region [] ?_
    simp only [qq, K_eqs, abuild, tzeros, Tryz.underlying67, tsfs, cav, aparts, afill, Nat.reduceLT, K_ops, Nat.reduceEqDiff, K_store, astore, tszs, acells, hlz, spl, K_nil, Then, List.all_cons, oneC, Value.oneCell', List.all_nil, Nat.reduceAdd, hd3 _ hlz]
    refine hK _ ?_
    clear hK K
    refine awp_keep [4, 5] ?_
    simp only [keep_eqs, K_ops, Nat.reduceEqDiff, if_true, if_false]
    simp only [hz0]
    refine awp_ret ?_
    simp only [qq, Then, K_fin, ares, aress, ares1, aload, K_ops, Nat.reduceEqDiff, apart, isAggD, Tryz.underlying67, tszs, hlz, hzt, afin, noref, hnz]

def textC (s : List UInt8) : CavV := ⟨false, s, 0, [], []⟩

theorem catt_ok [Gv] {C : List Nat → List UInt8 → List Nat} (hC : COk C) (t : TokV) (p : Perm) (hs : small t) (hp : notok p = true) (hb : t.bound = false) (text : List UInt8) (ht : text.length ≤ 200000) (hs' : small (addT C t (textC text)))
    (PR : List AV) (hPl : PR.length = 23) (hPo : PR.all oneC = true) (hPn : norefs PR = true) (hP : ACalls Tryz.prog GP 24 [str text] [] (fun r os => os = [] ∧ r = .tup [.agg PR, .val (.bool true)])) :
    ACalls Tryz.prog GP 158 [.agg (TA t p), str text] [] (fun r os => os = [] ∧ r = if okT (addT C t (textC text)) then .tup [.agg (TA (addT C t (textC text)) .no), .val (.int .i64 0)] else .tup [.agg (TA zeroT .full), .val (.int .i64 1)]) := by
  have hoc := TA_oneC t p
  have hlen := TA_length t p hs.2.2.2.1
  have hnT := norefs_TA t p (by cases p <;> simp_all [notok])
  have hTt : (TA t p).take 36 = TA t p := List.take_of_length_le (by omega)
  obtain ⟨g0, g1, g2, g3⟩ := TA_get t p
  rw [hb] at g3
  have cA := cadd_ok hC t p hs hp hb (textC text) ⟨ht, by simp [textC], by simp [textC], by simp [textC]⟩ hs'
  have hca : CA (textC text) = [.val (.bool false), .val (.string ⟨text.toArray⟩), .val (.int .u64 0), .val (.string ⟨#[]⟩), .val (.string ⟨#[]⟩)] := rfl
  rw [hca] at cA
  simp only [str] at *
  have hz0 := zeroT_lit
  have hlz := TA_length zeroT .full (by simp [zeroT])
  have hl6 := TA_length (addT C t (textC text)) .no hs'.2.2.2.1
  have ho6 := TA_oneC (addT C t (textC text)) .no
  have hn6 := norefs_TA (addT C t (textC text)) .no rfl
  have hoz := TA_oneC zeroT .full
  have hnz := norefs_TA zeroT .full rfl
  generalize okT (addT C t (textC text)) = ok at *
  generalize TA (addT C t (textC text)) .no = T6 at *
  generalize TA t p = T at *
  generalize TA zeroT .full = T0 at *
  obtain ⟨V, e, hV, cA', hVl, hVo, hVn⟩ : ∃ V e, (if ok then AV.tup [.agg T6, .val (.int .i64 0)] else .tup [.agg T0, .val (.int .i64 1)]) = .tup [.agg V, .val (.int .i64 e)] ∧ ACalls Tryz.prog GP 26 [.agg T, .agg [.val (.bool false), .val (.string ⟨text.toArray⟩), .val (.int .u64 0), .val (.string ⟨#[]⟩), .val (.string ⟨#[]⟩)]] [] (fun r os => os = [] ∧ r = .tup [.agg V, .val (.int .i64 e)]) ∧ V.length = 36 ∧ V.all oneC = true ∧ norefs V = true := by
    cases ok with
    | true => exact ⟨T6, 0, rfl, cA, hl6, ho6, hn6⟩
    | false => exact ⟨T0, 1, rfl, cA, hlz, hoz, hnz⟩
  rw [hV]
  clear cA hV
  have hVt : V.take 36 = V := List.take_of_length_le (by omega)
  have hd3 : ∀ l : List AV, l.length = 36 → l.drop 36 = [] := fun l h => List.drop_eq_nil_of_le (by omega)
  refine acalls_of_awp Tryz.func158 rfl rfl Tryz.ntmps158 (rts := #[67,37]) rfl Tryz.results158 (by simp) ?_
  simp only [argSlots, Nat.reduceAdd]
  refine awp_seq_k fun K hK => awp_region [] ?_
  simp only [qq, K_eqs, aboxF, acells, K_ops, reduceCtorEq, hoc, abox, Nat.reduceLT, aalloc, tzeros, cav, K_nil, Then]
  (repeat' apply And.intro) <;> try (first | exact True.intro | omega)
  refine hK _ ?_
  clear hK K
  refine awp_keep [1, 2, 4, 5] ?_
  simp only [keep_eqs, K_ops, Nat.reduceEqDiff, if_true, if_false]
  rw [hz0]
  refine awp_seq_k fun K1 hK1 => ?_
  refine awp_seq_k fun K hK => awp_region [] ?_
  simp only [qq, K_eqs, Nat.reduceLT, K_ops, Nat.reduceEqDiff, K_call, Nat.reduceAdd, K_clo, aviews, aview, noref]
  refine andC_eq trivial hP (by simp [noref, norefs, hPn]) ?_
  simp only [qq, RestC_eqs, K_eqs, Nat.reduceLT, K_ops, Nat.reduceEqDiff, aext, aalloc, tzeros, Nat.reduceAdd, cav, K_store, astore, tszs, acells, spl, K_nil, Then, hPo, hPl, List.drop_nil]
  refine hK _ ?_
  clear hK K
  refine awp_keep [1, 2, 4, 5, 7] ?_
  simp only [keep_eqs, K_ops, Nat.reduceEqDiff, if_true, if_false]
  refine awp_seq_k fun K hK => awp_region [] ?_
  simp only [qq, K_eqs, Nat.reduceLT, K_ops, Nat.reduceEqDiff, aun, Bool.not_true, gval, gslot, Option.bind_some, gdec_eqs, K_gF, gok, apick, cav, K_nil, Then]
  (repeat' apply And.intro) <;> try (first | exact True.intro | omega)
  refine hK _ ?_
  clear hK K
  refine awp_condF rfl (awp_skip (hK1 _ ?_))
  clear hK1 K1
  refine awp_keep [1, 2, 4, 5] ?_
  simp only [keep_eqs, K_ops, Nat.reduceEqDiff, if_true, if_false]
  refine awp_seq_k fun K hK => awp_region [] ?_
  simp only [qq, K_eqs, aload, K_ops, Nat.reduceEqDiff, apart, isAggD, Tryz.underlying67, tszs, hlen, hTt, Nat.reduceLT, abuild, tzeros, Tryz.underlying74, tsfs, cav, aparts, afill, spl, acells, Nat.reduceAdd, Nat.reduceLeDiff, List.all_cons, oneC, Value.oneCell', List.all_nil, K_call, K_clo, aviews, aview, ntok, List.headD_cons, List.tail_cons, noref, norefs]
  refine andC_eq (by simp [norefs, noref, hnT]) cA' (by simp [noref, norefs, hVn]) ?_
  simp only [qq, RestC_eqs, K_eqs, aext, K_ops, Nat.reduceEqDiff, Nat.reduceLT, K_store, astore, tszs, acells, hlz, spl, K_nil, Then, hVo, hVl, hd3 _ hlz]
  refine hK _ ?_
  clear hK K
  refine awp_keep [4, 5] ?_
  simp only [keep_eqs, K_ops, Nat.reduceEqDiff, if_true, if_false]
  refine awp_ret ?_
  simp only [qq, K_fin, ares, aress, ares1, aload, K_ops, Nat.reduceEqDiff, apart, isAggD, Tryz.underlying67, tszs, hVl, hVt, afin, noref, hVn]
def BA (t : TokV) (p : Perm) : List AV := TA t p ++ [.sl 0 [] .full]
theorem BA_length [Gv] (t : TokV) (p : Perm) (ht : t.tag.length = 32) : (BA t p).length = 37 := by rw [BA, List.length_append, TA_length t p ht]; rfl
theorem BA_oneC [Gv] (t : TokV) (p : Perm) : (BA t p).all oneC = true := by rw [BA, List.all_append, TA_oneC]; rfl
theorem norefs_BA [Gv] (t : TokV) (p : Perm) (hp : notok p = true) : norefs (BA t p) = true := by
  rw [BA, norefs_append, norefs_TA t p (by cases p <;> simp_all [notok])]
  rfl
theorem BA_tok [Gv] (t : TokV) (p : Perm) (ht : t.tag.length = 32) : (BA t p).take 36 = TA t p := by rw [BA, ← TA_length t p ht, List.take_left]
theorem BA_ds [Gv] (t : TokV) (p : Perm) (ht : t.tag.length = 32) : (BA t p).getD 36 .top = .sl 0 [] .full := by
  rw [BA, List.getD_eq_getElem?_getD, List.getElem?_append_right (by rw [TA_length t p ht]; omega), TA_length t p ht]
  rfl
theorem BA_bound [Gv] (t : TokV) (p : Perm) : (BA t p).getD 3 .top = .val (.bool t.bound) := rfl
theorem BA_caps [Gv] (t : TokV) (p : Perm) : (BA t p).getD 2 .top = .sl t.cavs.length (CS t.cavs) p := rfl
theorem BA_key [Gv] (t : TokV) (p : Perm) : (BA t p).getD 0 .top = .val (.int .u64 (t.key : Int)) := rfl
theorem BA_tag [Gv] (t : TokV) (p : Perm) (ht : t.tag.length = 32) : ((BA t p).drop 4).take 32 = Bs t.tag := by
  rw [BA, List.drop_append_of_le_length (by rw [TA_length t p ht]; omega), TA_tag, List.take_append_of_le_length (by rw [Bs_length]; omega), List.take_of_length_le (by rw [Bs_length]; omega)]

theorem bof_ok [Gv] (t : TokV) (p q : Perm) (hs : small t) (hp : notok p = true) :
    ACalls Tryz.prog G0 29 [.agg (TA t p), .sl 0 [] q] [] (fun r os => os = [] ∧ r = .agg (BA t .no)) := by
  have hoc := TA_oneC t p
  have hlen := TA_length t p hs.2.2.2.1
  have hTt : (TA t p).take 36 = TA t p := List.take_of_length_le (by omega)
  have hnT := norefs_TA t p (by cases p <;> simp_all [notok])
  have cC := pcopy_ok t p hs hp
  have hlB := BA_length t .no hs.2.2.2.1
  have hoB := BA_oneC t .no
  have hnB := norefs_BA t .no rfl
  have hB : BA t .no = TA t .no ++ [.sl 0 [] .full] := rfl
  have hl2 := TA_length t .no hs.2.2.2.1
  have ho2 := TA_oneC t .no
  have hn2 := norefs_TA t .no rfl
  have hBt : (BA t .no).take 37 = BA t .no := List.take_of_length_le (by omega)
  have hBd : (BA t .no).drop 37 = [] := List.drop_eq_nil_of_le (by omega)
  generalize TA t p = T at *
  generalize BA t .no = Bd at *
  generalize TA t .no = T2 at *
  refine acalls_of_awp Tryz.func29 rfl rfl Tryz.ntmps29 (rts := #[70]) rfl Tryz.results29 (by simp) ?_
  simp only [argSlots, Nat.reduceAdd]
  refine awp_seq_k fun K hK => awp_region [] ?_
  simp only [qq, K_eqs, aboxF, acells, K_ops, reduceCtorEq, hoc, abox, Nat.reduceLT, aalloc, tzeros, cav, K_nil, Then]
  (repeat' apply And.intro) <;> try (first | exact True.intro | omega)
  refine hK _ ?_
  clear hK K
  refine awp_keep [1, 2, 4] ?_
  simp only [keep_eqs, K_ops, Nat.reduceEqDiff, if_true, if_false]
  refine awp_seq_k fun K hK => awp_region [] ?_
  simp only [qq, K_eqs, aload, K_ops, Nat.reduceEqDiff, apart, isAggD, Tryz.underlying67, tszs, hlen, hTt, Nat.reduceLT, K_call, Nat.reduceAdd, K_clo, aviews, aview, ntok, List.headD_cons, noref]
  refine andC_eq hnT cC (by simp [noref, hn2]) ?_
  simp only [qq, RestC_eqs, K_eqs, abuild, tzeros, Tryz.underlying70, tsfs, cav, aparts, K_ops, Nat.reduceEqDiff, afill, spl, acells, hl2, Nat.reduceAdd, Nat.reduceLeDiff, ho2, Nat.reduceLT, aalloc, K_store, astore, tszs, K_nil, Then]
  simp only [← hB]
  simp only [qq, hoB, hlB, Nat.reduceLT, List.drop_nil, K_ops]
  refine hK _ ?_
  clear hK K
  refine awp_keep [1, 4, 5] ?_
  simp only [keep_eqs, K_ops, Nat.reduceEqDiff, if_true, if_false]
  refine awp_seq_k fun K1 hK1 => ?_
  refine awp_seq_k fun K hK => awp_region [] ?_
  simp only [qq, K_eqs, Nat.reduceLT, K_ops, Nat.reduceEqDiff, abuiltin, amaplen, alen, Tryz.underlying68, Int.cast_ofNat_Int, cav, K_nil, Then]
  (repeat' apply And.intro) <;> try (first | exact True.intro | omega)
  refine hK _ ?_
  clear hK K
  refine awp_keep [4, 5, 12, 13] ?_
  simp only [keep_eqs, K_ops, Nat.reduceEqDiff, if_true, if_false]
  refine awp_block ?_
  refine awp_loop_from (fun _ : Unit => _) (fun _ => True) (fun _ => 0) () trivial (.refl _) ?_
  intro _ _
  refine awp_seq_k fun K hK => awp_region [] ?_
  simp only [qq, Nat.reduceLT, K_eqs, K_ops, Nat.reduceEqDiff, K_binC, K_int, aint, Int.lt_irrefl, decide_false, K_nil, Then]
  (repeat' apply And.intro) <;> try (first | exact True.intro | omega)
  refine hK _ ?_
  clear hK K
  refine awp_seq ?_
  refine awp_condF rfl ?_
  refine awp_exit ?_
  simp only [Then, InBlock, if_true]
  refine hK1 _ ?_
  clear hK1 K1
  refine awp_keep [4, 5] ?_
  simp only [keep_eqs, K_ops, Nat.reduceEqDiff, if_true, if_false]
  refine awp_seq_k fun K hK => awp_region [] ?_
  simp only [qq, K_eqs, aload, K_ops, Nat.reduceEqDiff, apart, isAggD, Tryz.underlying70, tszs, hlB, hBt, Nat.reduceLT, K_store, astore, acells, Nat.reduceAdd, spl, K_nil, Then, hoB, List.drop_nil]
  refine hK _ ?_
  clear hK K
  refine awp_keep [4] ?_
  simp only [keep_eqs, K_ops, Nat.reduceEqDiff, if_true, if_false]
  refine awp_ret ?_
  simp only [qq, K_fin, ares, aress, ares1, aload, K_ops, apart, isAggD, Tryz.underlying70, tszs, hlB, hBt, afin, noref, hnB]

theorem bcheck_ok [Gv] (t : TokV) (p : Perm) (hs : small t) (hp : notok p = true) (hb : t.bound = false) :
    ACalls Tryz.prog G0 48 [.agg (BA t p)] [] (fun r os => os = [] ∧ r = .val (.int .i64 (if okT t then 0 else 1))) := by
  have hoc := BA_oneC t p
  have hlen := BA_length t p hs.2.2.2.1
  have g3 := BA_bound t p
  rw [hb] at g3
  have g36 := BA_ds t p hs.2.2.2.1
  have htk := BA_tok t p hs.2.2.2.1
  have cK := pcheck_ok t p hs (by cases p <;> simp_all [notok])
  have hnT := norefs_TA t p (by cases p <;> simp_all [notok])
  generalize BA t p = Bd at *
  generalize TA t p = T at *
  generalize okT t = ok at *
  refine acalls_of_awp Tryz.func48 rfl rfl Tryz.ntmps48 (rts := #[37]) rfl Tryz.results48 (by simp) ?_
  simp only [argSlots, Nat.reduceAdd]
  refine awp_seq_k fun K hK => awp_region [] ?_
  simp only [qq, K_eqs, aboxF, acells, K_ops, hoc, abox, Nat.reduceLT, cav, K_nil, Then]
  (repeat' apply And.intro) <;> try (first | exact True.intro | omega)
  refine hK _ ?_
  clear hK K
  refine awp_keep [1] ?_
  simp only [keep_eqs, K_ops, Nat.reduceEqDiff, if_true, if_false]
  refine awp_seq_k fun K1 hK1 => ?_
  refine awp_seq_k fun K hK => awp_region [] ?_
  simp only [qq, K_eqs, afieldAddr, Tryz.underlying70, tszs, K_ops, ne_eq, reduceCtorEq, Nat.reduceLT, Tryz.underlying67, Nat.reduceEqDiff, aload, apart, isAggD, Tryz.underlying4, hlen, g3, gval, gslot, Option.bind_some, gdec_eqs, Bool.not_false, K_gT, gok, Tryz.underlying68, abuiltin, amaplen, alen, cav, K_binC, apick, g36, Int.cast_ofNat_Int, K_int, aint, Int.reduceGT, decide_false, K_call, Nat.reduceAdd, K_clo, aviews, aview, ntok, List.headD_cons, Nat.reduceLeDiff, htk, noref]
  refine andC_eq hnT cK rfl ?_
  simp only [qq, RestC_eqs, gval, gslot, Option.bind_some, K_ops, Nat.reduceEqDiff, gdec_eqs, Bool.not_false, K_gT, gok, Nat.reduceLT, K_eqs, cav, K_binC, K_int, aint, apick, K_nil, Then]
  refine hK _ ?_
  clear hK K
  refine awp_keep [1, 19] ?_
  simp only [keep_eqs, K_ops, Nat.reduceEqDiff, if_true, if_false]
  cases ok with
  | false =>
    refine awp_condT rfl ?_
    refine awp_keep [1] ?_
    simp only [keep_eqs, K_ops, Nat.reduceEqDiff, if_true, if_false]
    refine awp_seq_k fun K hK => awp_region [] ?_
    simp only [qq, K_eqs, Nat.reduceLT, K_ops, cav, K_nil, Then]
    (repeat' apply And.intro) <;> try (first | exact True.intro | omega)
    refine hK _ ?_
    clear hK K
    refine awp_keep [2] ?_
    simp only [keep_eqs, K_ops, Nat.reduceEqDiff, if_true, if_false]
    refine awp_ret ?_
    exact ⟨_, _, rfl, ⟨rfl, trivial⟩, rfl, rfl⟩
  | true =>
    refine awp_condF rfl (awp_skip (hK1 _ ?_))
    clear hK1 K1
    refine awp_keep [1] ?_
    simp only [keep_eqs, K_ops, Nat.reduceEqDiff, if_true, if_false]
    refine awp_seq_k fun K1 hK1 => ?_
    refine awp_seq_k fun K hK => awp_region [] ?_
    simp only [qq, K_eqs, afieldAddr, Tryz.underlying70, tszs, K_ops, ne_eq, reduceCtorEq, Nat.reduceLT, aload, Nat.reduceEqDiff, apart, isAggD, Tryz.underlying68, abuiltin, amaplen, alen, cav, K_nil, Then, hlen, g36, Int.cast_ofNat_Int]
    (repeat' apply And.intro) <;> try (first | exact True.intro | omega)
    refine hK _ ?_
    clear hK K
    refine awp_keep [21, 22, 23] ?_
    simp only [keep_eqs, K_ops, Nat.reduceEqDiff, if_true, if_false]
    refine awp_block ?_
    refine awp_loop_from (fun _ : Unit => _) (fun _ => True) (fun _ => 0) () trivial (.refl _) ?_
    intro _ _
    refine awp_seq_k fun K hK => awp_region [] ?_
    simp only [qq, Nat.reduceLT, K_eqs, K_ops, Nat.reduceEqDiff, K_binC, K_int, aint, Int.lt_irrefl, decide_false, K_nil, Then]
    (repeat' apply And.intro) <;> try (first | exact True.intro | omega)
    refine hK _ ?_
    clear hK K
    refine awp_seq ?_
    refine awp_condF rfl ?_
    refine awp_exit ?_
    simp only [Then, InBlock, if_true]
    refine hK1 _ ?_
    clear hK1 K1
    refine awp_keep [21] ?_
    simp only [keep_eqs, K_ops, Nat.reduceEqDiff, if_true, if_false]
    refine awp_seq_k fun K hK => awp_region [] ?_
    simp only [qq, K_eqs, Nat.reduceLT, K_ops, cav, K_nil, Then]
    (repeat' apply And.intro) <;> try (first | exact True.intro | omega)
    refine hK _ ?_
    clear hK K
    refine awp_keep [2] ?_
    simp only [keep_eqs, K_ops, Nat.reduceEqDiff, if_true, if_false]
    refine awp_ret ?_
    exact ⟨_, _, rfl, ⟨rfl, trivial⟩, rfl, rfl⟩

def encB (t : TokV) : List UInt8 := V.join [(16, encT t)]

theorem bencode_ok [Gv] (t : TokV) (p : Perm) (hs : small t) (hp : notok p = true) (hb : t.bound = false) (hok : okT t = true) (hl : (encB t).length ≤ 65536) :
    ACalls Tryz.prog G0 20 [.agg (BA t p)] [] (fun r os => os = [] ∧ r = .tup [.sl (encB t).length (Bs (encB t)) .no, .val (.int .i64 0)]) := by
  have hoc := BA_oneC t p
  have hlen := BA_length t p hs.2.2.2.1
  have hnB := norefs_BA t p hp
  have hBt : (BA t p).take 37 = BA t p := List.take_of_length_le (by omega)
  have g36 := BA_ds t p hs.2.2.2.1
  have htk := BA_tok t p hs.2.2.2.1
  have hnT := norefs_TA t p (by cases p <;> simp_all [notok])
  have cK := bcheck_ok t p hs hp hb
  have cE := pencode_ok t p hs (by cases p <;> simp_all [notok])
  simp only [hok, if_true] at cK cE
  have hle : (encT t).length + 1 ≤ (encB t).length := by simp [encB, V.join, fby]
  have cJ := fjoin_ok [(16, encT t)] .full (by simp [bulk]; omega)
  rw [show V.join [(16, encT t)] = encB t from rfl] at cJ
  generalize encT t = e at *
  generalize encB t = eB at *
  simp only [Fs, FA, List.flatMap_cons, List.flatMap_nil, List.append_nil, List.cons_append, List.nil_append, B, UInt8.reduceToNat, Int.cast_ofNat_Int, List.length_cons, List.length_nil, Nat.reduceAdd] at cJ
  generalize BA t p = Bd at *
  generalize TA t p = T at *
  refine acalls_of_awp Tryz.func20 rfl rfl Tryz.ntmps20 (rts := #[54,37]) rfl Tryz.results20 (by simp) ?_
  simp only [argSlots, Nat.reduceAdd]
  refine awp_seq_k fun K hK => awp_region [] ?_
  simp only [qq, K_eqs, aboxF, acells, K_ops, hoc, abox, Nat.reduceLT, cav, K_nil, Then]
  (repeat' apply And.intro) <;> try (first | exact True.intro | omega)
  refine hK _ ?_
  clear hK K
  refine awp_keep [1, 2, 3] ?_
  simp only [keep_eqs, K_ops, Nat.reduceEqDiff, if_true, if_false]
  refine awp_seq_k fun K1 hK1 => ?_
  refine awp_seq_k fun K hK => awp_region [] ?_
  simp only [qq, K_eqs, aload, K_ops, Nat.reduceEqDiff, apart, isAggD, Tryz.underlying70, tszs, hlen, hBt, Nat.reduceLT, K_call, Nat.reduceAdd, K_clo, aviews, aview, ntok, List.headD_cons, noref]
  refine andC_eq hnB cK rfl ?_
  simp only [qq, RestC_eqs, K_eqs, Nat.reduceLT, K_ops, Nat.reduceEqDiff, K_nil, Then]
  refine hK _ ?_
  clear hK K
  refine awp_keep [1, 4] ?_
  simp only [keep_eqs, K_ops, Nat.reduceEqDiff, if_true, if_false]
  refine awp_seq_k fun K hK => awp_region [] ?_
  simp only [qq, K_eqs, Nat.reduceLT, K_ops, Nat.reduceEqDiff, cav, K_binC, K_int, aint, Int.reduceBNe, K_nil, Then]
  (repeat' apply And.intro) <;> try (first | exact True.intro | omega)
  refine hK _ ?_
  clear hK K
  refine awp_condF rfl (awp_skip (hK1 _ ?_))
  clear hK1 K1
  refine awp_keep [1] ?_
  simp only [keep_eqs, K_ops, Nat.reduceEqDiff, if_true, if_false]
  refine awp_seq_k fun K hK => awp_region [] ?_
  simp only [qq, K_eqs, afieldAddr, Tryz.underlying70, tszs, K_ops, ne_eq, reduceCtorEq, Nat.reduceLT, aload, Nat.reduceEqDiff, apart, isAggD, Tryz.underlying67, K_call, Nat.reduceAdd, K_clo, aviews, aview, ntok, List.headD_cons, hlen, Nat.reduceLeDiff, htk, noref]
  refine andC_eq hnT cE (by simp [noref, norefs, norefs_Bs]) ?_
  simp only [qq, RestC_eqs, K_eqs, Nat.reduceLT, K_ops, Nat.reduceEqDiff, aext, K_nil, Then]
  refine hK _ ?_
  clear hK K
  refine awp_keep [1, 5] ?_
  simp only [keep_eqs, K_ops, Nat.reduceEqDiff, if_true, if_false]
  refine awp_seq_k fun K hK => awp_region [] ?_
  simp only [qq, K_eqs, Nat.reduceLT, K_ops, Nat.reduceEqDiff, K_conv, Tryz.underlying9, aconvO, aview, norefs_Bs, ntok, aconv, Tryz.underlying54, Tryz.underlying5, Bs_length, Bs_isByte, Bs_bytes, abuild, tzeros, Tryz.underlying124, tsfs, cav, aparts, afill, spl, acells, Nat.reduceAdd, List.drop_nil, List.all_cons, oneC, Value.oneCell', List.all_nil, Nat.reduceLeDiff, abuildOwn, Tryz.underlying186, tszs, zrep_1, Nat.zero_mul, Nat.reduceMul, abuildSlice, K_call, K_clo, aviews, norefs_append, norefs, noref]
  refine andC_eq (by simp [norefs, noref]) cJ (by simp [noref, norefs_Bs]) ?_
  simp only [qq, RestC_eqs, K_eqs, Nat.reduceLT, K_ops, Nat.reduceEqDiff, K_nil, Then]
  refine hK _ ?_
  clear hK K
  refine awp_keep [1, 7] ?_
  simp only [keep_eqs, K_ops, Nat.reduceEqDiff, if_true, if_false]
  refine awp_seq_k fun K1 hK1 => ?_
  refine awp_seq_k fun K hK => awp_region [] ?_
  simp only [qq, K_eqs, afieldAddr, Tryz.underlying70, tszs, K_ops, Nat.reduceEqDiff, ne_eq, reduceCtorEq, Nat.reduceLT, aload, apart, isAggD, Tryz.underlying68, abuiltin, amaplen, alen, cav, K_nil, Then, hlen, g36, Int.cast_ofNat_Int]
  (repeat' apply And.intro) <;> try (first | exact True.intro | omega)
  refine hK _ ?_
  clear hK K
  refine awp_keep [7, 29, 30, 31] ?_
  simp only [keep_eqs, K_ops, Nat.reduceEqDiff, if_true, if_false]
  refine awp_block ?_
  refine awp_loop_from (fun _ : Unit => _) (fun _ => True) (fun _ => 0) () trivial (.refl _) ?_
  intro _ _
  refine awp_seq_k fun K hK => awp_region [] ?_
  simp only [qq, Nat.reduceLT, K_eqs, K_ops, Nat.reduceEqDiff, K_binC, K_int, aint, Int.lt_irrefl, decide_false, K_nil, Then]
  (repeat' apply And.intro) <;> try (first | exact True.intro | omega)
  refine hK _ ?_
  clear hK K
  refine awp_seq ?_
  refine awp_condF rfl ?_
  refine awp_exit ?_
  simp only [Then, InBlock, if_true]
  refine hK1 _ ?_
  clear hK1 K1
  refine awp_keep [7] ?_
  simp only [keep_eqs, K_ops, Nat.reduceEqDiff, if_true, if_false]
  refine awp_seq_k fun K1 hK1 => ?_
  refine awp_seq_k fun K hK => awp_region [] ?_
  simp only [qq, K_eqs, Nat.reduceLT, K_ops, abuiltin, Nat.reduceEqDiff, amaplen, alen, Tryz.underlying54, cav, K_binC, K_nil, Then, K_int, aint, d_gt]
  (repeat' apply And.intro) <;> try (first | exact True.intro | omega)
  refine hK _ ?_
  clear hK K
  refine awp_condF (by simp only [K_ops, lk]; simp; omega) (awp_skip (hK1 _ ?_))
  clear hK1 K1
  refine awp_keep [7] ?_
  simp only [keep_eqs, K_ops, Nat.reduceEqDiff, if_true, if_false]
  refine awp_seq_k fun K hK => awp_region [] ?_
  simp only [qq, K_eqs, Nat.reduceLT, K_ops, Nat.reduceEqDiff, cav, K_nil, Then]
  (repeat' apply And.intro) <;> try (first | exact True.intro | omega)
  refine hK _ ?_
  clear hK K
  refine awp_keep [2, 3] ?_
  simp only [keep_eqs, K_ops, Nat.reduceEqDiff, if_true, if_false]
  refine awp_ret ?_
  simp only [qq, K_fin, ares, aress, ares1, afin, K_ops, Nat.reduceEqDiff, norefs_Bs, ntok, noref]
def atup : Option (List FieldV) → AV
  | none => .tup [.sl 0 [] .full, .val (.bool false)]
  | some l => .tup [.sl l.length (Fs l) .no, .val (.bool true)]

theorem fall_ok (b : List UInt8) (hb : b.length ≤ 1048576) : ACalls Tryz.prog G0 102 [.sl b.length (Bs b) .no] [] (fun r os => os = [] ∧ r = atup (allOf b)) := by
  obtain ⟨fs, hu, hs⟩ : ∃ fs, Tryz.prog.underlying 124 = some (.struct fs) ∧ sfields Tryz.prog fs = some [(0, 1), (1, 1)] := ⟨_, Tryz.underlying124, by kernel_rfl⟩
  refine acalls_of_awp Tryz.func102 rfl rfl Tryz.ntmps102 (rts := #[186,4]) rfl Tryz.results102 (by simp) ?_
  simp only [argSlots, Nat.reduceAdd]
  refine awp_seq_k fun K hK => awp_region [] ?_
  simp only [qq, K_eqs, Nat.reduceLT, K_ops, cav, K_nil, Then]
  (repeat' apply And.intro) <;> try (first | exact True.intro | omega)
  refine hK _ ?_
  clear hK K
  refine awp_seq_k fun K hK => awp_region [] ?_
  simp only [qq, K_eqs, Nat.reduceLT, K_ops, cav, K_nil, Then]
  (repeat' apply And.intro) <;> try (first | exact True.intro | omega)
  refine hK _ ?_
  clear hK K
  refine awp_keep [0, 4] ?_
  simp only [keep_eqs, K_ops, Nat.reduceEqDiff, if_true, if_false]
  refine awp_tok 2 4 rfl ?_
  refine awp_seq_k fun K1 hK1 => ?_
  refine awp_block ?_
  refine awp_loop_from (fun x : List UInt8 × List FieldV × Nat => ⟨27, [(0, .sl x.1.length (Bs x.1) .no), (4, .sl x.2.1.length (Fs x.2.1) (.tok 0))], .tok 2 x.2.1.length :: dd x.2.2⟩)
    (fun x => x.1.length + x.2.1.length ≤ 1048576 ∧ allOf b = (allOf x.1).map (x.2.1 ++ ·)) (fun x => x.1.length) (b, [], 0) ⟨by simpa using hb, by cases allOf b <;> simp⟩ (.of_keep [0, 4] (by exact rfl)) ?_
  rintro ⟨r, out, d⟩ ⟨hlen, hall⟩
  simp only at hlen hall
  refine awp_seq_k fun K2 hK2 => ?_
  refine awp_seq_k fun K hK => awp_region [] ?_
  simp only [qq, K_eqs, Nat.reduceLT, K_ops, reduceCtorEq, abuiltin, Nat.reduceEqDiff, amaplen, alen, Tryz.underlying54, cav, K_binC, K_nil, Then, K_int, aint, d_gt]
  refine hK _ ?_
  clear hK K
  by_cases hr0 : r.length = 0
  · refine awp_condF (by simp only [K_ops, lk]; simp [hr0]) ?_
    refine awp_exit ?_
    simp only [Then, InBlock, if_true]
    refine hK1 _ ?_
    clear hK1 K1 hK2 K2
    rw [allOf_nil hr0] at hall
    have hall' : allOf b = some out := by rw [hall]; simp
    rw [hall']
    refine awp_keep [4] ?_
    simp only [keep_eqs, K_ops, Nat.reduceEqDiff, if_true, if_false]
    refine awp_seq_k fun K hK => awp_region [] ?_
    simp only [qq, K_eqs, Nat.reduceLT, K_ops, Nat.reduceEqDiff, cav, K_nil, Then]
    (repeat' apply And.intro) <;> try (first | exact True.intro | omega)
    refine hK _ ?_
    clear hK K
    refine awp_ret ?_
    simp only [qq, K_fin, ares, aress, ares1, afin, K_ops, Nat.reduceEqDiff, norefs_Fs, ntok, noref]
    rfl
  refine awp_condT (by simp only [K_ops, lk]; simp; omega) (awp_skip (hK2 _ ?_))
  clear hK2 K2
  refine awp_keep [0, 4] ?_
  simp only [keep_eqs, K_ops, Nat.reduceEqDiff, if_true, if_false]
  have cG := fget_ok r (by omega)
  have ha9 : noref (gtup (getF r)) = true := by
    cases getF r with
    | none => rfl
    | some x => rfl
  refine awp_block ?_
  cases hg : getF r with
  | none =>
    rw [hg] at cG
    simp only [gtup] at cG
    refine awp_seq_k fun K hK => awp_region [] ?_
    simp only [qq, K_eqs, Nat.reduceLT, K_ops, reduceCtorEq, K_call, Nat.reduceAdd, Nat.reduceEqDiff, K_clo, aviews, aview, norefs_Bs, ntok]
    refine andC_eq (by simp [norefs_Bs]) cG rfl ?_
    simp only [qq, RestC_eqs, K_eqs, Nat.reduceLT, K_ops, Nat.reduceEqDiff, reduceCtorEq, aext, aalloc, tzeros, dd_length, cav, K_store, astore, tszs, acells, spl, K_nil, Then, dd_at, Nat.reduceAdd, dd_set, FA_oneC, FA_length, List.drop_nil]
    refine hK _ ?_
    clear hK K
    rw [allOf_none hr0 hg] at hall
    have hall' : allOf b = none := by rw [hall]; rfl
    rw [hall']
    refine awp_keep [7] ?_
    simp only [keep_eqs, K_ops, Nat.reduceEqDiff, if_true, if_false]
    refine awp_seq_k fun K3 hK3 => ?_
    refine awp_seq_k fun K hK => awp_region [] ?_
    simp only [qq, K_eqs, Nat.reduceLT, K_ops, aun, Nat.reduceEqDiff, Bool.not_false, K_nil, Then]
    (repeat' apply And.intro) <;> try (first | exact True.intro | omega)
    refine hK _ ?_
    clear hK K
    refine awp_condT rfl ?_
    refine awp_seq_k fun K hK => awp_region [] ?_
    simp only [qq, K_eqs, Nat.reduceLT, K_ops, cav, K_nil, Then]
    (repeat' apply And.intro) <;> try (first | exact True.intro | omega)
    refine hK _ ?_
    clear hK K
    refine awp_ret ?_
    simp only [qq, Then, InBlock, K_fin, ares, aress, ares1, afin, K_ops, Nat.reduceEqDiff, norefs, ntok, noref]
    rfl
  | some x =>
    obtain ⟨f, k⟩ := x
    have hk := getF_size hg
    rw [hg] at cG
    simp only [gtup] at cG
    refine awp_seq_k fun K hK => awp_region [] ?_
    simp only [qq, K_eqs, Nat.reduceLT, K_ops, reduceCtorEq, K_call, Nat.reduceAdd, Nat.reduceEqDiff, K_clo, aviews, aview, norefs_Bs, ntok]
    refine andC_eq (by simp [norefs_Bs]) cG rfl ?_
    simp only [qq, RestC_eqs, K_eqs, Nat.reduceLT, K_ops, Nat.reduceEqDiff, reduceCtorEq, aext, aalloc, tzeros, dd_length, cav, K_store, astore, tszs, acells, spl, K_nil, Then, dd_at, Nat.reduceAdd, dd_set, FA_oneC, FA_length, List.drop_nil]
    refine hK _ ?_
    clear hK K
    refine awp_keep [0, 4, 5, 6, 7] ?_
    simp only [keep_eqs, K_ops, Nat.reduceEqDiff, if_true, if_false]
    refine awp_seq_k fun K3 hK3 => ?_
    refine awp_seq_k fun K hK => awp_region [] ?_
    simp only [qq, K_eqs, Nat.reduceLT, K_ops, reduceCtorEq, Nat.reduceEqDiff, aun, Bool.not_true, K_nil, Then]
    (repeat' apply And.intro) <;> try (first | exact True.intro | omega)
    refine hK _ ?_
    clear hK K
    refine awp_condF rfl (awp_skip (hK3 _ ?_))
    clear hK3 K3
    refine awp_keep [0, 4, 5, 6] ?_
    simp only [keep_eqs, K_ops, Nat.reduceEqDiff, if_true, if_false]
    have hzr : zrep [Value.int IntKind.u8 0, Value.string ⟨#[]⟩] 1 = [AV.val (.int .u8 0), AV.val (.string ⟨#[]⟩)] := rfl
    have hfo : (Fs out).length = out.length * 2 := Fs_length out
    have hob : out.length + 1 ≤ 1048576 := by omega
    refine awp_seq_k fun K hK => awp_region [] ?_
    simp only [qq, K_eqs, Nat.reduceLT, K_ops, reduceCtorEq, Nat.reduceEqDiff, aload, dd_at, apart, isAggD, hu, tszs, FA_length, FA_take, abuildOwn, Tryz.underlying186, tzeros, hzr, aparts, afill, spl, Nat.zero_mul, acells, Nat.reduceAdd, Nat.reduceMul, Nat.reduceLeDiff, abuildSlice, abuiltin, aappend, tbys, appSrc, srcCells, hfo, K_nil, Then, FA_oneC, List.drop_nil]
    refine ⟨⟨by omega, by omega⟩, hK _ ?_⟩
    clear hK K
    refine awp_dead (d + 1) ?_
    rw [List.set_cons_succ, dd_set, dd_kill, show Fs out ++ FA f = Fs (out ++ [f]) by rw [Fs_append, Fs_one], show out.length + 1 = (out ++ [f]).length by simp]
    refine awp_keep [0, 4, 6] ?_
    simp only [keep_eqs, K_ops, Nat.reduceEqDiff, if_true, if_false]
    have e1 : ((r.length : Int) - (k : Int)).toNat = (r.drop k).length := by rw [List.length_drop]; omega
    have e2 : (r.drop k).take (r.length - k) = r.drop k := List.take_of_length_le (by rw [List.length_drop]; exact Nat.le_refl _)
    refine awp_region [] ?_
    simp only [qq, K_eqs, Nat.reduceLT, K_ops, reduceCtorEq, Nat.reduceEqDiff, aslice, bopt, Option.map_some, Option.map_none, Tryz.underlying54, tszs, Bs_length, Nat.mul_one, lowOf, highOf, Int.le_refl, ne_eq, not_true_eq_false, or_false, e1, List.length_drop, Int.toNat_natCast, Bs_drop, Bs_take, e2, sliceP, K_nil]
    refine ⟨by omega, ?_⟩
    simp only [InBlock, Then]
    refine ⟨(r.drop k, out ++ [f], d + 1), ⟨?_, ?_⟩, ?_, ?_⟩
    · simp only [List.length_drop, List.length_append, List.length_cons, List.length_nil]; omega
    · rw [hall, allOf_some hg]
      cases allOf (r.drop k) <;> simp
    · simp only [List.length_drop]; omega
    · rw [show r.length - k = (r.drop k).length by rw [List.length_drop]]
      exact .of_keep [0, 4] rfl
theorem of_ok (b : List UInt8) (p : Perm) : ACalls Tryz.prog G0 170 [.sl b.length (Bs b) p] [] (fun r os => os = [] ∧ r = .tup [.agg (Bs (if b.length = 32 then b else Z 32)), .val (.bool (decide (b.length = 32)))]) := by
  refine acalls_of_awp Tryz.func170 rfl rfl Tryz.ntmps170 (rts := #[23,4]) rfl Tryz.results170 (by simp) ?_
  simp only [argSlots, Nat.reduceAdd]
  refine awp_seq_k fun K hK => awp_region [] ?_
  simp only [qq, K_eqs, aalloc, tzeros, zvs_u8, Nat.reduceLT, K_ops, cav, K_nil, Then]
  (repeat' apply And.intro) <;> try (first | exact True.intro | omega)
  refine hK _ ?_
  clear hK K
  refine awp_seq_k fun K1 hK1 => ?_
  refine awp_seq_k fun K hK => awp_region [] ?_
  simp only [qq, K_eqs, Nat.reduceLT, K_ops, reduceCtorEq, abuiltin, Nat.reduceEqDiff, amaplen, alen, Tryz.underlying54, cav, K_binC, K_nil, Then, K_int, aint, d_ne]
  refine hK _ ?_
  clear hK K
  refine awp_cond rfl rfl (fun h => ?_) (fun h => ?_)
  · have hne : b.length ≠ 32 := by simpa using h
    refine awp_keep [2] ?_
    simp only [keep_eqs, K_ops, Nat.reduceEqDiff, if_true, if_false]
    refine awp_seq_k fun K hK => awp_region [] ?_
    simp only [qq, K_eqs, abuild, tzeros, Tryz.underlying23, tszs, Nat.mul_one, zvs_u8, aparts, afill, Nat.reduceLT, K_store, astore, K_ops, Nat.reduceEqDiff, acells, Bs_length, Z_length, spl, Bs_drop, cav, K_nil, Then, Bs_one]
    (repeat' apply And.intro) <;> try (first | exact True.intro | omega)
    refine hK _ ?_
    clear hK K
    refine awp_ret ?_
    simp only [qq, Then, K_fin, ares, aress, ares1, aload, K_ops, Nat.reduceEqDiff, apart, isAggD, Tryz.underlying23, tszs, afin, noref]
    rw [if_neg hne, decide_eq_false hne]
    have e : List.take 32 (Bs (Z 32) ++ Bs (List.drop 32 (Z 32))) = Bs (Z 32) := rfl
    rw [e]
    simp [norefs_Bs, Bs_length, Z_length]
  have hl : b.length = 32 := by simpa using h
  refine awp_skip (hK1 _ ?_)
  clear hK1 K1
  refine awp_keep [0, 2] ?_
  simp only [keep_eqs, K_ops, Nat.reduceEqDiff, if_true, if_false]
  have ht : List.take 32 b = b := List.take_of_length_le (by omega)
  refine awp_seq_k fun K hK => awp_region [] ?_
  simp only [qq, hl, K_eqs, Nat.reduceLT, K_ops, reduceCtorEq, aarrayAt, Tryz.underlying23, Nat.reduceEqDiff, Bs_length, aload, apart, isAggD, tszs, K_store, astore, acells, Z_length, spl, Bs_drop, cav, K_nil, Then, Bs_take, ht, Bs_one]
  (repeat' apply And.intro) <;> try (first | exact True.intro | omega)
  refine hK _ ?_
  clear hK K
  have hd : List.drop 32 (Z 32) = [] := rfl
  refine awp_ret ?_
  simp only [qq, hl, hd, Bs_nil, K_fin, ares, aress, ares1, aload, K_ops, Nat.reduceEqDiff, reduceCtorEq, apart, isAggD, Tryz.underlying23, tszs, Bs_length, Bs_take, ht, afin, noref, norefs_Bs]
  simp
def fieldsC (c : CavV) : List FieldV := if c.third then [(4, vb c.party), (5, c.id), (6, c.vault)] else [(3, c.text)]
def fieldsT (t : TokV) : List FieldV := [(1, vb t.key), (2, t.id)] ++ t.cavs.flatMap fieldsC ++ [(7, [if t.bound then 1 else 0]), (8, t.tag)]
theorem join_fieldsC [Gv] (c : CavV) : V.join (fieldsC c) = encC c := by unfold fieldsC encC; split <;> rfl
theorem join_flat [Gv] (l : List CavV) : V.join (l.flatMap fieldsC) = l.flatMap encC := by
  induction l with
  | nil => rfl
  | cons c l ih => rw [List.flatMap_cons, List.flatMap_cons, V.join_append, ih, join_fieldsC]
theorem join_fieldsT [Gv] (t : TokV) : V.join (fieldsT t) = encT t := by unfold fieldsT encT; rw [V.join_append, V.join_append, join_flat]

def RD (l : List FieldV) (b : Bool) : List AV := [.sl l.length (Fs l) .no, .val (.bool b)]
theorem norefs_Fs [Gv] (l : List FieldV) : norefs (Fs l) = true := by
  induction l with
  | nil => rfl
  | cons f l ih => rw [show Fs (f :: l) = FA f ++ Fs l from rfl, norefs_append, norefs_FA, ih]; rfl
theorem norefs_RD [Gv] (l : List FieldV) (b : Bool) : norefs (RD l b) = true := by simp [RD, norefs, noref, norefs_Fs]
def headIs (l : List FieldV) (k : UInt8) : Bool := match l with
  | [] => false
  | f :: _ => f.1 == k

theorem is_ok [Gv] (l : List FieldV) (b : Bool) (k : UInt8) : ACalls Tryz.prog G0 217 [.ptr 0 0, .val (.int .u8 (k.toNat : Int))] [.cells (RD l b)] (fun r os => os = [.cells (RD l b)] ∧ r = .val (.bool (headIs l k))) := by
  have hR : RD l b = [.sl l.length (Fs l) .no, .val (.bool b)] := rfl
  have hnR := norefs_RD l b
  rw [hR] at *
  cases l with
  | nil =>
    refine acallsG_of_awp Tryz.func217 rfl rfl Tryz.ntmps217 (rts := #[4]) rfl Tryz.results217 (by simp) ?_
    simp only [argSlots, Nat.reduceAdd]
    refine awp_seq_k fun K hK => awp_region [] ?_
    simp only [qq, K_eqs, Nat.reduceLT, K_ops, cav, K_nil, Then]
    (repeat' apply And.intro) <;> try (first | exact True.intro | omega)
    refine hK _ ?_
    clear hK K
    refine awp_keep [0, 1] ?_
    simp only [keep_eqs, K_ops, Nat.reduceEqDiff, if_true, if_false]
    refine awp_seq_k fun K hK => awp_region [] ?_
    simp only [qq, K_eqs, Nat.reduceLT, K_ops, reduceCtorEq, anil, Nat.reduceEqDiff, afieldAddr, Tryz.underlying251, tszs, ne_eq, aload, apart, isAggD, Tryz.underlying186, abuiltin, amaplen, alen, cav, K_binC, Nat.reduceAdd, Nat.zero_lt_succ, Int.cast_ofNat_Int, K_int, aint, Int.lt_irrefl, decide_false, gval, gslot, Option.bind_some, gdec_eqs, Bool.not_true, K_gF, gok, apick, K_nil, Then]
    (repeat' apply And.intro) <;> try (first | exact True.intro | omega)
    refine hK _ ?_
    clear hK K
    refine awp_keep [4] ?_
    simp only [keep_eqs, K_ops, Nat.reduceEqDiff, if_true, if_false]
    refine awp_ret ?_
    refine FinG_one _ rfl hnR ?_
    simp only [qq, andO, aresN, aresNs, aresN1, K_ops, noref]
    rfl
  | cons f l =>
    obtain ⟨k', v⟩ := f
    have hF : Fs ((k', v) :: l) = .val (.int .u8 (k'.toNat : Int)) :: .val (.string ⟨v.toArray⟩) :: Fs l := rfl
    have hFl : (Fs l).length = l.length * 2 := Fs_length l
    rw [hF] at *
    refine acallsG_of_awp Tryz.func217 rfl rfl Tryz.ntmps217 (rts := #[4]) rfl Tryz.results217 (by simp) ?_
    simp only [argSlots, Nat.reduceAdd]
    refine awp_seq_k fun K hK => awp_region [] ?_
    simp only [qq, K_eqs, Nat.reduceLT, K_ops, cav, K_nil, Then]
    (repeat' apply And.intro) <;> try (first | exact True.intro | omega)
    refine hK _ ?_
    clear hK K
    refine awp_keep [0, 1] ?_
    simp only [keep_eqs, K_ops, Nat.reduceEqDiff, if_true, if_false]
    refine awp_seq_k fun K hK => awp_region [] ?_
    simp only [qq, K_eqs, Nat.reduceLT, K_ops, reduceCtorEq, anil, Nat.reduceEqDiff, afieldAddr, Tryz.underlying251, tszs, ne_eq, aload, apart, isAggD, Tryz.underlying186, abuiltin, amaplen, alen, cav, K_binC, Nat.reduceAdd, Nat.zero_lt_succ, K_int, aint, d_gt, decide_true, gval, gslot, Option.bind_some, gdec_eqs, K_gT, gok, aidxAddr, Int.le_refl, Int.toNat_zero, Nat.zero_mul, Tryz.underlying124, Tryz.underlying5, apick, K_nil, Then, hFl, Nat.reduceLeDiff, d_eqn]
    refine ⟨⟨by omega, by omega⟩, hK _ ?_⟩
    clear hK K
    refine awp_keep [0, 4] ?_
    simp only [keep_eqs, K_ops, Nat.reduceEqDiff, if_true, if_false]
    refine awp_ret ?_
    refine FinG_one _ rfl hnR ?_
    simp only [qq, andO, aresN, aresNs, aresN1, K_ops, reduceCtorEq, noref]
    have hk : ((k'.toNat == k.toNat) : Bool) = (k' == k) := by
      rw [Bool.eq_iff_iff]
      simp only [beq_iff_eq]
      exact ⟨fun h => UInt8.toNat_inj.1 h, fun h => by rw [h]⟩
    simp [headIs, hk]

theorem take_ok [Gv] (l : List FieldV) (b : Bool) (k : UInt8) (v : List UInt8) (hl : l.length ≤ 1000000000) : ACalls Tryz.prog G0 168 [.ptr 0 0, .val (.int .u8 (k.toNat : Int))] [.cells (RD ((k, v) :: l) b)] (fun r os => os = [.cells (RD l b)] ∧ r = str v) := by
  have cI := is_ok ((k, v) :: l) b k
  have hnR := norefs_RD ((k, v) :: l) b
  have hnR' := norefs_RD l b
  have hR : RD ((k, v) :: l) b = [.sl (l.length + 1) (.val (.int .u8 (k.toNat : Int)) :: .val (.string ⟨v.toArray⟩) :: Fs l) .no, .val (.bool b)] := rfl
  have hR' : RD l b = [.sl l.length (Fs l) .no, .val (.bool b)] := rfl
  have hFl : (Fs l).length = l.length * 2 := Fs_length l
  have hFt : (Fs l).take (l.length * 2) = Fs l := List.take_of_length_le (by omega)
  have hnF := norefs_Fs l
  rw [show headIs ((k, v) :: l) k = true by simp [headIs]] at cI
  refine acallsG_of_awp Tryz.func168 rfl rfl Tryz.ntmps168 (rts := #[9]) rfl Tryz.results168 (by simp) ?_
  simp only [argSlots, Nat.reduceAdd]
  refine awp_seq_k fun K hK => awp_region [] ?_
  simp only [qq, K_eqs, Nat.reduceLT, K_ops, cav, K_nil, Then]
  (repeat' apply And.intro) <;> try (first | exact True.intro | omega)
  refine hK _ ?_
  clear hK K
  refine awp_keep [0, 1] ?_
  simp only [keep_eqs, K_ops, Nat.reduceEqDiff, if_true, if_false]
  refine awp_seq_k fun K1 hK1 => ?_
  refine awp_seq_k fun K hK => awp_region [1000008] ?_
  simp only [qq, K_eqs, Nat.reduceLT, K_ops, reduceCtorEq, Nat.reduceEqDiff, K_call, Nat.reduceAdd, List.contains_cons, beq_self_eq_true, K_clo, Nat.reduceBEq, aviews, aview, noref]
  refine andH_one (v' := .val (.bool true)) 0 (.cells (RD ((k, v) :: l) b)) rfl (by simpa [objOk] using hnR) (by simp [hviews, hview, noref]) cI (by simp [objOk, hnR]) (by simp [hres, noref]) ?_
  simp only [qq, RestH_eqs, K_eqs, aun, K_ops, Nat.reduceEqDiff, reduceCtorEq, Bool.not_true, Nat.reduceLT, K_nil, Then]
  refine hK _ ?_
  clear hK K
  refine awp_condF rfl (awp_skip (hK1 _ ?_))
  clear hK1 K1
  refine awp_keep [0] ?_
  simp only [keep_eqs, K_ops, Nat.reduceEqDiff, if_true, if_false]
  rw [hR]
  refine awp_seq_k fun K hK => awp_region [] ?_
  simp only [qq, K_eqs, Nat.reduceLT, K_ops, anil, reduceCtorEq, afieldAddr, Tryz.underlying251, tszs, Nat.reduceEqDiff, ne_eq, aload, apart, isAggD, Tryz.underlying186, aidxAddr, cav, Int.le_refl, Int.toNat_zero, Nat.zero_mul, Tryz.underlying124, Tryz.underlying9, K_nil, Then, Nat.reduceAdd, Nat.zero_lt_succ, hFl, Nat.reduceLeDiff]
  refine ⟨⟨by omega, by omega⟩, hK _ ?_⟩
  clear hK K
  refine awp_keep [0, 5] ?_
  simp only [keep_eqs, K_ops, Nat.reduceEqDiff, if_true, if_false]
  have e1 : ((((l.length + 1 : Nat) : Int) - 1).toNat) = l.length := by omega
  refine awp_seq_k fun K hK => awp_region [] ?_
  simp only [qq, K_eqs, Nat.reduceLT, K_ops, reduceCtorEq, anil, Nat.reduceEqDiff, afieldAddr, Tryz.underlying251, tszs, ne_eq, aload, apart, isAggD, Tryz.underlying186, aslice, bopt, Option.map_some, cav, Option.map_none, lowOf, Int.reduceLE, highOf, Int.le_refl, not_true_eq_false, or_false, Int.reduceToNat, sliceP, Int.toNat_natCast, K_store, astore, acells, spl, K_nil, Then, Nat.reduceAdd, Nat.zero_lt_succ, hFl, e1, Nat.reduceMul, hFt, List.all_cons, oneC, List.all_nil, Nat.reduceLeDiff]
  refine ⟨⟨by omega, by omega⟩, hK _ ?_⟩
  clear hK K
  refine awp_keep [0, 5] ?_
  simp only [keep_eqs, K_ops, Nat.reduceEqDiff, if_true, if_false]
  refine awp_seq_k fun K hK => awp_region [] ?_
  simp only [qq, K_eqs, Nat.reduceLT, K_ops, reduceCtorEq, Nat.reduceEqDiff, K_nil, Then]
  (repeat' apply And.intro) <;> try (first | exact True.intro | omega)
  refine hK _ ?_
  clear hK K
  refine awp_keep [0, 4] ?_
  simp only [keep_eqs, K_ops, Nat.reduceEqDiff, if_true, if_false]
  rw [hR'] at hnR'
  refine awp_ret ?_
  refine FinG_one _ rfl hnR' ?_
  simp only [qq, andO, aresN, aresNs, aresN1, K_ops, reduceCtorEq, noref]
  exact ⟨rfl, rfl⟩

theorem rnumber_ok [Gv] (l : List FieldV) (k : UInt8) (n : Nat) (hn : n < 18446744073709551616) (hl : l.length ≤ 1000000000) : ACalls Tryz.prog G0 167 [.ptr 0 0, .val (.int .u8 (k.toNat : Int))] [.cells (RD ((k, vb n) :: l) false)] (fun r os => os = [.cells (RD l false)] ∧ r = .val (.int .u64 (n : Int))) := by
  have cT := take_ok l false k (vb n) hl
  have hG := G_vb [] hn
  rw [List.append_nil] at hG
  have h10 := vb_len10 hn
  have hne := List.length_pos_iff.2 (vb_ne n)
  have cG := vget_ok (vb n) .no (by omega)
  rw [hG, tup2_eq] at cG
  have hnR := norefs_RD ((k, vb n) :: l) false
  have hnR' := norefs_RD l false
  have hR' : RD l false = [.sl l.length (Fs l) .no, .val (.bool false)] := rfl
  generalize vb n = v at *
  simp only [str] at cT
  refine acallsG_of_awp Tryz.func167 rfl rfl Tryz.ntmps167 (rts := #[30]) rfl Tryz.results167 (by simp) ?_
  simp only [argSlots, Nat.reduceAdd]
  refine awp_seq_k fun K hK => awp_region [] ?_
  simp only [qq, K_eqs, Nat.reduceLT, K_ops, cav, K_nil, Then]
  (repeat' apply And.intro) <;> try (first | exact True.intro | omega)
  refine hK _ ?_
  clear hK K
  refine awp_keep [0, 1] ?_
  simp only [keep_eqs, K_ops, Nat.reduceEqDiff, if_true, if_false]
  refine awp_seq_k fun K hK => awp_region [1000010] ?_
  simp only [qq, K_eqs, Nat.reduceLT, K_ops, reduceCtorEq, Nat.reduceEqDiff, K_call, Nat.reduceAdd, List.contains_cons, beq_self_eq_true, K_clo, Nat.reduceBEq, aviews, aview, noref]
  refine andH_one (v' := .val (.string ⟨v.toArray⟩)) 0 (.cells (RD ((k, v) :: l) false)) rfl (by simpa [objOk] using hnR) (by simp [hviews, hview, noref]) cT (by simp [objOk, hnR']) (by simp [hres, noref]) ?_
  simp only [qq, RestH_eqs, K_conv, Tryz.underlying54, abytes, K_ops, Nat.reduceEqDiff, reduceCtorEq, Tryz.underlying9, Tryz.underlying5, ba_size, Nat.reduceLT, K_eqs, K_nil, Then]
  refine hK _ ?_
  clear hK K
  refine awp_keep [0, 5] ?_
  simp only [keep_eqs, K_ops, Nat.reduceEqDiff, if_true, if_false]
  refine awp_seq_k fun K hK => awp_region [] ?_
  simp only [qq, K_eqs, Nat.reduceLT, K_ops, reduceCtorEq, K_call, Nat.reduceAdd, Nat.reduceEqDiff, K_clo, aviews, aview, norefs_Bs, ntok]
  refine andC_eq (by simp [norefs_Bs, norefs, noref]) (cG) (by simp [noref, norefs, norefs_Bs, flat]) ?_
  simp only [qq, RestC_eqs, K_eqs, Nat.reduceLT, K_ops, Nat.reduceEqDiff, reduceCtorEq, aext, K_nil, Then]
  refine hK _ ?_
  clear hK K
  refine awp_keep [0, 5, 6, 7] ?_
  simp only [keep_eqs, K_ops, Nat.reduceEqDiff, if_true, if_false]
  have d1 : ((v.length : Int) == 0) = false := by rw [beq_eq_false_iff_ne]; omega
  have d2 : ((v.length : Int) != (v.length : Int)) = false := by simp
  rw [hR'] at *
  refine awp_seq_k fun K hK => awp_region [] ?_
  simp only [qq, K_eqs, Nat.reduceLT, K_ops, reduceCtorEq, anil, Nat.reduceEqDiff, afieldAddr, Tryz.underlying251, tszs, ne_eq, aload, apart, isAggD, Tryz.underlying4, Nat.reduceAdd, List.getD_cons_succ, gval, gslot, Option.bind_some, gdec_eqs, Bool.not_false, K_gT, gok, cav, K_binC, K_int, aint, d1, apick, abuiltin, amaplen, alen, Tryz.underlying54, K_store, astore, acells, spl, K_nil, Then, d2, List.all_cons, oneC, Value.oneCell', List.all_nil, List.drop_nil]
  refine hK _ ?_
  clear hK K
  refine awp_keep [0, 6] ?_
  simp only [keep_eqs, K_ops, Nat.reduceEqDiff, if_true, if_false]
  refine awp_seq_k fun K hK => awp_region [] ?_
  simp only [qq, K_eqs, Nat.reduceLT, K_ops, reduceCtorEq, Nat.reduceEqDiff, K_nil, Then]
  (repeat' apply And.intro) <;> try (first | exact True.intro | omega)
  refine hK _ ?_
  clear hK K
  refine awp_keep [0, 4] ?_
  simp only [keep_eqs, K_ops, Nat.reduceEqDiff, if_true, if_false]
  refine awp_ret ?_
  refine FinG_one _ rfl hnR' ?_
  simp only [qq, andO, aresN, aresNs, aresN1, K_ops, reduceCtorEq, noref]

def tf (l : List (List UInt8)) : List FieldV := l.map fun s => (3, s)
theorem CS_texts_len [Gv] (l : List (List UInt8)) : (CS (l.map textC)).length = l.length * 5 := by rw [CS_length, List.length_map]

theorem rcavs_ok [Gv] (ts : List (List UInt8)) (rest : List FieldV) (h3 : headIs rest 3 = false) (h4 : headIs rest 4 = false) (hl : (tf ts ++ rest).length ≤ 1000000000) :
    ACalls Tryz.prog G0 169 [.ptr 0 0] [.cells (RD (tf ts ++ rest) false)] (fun r os => os = [.cells (RD rest false)] ∧ r = .sl ts.length (CS (ts.map textC)) .no) := by
  have hnR : ∀ l, norefs (RD l false) = true := fun l => norefs_RD l false
  have hR : ∀ l, RD l false = [.sl l.length (Fs l) .no, .val (.bool false)] := fun l => rfl
  refine acallsG_of_awp Tryz.func169 rfl rfl Tryz.ntmps169 (rts := #[65]) rfl Tryz.results169 (by simp) ?_
  simp only [argSlots, Nat.reduceAdd]
  refine awp_seq_k fun K hK => awp_region [] ?_
  simp only [qq, K_eqs, Nat.reduceLT, K_ops, cav, K_nil, Then]
  (repeat' apply And.intro) <;> try (first | exact True.intro | omega)
  refine hK _ ?_
  clear hK K
  refine awp_seq_k fun K hK => awp_region [] ?_
  simp only [qq, K_eqs, Nat.reduceLT, K_ops, cav, K_nil, Then]
  (repeat' apply And.intro) <;> try (first | exact True.intro | omega)
  refine hK _ ?_
  clear hK K
  refine awp_tok 5 3 rfl ?_
  refine awp_keep [0, 3] ?_
  simp only [keep_eqs, K_ops, Nat.reduceEqDiff, if_true, if_false]
  refine awp_seq_k fun K1 hK1 => ?_
  refine awp_block ?_
  refine awp_loop_from (fun i : Nat => ⟨36, [(0, .ptr 0 0), (3, .sl i (CS ((ts.take i).map textC)) (.tok 1))], [.cells (RD (tf (ts.drop i) ++ rest) false), .tok 5 i]⟩)
    (fun i => i ≤ ts.length) (fun i => ts.length - i) 0 (by omega) (.of_keep [0, 3] (by exact rfl)) ?_
  intro i hi
  clear hK1
  refine awp_seq ?_
  refine awp_seq ?_
  rw [hR]
  refine awp_region [] ?_
  simp only [qq, K_eqs, Nat.reduceLT, K_ops, reduceCtorEq, anil, Nat.reduceEqDiff, afieldAddr, Tryz.underlying251, tszs, ne_eq, aload, apart, isAggD, Tryz.underlying4, aun, K_nil, Then, Nat.reduceAdd, List.getD_cons_succ, Bool.not_false]
  refine awp_condT rfl (awp_skip ?_)
  simp only [Then]
  refine awp_keep [0, 3] ?_
  simp only [keep_eqs, K_ops, Nat.reduceEqDiff, if_true, if_false]
  refine awp_block ?_
  refine awp_block ?_
  refine awp_seq ?_
  rw [← hR]
  rcases Nat.lt_or_ge i ts.length with hlt | hge
  · have hdr : ts.drop i = ts[i] :: ts.drop (i + 1) := List.drop_eq_getElem_cons hlt
    have htk : (ts.take (i + 1)).map textC = (ts.take i).map textC ++ [textC ts[i]] := by rw [List.take_add_one, List.getElem?_eq_getElem hlt, List.map_append]; rfl
    have hlr : (tf (ts.drop (i + 1)) ++ rest).length ≤ 1000000000 := by
      simp only [tf, List.length_append, List.length_map, List.length_drop] at hl ⊢
      omega
    have hlt2 : ts.length ≤ 1000000000 := by simp only [tf, List.length_append, List.length_map] at hl; omega
    rw [hdr]
    generalize ts[i] = v at *
    rw [show tf (v :: ts.drop (i + 1)) ++ rest = (3, v) :: (tf (ts.drop (i + 1)) ++ rest) from rfl]
    have cI := is_ok ((3, v) :: (tf (ts.drop (i + 1)) ++ rest)) false 3
    have cT := take_ok (tf (ts.drop (i + 1)) ++ rest) false 3 v hlr
    rw [show headIs ((3, v) :: (tf (ts.drop (i + 1)) ++ rest)) 3 = true by simp [headIs]] at cI
    have hCl : (CS ((ts.take i).map textC)).length = i * 5 := by rw [CS_texts_len, List.length_take]; omega
    generalize hfl : tf (ts.drop (i + 1)) ++ rest = fl at *
    refine awp_region [1000013] ?_
    simp only [qq, K_eqs, Nat.reduceLT, K_ops, reduceCtorEq, K_call, Nat.reduceAdd, List.contains_cons, beq_self_eq_true, Nat.reduceEqDiff, cav, K_clo, Nat.reduceBEq, aviews, aview, noref]
    refine andH_one (v' := .val (.bool true)) 0 (.cells (RD ((3, v) :: fl) false)) rfl (by simpa [objOk] using hnR _) (by simp [hviews, hview, noref]) cI (by simp [objOk, hnR]) (by simp [hres, noref]) ?_
    simp only [qq, RestH_eqs, K_eqs, Nat.reduceLT, K_ops, Nat.reduceEqDiff, reduceCtorEq, K_nil, Then]
    refine awp_condT rfl ?_
    refine awp_keep [0, 3] ?_
    simp only [keep_eqs, K_ops, Nat.reduceEqDiff, if_true, if_false]
    refine awp_region [1000016] ?_
    simp only [qq, K_eqs, Nat.reduceLT, K_ops, reduceCtorEq, K_call, Nat.reduceAdd, List.contains_cons, beq_self_eq_true, Nat.reduceEqDiff, cav, K_clo, Nat.reduceBEq, aviews, aview, noref]
    refine andH_one (v' := str v) 0 (.cells (RD ((3, v) :: fl) false)) rfl (by simpa [objOk] using hnR _) (by simp [hviews, hview, noref]) cT (by simp [objOk, hnR]) (by simp [hres, noref, str]) ?_
    simp only [qq, str, RestH_eqs, K_eqs, abuild, tzeros, Tryz.underlying74, tsfs, cav, aparts, K_ops, Nat.reduceEqDiff, reduceCtorEq, afill, spl, acells, Nat.reduceAdd, Nat.reduceLeDiff, List.all_cons, oneC, Value.oneCell', List.all_nil, Nat.reduceLT, List.contains_cons, Nat.reduceBEq, abuildOwn, Tryz.underlying65, tszs, zrep_1, Nat.zero_mul, Nat.reduceMul, abuildSlice, abuiltin, aappend, tbys, appSrc, srcCells, hCl, K_nil, List.drop_nil]
    refine ⟨⟨by omega, by omega⟩, ?_⟩
    simp only [InBlock, Then]
    rw [show CS ((ts.take i).map textC) ++ [.val (.bool false), .val (.string ⟨v.toArray⟩), .val (.int .u64 0), .val (.string ⟨#[]⟩), .val (.string ⟨#[]⟩)] = CS ((ts.take (i + 1)).map textC) from by rw [htk, CS_append, CS_one]; rfl]
    subst hfl
    exact ⟨i + 1, by omega, by omega, .of_keep [0, 3] rfl⟩
  · have he : i = ts.length := by omega
    subst he
    rw [List.drop_length, List.take_length]
    rw [show tf [] ++ rest = rest from rfl]
    have cI := is_ok rest false 3
    have cJ := is_ok rest false 4
    rw [h3] at cI
    rw [h4] at cJ
    refine awp_region [1000013] ?_
    simp only [qq, K_eqs, Nat.reduceLT, K_ops, reduceCtorEq, K_call, Nat.reduceAdd, List.contains_cons, beq_self_eq_true, Nat.reduceEqDiff, cav, K_clo, Nat.reduceBEq, aviews, aview, noref]
    refine andH_one (v' := .val (.bool false)) 0 (.cells (RD rest false)) rfl (by simpa [objOk] using hnR _) (by simp [hviews, hview, noref]) cI (by simp [objOk, hnR]) (by simp [hres, noref]) ?_
    simp only [qq, RestH_eqs, K_eqs, Nat.reduceLT, K_ops, Nat.reduceEqDiff, reduceCtorEq, K_nil, Then]
    refine awp_condF rfl ?_
    refine awp_keep [0, 3] ?_
    simp only [keep_eqs, K_ops, Nat.reduceEqDiff, if_true, if_false]
    refine awp_seq ?_
    refine awp_region [1000022] ?_
    simp only [qq, K_eqs, Nat.reduceLT, K_ops, reduceCtorEq, K_call, Nat.reduceAdd, List.contains_cons, beq_self_eq_true, Nat.reduceEqDiff, cav, K_clo, Nat.reduceBEq, aviews, aview, noref]
    refine andH_one (v' := .val (.bool false)) 0 (.cells (RD rest false)) rfl (by simpa [objOk] using hnR _) (by simp [hviews, hview, noref]) cJ (by simp [objOk, hnR]) (by simp [hres, noref]) ?_
    simp only [qq, RestH_eqs, K_eqs, Nat.reduceLT, K_ops, Nat.reduceEqDiff, reduceCtorEq, K_nil, Then]
    refine awp_condF rfl ?_
    refine awp_keep [3] ?_
    simp only [keep_eqs, K_ops, Nat.reduceEqDiff, if_true, if_false]
    refine awp_noperm 3 rfl ?_
    refine awp_keep [3] ?_
    simp only [keep_eqs, K_ops, Nat.reduceEqDiff, if_true, if_false]
    refine awp_seq_k fun K hK => awp_region [] ?_
    simp only [qq, K_eqs, Nat.reduceLT, K_ops, Nat.reduceEqDiff, K_nil, Then]
    (repeat' apply And.intro) <;> try (first | exact True.intro | omega)
    refine hK _ ?_
    clear hK K
    refine awp_keep [2] ?_
    simp only [keep_eqs, K_ops, Nat.reduceEqDiff, if_true, if_false]
    refine awp_ret ?_
    simp only [InBlock, Then]
    refine FinG_one _ rfl (hnR _) ?_
    exact ⟨⟨trivial, trivial⟩, by simp [noref, norefs_CS, lk], rfl, rfl⟩

def plainT (t : TokV) (ts : List (List UInt8)) : Prop := t.cavs = ts.map textC

theorem flat_texts [Gv] (ts : List (List UInt8)) : (ts.map textC).flatMap fieldsC = tf ts := by
  induction ts with
  | nil => rfl
  | cons s l ih => rw [List.map_cons, List.flatMap_cons, ih]; rfl
theorem fieldsT_plain [Gv] {t : TokV} {ts : List (List UInt8)} (h : plainT t ts) : fieldsT t = (1, vb t.key) :: (2, t.id) :: (tf ts ++ [(7, [if t.bound then 1 else 0]), (8, t.tag)]) := by
  have : t.cavs.flatMap fieldsC = tf ts := by rw [h, flat_texts]
  simp [fieldsT, this]

theorem pdecode_ok [Gv] (t : TokV) (ts : List (List UInt8)) (hs : small t) (hpl : plainT t ts) (hok : okT t = true) (hl : (encT t).length ≤ 1048576) :
    ACalls Tryz.prog G0 103 [.sl (encT t).length (Bs (encT t)) .no] [] (fun r os => os = [] ∧ r = .tup [.agg (TA t .no), .val (.int .i64 0)]) := by
  have cA := fall_ok (encT t) hl
  have hbk : bulk (fieldsT t) ≤ 1048576 := by
    have h1 := bulk_join (fieldsT t)
    rw [join_fieldsT] at h1
    omega
  have hal : allOf (encT t) = some (fieldsT t) := by
    rw [← join_fieldsT]
    exact allOf_join _ (by omega)
  rw [hal] at cA
  have hff := fieldsT_plain hpl
  have hfl : (tf ts).length ≤ 1048576 := by
    have h1 := length_bulk (fieldsT t)
    have h2 : (fieldsT t).length ≤ 1048576 := by omega
    rw [hff] at h2
    simp only [List.length_cons, List.length_append] at h2
    omega
  have hR : ∀ l b, RD l b = [.sl l.length (Fs l) .no, .val (.bool b)] := fun l b => rfl
  have hnR : ∀ l b, norefs (RD l b) = true := norefs_RD
  have c1 := rnumber_ok ((2, t.id) :: (tf ts ++ [(7, [if t.bound then 1 else 0]), (8, t.tag)])) 1 t.key hs.2.2.2.2.1 (by simp only [List.length_cons, List.length_append, List.length_nil]; omega)
  have c2 := take_ok (tf ts ++ [(7, [if t.bound then 1 else 0]), (8, t.tag)]) false 2 t.id (by simp only [List.length_cons, List.length_append, List.length_nil]; omega)
  have c3 := rcavs_ok ts [(7, [if t.bound then 1 else 0]), (8, t.tag)] rfl rfl (by simp only [List.length_cons, List.length_append, List.length_nil]; omega)
  have c4 := take_ok [(8, t.tag)] false 7 [if t.bound then 1 else 0] (by simp)
  have c5 := take_ok [] false 8 t.tag (by simp)
  rw [← hff] at c1
  have cK := pcheck_ok t .no hs rfl
  rw [hok, if_pos rfl] at cK
  have hz0 := zeroT_lit
  have hlz := TA_length zeroT .full (by simp [zeroT])
  have hT : TA t .no = [.val (.int .u64 (t.key : Int)), str t.id, .sl ts.length (CS (ts.map textC)) .no, .val (.bool t.bound)] ++ Bs t.tag := by
    rw [TA, hpl, List.length_map]
  have hlT := TA_length t .no hs.2.2.2.1
  have hoT := TA_oneC t .no
  have hnT := norefs_TA t .no rfl
  have ht32 := hs.2.2.2.1
  generalize fieldsT t = ff at *
  generalize TA t .no = T at *
  generalize TA zeroT .full = T0 at *
  generalize encT t = e at *
  simp only [str] at *
  refine acalls_of_awp Tryz.func103 rfl rfl Tryz.ntmps103 (rts := #[67,37]) rfl Tryz.results103 (by simp) ?_
  simp only [argSlots, Nat.reduceAdd]
  refine awp_seq_k fun K hK => awp_region [] ?_
  simp only [qq, K_eqs, aalloc, tzeros, cav, Nat.reduceLT, K_ops, K_nil, Then]
  (repeat' apply And.intro) <;> try (first | exact True.intro | omega)
  refine hK _ ?_
  clear hK K
  rw [hz0]
  refine awp_seq_k fun K hK => awp_region [] ?_
  simp only [qq, K_eqs, Nat.reduceLT, K_ops, reduceCtorEq, K_call, Nat.reduceAdd, Nat.reduceEqDiff, K_clo, aviews, aview, norefs_Bs, ntok]
  refine andC_eq (by simp [norefs_Bs]) cA (by simp [atup, noref, norefs, norefs_Fs]) ?_
  simp only [qq, atup, RestC_eqs, K_eqs, Nat.reduceLT, K_ops, Nat.reduceEqDiff, reduceCtorEq, aext, K_nil, Then]
  refine hK _ ?_
  clear hK K
  refine awp_keep [2, 3, 4, 5] ?_
  simp only [keep_eqs, K_ops, Nat.reduceEqDiff, if_true, if_false]
  refine awp_seq_k fun K hK => awp_region [] ?_
  simp only [qq, K_eqs, Nat.reduceLT, K_ops, Nat.reduceEqDiff, aun, Bool.not_true, abuild, tzeros, Tryz.underlying251, tsfs, cav, aparts, afill, spl, acells, Nat.reduceAdd, Nat.reduceLeDiff, List.all_cons, oneC, List.all_nil, aboxF, abox, K_nil, Then, Bool.true_and, Value.oneCell', List.drop_nil]
  refine hK _ ?_
  clear hK K
  refine awp_keep [2, 3, 6] ?_
  simp only [keep_eqs, K_ops, Nat.reduceEqDiff, if_true, if_false]
  rw [← hR]
  refine awp_seq_k fun K hK => awp_region [1000022, 1000024] ?_
  simp only [qq, K_eqs, Nat.reduceLT, K_ops, Nat.reduceEqDiff, K_call, Nat.reduceAdd, List.contains_cons, beq_self_eq_true, Nat.reduceBEq, cav, K_clo, aviews, aview, noref]
  refine andH_one (v' := .val (.int .u64 (t.key : Int))) 1 (.cells (RD ff false)) rfl (by simpa [objOk] using hnR _ _) (by simp [hviews, hview, noref]) c1 (by simp [objOk, hnR]) (by simp [hres, noref]) ?_
  simp only [qq, RestH_eqs, K_eqs, Nat.reduceLT, K_ops, Nat.reduceEqDiff, K_call, Nat.reduceAdd, List.contains_cons, Nat.reduceBEq, beq_self_eq_true, Bool.false_or, cav, K_clo, aviews, aview, noref]
  refine andH_one (v' := .val (.string ⟨t.id.toArray⟩)) 1 (.cells (RD _ false)) rfl (by simpa [objOk] using hnR _ _) (by simp [hviews, hview, noref]) c2 (by simp [objOk, hnR]) (by simp [hres, noref]) ?_
  simp only [qq, RestH_eqs, K_eqs, abuild, tzeros, Tryz.underlying67, tsfs, cav, aparts, K_ops, Nat.reduceEqDiff, afill, spl, acells, Nat.reduceAdd, Nat.reduceLeDiff, List.all_cons, oneC, Value.oneCell', List.all_nil, Nat.reduceLT, aalloc, K_store, astore, tszs, K_nil, Then, List.drop_nil]
  refine hK _ ?_
  clear hK K
  refine awp_keep [2, 3, 6, 7] ?_
  simp only [keep_eqs, K_ops, Nat.reduceEqDiff, if_true, if_false]
  have e1 : ([(if t.bound = true then 1 else 0 : UInt8)] == [1]) = t.bound := by cases t.bound <;> rfl
  have e2 : (!([(if t.bound = true then 1 else 0 : UInt8)] == [0])) = t.bound := by cases t.bound <;> rfl
  generalize (if t.bound = true then 1 else 0 : UInt8) = bb at *
  refine awp_seq_k fun K hK => awp_region [1000027] ?_
  simp only [qq, K_eqs, Nat.reduceLT, K_ops, Nat.reduceEqDiff, K_call, Nat.reduceAdd, List.contains_cons, beq_self_eq_true, K_clo, Nat.reduceBEq, aviews, aview]
  refine andH_one (v' := .sl ts.length (CS (ts.map textC)) .no) 1 (.cells (RD _ false)) rfl (by simpa [objOk] using hnR _ _) (by simp [hviews, hview, noref]) c3 (by simp [objOk, hnR]) (by simp [hres, noref, norefs_CS]) ?_
  simp only [qq, RestH_eqs, K_eqs, afieldAddr, Tryz.underlying67, tszs, K_ops, Nat.reduceEqDiff, ne_eq, reduceCtorEq, Nat.reduceLT, K_store, astore, acells, List.all_cons, oneC, List.all_nil, spl, K_nil, Then, Nat.reduceAdd, Nat.reduceLeDiff]
  refine hK _ ?_
  clear hK K
  refine awp_keep [2, 3, 6, 7] ?_
  simp only [keep_eqs, K_ops, Nat.reduceEqDiff, if_true, if_false]
  refine awp_seq_k fun K hK => awp_region [1000030] ?_
  simp only [qq, K_eqs, Nat.reduceLT, K_ops, Nat.reduceEqDiff, K_call, Nat.reduceAdd, List.contains_cons, beq_self_eq_true, cav, K_clo, Nat.reduceBEq, aviews, aview, noref]
  refine andH_one (v' := .val (.string ⟨#[bb]⟩)) 1 (.cells (RD _ false)) rfl (by simpa [objOk] using hnR _ _) (by simp [hviews, hview, noref]) c4 (by simp [objOk, hnR]) (by simp [hres, noref]) ?_
  simp only [qq, RestH_eqs, K_eqs, Nat.reduceLT, K_ops, Nat.reduceEqDiff, K_nil, Then]
  refine hK _ ?_
  clear hK K
  refine awp_keep [2, 3, 6, 7, 8] ?_
  simp only [keep_eqs, K_ops, Nat.reduceEqDiff, if_true, if_false]
  refine awp_seq_k fun K hK => awp_region [] ?_
  simp only [qq, K_eqs, Nat.reduceLT, K_ops, Nat.reduceEqDiff, cav, K_binC, K_int, astr, ByteArray.toList_mk, e1, afieldAddr, Tryz.underlying67, tszs, ne_eq, reduceCtorEq, K_store, astore, acells, List.all_cons, oneC, Value.oneCell', List.all_nil, spl, K_nil, Then, Nat.reduceAdd, Nat.reduceLeDiff]
  refine hK _ ?_
  clear hK K
  refine awp_keep [2, 3, 6, 7, 8] ?_
  simp only [keep_eqs, K_ops, Nat.reduceEqDiff, if_true, if_false]
  have cO := of_ok t.tag .no
  rw [if_pos ht32, decide_eq_true ht32, ht32] at cO
  have hbt : (Bs t.tag).length = 32 := by rw [Bs_length]; omega
  have hbo : (Bs t.tag).all oneC = true := by
    rw [List.all_eq_true]
    intro x hx
    obtain ⟨z, _, rfl⟩ := List.mem_map.1 hx
    rfl
  have htt : t.tag.take 32 = t.tag := List.take_of_length_le (by omega)
  have hz : (Z 32).drop 32 = [] := List.drop_eq_nil_of_le (by rw [Z_length]; exact Nat.le_refl _)
  refine awp_seq_k fun K hK => awp_region [1000036] ?_
  simp only [qq, K_eqs, Nat.reduceLT, K_ops, Nat.reduceEqDiff, K_call, Nat.reduceAdd, List.contains_cons, beq_self_eq_true, cav, K_clo, Nat.reduceBEq, aviews, aview, noref]
  refine andH_one (v' := .val (.string ⟨t.tag.toArray⟩)) 1 (.cells (RD _ false)) rfl (by simpa [objOk] using hnR _ _) (by simp [hviews, hview, noref]) c5 (by simp [objOk, hnR]) (by simp [hres, noref]) ?_
  simp only [qq, RestH_eqs, K_conv, Tryz.underlying54, abytes, K_ops, Nat.reduceEqDiff, Tryz.underlying9, Tryz.underlying5, ba_size, ht32, Nat.reduceLT, K_call, Nat.reduceAdd, List.contains_cons, Nat.reduceBEq, K_clo, aviews, aview, norefs_Bs, ntok]
  refine andC_eq (by simp [norefs_Bs]) cO (by simp [noref, norefs, norefs_Bs]) ?_
  simp only [qq, RestC_eqs, K_eqs, Nat.reduceLT, K_ops, Nat.reduceEqDiff, aext, aalloc, tzeros, Nat.reduceAdd, zvs_u8, K_store, astore, tszs, acells, spl, K_nil, Then, Bs_length, Z_length, Bs_drop, hbo, hbt, hz, Bs_nil]
  refine hK _ ?_
  clear hK K
  refine awp_keep [2, 3, 6, 7, 8, 9, 10] ?_
  simp only [keep_eqs, K_ops, Nat.reduceEqDiff, if_true, if_false]
  refine awp_seq_k fun K hK => awp_region [] ?_
  simp only [qq, K_eqs, aload, K_ops, Nat.reduceEqDiff, apart, isAggD, Tryz.underlying23, tszs, hbt, Bs_take, htt, Nat.reduceLT, afieldAddr, Tryz.underlying67, ne_eq, reduceCtorEq, K_store, astore, acells, spl, K_nil, Then, Nat.reduceAdd, hbo, List.drop_nil]
  refine hK _ ?_
  clear hK K
  simp only [List.cons_append, List.nil_append] at hT
  rw [← hT]
  rw [hR]
  refine awp_keep [2, 3, 6, 7, 8, 10] ?_
  simp only [keep_eqs, K_ops, Nat.reduceEqDiff, if_true, if_false]
  have gT3 : T.getD 3 .top = .val (.bool t.bound) := by rw [hT]; rfl
  have hTt : T.take 36 = T := List.take_of_length_le (by omega)
  have hTd : T.drop 36 = [] := List.drop_eq_nil_of_le (by omega)
  refine awp_seq_k fun K1 hK1 => ?_
  refine awp_seq_k fun K hK => ?_
  have next : ∀ s, Weak G0 s ⟨75, [(72, .val (.bool false)), (2, .ptr 0 0), (7, .ptr 2 0)], [.cells T0, .cells [.sl 0 (Fs []) .no, .val (.bool false)], .cells T, .cells (Bs t.tag)]⟩ → K s := by
    intro s hw
    refine hK s (awp_weak hw ?_)
    clear hw hK K
    refine awp_condF rfl (awp_skip (hK1 _ ?_))
    clear hK1 K1
    refine awp_keep [2, 7] ?_
    simp only [keep_eqs, K_ops, Nat.reduceEqDiff, if_true, if_false]
    refine awp_seq_k fun K hK => awp_region [] ?_
    simp only [qq, K_eqs, aload, K_ops, Nat.reduceEqDiff, apart, isAggD, Tryz.underlying67, tszs, hlT, hTt, Nat.reduceLT, K_store, astore, acells, hlz, spl, cav, K_nil, Then, hoT]
    refine hK _ ?_
    clear hK K
    refine awp_keep [2, 3] ?_
    simp only [keep_eqs, K_ops, Nat.reduceEqDiff, if_true, if_false]
    refine awp_ret ?_
    simp only [qq, List.drop_eq_nil_of_le (Nat.le_of_eq hlz), K_fin, ares, aress, ares1, aload, K_ops, Nat.reduceEqDiff, apart, isAggD, Tryz.underlying67, tszs, hlT, hTt, afin, noref, hnT]
  refine awp_region [] ?_
  cases hbd : t.bound with
  | true =>
    rw [hbd] at e2 gT3
    simp only [qq, K_eqs, Nat.reduceLT, K_ops, Nat.reduceEqDiff, anil, afieldAddr, Tryz.underlying251, tszs, ne_eq, reduceCtorEq, aload, apart, isAggD, Tryz.underlying4, Nat.reduceAdd, List.getD_cons_succ, gval, gslot, Option.bind_some, gdec_eqs, Bool.not_false, K_gT, gok, aun, Bool.not_true, apick, cav, Tryz.underlying186, abuiltin, amaplen, alen, K_binC, Nat.zero_lt_succ, Int.cast_ofNat_Int, K_int, aint, Int.lt_irrefl, decide_false, astr, ByteArray.toList_mk, e2, Tryz.underlying67, hlT, gT3, hTt, K_call, K_clo, aviews, aview, ntok, List.headD_cons, noref]
    refine andC_eq hnT cK rfl ?_
    simp only [qq, RestC_eqs, gval, gslot, Option.bind_some, K_ops, Nat.reduceEqDiff, gdec_eqs, Bool.not_false, K_gT, gok, Nat.reduceLT, K_eqs, cav, K_binC, K_int, aint, Int.reduceBNe, apick, K_nil, Then]
    exact next _ (.of_keep [72, 2, 7] (by exact rfl))
  | false =>
    rw [hbd] at e2 gT3
    simp only [qq, K_eqs, Nat.reduceLT, K_ops, Nat.reduceEqDiff, anil, afieldAddr, Tryz.underlying251, tszs, ne_eq, reduceCtorEq, aload, apart, isAggD, Tryz.underlying4, Nat.reduceAdd, List.getD_cons_succ, gval, gslot, Option.bind_some, gdec_eqs, Bool.not_false, K_gT, gok, aun, Bool.not_true, apick, cav, Tryz.underlying186, abuiltin, amaplen, alen, K_binC, Nat.zero_lt_succ, Int.cast_ofNat_Int, K_int, aint, Int.lt_irrefl, decide_false, astr, ByteArray.toList_mk, e2, K_gF, Tryz.underlying67, hlT, hTt, K_call, K_clo, aviews, aview, ntok, List.headD_cons, noref]
    refine andC_eq hnT cK rfl ?_
    simp only [qq, RestC_eqs, gval, gslot, Option.bind_some, K_ops, Nat.reduceEqDiff, gdec_eqs, Bool.not_false, K_gT, gok, Nat.reduceLT, K_eqs, cav, K_binC, K_int, aint, Int.reduceBNe, apick, K_nil, Then]
    exact next _ (.of_keep [72, 2, 7] (by exact rfl))
theorem zeroB_lit [Gv] : ([.val (.int .u64 0), .val (.string ⟨#[]⟩), .sl 0 [] .full, .val (.bool false), .val (.int .u8 0), .val (.int .u8 0), .val (.int .u8 0), .val (.int .u8 0), .val (.int .u8 0), .val (.int .u8 0), .val (.int .u8 0), .val (.int .u8 0), .val (.int .u8 0), .val (.int .u8 0), .val (.int .u8 0), .val (.int .u8 0), .val (.int .u8 0), .val (.int .u8 0), .val (.int .u8 0), .val (.int .u8 0), .val (.int .u8 0), .val (.int .u8 0), .val (.int .u8 0), .val (.int .u8 0), .val (.int .u8 0), .val (.int .u8 0), .val (.int .u8 0), .val (.int .u8 0), .val (.int .u8 0), .val (.int .u8 0), .val (.int .u8 0), .val (.int .u8 0), .val (.int .u8 0), .val (.int .u8 0), .val (.int .u8 0), .val (.int .u8 0), .sl 0 [] .full] : List AV) = BA zeroT .full := rfl

theorem bdecode_ok [Gv] (t : TokV) (ts : List (List UInt8)) (hs : small t) (hpl : plainT t ts) (hok : okT t = true) (hb : t.bound = false) (hl : (encB t).length ≤ 65536) :
    ACalls Tryz.prog G0 43 [.sl (encB t).length (Bs (encB t)) .no] [] (fun r os => os = [] ∧ r = .tup [.agg (BA t .no), .val (.int .i64 0)]) := by
  have cA := fall_ok (encB t) (by omega)
  have hle : (encT t).length + 1 ≤ (encB t).length := by simp [encB, V.join, fby]
  have hal : allOf (encB t) = some [(16, encT t)] := allOf_join [(16, encT t)] (by simp [bulk]; omega)
  rw [hal] at cA
  simp only [atup, Fs, FA, List.flatMap_cons, List.flatMap_nil, List.append_nil, List.cons_append, List.nil_append, B, UInt8.reduceToNat, Int.cast_ofNat_Int, List.length_cons, List.length_nil, Nat.reduceAdd] at cA
  have cD := pdecode_ok t ts hs hpl hok (by omega)
  have cK := bcheck_ok t .no hs rfl hb
  rw [hok, if_pos rfl] at cK
  have hlT := TA_length t .no hs.2.2.2.1
  have hoT := TA_oneC t .no
  have hnT := norefs_TA t .no rfl
  have hTt : (TA t .no).take 36 = TA t .no := List.take_of_length_le (by omega)
  have hTd : (TA t .no).drop 36 = [] := List.drop_eq_nil_of_le (by omega)
  have hB : BA t .no = TA t .no ++ [.sl 0 [] .full] := rfl
  have hlB := BA_length t .no hs.2.2.2.1
  have hoB := BA_oneC t .no
  have hnB := norefs_BA t .no rfl
  have hBt : (BA t .no).take 37 = BA t .no := List.take_of_length_le (by omega)
  have hBd : (BA t .no).drop 37 = [] := List.drop_eq_nil_of_le (by omega)
  have hz0 := zeroB_lit
  have hlz := BA_length zeroT .full (by simp [zeroT])
  have hzd : (BA zeroT .full).drop 36 = [.sl 0 [] .full] := rfl
  have hzd7 : (BA zeroT .full).drop 37 = [] := rfl
  have hz36 : (TA zeroT .full).length = 36 := rfl
  generalize BA t .no = Bd at *
  generalize TA t .no = T at *
  generalize BA zeroT .full = B0 at *
  generalize hEB : encB t = eB at *
  generalize encT t = eT at *
  refine acalls_of_awp Tryz.func43 rfl rfl Tryz.ntmps43 (rts := #[70,37]) rfl Tryz.results43 (by simp) ?_
  simp only [argSlots, Nat.reduceAdd]
  refine awp_seq_k fun K hK => awp_region [] ?_
  simp only [qq, K_eqs, aalloc, tzeros, cav, Nat.reduceLT, K_ops, K_nil, Then]
  (repeat' apply And.intro) <;> try (first | exact True.intro | omega)
  refine hK _ ?_
  clear hK K
  rw [hz0]
  refine awp_seq_k fun K1 hK1 => ?_
  refine awp_seq_k fun K hK => awp_region [] ?_
  simp only [qq, K_eqs, Nat.reduceLT, K_ops, reduceCtorEq, abuiltin, Nat.reduceEqDiff, amaplen, alen, Tryz.underlying54, cav, K_binC, K_nil, Then, K_int, aint, d_gt]
  (repeat' apply And.intro) <;> try (first | exact True.intro | omega)
  refine hK _ ?_
  clear hK K
  refine awp_condF (by simp only [K_ops, lk]; simp; omega) (awp_skip (hK1 _ ?_))
  clear hK1 K1
  refine awp_keep [0, 2, 3] ?_
  simp only [keep_eqs, K_ops, Nat.reduceEqDiff, if_true, if_false]
  refine awp_seq_k fun K hK => awp_region [] ?_
  simp only [qq, K_eqs, Nat.reduceLT, K_ops, reduceCtorEq, K_call, Nat.reduceAdd, Nat.reduceEqDiff, K_clo, aviews, aview, norefs_Bs, ntok]
  refine andC_eq (by simp [norefs_Bs]) cA (by simp [noref, norefs]) ?_
  simp only [qq, RestC_eqs, K_eqs, Nat.reduceLT, K_ops, Nat.reduceEqDiff, reduceCtorEq, aext, K_nil, Then]
  refine hK _ ?_
  clear hK K
  refine awp_keep [2, 3, 4, 5] ?_
  simp only [keep_eqs, K_ops, Nat.reduceEqDiff, if_true, if_false]
  refine awp_seq_k fun K1 hK1 => ?_
  refine awp_seq_k fun K hK => awp_region [] ?_
  simp only [qq, K_eqs, Nat.reduceLT, K_ops, Nat.reduceEqDiff, aun, Bool.not_true, gval, gslot, Option.bind_some, gdec_eqs, Bool.not_false, K_gT, gok, abuiltin, amaplen, alen, Tryz.underlying186, Int.cast_ofNat_Int, cav, K_binC, apick, K_nil, Then, K_int, aint, Int.reduceBEq]
  (repeat' apply And.intro) <;> try (first | exact True.intro | omega)
  refine hK _ ?_
  clear hK K
  refine awp_condF rfl (awp_skip (hK1 _ ?_))
  clear hK1 K1
  refine awp_keep [2, 3, 4] ?_
  simp only [keep_eqs, K_ops, Nat.reduceEqDiff, if_true, if_false]
  refine awp_seq_k fun K hK => awp_region [] ?_
  simp only [qq, K_eqs, aalloc, tzeros, cav, Nat.reduceLT, K_nil, Then, K_ops]
  (repeat' apply And.intro) <;> try (first | exact True.intro | omega)
  refine hK _ ?_
  clear hK K
  rw [hz0]
  refine awp_keep [2, 3, 4, 6] ?_
  simp only [keep_eqs, K_ops, Nat.reduceEqDiff, if_true, if_false]
  refine awp_seq_k fun K1 hK1 => ?_
  refine awp_seq_k fun K hK => awp_region [] ?_
  simp only [qq, K_eqs, Nat.reduceLT, K_ops, Nat.reduceEqDiff, abuiltin, amaplen, alen, Tryz.underlying186, Int.cast_ofNat_Int, cav, K_nil, Then]
  (repeat' apply And.intro) <;> try (first | exact True.intro | omega)
  refine hK _ ?_
  clear hK K
  refine awp_keep [2, 3, 6, 28, 29, 30] ?_
  simp only [keep_eqs, K_ops, Nat.reduceEqDiff, if_true, if_false]
  refine awp_block ?_
  obtain ⟨FS, hFS⟩ : ∃ FS : List AV, FS = [.val (.int .u8 16), .val (.string ⟨eT.toArray⟩)] := ⟨_, rfl⟩
  refine awp_loop_from (fun b : Bool => ⟨81, [(2, .ptr 0 0), (3, .val (.int .i64 0)), (6, .ptr 1 0), (28, .sl 1 [.val (.int .u8 16), .val (.string ⟨eT.toArray⟩)] .no), (29, .val (.int .i64 1)), (30, .val (.int .i64 (if b then 1 else 0)))], if b then [.cells B0, .cells Bd, .dead, .dead] else [.cells B0, .cells B0]⟩)
    (fun _ => True) (fun b => if b then 0 else 1) false trivial (.of_keep [2, 3, 6, 28, 29, 30] (by exact rfl)) ?_
  intro b _
  cases b with
  | true =>
    refine awp_seq_k fun K hK => awp_region [] ?_
    simp only [qq, K_eqs, K_ops, Nat.reduceEqDiff, K_binC, K_int, aint, Int.lt_irrefl, decide_false, Nat.reduceLT, K_nil, Then]
    (repeat' apply And.intro) <;> try (first | exact True.intro | omega)
    refine hK _ ?_
    clear hK K
    refine awp_seq ?_
    refine awp_condF rfl ?_
    refine awp_exit ?_
    simp only [Then, InBlock, if_true]
    refine hK1 _ ?_
    clear hK1 K1
    refine awp_keep [2, 6] ?_
    simp only [keep_eqs, K_ops, Nat.reduceEqDiff, if_true, if_false]
    refine awp_seq_k fun K1 hK1 => ?_
    refine awp_seq_k fun K hK => awp_region [] ?_
    simp only [qq, K_eqs, aload, K_ops, Nat.reduceEqDiff, apart, isAggD, Tryz.underlying70, tszs, hlB, hBt, Nat.reduceLT, K_call, Nat.reduceAdd, K_clo, aviews, aview, ntok, List.headD_cons, noref]
    refine andC_eq hnB cK rfl ?_
    simp only [qq, RestC_eqs, K_eqs, K_ops, Nat.reduceEqDiff, cav, K_binC, K_int, aint, Int.reduceBNe, Nat.reduceLT, K_nil, Then]
    refine hK _ ?_
    clear hK K
    refine awp_condF rfl (awp_skip (hK1 _ ?_))
    clear hK1 K1
    refine awp_keep [2, 6] ?_
    simp only [keep_eqs, K_ops, Nat.reduceEqDiff, if_true, if_false]
    refine awp_seq_k fun K hK => awp_region [] ?_
    simp only [qq, K_eqs, aload, K_ops, Nat.reduceEqDiff, apart, isAggD, Tryz.underlying70, tszs, hlB, hBt, Nat.reduceLT, K_store, astore, acells, hlz, spl, cav, K_nil, Then, hoB, hzd7]
    refine hK _ ?_
    clear hK K
    refine awp_keep [2, 3] ?_
    simp only [keep_eqs, K_ops, Nat.reduceEqDiff, if_true, if_false]
    refine awp_ret ?_
    simp only [qq, K_fin, ares, aress, ares1, aload, K_ops, Nat.reduceEqDiff, apart, isAggD, Tryz.underlying70, tszs, hlB, hBt, afin, noref, hnB]
  | false =>
    refine awp_seq_k fun K hK => awp_region [] ?_
    simp only [qq, K_eqs, K_ops, Nat.reduceEqDiff, K_binC, K_int, aint, Int.reduceLT, decide_true, Nat.reduceLT, K_nil, Then]
    (repeat' apply And.intro) <;> try (first | exact True.intro | omega)
    refine hK _ ?_
    clear hK K
    refine awp_seq ?_
    refine awp_condT rfl (awp_skip ?_)
    simp only [Then]
    refine awp_keep [2, 3, 6, 28, 29, 30] ?_
    simp only [keep_eqs, K_ops, Nat.reduceEqDiff, if_true, if_false]
    refine awp_seq ?_
    refine awp_block ?_
    refine awp_seq_k fun K hK => awp_region [] ?_
    simp only [qq, K_eqs, Nat.reduceLT, K_ops, Nat.reduceEqDiff, aidxAddr, Tryz.underlying186, tszs, Nat.reduceAdd, Nat.reduceMul, Int.le_refl, Int.cast_ofNat_Int, Int.reduceLT, Int.toNat_zero, Nat.zero_mul, aload, apart, isAggD, Tryz.underlying124, aalloc, tzeros, cav, K_store, astore, acells, spl, K_nil, Then, List.take_nil, List.all_cons, oneC, Value.oneCell', List.all_nil, List.drop_nil]
    (repeat' apply And.intro) <;> try (first | exact True.intro | omega)
    refine hK _ ?_
    clear hK K
    refine awp_keep [2, 3, 6, 7, 8, 28, 29, 30] ?_
    simp only [keep_eqs, K_ops, Nat.reduceEqDiff, if_true, if_false]
    refine awp_seq_k fun K hK => awp_region [] ?_
    simp only [qq, K_eqs, afieldAddr, Tryz.underlying124, tszs, K_ops, Nat.reduceEqDiff, ne_eq, reduceCtorEq, Nat.reduceLT, aload, apart, isAggD, Tryz.underlying9, K_conv, Tryz.underlying54, abytes, Tryz.underlying5, K_call, Nat.reduceAdd, K_clo, aviews, aview, ntok, List.headD_cons, List.getD_cons_succ, ba_size, norefs_Bs]
    refine andC_eq (by simp [norefs_Bs]) cD (by simp [noref, norefs, hnT]) ?_
    simp only [qq, RestC_eqs, K_eqs, Nat.reduceLT, K_ops, Nat.reduceEqDiff, aext, aalloc, tzeros, Nat.reduceAdd, cav, K_store, astore, tszs, acells, spl, K_nil, Then, hoT, hlT, List.drop_nil]
    refine hK _ ?_
    clear hK K
    refine awp_keep [2, 3, 6, 7, 8, 9, 10, 28, 29, 30] ?_
    simp only [keep_eqs, K_ops, Nat.reduceEqDiff, if_true, if_false]
    refine awp_block ?_
    refine awp_seq ?_
    refine awp_region [] ?_
    simp only [qq, K_eqs, Nat.reduceLT, K_ops, Nat.reduceEqDiff, cav, K_binC, K_int, aint, Int.reduceBNe, gval, gslot, Option.bind_some, gdec_eqs, Bool.not_false, K_gT, gok, beq_self_eq_true, afieldAddr, Tryz.underlying124, tszs, ne_eq, reduceCtorEq, aload, apart, isAggD, Tryz.underlying5, apick, Nat.reduceAdd, Nat.zero_lt_succ, Int.lt_irrefl, decide_false, Bool.not_true, K_gF, K_nil, Then]
    refine awp_condF rfl ?_
    refine awp_keep [2, 3, 6, 7, 8, 9, 10, 28, 29, 30] ?_
    simp only [keep_eqs, K_ops, Nat.reduceEqDiff, if_true, if_false]
    refine awp_seq ?_
    refine awp_region [] ?_
    simp only [qq, K_eqs, Nat.reduceLT, K_ops, Nat.reduceEqDiff, cav, K_binC, K_int, aint, beq_self_eq_true, K_nil, Then]
    refine awp_condT rfl ?_
    refine awp_keep [2, 3, 6, 9, 28, 29, 30] ?_
    simp only [keep_eqs, K_ops, Nat.reduceEqDiff, if_true, if_false]
    refine awp_region [] ?_
    simp only [qq, K_eqs, aload, K_ops, Nat.reduceEqDiff, apart, isAggD, Tryz.underlying67, tszs, hlT, hTt, Nat.reduceLT, afieldAddr, Tryz.underlying70, ne_eq, reduceCtorEq, K_store, astore, acells, spl, K_nil, hlz, hoT, Nat.reduceLeDiff, hzd]
    rw [← hB]
    simp only [InBlock, Then]
    refine awp_dead 2 ?_
    refine awp_dead 3 ?_
    refine awp_keep [2, 3, 6, 28, 29, 30] ?_
    simp only [keep_eqs, K_ops, Nat.reduceEqDiff, if_true, if_false]
    refine awp_region [] ?_
    simp only [qq, K_eqs, K_ops, Nat.reduceEqDiff, cav, K_binC, K_int, aint, Nat.reduceLT, K_nil, Then]
    exact ⟨true, by decide, .of_keep [2, 3, 6, 28, 29, 30] rfl⟩
def KO (most last : Nat) (m : Nat) : AObj := .cells [.val (.int .i64 (most : Int)), .val (.int .u64 (last : Int)), .mref m]
def KY (tag : List UInt8) (u : Nat) : List AV := .val (.int .i64 1) :: (Bs tag ++ [.val (.int .u64 (u : Int)), .val (.bool false)])
theorem KY_length [Gv] (tag : List UInt8) (u : Nat) (h : tag.length = 32) : (KY tag u).length = 35 := by simp [KY, Bs_length, h]
theorem KY_oneC [Gv] (tag : List UInt8) (u : Nat) : (KY tag u).all oneC = true := by
  simp only [KY, List.all_cons, List.all_append, List.all_nil, oneC, Value.oneCell', Bool.and_true, Bool.true_and]
  rw [List.all_eq_true]
  intro x hx
  obtain ⟨z, _, rfl⟩ := List.mem_map.1 hx
  rfl
theorem norefs_KY [Gv] (tag : List UInt8) (u : Nat) : norefs (KY tag u) = true := by simp [KY, norefs, noref, norefs_append, norefs_Bs]

theorem knew_ok [Gv] (most : Nat) (h : most ≤ 1024) : ACalls Tryz.prog GP 35 [.val (.int .i64 (most : Int))] [] (fun r os => os = [KO most 0 1, .map []] ∧ r = .ptr 0 0) := by
  have h1 : (if (0 : Int) > (most : Int) then 0 else (most : Int)) = most := by split <;> omega
  have h2 : (if (1024 : Int) < (most : Int) then 1024 else (most : Int)) = most := by split <;> omega
  refine acallsG_of_awp Tryz.func35 rfl rfl Tryz.ntmps35 (rts := #[103]) rfl Tryz.results35 (by simp) ?_
  simp only [argSlots, Nat.reduceAdd]
  refine awp_seq_k fun K hK => awp_region [] ?_
  simp only [qq, K_eqs, Nat.reduceLT, K_ops, cav, K_nil, Then]
  (repeat' apply And.intro) <;> try (first | exact True.intro | omega)
  refine hK _ ?_
  clear hK K
  refine awp_seq_k fun K hK => awp_region [] ?_
  simp only [qq, K_eqs, Nat.reduceLT, K_ops, reduceCtorEq, abuiltin, Nat.reduceEqDiff, cav, amin2, h1, K_more, amakeMap, abuild, tzeros, Tryz.underlying164, tsfs, aparts, afill, spl, acells, Nat.reduceAdd, Nat.reduceLeDiff, aboxF, abox, K_nil, Then, List.all_cons, oneC, List.all_nil, h2, Value.oneCell', List.drop_nil]
  refine hK _ ?_
  clear hK K
  refine awp_keep [2] ?_
  simp only [keep_eqs, K_ops, Nat.reduceEqDiff, if_true, if_false]
  refine awp_ret ?_
  refine FinG_mk [1, 0] ⟨by simp, by simp, by decide, by simp, by simp [refO, refs, ref]⟩ ?_
  exact ⟨⟨trivial, trivial⟩, rfl, rfl, rfl⟩

theorem live_ok [Gv] (tag : List UInt8) (ht : tag.length = 32) (u c : Nat) : ACalls Tryz.prog GP 104 [.agg (KY tag u), .val (.int .u64 (c : Int))] [] (fun r os => os = [] ∧ r = .val (.bool (decide (c < u)))) := by
  have hl := KY_length tag u ht
  have ho := KY_oneC tag u
  have g33 : (KY tag u).getD 33 .top = .val (.int .u64 (u : Int)) := by
    rw [KY, List.getD_cons_succ, List.getD_eq_getElem?_getD, List.getElem?_append_right (by rw [Bs_length]; omega), Bs_length, ht]; rfl
  have g34 : (KY tag u).getD 34 .top = .val (.bool false) := by
    rw [KY, List.getD_cons_succ, List.getD_eq_getElem?_getD, List.getElem?_append_right (by rw [Bs_length]; omega), Bs_length, ht]; rfl
  generalize KY tag u = T at *
  refine acalls_of_awp Tryz.func104 rfl rfl Tryz.ntmps104 (rts := #[4]) rfl Tryz.results104 (by simp) ?_
  simp only [argSlots, Nat.reduceAdd]
  refine awp_seq_k fun K hK => awp_region [] ?_
  simp only [qq, K_eqs, aboxF, acells, K_ops, reduceCtorEq, ho, abox, Nat.reduceLT, cav, K_nil, Then]
  (repeat' apply And.intro) <;> try (first | exact True.intro | omega)
  refine hK _ ?_
  clear hK K
  refine awp_keep [1, 2] ?_
  simp only [keep_eqs, K_ops, Nat.reduceEqDiff, if_true, if_false]
  refine awp_seq_k fun K hK => awp_region [] ?_
  simp only [qq, K_eqs, afieldAddr, Tryz.underlying191, tszs, K_ops, Nat.reduceEqDiff, ne_eq, reduceCtorEq, Nat.reduceLT, aload, apart, isAggD, Tryz.underlying4, aun, hl, g34, Bool.not_false, gval, gslot, Option.bind_some, gdec_eqs, K_gT, gok, Tryz.underlying30, K_binC, apick, cav, K_nil, Then, g33, K_int, aint, d_ltn]
  refine hK _ ?_
  clear hK K
  refine awp_keep [4] ?_
  simp only [keep_eqs, K_ops, Nat.reduceEqDiff, if_true, if_false]
  refine awp_ret ?_
  simp only [qq, K_fin, ares, aress, ares1, afin, K_ops, noref]

theorem kmake_ok [Gv] (most : Nat) (h : 0 < most) (tag : List UInt8) (ht : tag.length = 32) (u : Nat) :
    ACalls Tryz.prog GP 97 [.ptr 0 0, .val (.int .i64 1), .agg (Bs tag), .val (.int .u64 (u : Int))] [KO most 0 1, .map []]
      (fun r os => os = [KO most 1 1, .map [(.int .u64 1, .agg (KY tag u))]] ∧ r = .tup [.val (.int .u64 1), .val (.int .i64 0)]) := by
  have hbl : (Bs tag).length = 32 := by rw [Bs_length]; omega
  have htt : tag.take 32 = tag := List.take_of_length_le (by omega)
  have hbo : (Bs tag).all oneC = true := by
    rw [List.all_eq_true]
    intro x hx
    obtain ⟨z, _, rfl⟩ := List.mem_map.1 hx
    rfl
  have hT1 : ∀ r : List AV, (Bs tag ++ r).take 32 = Bs tag := fun r => List.take_left' hbl
  have hD1 : ∀ a b : AV, (Bs tag ++ [a, b]).drop 33 = [b] := fun a b => by
    rw [show Bs tag ++ [a, b] = (Bs tag ++ [a]) ++ [b] by simp, List.drop_left' (by simp [hbl])]
  have hL1 : ∀ a b : AV, 33 ≤ (Bs tag ++ [a, b]).length := fun a b => by simp [hbl]
  have hw : IntKind.u64.wrap (0 + 1) = 1 := by decide
  have hKY : KY tag u = .val (.int .i64 1) :: (Bs tag ++ [.val (.int .u64 (u : Int)), .val (.bool false)]) := rfl
  simp only [KO]
  refine acallsG_of_awp Tryz.func97 rfl rfl Tryz.ntmps97 (rts := #[30,37]) rfl Tryz.results97 (by simp) ?_
  simp only [argSlots, Nat.reduceAdd]
  refine awp_seq_k fun K hK => awp_region [] ?_
  simp only [qq, Int.cast_ofNat_Int, Nat.reduceAdd, K_eqs, aboxF, acells, K_ops, reduceCtorEq, Nat.reduceEqDiff, hbo, abox, Nat.reduceLT, cav, K_nil, Then]
  (repeat' apply And.intro) <;> try (first | exact True.intro | omega)
  refine hK _ ?_
  clear hK K
  refine awp_keep [0, 1, 3, 6] ?_
  simp only [keep_eqs, K_ops, Nat.reduceEqDiff, if_true, if_false]
  refine awp_seq_k fun K1 hK1 => ?_
  refine awp_block ?_
  refine awp_seq ?_
  refine awp_region [] ?_
  simp only [qq, Int.cast_ofNat_Int, Nat.reduceAdd, K_eqs, Nat.reduceLT, K_ops, reduceCtorEq, Nat.reduceEqDiff, cav, K_binC, K_int, aint, Int.reduceBNe, gval, gslot, Option.bind_some, gdec_eqs, Bool.not_true, K_gF, gok, apick, K_nil, Then]
  refine awp_condF rfl ?_
  refine awp_keep [0, 1, 3, 6] ?_
  simp only [keep_eqs, K_ops, Nat.reduceEqDiff, if_true, if_false]
  refine awp_seq ?_
  refine awp_draw [22] (by kernel_rfl) (by kernel_rfl) ?_
  simp only [qq, K_eqs, Nat.reduceLT, K_ops, reduceCtorEq, anil, Nat.reduceEqDiff, afieldAddr, Tryz.underlying164, tszs, ne_eq, aload, List.contains_cons, Nat.reduceBEq, apart, isAggD, Tryz.underlying162, abuiltin, beq_self_eq_true, amaplen, alen, Tryz.underlying3, K_binC, K_nil, Then, Nat.reduceAdd, List.getD_cons_succ, Int.cast_ofNat_Int, Nat.zero_lt_succ, K_int, aint, d_le]
  refine awp_condF (by simp only [K_ops, lk]; simp; omega) (awp_skip ?_)
  simp only [InBlock, Then]
  refine hK1 _ ?_
  clear hK1 K1
  refine awp_keep [0, 1, 3, 6] ?_
  simp only [keep_eqs, K_ops, Nat.reduceEqDiff, if_true, if_false]
  refine awp_seq_k fun K hK => awp_region [] ?_
  simp only [qq, Int.cast_ofNat_Int, Nat.reduceAdd, K_eqs, Nat.reduceLT, K_ops, reduceCtorEq, anil, Nat.reduceEqDiff, afieldAddr, Tryz.underlying164, tszs, ne_eq, aload, apart, isAggD, Tryz.underlying30, cav, K_binC, K_store, astore, acells, spl, K_nil, Then, List.getD_cons_succ, K_int, aint, hw, List.all_cons, oneC, Value.oneCell', List.all_nil, Nat.reduceLeDiff]
  (repeat' apply And.intro) <;> try (first | exact True.intro | omega)
  refine hK _ ?_
  clear hK K
  refine awp_keep [0, 1, 3, 6] ?_
  simp only [keep_eqs, K_ops, Nat.reduceEqDiff, if_true, if_false]
  refine awp_seq_k fun K hK => ?_
  refine awp_draw [] (by kernel_rfl) (by kernel_rfl) ?_
  simp only [qq, Int.cast_ofNat_Int, Nat.reduceAdd, K_eqs, Nat.reduceLT, K_ops, reduceCtorEq, anil, Nat.reduceEqDiff, afieldAddr, Tryz.underlying164, tszs, ne_eq, aload, apart, isAggD, Tryz.underlying162, Tryz.underlying30, Tryz.underlying23, hbl, Bs_take, htt, abuild, tzeros, Tryz.underlying191, tsfs, cav, aparts, afill, spl, acells, Nat.reduceLeDiff, List.all_cons, oneC, Value.oneCell', List.all_nil, K_mapset, amapset, MapKept.IsKey, K_nil, Then, hbo, hL1, hT1, hD1, List.getD_cons_succ, mfind]
  refine hK _ ?_
  clear hK K
  refine awp_keep [0] ?_
  simp only [keep_eqs, K_ops, Nat.reduceEqDiff, if_true, if_false]
  refine awp_seq_k fun K hK => awp_region [] ?_
  simp only [qq, Int.cast_ofNat_Int, Nat.reduceAdd, K_eqs, Nat.reduceLT, K_ops, anil, reduceCtorEq, afieldAddr, Tryz.underlying164, tszs, Nat.reduceEqDiff, ne_eq, aload, apart, isAggD, Tryz.underlying30, cav, K_nil, Then, List.getD_cons_succ]
  (repeat' apply And.intro) <;> try (first | exact True.intro | omega)
  refine hK _ ?_
  clear hK K
  refine awp_keep [8, 9] ?_
  simp only [keep_eqs, K_ops, Nat.reduceEqDiff, if_true, if_false]
  simp only [List.append_assoc, List.cons_append, List.nil_append]
  rw [← hKY]
  refine awp_ret ?_
  refine FinG_all (by simp) (by simp [refO, refs, ref, refs_noref _ _ (norefs_KY tag u)]) ?_
  exact ⟨⟨trivial, trivial, trivial⟩, rfl, rfl, rfl⟩

def KM (tag : List UInt8) (u : Nat) : AObj := .map [(.int .u64 1, .agg (KY tag u))]

theorem kfind_ok [Gv] (most : Nat) (tag : List UInt8) (ht : tag.length = 32) (u c : Nat) :
    ACalls Tryz.prog GP 44 [.ptr 0 0, .val (.int .i64 1), .val (.int .u64 1), .val (.int .u64 (c : Int))] [KO most 1 1, KM tag u]
      (fun r os => os = [KO most 1 1, KM tag u] ∧ r = if c < u then .tup [.agg (Bs tag), .val (.int .i64 0)] else .tup [.agg (Bs (Z 32)), .val (.int .i64 4)]) := by
  have cL := live_ok tag ht u c
  have hl := KY_length tag u ht
  have ho := KY_oneC tag u
  have hn := norefs_KY tag u
  have g0 : (KY tag u).getD 0 .top = .val (.int .i64 1) := rfl
  have g34 : (KY tag u).getD 34 .top = .val (.bool false) := by
    rw [KY, List.getD_cons_succ, List.getD_eq_getElem?_getD, List.getElem?_append_right (by rw [Bs_length]; omega), Bs_length, ht]; rfl
  have g1 : ((KY tag u).drop 1).take 32 = Bs tag := by
    rw [KY, List.drop_succ_cons, List.drop_zero, List.take_left' (by rw [Bs_length]; omega)]
  have htk : (KY tag u).take 35 = KY tag u := List.take_of_length_le (by omega)
  have htd : (KY tag u).drop 35 = [] := List.drop_eq_nil_of_le (by omega)
  have hbl : (Bs tag).length = 32 := by rw [Bs_length]; omega
  have htt : tag.take 32 = tag := List.take_of_length_le (by omega)
  have hbo : (Bs tag).all oneC = true := by
    rw [List.all_eq_true]
    intro x hx
    obtain ⟨z, _, rfl⟩ := List.mem_map.1 hx
    rfl
  have hz : (Z 32).drop 32 = [] := List.drop_eq_nil_of_le (by rw [Z_length]; exact Nat.le_refl _)
  simp only [KO, KM]
  generalize KY tag u = T at *
  refine acallsG_of_awp Tryz.func44 rfl rfl Tryz.ntmps44 (rts := #[23,38]) rfl Tryz.results44 (by simp) ?_
  simp only [argSlots, Nat.reduceAdd]
  refine awp_seq_k fun K hK => awp_region [] ?_
  simp only [qq, Int.cast_ofNat_Int, Nat.reduceAdd, K_eqs, aalloc, tzeros, zvs_u8, Nat.reduceLT, K_ops, cav, K_nil, Then]
  (repeat' apply And.intro) <;> try (first | exact True.intro | omega)
  refine hK _ ?_
  clear hK K
  refine awp_keep [0, 1, 2, 3, 8] ?_
  simp only [keep_eqs, K_ops, Nat.reduceEqDiff, if_true, if_false]
  refine awp_seq_k fun K hK => awp_region [] ?_
  simp only [qq, Int.cast_ofNat_Int, Nat.reduceAdd, K_eqs, Nat.reduceLT, K_ops, reduceCtorEq, anil, Nat.reduceEqDiff, afieldAddr, Tryz.underlying164, tszs, ne_eq, aload, apart, isAggD, Tryz.underlying162, K_more, alookup, MapKept.IsKey, aext, aalloc, tzeros, cav, K_store, astore, acells, spl, K_nil, Then, List.getD_cons_succ, Tryz.underlying30, mfind, Instr.sameNow, beq_self_eq_true, ho, hl, List.drop_nil]
  refine hK _ ?_
  clear hK K
  refine awp_keep [0, 1, 2, 3, 8, 10, 11] ?_
  simp only [keep_eqs, K_ops, Nat.reduceEqDiff, if_true, if_false]
  refine awp_seq_k fun K1 hK1 => ?_
  refine awp_block ?_
  refine awp_seq ?_
  refine awp_region [] ?_
  simp only [qq, Int.cast_ofNat_Int, Nat.reduceAdd, K_eqs, Nat.reduceLT, K_ops, reduceCtorEq, Nat.reduceEqDiff, aun, Bool.not_true, gval, gslot, Option.bind_some, gdec_eqs, Bool.not_false, K_gT, gok, afieldAddr, Tryz.underlying191, tszs, ne_eq, aload, apart, isAggD, Tryz.underlying3, K_binC, apick, cav, K_nil, Then, hl, Nat.zero_lt_succ, g0, K_int, aint, Int.reduceBNe]
  refine awp_condF rfl ?_
  refine awp_keep [0, 3, 8, 10] ?_
  simp only [keep_eqs, K_ops, Nat.reduceEqDiff, if_true, if_false]
  refine awp_seq ?_
  refine awp_region [] ?_
  simp only [qq, K_eqs, afieldAddr, Tryz.underlying191, tszs, K_ops, reduceCtorEq, Nat.reduceEqDiff, ne_eq, Nat.reduceLT, aload, apart, isAggD, Tryz.underlying4, K_nil, Then, hl, g34]
  refine awp_condF rfl ?_
  refine awp_keep [0, 3, 8, 10] ?_
  simp only [keep_eqs, K_ops, Nat.reduceEqDiff, if_true, if_false]
  refine awp_seq ?_
  refine awp_region [] ?_
  simp only [qq, K_eqs, aload, K_ops, reduceCtorEq, Nat.reduceEqDiff, apart, isAggD, Tryz.underlying191, tszs, hl, htk, Nat.reduceLT, K_call, Nat.reduceAdd, K_clo, aviews, aview, ntok, List.headD_cons, noref]
  refine andC_eq (by simp [hn]) cL rfl ?_
  simp only [qq, RestC_eqs, K_eqs, aun, K_ops, Nat.reduceEqDiff, reduceCtorEq, Nat.reduceLT, K_nil, Then]
  rcases Nat.lt_or_ge c u with hcu | hcu
  · refine awp_condF (by simp only [K_ops, lk]; simp; omega) (awp_skip ?_)
    simp only [InBlock, Then]
    refine hK1 _ ?_
    clear hK1 K1
    refine awp_keep [8, 10] ?_
    simp only [keep_eqs, K_ops, Nat.reduceEqDiff, if_true, if_false]
    refine awp_seq_k fun K hK => awp_region [] ?_
    simp only [qq, Int.cast_ofNat_Int, Nat.reduceAdd, K_eqs, afieldAddr, Tryz.underlying191, tszs, K_ops, Nat.reduceEqDiff, ne_eq, reduceCtorEq, Nat.reduceLT, aload, apart, isAggD, Tryz.underlying23, K_store, astore, acells, Bs_length, Z_length, spl, Bs_drop, cav, K_nil, Then, hl, Nat.reduceLeDiff, g1, hbo, hbl, hz, Bs_nil]
    refine hK _ ?_
    clear hK K
    refine awp_keep [8, 9] ?_
    simp only [keep_eqs, K_ops, Nat.reduceEqDiff, if_true, if_false]
    refine awp_ret ?_
    refine FinG_all (by simp) (by simp [refO, refs, ref, refs_noref _ _ hn]) ?_
    simp only [qq, andO, aresN, aresNs, aresN1, aload, K_ops, Nat.reduceEqDiff, apart, isAggD, Tryz.underlying23, tszs, hbl, Bs_take, htt, Int.cast_ofNat_Int, Nat.reduceAdd]
    exact ⟨by simp [ref, refs, refs_noref _ _ (norefs_Bs tag)], (if_pos hcu).symm⟩
  · refine awp_condT (by simp only [K_ops, lk]; simp; omega) ?_
    refine awp_keep [8] ?_
    simp only [keep_eqs, K_ops, Nat.reduceEqDiff, if_true, if_false]
    refine awp_seq_k fun K hK => awp_region [] ?_
    simp only [qq, K_eqs, abuild, tzeros, Tryz.underlying23, tszs, Nat.mul_one, zvs_u8, aparts, afill, Nat.reduceLT, K_store, astore, K_ops, Nat.reduceEqDiff, acells, Bs_length, Z_length, spl, Bs_drop, cav, K_nil, Then, Bs_one, hz, Bs_nil]
    refine hK _ ?_
    clear hK K
    refine awp_keep [8, 9] ?_
    simp only [keep_eqs, K_ops, Nat.reduceEqDiff, if_true, if_false]
    refine awp_ret ?_
    simp only [InBlock, Then]
    refine FinG_all (by simp) (by simp [refO, refs, ref, refs_noref _ _ hn]) ?_
    have hzt : (Z 32).take 32 = Z 32 := List.take_of_length_le (by rw [Z_length]; exact Nat.le_refl _)
    simp only [qq, andO, aresN, aresNs, aresN1, aload, K_ops, Nat.reduceEqDiff, apart, isAggD, Tryz.underlying23, tszs, Bs_length, Z_length, Bs_take, hzt]
    exact ⟨by simp [ref, refs, refs_noref _ _ (norefs_Bs (Z 32))], (if_neg (by omega)).symm⟩
structure OutV where
  bytes : List UInt8
  whole : Bool
  pub : Bool
def OA (o : OutV) : List AV := [str o.bytes, .val (.bool o.whole), .val (.bool o.pub)]
def OS (l : List OutV) : List AV := l.flatMap OA
theorem OS_length [Gv] (l : List OutV) : (OS l).length = l.length * 3 := by
  induction l with
  | nil => rfl
  | cons c l ih => rw [show OS (c :: l) = OA c ++ OS l from rfl, List.length_append, ih]; simp [OA]; omega
theorem norefs_OA [Gv] (c : OutV) : norefs (OA c) = true := rfl
theorem norefs_OS [Gv] (l : List OutV) : norefs (OS l) = true := by
  induction l with
  | nil => rfl
  | cons c l ih => rw [show OS (c :: l) = OA c ++ OS l from rfl, norefs_append, ih, norefs_OA]; rfl
theorem OA_oneC [Gv] (c : OutV) : (OA c).all oneC = true := rfl
theorem OS_oneC [Gv] (l : List OutV) : (OS l).all oneC = true := by
  rw [List.all_eq_true]
  intro x hx
  obtain ⟨c, _, hc⟩ := List.mem_flatMap.1 hx
  exact List.all_eq_true.1 (OA_oneC c) x hc
theorem OS_get [Gv] {l : List OutV} {i : Nat} (h : i < l.length) : ((OS l).drop (i * 3)).take 3 = OA l[i] := by
  induction l generalizing i with
  | nil => simp at h
  | cons c l ih =>
    rw [show OS (c :: l) = OA c ++ OS l from rfl]
    cases i with
    | zero => rfl
    | succ i =>
      rw [show (i + 1) * 3 = (OA c).length + i * 3 by simp [OA]; omega, ← List.drop_drop, List.drop_left]
      simpa using ih (by simpa using h)
theorem OS_append [Gv] (a b : List OutV) : OS (a ++ b) = OS a ++ OS b := List.flatMap_append
theorem OS_one [Gv] (c : OutV) : OS [c] = OA c := by simp [OS]

def SO (l : List OutV) (k : Nat) : AObj := .cells [.sl l.length (OS l) (.tok k)]

theorem snew_ok [Gv] : ACalls Tryz.prog GP 36 [] [] (fun r os => os = [SO [] 1, .tok 3 0] ∧ r = .ptr 0 0) := by
  refine acallsG_of_awp Tryz.func36 rfl rfl Tryz.ntmps36 (rts := #[50]) rfl Tryz.results36 (by simp) ?_
  simp only [argSlots, Nat.reduceAdd]
  refine awp_seq_k fun K hK => awp_region [] ?_
  simp only [qq, K_eqs, Nat.reduceLT, K_ops, cav, K_nil, Then]
  (repeat' apply And.intro) <;> try (first | exact True.intro | omega)
  refine hK _ ?_
  clear hK K
  refine awp_seq_k fun K hK => awp_region [] ?_
  simp only [qq, K_eqs, abuild, tzeros, Tryz.underlying113, tsfs, cav, aparts, afill, Nat.reduceLT, aboxF, acells, K_ops, reduceCtorEq, abox, Nat.reduceEqDiff, K_nil, Then, List.all_cons, oneC, List.all_nil]
  (repeat' apply And.intro) <;> try (first | exact True.intro | omega)
  refine hK _ ?_
  clear hK K
  refine awp_tokO 3 0 rfl ?_
  refine awp_keep [0] ?_
  simp only [keep_eqs, K_ops, Nat.reduceEqDiff, if_true, if_false]
  refine awp_ret ?_
  refine FinG_mk [0, 1] ⟨by simp, by simp, by decide, by simp, by simp [refO, refs, ref, refP]⟩ ?_
  exact ⟨⟨trivial, trivial⟩, rfl, rfl, rfl⟩

theorem sput_ok [Gv] (l : List OutV) (hl : l.length ≤ 1000000) (o : OutV) : ACalls Tryz.prog GP 94 [.ptr 0 0, .agg (OA o)] [SO l 1, .tok 3 l.length] (fun r os => os = [SO (l ++ [o]) 1, .tok 3 (l.length + 1)] ∧ r = .val (.int .i64 (l.length : Int))) := by
  have hOl := OS_length l
  have hOo := OS_oneC l
  have hao := OA_oneC o
  have hal : (OA o).length = 3 := rfl
  have hat : (OA o).take 3 = OA o := rfl
  have hE : OS (l ++ [o]) = OS l ++ OA o := by rw [OS_append, OS_one]
  have hnO := norefs_OS (l ++ [o])
  simp only [SO, List.length_append, List.length_cons, List.length_nil, Nat.zero_add]
  rw [hE] at *
  generalize OA o = oa at *
  refine acallsG_of_awp Tryz.func94 rfl rfl Tryz.ntmps94 (rts := #[3]) rfl Tryz.results94 (by simp) ?_
  simp only [argSlots, Nat.reduceAdd]
  refine awp_seq_k fun K hK => awp_region [] ?_
  simp only [qq, Nat.reduceAdd, K_eqs, aboxF, acells, K_ops, reduceCtorEq, hao, abox, Nat.reduceLT, cav, K_nil, Then]
  (repeat' apply And.intro) <;> try (first | exact True.intro | omega)
  refine hK _ ?_
  clear hK K
  refine awp_keep [0, 3] ?_
  simp only [keep_eqs, K_ops, Nat.reduceEqDiff, if_true, if_false]
  refine awp_seq_k fun K hK => ?_
  refine awp_draw [] (by kernel_rfl) (by kernel_rfl) ?_
  simp only [qq, Nat.reduceAdd, K_eqs, Nat.reduceLT, K_ops, reduceCtorEq, anil, Nat.reduceEqDiff, afieldAddr, Tryz.underlying113, tszs, ne_eq, aload, apart, isAggD, Tryz.underlying111, Tryz.underlying48, hal, hat, abuildOwn, tzeros, zrep_1, cav, aparts, afill, spl, Nat.zero_mul, acells, Nat.reduceMul, Nat.reduceLeDiff, abuildSlice, abuiltin, aappend, tbys, appSrc, srcCells, K_store, astore, K_nil, Then, hao, List.drop_nil, hOl, List.all_cons, oneC, List.all_nil]
  refine ⟨⟨by omega, by omega⟩, hK _ ?_⟩
  clear hK K
  have h1 : IntKind.i64.wrap (((l.length + 1 : Nat) : Int) - 1) = (l.length : Int) := by
    rw [show ((l.length + 1 : Nat) : Int) - 1 = ((l.length : Nat) : Int) by omega]
    exact n_i64 (by omega)
  refine awp_keep [0] ?_
  simp only [keep_eqs, K_ops, Nat.reduceEqDiff, if_true, if_false]
  refine awp_seq_k fun K hK => awp_region [] ?_
  simp only [qq, Nat.reduceAdd, K_eqs, Nat.reduceLT, K_ops, anil, reduceCtorEq, afieldAddr, Tryz.underlying113, tszs, Nat.reduceEqDiff, ne_eq, aload, apart, isAggD, Tryz.underlying111, abuiltin, amaplen, alen, cav, K_binC, K_nil, Then, K_int, aint, h1]
  refine hK _ ?_
  clear hK K
  refine awp_keep [4] ?_
  simp only [keep_eqs, K_ops, Nat.reduceEqDiff, if_true, if_false]
  refine awp_ret ?_
  refine FinG_all (by simp) (by simp [refO, refs, ref, refP, refs_noref _ _ hnO]) ?_
  exact ⟨⟨trivial, trivial⟩, rfl, rfl, rfl⟩

theorem sget_ok [Gv] (l : List OutV) (hl : l.length ≤ 1000000) (i : Nat) (hi : i < l.length) : ACalls Tryz.prog GP 13 [.ptr 0 0, .val (.int .i64 (i : Int))] [SO l 1, .tok 3 l.length] (fun r os => os = [SO l 1, .tok 3 l.length] ∧ r = .tup [.agg (OA l[i]), .val (.bool true)]) := by
  have hOl := OS_length l
  have hOo := OS_oneC l
  have hnO := norefs_OS l
  have hget := OS_get hi
  generalize l[i] = o at *
  have hao := OA_oneC o
  have hno := norefs_OA o
  have hal : (OA o).length = 3 := rfl
  have hat : (OA o).take 3 = OA o := rfl
  have had : (OA o).drop 3 = [] := rfl
  generalize OA o = oa at *
  simp only [SO]
  have d1 : decide ((i : Int) < 0) = false := by simp
  have d2 : decide ((i : Int) ≥ (l.length : Int)) = false := by simp; omega
  refine acallsG_of_awp Tryz.func13 rfl rfl Tryz.ntmps13 (rts := #[48,4]) rfl Tryz.results13 (by simp) ?_
  simp only [argSlots, Nat.reduceAdd]
  refine awp_seq_k fun K hK => awp_region [] ?_
  simp only [qq, Nat.reduceAdd, K_eqs, aalloc, tzeros, cav, Nat.reduceLT, K_ops, K_nil, Then]
  (repeat' apply And.intro) <;> try (first | exact True.intro | omega)
  refine hK _ ?_
  clear hK K
  refine awp_keep [0, 1, 4] ?_
  simp only [keep_eqs, K_ops, Nat.reduceEqDiff, if_true, if_false]
  refine awp_seq_k fun K1 hK1 => ?_
  refine awp_seq_k fun K hK => awp_region [] ?_
  simp only [qq, Nat.reduceAdd, K_eqs, Nat.reduceLT, K_ops, reduceCtorEq, Nat.reduceEqDiff, cav, K_binC, K_int, aint, d1, gval, gslot, Option.bind_some, gdec_eqs, Bool.not_false, K_gT, gok, anil, afieldAddr, Tryz.underlying113, tszs, ne_eq, aload, apart, isAggD, Tryz.underlying111, abuiltin, amaplen, alen, apick, K_nil, Then, d2]
  refine hK _ ?_
  clear hK K
  refine awp_condF rfl (awp_skip (hK1 _ ?_))
  clear hK1 K1
  refine awp_keep [0, 1, 4] ?_
  simp only [keep_eqs, K_ops, Nat.reduceEqDiff, if_true, if_false]
  refine awp_seq_k fun K hK => awp_region [] ?_
  simp only [qq, Nat.reduceAdd, K_eqs, Nat.reduceLT, K_ops, reduceCtorEq, anil, Nat.reduceEqDiff, afieldAddr, Tryz.underlying113, tszs, ne_eq, aload, apart, isAggD, Tryz.underlying111, aidxAddr, Int.toNat_natCast, Tryz.underlying48, K_store, astore, acells, spl, cav, K_nil, Then, hOl, List.length_drop, hget, hao, hal, List.drop_nil]
  refine ⟨⟨by omega, by omega⟩, by omega, hK _ ?_⟩
  clear hK K
  refine awp_keep [4, 5] ?_
  simp only [keep_eqs, K_ops, Nat.reduceEqDiff, if_true, if_false]
  refine awp_ret ?_
  refine FinG_all (by simp) (by simp [refO, refs, ref, refP, refs_noref _ _ hnO]) ?_
  simp only [qq, andO, aresN, aresNs, aresN1, aload, K_ops, Nat.reduceEqDiff, apart, isAggD, Tryz.underlying48, tszs, hal, hat, Nat.reduceAdd]
  simp [ref, refs, refs_noref _ _ hno]

theorem soclone_ok [Gv] (l : List OutV) (p : Perm) (hp : notok p = true) (hl : l.length ≤ 1000000) : ACalls Tryz.prog GP 101 [.sl l.length (OS l) p] [] (fun r os => os = [.tok 3 l.length] ∧ r = .sl l.length (OS l) (.tok 0)) := by
  have hCl := OS_length l
  have hnC := norefs_OS l
  have hoc := OS_oneC l
  have hnil : OS l = [] → l = [] := fun h => by rw [h] at hCl; simp only [List.length_nil] at hCl; exact List.length_eq_zero_iff.1 (by omega)
  refine acallsH_of_awp Tryz.func101 rfl rfl Tryz.ntmps101 (rts := #[111]) rfl Tryz.results101 (by simp) ?_
  simp only [argSlots, Nat.reduceAdd]
  refine awp_seq_k fun K hK => awp_region [] ?_
  simp only [qq, K_eqs, Nat.reduceLT, K_ops, cav, K_nil, Then]
  (repeat' apply And.intro) <;> try (first | exact True.intro | omega)
  refine hK _ ?_
  clear hK K
  refine awp_seq_k fun K1 hK1 => ?_
  refine awp_seq_k fun K hK => ?_
  refine awp_isnil (ht := Tryz.underlying111) (hs := rfl) (by omega) (by omega) fun b hb => hK _ ?_
  clear hK K
  cases b with
  | true =>
    refine awp_condT rfl ?_
    have h0 := hnil (hb rfl)
    subst h0
    refine awp_keep [0] ?_
    simp only [keep_eqs, K_ops, Nat.reduceEqDiff, if_true, if_false]
    refine awp_seq_k fun K hK => awp_region [] ?_
    simp only [qq, K_eqs, Nat.reduceLT, K_ops, cav, K_nil, Then]
    (repeat' apply And.intro) <;> try (first | exact True.intro | omega)
    refine hK _ ?_
    clear hK K
    refine awp_keep [2] ?_
    simp only [keep_eqs, K_ops, Nat.reduceEqDiff, if_true, if_false]
    refine awp_tok 3 2 rfl ?_
    refine awp_ret ?_
    exact FinH_tok 2 0 3 rfl rfl rfl ⟨rfl, rfl⟩
  | false =>
    refine awp_condF rfl (awp_skip (hK1 _ ?_))
    clear hK1 K1
    refine awp_keep [0] ?_
    simp only [keep_eqs, K_ops, Nat.reduceEqDiff, if_true, if_false]
    refine awp_seq_k fun K hK => awp_region [] ?_
    simp only [qq, K_eqs, abuildOwn, Tryz.underlying111, tszs, tzeros, zrep_0, aparts, afill, Nat.reduceAdd, Nat.zero_mul, Nat.reduceLeDiff, abuildSlice, K_ops, Nat.reduceLT, reduceCtorEq, abuiltin, Nat.reduceEqDiff, aappend, tbys, appSrc, srcCells, hCl, hoc, K_nil, Then]
    refine ⟨⟨by omega, by omega⟩, hK _ ?_⟩
    clear hK K
    refine awp_keep [2] ?_
    simp only [keep_eqs, K_ops, Nat.reduceEqDiff, if_true, if_false]
    refine awp_ret ?_
    exact FinH_tok 2 0 3 rfl rfl (norefs_OS _) ⟨rfl, rfl⟩

theorem sclone2_ok [Gv] (l : List OutV) (hl : l.length ≤ 1000000) : ACalls Tryz.prog GP 42 [.ptr 0 0] [SO l 1, .tok 3 l.length] (fun r os => os = [SO l 1, .tok 3 l.length, SO l 3, .tok 3 l.length] ∧ r = .ptr 2 0) := by
  have cC := soclone_ok l .no rfl hl
  have hnC := norefs_OS l
  simp only [SO]
  refine acallsG_of_awp Tryz.func42 rfl rfl Tryz.ntmps42 (rts := #[50]) rfl Tryz.results42 (by simp) ?_
  simp only [argSlots, Nat.reduceAdd]
  refine awp_seq_k fun K hK => awp_region [] ?_
  simp only [qq, Nat.reduceAdd, K_eqs, Nat.reduceLT, K_ops, cav, K_nil, Then]
  (repeat' apply And.intro) <;> try (first | exact True.intro | omega)
  refine hK _ ?_
  clear hK K
  refine awp_keep [0] ?_
  simp only [keep_eqs, K_ops, Nat.reduceEqDiff, if_true, if_false]
  refine awp_seq_k fun K hK => awp_region [1000007] ?_
  simp only [qq, Nat.reduceAdd, K_eqs, Nat.reduceLT, K_ops, anil, reduceCtorEq, afieldAddr, Tryz.underlying113, tszs, Nat.reduceEqDiff, ne_eq, aload, List.contains_cons, Nat.reduceBEq, apart, isAggD, Tryz.underlying111, K_call, beq_self_eq_true, K_clo, aviews, aview, ntok, List.headD_cons]
  refine andH_tok (by simp [hviews, hview, noref, norefs, norefs_Bs, ntok, norefs_OS]) cC (norefs_OS _) ?_
  simp only [qq, Nat.reduceAdd, RestH_eqs, K_eqs, abuild, tzeros, Tryz.underlying113, tsfs, cav, aparts, K_ops, Nat.reduceEqDiff, reduceCtorEq, afill, spl, acells, List.drop_nil, List.all_cons, oneC, List.all_nil, Nat.reduceLT, List.contains_cons, Nat.reduceBEq, aboxF, abox, K_nil, Then]
  refine hK _ ?_
  clear hK K
  refine awp_keep [2] ?_
  simp only [keep_eqs, K_ops, Nat.reduceEqDiff, if_true, if_false]
  refine awp_ret ?_
  refine FinG_mk [0, 1, 3, 2] ⟨by simp, fun i hi => ?_, by decide, by simp, by simp [refO, refs, ref, refP, refs_noref _ _ hnC]⟩ ?_
  · simp only [List.length_cons, List.length_nil] at hi
    rcases i with _ | _ | i
    · rfl
    · rfl
    · omega
  · exact ⟨⟨trivial, trivial⟩, rfl, by simp [GHd, renO, rens, ren, renP, rens_noref _ _ hnC] <;> decide, rfl⟩

def isB (o : OutV) (t : TokV) (ts : List (List UInt8)) : Prop := o.whole = true ∧ o.bytes = encB t ∧ small t ∧ plainT t ts ∧ okT t = true ∧ t.bound = false ∧ (encB t).length ≤ 65536

theorem sread_ok [Gv] (l : List OutV) (hl : l.length ≤ 1000000) (i : Nat) (hi : i < l.length) (t : TokV) (ts : List (List UInt8)) (ho : isB l[i] t ts) :
    ACalls Tryz.prog GP 46 [.ptr 0 0, .val (.int .i64 (i : Int)), .val (.bool true), .val (.func (.func 43) #[] #[])] [SO l 1, .tok 3 l.length] (fun r os => os = [SO l 1, .tok 3 l.length] ∧ r = .tup [.agg (BA t .no), .val (.int .i64 0)]) := by
  have cG := sget_ok l hl i hi
  obtain ⟨o1, o2, hs, hpl, hok, hb, hlen⟩ := ho
  have cD := (bdecode_ok t ts hs hpl hok hb hlen).g (G := GP)
  have hOA : OA l[i] = [.val (.string ⟨(encB t).toArray⟩), .val (.bool true), .val (.bool l[i].pub)] := by rw [OA, o1, o2]; rfl
  rw [hOA] at cG
  have hnC := norefs_OS l
  have hlB := BA_length t .no hs.2.2.2.1
  have hoB := BA_oneC t .no
  have hnB := norefs_BA t .no rfl
  have hBt : (BA t .no).take 37 = BA t .no := List.take_of_length_le (by omega)
  have hBd : (BA t .no).drop 37 = [] := List.drop_eq_nil_of_le (by omega)
  have hz0 := zeroB_lit
  have hlz := BA_length zeroT .full (by simp [zeroT])
  have hzd7 : (BA zeroT .full).drop 37 = [] := rfl
  generalize BA zeroT .full = B0 at *
  generalize BA t .no = Bd at *
  generalize encB t = eB at *
  generalize l[i].pub = pub at *
  simp only [SO] at *
  refine acallsG_of_awp Tryz.func46 rfl rfl Tryz.ntmps46 (rts := #[70,37]) rfl Tryz.results46 (by simp) ?_
  simp only [argSlots, Nat.reduceAdd]
  refine awp_seq_k fun K hK => awp_region [] ?_
  simp only [qq, Nat.reduceAdd, K_eqs, aalloc, tzeros, cav, Nat.reduceLT, K_ops, K_nil, Then]
  (repeat' apply And.intro) <;> try (first | exact True.intro | omega)
  refine hK _ ?_
  clear hK K
  rw [hz0]
  refine awp_keep [0, 1, 2, 3, 8] ?_
  simp only [keep_eqs, K_ops, Nat.reduceEqDiff, if_true, if_false]
  refine awp_seq_k fun K hK => awp_region [1000016] ?_
  simp only [qq, Nat.reduceAdd, K_eqs, Nat.reduceLT, K_ops, reduceCtorEq, Nat.reduceEqDiff, K_call, List.contains_cons, beq_self_eq_true, K_clo, Nat.reduceBEq, aviews, aview, noref]
  refine andH_gen [0, 1] false [50, 3] ⟨by decide, by simp, by simp [refO, refs, ref, refP, refs_noref _ _ hnC]⟩ rfl (by simp [noref]) (by simp only [GHd, List.map_cons, List.map_nil, List.getD_cons_zero, List.getD_cons_succ, renO, rens, ren, renP, rens_noref _ _ hnC]; exact cG) ⟨by simp, by simp [refO, refs, ref, refP, refs_noref _ _ hnC], by simp [refs, ref], fun h => by cases h⟩ ?_
  simp only [qq, ren, rens, GBack, setAll, renO, rens_noref _ _ hnC, renP, σn, Nat.reduceAdd, Nat.reduceLT, List.getD_cons_succ, Nat.reduceSub, List.headD_cons, List.tail_cons, List.drop_nil, RestH_eqs, K_eqs, K_ops, Nat.reduceEqDiff, reduceCtorEq, aext, aalloc, tzeros, cav, K_store, astore, tszs, acells, spl, K_nil, Then, List.all_cons, oneC, Value.oneCell', List.all_nil]
  refine hK _ ?_
  clear hK K
  refine awp_keep [0, 2, 3, 8, 10, 11] ?_
  simp only [keep_eqs, K_ops, Nat.reduceEqDiff, if_true, if_false]
  refine awp_seq_k fun K1 hK1 => ?_
  refine awp_seq_k fun K hK => awp_region [] ?_
  simp only [qq, Nat.reduceAdd, K_eqs, Nat.reduceLT, K_ops, reduceCtorEq, Nat.reduceEqDiff, aun, Bool.not_true, gval, gslot, Option.bind_some, gdec_eqs, Bool.not_false, K_gT, gok, afieldAddr, Tryz.underlying48, tszs, ne_eq, aload, apart, isAggD, Tryz.underlying4, K_binC, apick, cav, K_nil, Then, List.getD_cons_succ, K_int, abool, beq_self_eq_true]
  (repeat' apply And.intro) <;> try (first | exact True.intro | omega)
  refine hK _ ?_
  clear hK K
  refine awp_condF rfl (awp_skip (hK1 _ ?_))
  clear hK1 K1
  refine awp_keep [0, 3, 8, 10] ?_
  simp only [keep_eqs, K_ops, Nat.reduceEqDiff, if_true, if_false]
  refine awp_seq_k fun K hK => awp_region [] ?_
  simp only [qq, Nat.reduceAdd, K_eqs, Nat.reduceLT, K_ops, reduceCtorEq, Nat.reduceEqDiff, afieldAddr, Tryz.underlying48, tszs, ne_eq, aload, apart, isAggD, Tryz.underlying9, K_conv, Tryz.underlying54, abytes, Tryz.underlying5, K_call, K_clo, aviews, aview, ntok, List.headD_cons, ba_size, norefs_Bs]
  refine andC_eq (by simp [norefs_Bs]) cD (by simp [noref, norefs, hnB]) ?_
  simp only [qq, RestC_eqs, K_eqs, aext, K_ops, Nat.reduceEqDiff, reduceCtorEq, Nat.reduceLT, K_store, astore, tszs, acells, hlz, spl, K_nil, Then, hoB, hlB, hzd7]
  refine hK _ ?_
  clear hK K
  refine awp_keep [8, 9] ?_
  simp only [keep_eqs, K_ops, Nat.reduceEqDiff, if_true, if_false]
  refine awp_ret ?_
  refine FinG_all (by simp) (by simp [refO, refs, ref, refP, refs_noref _ _ hnC]) ?_
  simp only [qq, andO, aresN, aresNs, aresN1, aload, K_ops, Nat.reduceEqDiff, apart, isAggD, Tryz.underlying70, tszs, hlB, hBt, Nat.reduceAdd]
  simp [ref, refs, refs_noref _ _ hnB]

theorem sbundle_ok [Gv] (l : List OutV) (hl : l.length ≤ 1000000) (i : Nat) (hi : i < l.length) (t : TokV) (ts : List (List UInt8)) (ho : isB l[i] t ts) :
    ACalls Tryz.prog GP 16 [.ptr 0 0, .val (.int .i64 (i : Int))] [SO l 1, .tok 3 l.length] (fun r os => os = [SO l 1, .tok 3 l.length] ∧ r = .tup [.agg (BA t .no), .val (.int .i64 0)]) := by
  have cR := sread_ok l hl i hi t ts ho
  obtain ⟨o1, o2, hs, hpl, hok, hb, hlen⟩ := ho
  have hnC := norefs_OS l
  have hlB := BA_length t .no hs.2.2.2.1
  have hoB := BA_oneC t .no
  have hnB := norefs_BA t .no rfl
  have hBt : (BA t .no).take 37 = BA t .no := List.take_of_length_le (by omega)
  have hBd : (BA t .no).drop 37 = [] := List.drop_eq_nil_of_le (by omega)
  have hz0 := zeroB_lit
  have hlz := BA_length zeroT .full (by simp [zeroT])
  have hzd7 : (BA zeroT .full).drop 37 = [] := rfl
  generalize BA zeroT .full = B0 at *
  generalize BA t .no = Bd at *
  simp only [SO] at *
  refine acallsG_of_awp Tryz.func16 rfl rfl Tryz.ntmps16 (rts := #[70,37]) rfl Tryz.results16 (by simp) ?_
  simp only [argSlots, Nat.reduceAdd]
  refine awp_seq_k fun K hK => awp_region [] ?_
  simp only [qq, Nat.reduceAdd, K_eqs, aalloc, tzeros, cav, Nat.reduceLT, K_ops, K_nil, Then]
  (repeat' apply And.intro) <;> try (first | exact True.intro | omega)
  refine hK _ ?_
  clear hK K
  rw [hz0]
  refine awp_keep [0, 1, 4] ?_
  simp only [keep_eqs, K_ops, Nat.reduceEqDiff, if_true, if_false]
  refine awp_seq_k fun K hK => awp_region [1000008] ?_
  simp only [qq, Nat.reduceAdd, K_eqs, Nat.reduceLT, K_ops, reduceCtorEq, Nat.reduceEqDiff, K_call, List.contains_cons, beq_self_eq_true, cav, K_clo, Nat.reduceBEq, aviews, aview, noref]
  refine andH_gen [0, 1] false [50, 3, 4, 114] ⟨by decide, by simp, by simp [refO, refs, ref, refP, refs_noref _ _ hnC]⟩ rfl (by simp [noref]) (by simp only [GHd, List.map_cons, List.map_nil, List.getD_cons_zero, List.getD_cons_succ, renO, rens, ren, renP, rens_noref _ _ hnC]; exact cR) ⟨by simp, by simp [refO, refs, ref, refP, refs_noref _ _ hnC], by simp [refs, ref, refs_noref _ _ hnB], fun h => by cases h⟩ ?_
  simp only [qq, ren, rens, rens_noref _ _ hnB, GBack, setAll, renO, rens_noref _ _ hnC, renP, σn, Nat.reduceAdd, Nat.reduceLT, List.getD_cons_succ, Nat.reduceSub, List.headD_cons, List.tail_cons, List.drop_nil, RestH_eqs, K_eqs, aext, K_ops, Nat.reduceEqDiff, reduceCtorEq, K_store, astore, tszs, acells, hlz, spl, K_nil, Then, hoB, hlB, hzd7]
  refine hK _ ?_
  clear hK K
  refine awp_keep [4, 5] ?_
  simp only [keep_eqs, K_ops, Nat.reduceEqDiff, if_true, if_false]
  refine awp_ret ?_
  refine FinG_all (by simp) (by simp [refO, refs, ref, refP, refs_noref _ _ hnC]) ?_
  simp only [qq, andO, aresN, aresNs, aresN1, aload, K_ops, Nat.reduceEqDiff, apart, isAggD, Tryz.underlying70, tszs, hlB, hBt, Nat.reduceAdd]
  simp [ref, refs, refs_noref _ _ hnB]
theorem idxT0_ok [Gv] (x : AV) (hx : noref x = true) (p : Perm) : ACalls Tryz.prog G0 159 [.sl 0 [] p, x] [] (fun r os => os = [] ∧ r = .val (.int .i64 (-1))) := by
  refine acalls_of_awp Tryz.func159 rfl rfl Tryz.ntmps159 (rts := #[3]) rfl Tryz.results159 (by simp) ?_
  simp only [argSlots, Nat.reduceAdd]
  refine awp_seq_k fun K hK => awp_region [] ?_
  simp only [qq, K_eqs, Nat.reduceLT, K_ops, cav, K_nil, Then]
  (repeat' apply And.intro) <;> try (first | exact True.intro | omega)
  refine hK _ ?_
  clear hK K
  refine awp_keep [0] ?_
  simp only [keep_eqs, K_ops, Nat.reduceEqDiff, if_true, if_false]
  refine awp_seq_k fun K1 hK1 => ?_
  refine awp_seq_k fun K hK => awp_region [] ?_
  simp only [qq, K_eqs, Nat.reduceLT, K_ops, abuiltin, reduceCtorEq, amaplen, alen, Tryz.underlying68, Int.cast_ofNat_Int, cav, K_nil, Then]
  (repeat' apply And.intro) <;> try (first | exact True.intro | omega)
  refine hK _ ?_
  clear hK K
  refine awp_keep [6, 7, 8] ?_
  simp only [keep_eqs, K_ops, Nat.reduceEqDiff, if_true, if_false]
  refine awp_block ?_
  refine awp_loop_from (fun _ : Unit => _) (fun _ => True) (fun _ => 0) () trivial (.refl _) ?_
  intro _ _
  refine awp_seq_k fun K hK => awp_region [] ?_
  simp only [qq, Nat.reduceLT, K_eqs, K_ops, Nat.reduceEqDiff, K_binC, K_int, aint, Int.lt_irrefl, decide_false, K_nil, Then]
  (repeat' apply And.intro) <;> try (first | exact True.intro | omega)
  refine hK _ ?_
  clear hK K
  refine awp_seq ?_
  refine awp_condF rfl ?_
  refine awp_exit ?_
  simp only [Then, InBlock, if_true]
  refine hK1 _ ?_
  clear hK1 K1
  refine awp_keep [6] ?_
  simp only [keep_eqs, K_ops, Nat.reduceEqDiff, if_true, if_false]
  refine awp_seq_k fun K hK => awp_region [] ?_
  simp only [qq, K_eqs, Nat.reduceLT, K_ops, cav, K_nil, Then]
  (repeat' apply And.intro) <;> try (first | exact True.intro | omega)
  refine hK _ ?_
  clear hK K
  refine awp_keep [4] ?_
  simp only [keep_eqs, K_ops, Nat.reduceEqDiff, if_true, if_false]
  refine awp_ret ?_
  simp only [qq, K_fin, ares, aress, ares1, afin, K_ops, noref]

theorem hasT0_ok [Gv] (v : Value) (p : Perm) : ACalls Tryz.prog G0 89 [.sl 0 [] p, .val v] [] (fun r os => os = [] ∧ r = .val (.bool false)) := by
  have cI := idxT0_ok (.val v) rfl (ntok p)
  refine acalls_of_awp Tryz.func89 rfl rfl Tryz.ntmps89 (rts := #[4]) rfl Tryz.results89 (by simp) ?_
  simp only [argSlots, Nat.reduceAdd]
  refine awp_seq_k fun K hK => awp_region [] ?_
  simp only [qq, K_eqs, Nat.reduceLT, K_ops, cav, K_nil, Then]
  (repeat' apply And.intro) <;> try (first | exact True.intro | omega)
  refine hK _ ?_
  clear hK K
  refine awp_keep [0, 1] ?_
  simp only [keep_eqs, K_ops, Nat.reduceEqDiff, if_true, if_false]
  refine awp_seq_k fun K hK => awp_region [] ?_
  simp only [qq, K_eqs, Nat.reduceLT, K_ops, reduceCtorEq, Nat.reduceEqDiff, K_call, Nat.reduceAdd, K_clo, aviews, aview, norefs, ntok, noref]
  refine andC_eq (by simp [norefs]) cI rfl ?_
  simp only [qq, RestC_eqs, K_eqs, K_ops, Nat.reduceEqDiff, reduceCtorEq, cav, K_binC, K_int, aint, Int.reduceGE, decide_false, Nat.reduceLT, K_nil, Then]
  refine hK _ ?_
  clear hK K
  refine awp_keep [4] ?_
  simp only [keep_eqs, K_ops, Nat.reduceEqDiff, if_true, if_false]
  refine awp_ret ?_
  simp only [qq, K_fin, ares, aress, ares1, afin, K_ops, noref]

theorem vatt_ok [Gv] {C : List Nat → List UInt8 → List Nat} (hC : COk C) (t : TokV) (p : Perm) (hs : small t) (hp : notok p = true) (hb : t.bound = false) (hok : okT t = true) (text : List UInt8) (ht : text.length ≤ 200000)
    (hs' : small (addT C t (textC text))) (hok' : okT (addT C t (textC text)) = true) (hl : (encB (addT C t (textC text))).length ≤ 65536)
    (PR : List AV) (hPl : PR.length = 23) (hPo : PR.all oneC = true) (hPn : norefs PR = true) (hP : ACalls Tryz.prog GP 24 [str text] [] (fun r os => os = [] ∧ r = .tup [.agg PR, .val (.bool true)])) :
    ACalls Tryz.prog GP 88 [.agg (BA t p), str text] [] (fun r os => os = [] ∧ r = .tup [.agg (BA (addT C t (textC text)) .no), .val (.int .i64 0)]) := by
  have hoc := BA_oneC t p
  have hlen := BA_length t p hs.2.2.2.1
  have hnB := norefs_BA t p hp
  have hBt : (BA t p).take 37 = BA t p := List.take_of_length_le (by omega)
  have g36 := BA_ds t p hs.2.2.2.1
  have htk := BA_tok t p hs.2.2.2.1
  have hnT := norefs_TA t p (by cases p <;> simp_all [notok])
  have cK := (bcheck_ok t p hs hp hb).g (G := GP)
  rw [hok, if_pos rfl] at cK
  have cH := (hasT0_ok (.func (.func 157) #[] #[]) .full).g (G := GP)
  have cA := catt_ok hC t p hs hp hb text ht hs' PR hPl hPo hPn hP
  rw [hok', if_pos rfl] at cA
  have hb' : (addT C t (textC text)).bound = false := hb
  have cO := fun q => (bof_ok (addT C t (textC text)) .no q hs' rfl).g (G := GP)
  have cE := (bencode_ok (addT C t (textC text)) .no hs' rfl hb' hok' hl).g (G := GP)
  have hl6 := TA_length (addT C t (textC text)) .no hs'.2.2.2.1
  have ho6 := TA_oneC (addT C t (textC text)) .no
  have hn6 := norefs_TA (addT C t (textC text)) .no rfl
  have ht6 : (TA (addT C t (textC text)) .no).take 36 = TA (addT C t (textC text)) .no := List.take_of_length_le (by omega)
  have hd6 : (TA (addT C t (textC text)) .no).drop 36 = [] := List.drop_eq_nil_of_le (by omega)
  have hl7 := BA_length (addT C t (textC text)) .no hs'.2.2.2.1
  have ho7 := BA_oneC (addT C t (textC text)) .no
  have hn7 := norefs_BA (addT C t (textC text)) .no rfl
  have ht7 : (BA (addT C t (textC text)) .no).take 37 = BA (addT C t (textC text)) .no := List.take_of_length_le (by omega)
  have hd7 : (BA (addT C t (textC text)) .no).drop 37 = [] := List.drop_eq_nil_of_le (by omega)
  have hz0 := zeroB_lit
  have hlz := BA_length zeroT .full (by simp [zeroT])
  have hzd7 : (BA zeroT .full).drop 37 = [] := rfl
  generalize BA zeroT .full = B0 at *
  generalize encB (addT C t (textC text)) = eB at *
  generalize BA (addT C t (textC text)) .no = B7 at *
  generalize TA (addT C t (textC text)) .no = T6 at *
  generalize BA t p = Bd at *
  generalize TA t p = T at *
  simp only [str] at *
  refine acalls_of_awp Tryz.func88 rfl rfl Tryz.ntmps88 (rts := #[70,37]) rfl Tryz.results88 (by simp) ?_
  simp only [argSlots, Nat.reduceAdd]
  refine awp_seq_k fun K hK => awp_region [] ?_
  simp only [qq, K_eqs, aboxF, acells, K_ops, reduceCtorEq, hoc, abox, Nat.reduceLT, aalloc, tzeros, cav, K_nil, Then]
  (repeat' apply And.intro) <;> try (first | exact True.intro | omega)
  refine hK _ ?_
  clear hK K
  rw [hz0]
  refine awp_keep [1, 2, 4, 5] ?_
  simp only [keep_eqs, K_ops, Nat.reduceEqDiff, if_true, if_false]
  refine awp_seq_k fun K1 hK1 => ?_
  refine awp_seq_k fun K hK => awp_region [] ?_
  simp only [qq, K_eqs, aload, K_ops, Nat.reduceEqDiff, apart, isAggD, Tryz.underlying70, tszs, hlen, hBt, Nat.reduceLT, K_call, Nat.reduceAdd, K_clo, aviews, aview, ntok, List.headD_cons, noref]
  refine andC_eq hnB cK rfl ?_
  simp only [qq, RestC_eqs, K_eqs, Nat.reduceLT, K_ops, Nat.reduceEqDiff, K_nil, Then]
  refine hK _ ?_
  clear hK K
  refine awp_keep [1, 2, 4, 5, 6] ?_
  simp only [keep_eqs, K_ops, Nat.reduceEqDiff, if_true, if_false]
  refine awp_seq_k fun K hK => awp_region [] ?_
  simp only [qq, K_eqs, Nat.reduceLT, K_ops, Nat.reduceEqDiff, cav, K_binC, K_int, aint, Int.reduceBNe, K_nil, Then]
  (repeat' apply And.intro) <;> try (first | exact True.intro | omega)
  refine hK _ ?_
  clear hK K
  refine awp_condF rfl (awp_skip (hK1 _ ?_))
  clear hK1 K1
  refine awp_keep [1, 2, 4, 5] ?_
  simp only [keep_eqs, K_ops, Nat.reduceEqDiff, if_true, if_false]
  refine awp_seq_k fun K1 hK1 => ?_
  refine awp_seq_k fun K hK => awp_region [] ?_
  simp only [qq, K_eqs, afieldAddr, Tryz.underlying70, tszs, K_ops, Nat.reduceEqDiff, ne_eq, reduceCtorEq, Nat.reduceLT, aload, apart, isAggD, Tryz.underlying68, K_call, Nat.reduceAdd, K_clo, aviews, aview, ntok, List.headD_cons, noref, hlen, g36, norefs]
  refine andC_eq (by simp [norefs]) cH rfl ?_
  simp only [RestC_eqs, K_nil, Then]
  refine hK _ ?_
  clear hK K
  refine awp_condF rfl (awp_skip (hK1 _ ?_))
  clear hK1 K1
  refine awp_keep [1, 2, 4, 5] ?_
  simp only [keep_eqs, K_ops, Nat.reduceEqDiff, if_true, if_false]
  refine awp_seq_k fun K hK => awp_region [] ?_
  simp only [qq, K_eqs, afieldAddr, Tryz.underlying70, tszs, K_ops, Nat.reduceEqDiff, ne_eq, reduceCtorEq, Nat.reduceLT, aload, apart, isAggD, Tryz.underlying67, K_call, Nat.reduceAdd, K_clo, aviews, aview, ntok, List.headD_cons, noref, hlen, Nat.reduceLeDiff, htk]
  refine andC_eq hnT cA (by simp [noref, norefs, hn6]) ?_
  simp only [qq, RestC_eqs, K_eqs, Nat.reduceLT, K_ops, Nat.reduceEqDiff, aext, aalloc, tzeros, Nat.reduceAdd, cav, K_store, astore, tszs, acells, spl, K_nil, Then, ho6, hl6, List.drop_nil]
  refine hK _ ?_
  clear hK K
  refine awp_keep [2, 4, 5, 7, 8] ?_
  simp only [keep_eqs, K_ops, Nat.reduceEqDiff, if_true, if_false]
  refine awp_seq_k fun K1 hK1 => ?_
  refine awp_seq_k fun K hK => awp_region [] ?_
  simp only [qq, K_eqs, Nat.reduceLT, K_ops, Nat.reduceEqDiff, cav, K_binC, K_int, aint, Int.reduceBNe, K_nil, Then]
  (repeat' apply And.intro) <;> try (first | exact True.intro | omega)
  refine hK _ ?_
  clear hK K
  refine awp_condF rfl (awp_skip (hK1 _ ?_))
  clear hK1 K1
  refine awp_keep [2, 4, 5, 7] ?_
  simp only [keep_eqs, K_ops, Nat.reduceEqDiff, if_true, if_false]
  refine awp_seq_k fun K hK => awp_region [] ?_
  simp only [qq, K_eqs, aload, K_ops, Nat.reduceEqDiff, apart, isAggD, Tryz.underlying67, tszs, hl6, ht6, Nat.reduceLT, afieldAddr, Tryz.underlying70, ne_eq, reduceCtorEq, Tryz.underlying68, K_call, Nat.reduceAdd, K_clo, aviews, aview, ntok, List.headD_cons, List.tail_cons, hlen, g36, norefs, noref]
  refine andC_eq (by simp [norefs, noref, hn6]) (cO _) (by simp [noref, norefs, hn7]) ?_
  simp only [qq, RestC_eqs, K_eqs, aalloc, tzeros, Nat.reduceAdd, cav, Nat.reduceLT, K_store, astore, K_ops, Nat.reduceEqDiff, tszs, acells, ho7, hl7, spl, K_nil, Then, List.drop_nil]
  refine hK _ ?_
  clear hK K
  refine awp_keep [4, 5, 9] ?_
  simp only [keep_eqs, K_ops, Nat.reduceEqDiff, if_true, if_false]
  refine awp_seq_k fun K1 hK1 => ?_
  refine awp_seq_k fun K hK => awp_region [] ?_
  simp only [qq, K_eqs, aload, K_ops, Nat.reduceEqDiff, apart, isAggD, Tryz.underlying70, tszs, hl7, ht7, Nat.reduceLT, K_call, Nat.reduceAdd, K_clo, aviews, aview, ntok, List.headD_cons, noref]
  refine andC_eq hn7 cE (by simp [noref, norefs, norefs_Bs]) ?_
  simp only [qq, RestC_eqs, K_eqs, Nat.reduceLT, K_ops, Nat.reduceEqDiff, aext, K_nil, Then]
  refine hK _ ?_
  clear hK K
  refine awp_keep [4, 5, 9, 11] ?_
  simp only [keep_eqs, K_ops, Nat.reduceEqDiff, if_true, if_false]
  refine awp_seq_k fun K hK => awp_region [] ?_
  simp only [qq, K_eqs, Nat.reduceLT, K_ops, Nat.reduceEqDiff, cav, K_binC, K_int, aint, Int.reduceBNe, K_nil, Then]
  (repeat' apply And.intro) <;> try (first | exact True.intro | omega)
  refine hK _ ?_
  clear hK K
  refine awp_condF rfl (awp_skip (hK1 _ ?_))
  clear hK1 K1
  refine awp_keep [4, 9] ?_
  simp only [keep_eqs, K_ops, Nat.reduceEqDiff, if_true, if_false]
  refine awp_seq_k fun K hK => awp_region [] ?_
  simp only [qq, K_eqs, aload, K_ops, Nat.reduceEqDiff, apart, isAggD, Tryz.underlying70, tszs, hl7, ht7, Nat.reduceLT, K_store, astore, acells, hlz, spl, cav, K_nil, Then, ho7, hzd7]
  refine hK _ ?_
  clear hK K
  refine awp_keep [4, 5] ?_
  simp only [keep_eqs, K_ops, Nat.reduceEqDiff, if_true, if_false]
  refine awp_ret ?_
  simp only [qq, K_fin, ares, aress, ares1, aload, K_ops, Nat.reduceEqDiff, apart, isAggD, Tryz.underlying70, tszs, hl7, ht7, afin, noref, hn7]

theorem idxB0_ok [Gv] (v : Value) (p : Perm) : ACalls Tryz.prog G0 146 [.sl 0 [] p, .val v] [] (fun r os => os = [] ∧ r = .val (.int .i64 (-1))) := by
  refine acalls_of_awp Tryz.func146 rfl rfl Tryz.ntmps146 (rts := #[3]) rfl Tryz.results146 (by simp) ?_
  simp only [argSlots, Nat.reduceAdd]
  refine awp_seq_k fun K hK => awp_region [] ?_
  simp only [qq, K_eqs, Nat.reduceLT, K_ops, cav, K_nil, Then]
  (repeat' apply And.intro) <;> try (first | exact True.intro | omega)
  refine hK _ ?_
  clear hK K
  refine awp_keep [0] ?_
  simp only [keep_eqs, K_ops, Nat.reduceEqDiff, if_true, if_false]
  refine awp_seq_k fun K1 hK1 => ?_
  refine awp_seq_k fun K hK => awp_region [] ?_
  simp only [qq, K_eqs, Nat.reduceLT, K_ops, abuiltin, reduceCtorEq, amaplen, alen, Tryz.underlying147, Int.cast_ofNat_Int, cav, K_nil, Then]
  (repeat' apply And.intro) <;> try (first | exact True.intro | omega)
  refine hK _ ?_
  clear hK K
  refine awp_keep [6, 7, 8] ?_
  simp only [keep_eqs, K_ops, Nat.reduceEqDiff, if_true, if_false]
  refine awp_block ?_
  refine awp_loop_from (fun _ : Unit => _) (fun _ => True) (fun _ => 0) () trivial (.refl _) ?_
  intro _ _
  refine awp_seq_k fun K hK => awp_region [] ?_
  simp only [qq, Nat.reduceLT, K_eqs, K_ops, Nat.reduceEqDiff, K_binC, K_int, aint, Int.lt_irrefl, decide_false, K_nil, Then]
  (repeat' apply And.intro) <;> try (first | exact True.intro | omega)
  refine hK _ ?_
  clear hK K
  refine awp_seq ?_
  refine awp_condF rfl ?_
  refine awp_exit ?_
  simp only [Then, InBlock, if_true]
  refine hK1 _ ?_
  clear hK1 K1
  refine awp_keep [6] ?_
  simp only [keep_eqs, K_ops, Nat.reduceEqDiff, if_true, if_false]
  refine awp_seq_k fun K hK => awp_region [] ?_
  simp only [qq, K_eqs, Nat.reduceLT, K_ops, cav, K_nil, Then]
  (repeat' apply And.intro) <;> try (first | exact True.intro | omega)
  refine hK _ ?_
  clear hK K
  refine awp_keep [4] ?_
  simp only [keep_eqs, K_ops, Nat.reduceEqDiff, if_true, if_false]
  refine awp_ret ?_
  simp only [qq, K_fin, ares, aress, ares1, afin, K_ops, noref]
theorem hasB0_ok [Gv] (v : Value) (p : Perm) : ACalls Tryz.prog G0 76 [.sl 0 [] p, .val v] [] (fun r os => os = [] ∧ r = .val (.bool false)) := by
  have cI := idxB0_ok v (ntok p)
  refine acalls_of_awp Tryz.func76 rfl rfl Tryz.ntmps76 (rts := #[4]) rfl Tryz.results76 (by simp) ?_
  simp only [argSlots, Nat.reduceAdd]
  refine awp_seq_k fun K hK => awp_region [] ?_
  simp only [qq, K_eqs, Nat.reduceLT, K_ops, cav, K_nil, Then]
  (repeat' apply And.intro) <;> try (first | exact True.intro | omega)
  refine hK _ ?_
  clear hK K
  refine awp_keep [0, 1] ?_
  simp only [keep_eqs, K_ops, Nat.reduceEqDiff, if_true, if_false]
  refine awp_seq_k fun K hK => awp_region [] ?_
  simp only [qq, K_eqs, Nat.reduceLT, K_ops, reduceCtorEq, Nat.reduceEqDiff, K_call, Nat.reduceAdd, K_clo, aviews, aview, norefs, ntok, noref]
  refine andC_eq (by simp [norefs]) cI rfl ?_
  simp only [qq, RestC_eqs, K_eqs, K_ops, Nat.reduceEqDiff, reduceCtorEq, cav, K_binC, K_int, aint, Int.reduceGE, decide_false, Nat.reduceLT, K_nil, Then]
  refine hK _ ?_
  clear hK K
  refine awp_keep [4] ?_
  simp only [keep_eqs, K_ops, Nat.reduceEqDiff, if_true, if_false]
  refine awp_ret ?_
  simp only [qq, K_fin, ares, aress, ares1, afin, K_ops, noref]

def goodTag (C : List Nat → List UInt8 → List Nat) (key : List UInt8) (t : TokV) : Prop := t.tag = tagAt C (startB C key t.key t.id) t.cavs

theorem verify_ok [Gv] {C : List Nat → List UInt8 → List Nat} (hC : COk C) (key : List UInt8) (hk : key.length = 32) (t : TokV) (ts : List (List UInt8)) (p : Perm) (hp : notok p = true) (hs : small t) (hpl : plainT t ts) (hb : t.bound = false) (hok : okT t = true) (htag : goodTag C key t)
    (RQ : List AV) (hRl : RQ.length = 20) (hRo : RQ.all oneC = true) (hRn : norefs RQ = true) (clock : Nat) (g : List UInt8 → Bool)
    (hG : ∀ s ∈ ts, ACalls Tryz.prog GP 75 [str s, .agg RQ, .val (.int .u64 (clock : Int))] [] (fun r os => os = [] ∧ r = .val (.bool (g s)))) :
    ACalls Tryz.prog GP 28 [.agg (Bs key), .agg (BA t p), .agg RQ, .val (.int .u64 (clock : Int))] [] (fun r os => os = [] ∧ r = .val (.int .i64 (if ts.all g then 0 else 7))) := by
  have hoc := BA_oneC t p
  have hlen := BA_length t p hs.2.2.2.1
  have hnB := norefs_BA t p hp
  have hBt : (BA t p).take 37 = BA t p := List.take_of_length_le (by omega)
  have g2 := BA_caps t p
  have g36 := BA_ds t p hs.2.2.2.1
  have g4 := BA_tag t p hs.2.2.2.1
  have htk := BA_tok t p hs.2.2.2.1
  have hnT := norefs_TA t p (by cases p <;> simp_all [notok])
  have hlT := TA_length t p hs.2.2.2.1
  have hoT := TA_oneC t p
  have gT2 := (TA_get t p).2.2.1
  have cK := (bcheck_ok t p hs hp hb).g (G := GP)
  rw [hok, if_pos rfl] at cK
  have cT := ctags_ok hC key hk t p hs (by cases p <;> simp_all [notok])
  have hsl : (startB C key t.key t.id).length = 32 := deriveB_length hC _ _ _
  have hlast := tagsB_last hC (startB C key t.key t.id) hsl t.cavs t.cavs.length
  have htl := tagsB_length hC (startB C key t.key t.id) hsl t.cavs t.cavs.length
  rw [List.take_length, ← htag] at hlast
  generalize tagsB C (startB C key t.key t.id) t.cavs t.cavs.length = tg at *
  have ht32 := hs.2.2.2.1
  have hcl : t.cavs.length = ts.length := by rw [hpl, List.length_map]
  have cE := (equal_ok t.tag t.tag .no .no (by omega)).g (G := GP)
  have hkt : key.take 32 = key := List.take_of_length_le (by omega)
  generalize BA t p = Bd at *
  generalize TA t p = T at *
  refine acalls_of_awp Tryz.func28 rfl rfl Tryz.ntmps28 (rts := #[38]) rfl Tryz.results28 (by simp) ?_
  simp only [argSlots, Nat.reduceAdd]
  refine awp_seq_k fun K hK => awp_region [] ?_
  simp only [qq, K_eqs, aboxF, acells, K_ops, reduceCtorEq, Bs_one, abox, Nat.reduceLT, Nat.reduceEqDiff, hoc, hRo, Nat.reduceAdd, cav, K_nil, Then]
  (repeat' apply And.intro) <;> try (first | exact True.intro | omega)
  refine hK _ ?_
  clear hK K
  refine awp_keep [3, 4, 5, 6, 8] ?_
  simp only [keep_eqs, K_ops, Nat.reduceEqDiff, if_true, if_false]
  refine awp_seq_k fun K1 hK1 => ?_
  refine awp_seq_k fun K hK => awp_region [] ?_
  simp only [qq, K_eqs, aload, K_ops, Nat.reduceEqDiff, apart, isAggD, Tryz.underlying70, tszs, hlen, hBt, Nat.reduceLT, K_call, Nat.reduceAdd, K_clo, aviews, aview, ntok, List.headD_cons, noref]
  refine andC_eq hnB cK rfl ?_
  simp only [qq, RestC_eqs, K_eqs, K_ops, Nat.reduceEqDiff, cav, K_binC, K_int, aint, Int.reduceBNe, Nat.reduceLT, K_nil, Then]
  refine hK _ ?_
  clear hK K
  refine awp_condF rfl (awp_skip (hK1 _ ?_))
  clear hK1 K1
  refine awp_keep [3, 4, 5, 6] ?_
  simp only [keep_eqs, K_ops, Nat.reduceEqDiff, if_true, if_false]
  refine awp_seq_k fun K hK => ?_
  refine awp_draw [] (by kernel_rfl) (by kernel_rfl) ?_
  simp only [qq, K_eqs, aload, K_ops, Nat.reduceEqDiff, apart, isAggD, Tryz.underlying70, tszs, hlen, hBt, Nat.reduceLT, afieldAddr, ne_eq, reduceCtorEq, Tryz.underlying68, abuiltin, amaplen, alen, amake, Tryz.underlying147, Tryz.underlying67, Tryz.underlying23, K_call, Nat.reduceAdd, K_clo, aviews, aview, ntok, List.headD_cons, List.tail_cons, g36, Int.cast_ofNat_Int, tbys, tzeros, Int.le_refl, Int.mul_zero, Int.reduceLE, Int.toNat_zero, zrep_0, Nat.reduceLeDiff, htk, Bs_length, hk, Bs_take, hkt, noref, norefs_Bs]
  refine andC_eq (by simp [norefs, noref, norefs_Bs, hnT]) cT (by simp [noref, norefs_Bs]) ?_
  have hT36 : ∀ r : List AV, (T ++ r).take 36 = T := fun r => List.take_left' hlT
  have hTd : ∀ x : AV, (T ++ [x]).drop 37 = [] := fun x => List.drop_eq_nil_of_le (by simp [hlT])
  have hB37 : ∀ r : List AV, (Bd ++ r).take 37 = Bd := fun r => List.take_left' hlen
  have hB38 : ∀ x y : AV, (Bd ++ [x, y]).drop 38 = [y] := fun x y => by
    rw [show Bd ++ [x, y] = (Bd ++ [x]) ++ [y] by simp, List.drop_left' (by simp [hlen])]
  have hB38t : ∀ x y : AV, (Bd ++ [x] ++ [y]).take 38 = Bd ++ [x] := fun x y => List.take_left' (by simp [hlen])
  have hB39 : ∀ x y : AV, (Bd ++ [x] ++ [y]).drop 39 = [] := fun x y => List.drop_eq_nil_of_le (by simp [hlen])
  simp only [qq, RestC_eqs, K_eqs, abuild, tzeros, Tryz.underlying151, tsfs, cav, aparts, K_ops, Nat.reduceEqDiff, afill, spl, acells, hlT, hT36, Nat.reduceAdd, hTd, List.length_append, List.all_cons, oneC, List.all_nil, Nat.reduceLeDiff, hoT, Nat.reduceLT, abuildOwn, Tryz.underlying152, tszs, zrep_1, Nat.zero_mul, Nat.reduceMul, List.length_drop, abuildSlice, Tryz.underlying154, hlen, hB37, hB38, hB38t, hB39, hoc, aboxF, abox, K_nil, Then, List.all_append, List.drop_nil]
  refine hK _ ?_
  clear hK K
  refine awp_keep [3, 5, 6, 9] ?_
  simp only [keep_eqs, K_ops, Nat.reduceEqDiff, if_true, if_false]
  obtain ⟨TK, hTK⟩ : ∃ TK : List AV, TK = T ++ [.sl (t.cavs.length + 1) (Bs tg) .no] := ⟨_, rfl⟩
  rw [← hTK]
  have hKl : TK.length = 37 := by rw [hTK]; simp [hlT]
  have hKo : TK.all oneC = true := by rw [hTK, List.all_append, hoT]; rfl
  have hK2 : TK.getD 2 .top = .sl t.cavs.length (CS t.cavs) p := by
    rw [hTK, List.getD_eq_getElem?_getD, List.getElem?_append_left (by omega), ← List.getD_eq_getElem?_getD, gT2]
  have hK36 : TK.getD 36 .top = .sl (t.cavs.length + 1) (Bs tg) .no := by
    rw [hTK, List.getD_eq_getElem?_getD, List.getElem?_append_right (by omega), hlT]; rfl
  have hKt : TK.take 37 = TK := List.take_of_length_le (by omega)
  have hKd : TK.drop 37 = [] := List.drop_eq_nil_of_le (by omega)
  clear hTK
  have hWl : ∀ a x : AV, (Bd ++ [a] ++ [x]).length = 39 := fun a x => by simp [hlen]
  have hW37 : ∀ a x : AV, (Bd ++ [a] ++ [x]).getD 37 .top = a := fun a x => by
    rw [List.getD_eq_getElem?_getD, List.append_assoc, List.getElem?_append_right (by omega), hlen]; rfl
  have hW38 : ∀ a x : AV, (Bd ++ [a] ++ [x]).getD 38 .top = x := fun a x => by
    rw [List.getD_eq_getElem?_getD, List.append_assoc, List.getElem?_append_right (by omega), hlen]; rfl
  have hbt : (Bs t.tag).length = 32 := by rw [Bs_length]; omega
  have hbo : (Bs t.tag).all oneC = true := by
    rw [List.all_eq_true]
    intro x hx
    obtain ⟨z, _, rfl⟩ := List.mem_map.1 hx
    rfl
  have htt : t.tag.take 32 = t.tag := List.take_of_length_le (by omega)
  have hz : (Z 32).drop 32 = [] := List.drop_eq_nil_of_le (by rw [Z_length]; exact Nat.le_refl _)
  have hmx := hs.2.1
  refine awp_seq_k fun K1 hK1 => ?_
  refine awp_seq_k fun K hK => ?_
  refine awp_draw [] (by kernel_rfl) (by kernel_rfl) ?_
  simp only [qq, K_eqs, Nat.reduceLT, K_ops, Nat.reduceEqDiff, anil, afieldAddr, Tryz.underlying154, tszs, ne_eq, reduceCtorEq, aload, apart, isAggD, Tryz.underlying152, aidxAddr, cav, Int.le_refl, Int.toNat_zero, Nat.zero_mul, Tryz.underlying151, Tryz.underlying148, Tryz.underlying70, Tryz.underlying67, Tryz.underlying65, abuiltin, amaplen, alen, Tryz.underlying23, aalloc, tzeros, zvs_u8, K_store, astore, acells, spl, K_nil, Then, hlen, g2, Int.toNat_natCast, Nat.reduceAdd, Bs_length, Z_length, Bs_drop, hWl, hW38, hKl, Nat.reduceMul, Int.cast_ofNat_Int, Int.reduceLT, Nat.reduceLeDiff, List.length_drop, Nat.reduceSub, drop_getD, hK36, htl, hlast, hbt, Bs_take, htt, hbo, hz, Bs_nil]
  refine ⟨⟨by omega, by omega⟩, hK _ ?_⟩
  clear hK K
  refine awp_keep [3, 5, 6, 9, 10] ?_
  simp only [keep_eqs, K_ops, Nat.reduceEqDiff, if_true, if_false]
  have g4' : (Bd.drop 4).take 32 = Bs t.tag := g4
  rw [ht32] at cE
  refine awp_seq_k fun K hK => ?_
  refine awp_draw [] (by kernel_rfl) (by kernel_rfl) ?_
  simp only [qq, K_eqs, aslice, bopt, Option.map_none, Tryz.underlying23, K_ops, Nat.reduceEqDiff, tszs, lowOf, Int.le_refl, highOf, Int.cast_ofNat_Int, Int.reduceLE, ne_eq, not_true_eq_false, or_false, Int.toNat_zero, Nat.mul_one, Int.sub_zero, Int.reduceToNat, Nat.reduceLT, afieldAddr, Tryz.underlying70, reduceCtorEq, Tryz.underlying67, Int.toNat_natCast, Nat.zero_mul, sliceP, K_call, Nat.reduceAdd, K_clo, aviews, aview, ntok, List.headD_cons, Tryz.underlying54, List.tail_cons, hlen, Nat.reduceLeDiff, g4', norefs_Bs, hbt, Bs_take, htt]
  refine andC_eq trivial cE (by simp [flat]) ?_
  simp only [qq, RestC_eqs, K_eqs, aun, K_ops, Nat.reduceEqDiff, Nat.reduceLT, K_nil, Then]
  refine hK _ ?_
  clear hK K
  refine awp_condF (by simp only [K_ops, lk]; simp) (awp_skip (hK1 _ ?_))
  clear hK1 K1
  refine awp_dead 4 ?_
  refine awp_keep [3, 5, 6, 9] ?_
  simp only [keep_eqs, K_ops, Nat.reduceEqDiff, if_true, if_false]
  simp only [List.set_cons_succ, List.set_cons_zero]
  refine awp_seq_k fun K1 hK1 => ?_
  refine awp_block ?_
  refine awp_loop_from (fun b : Bool => ⟨108, [(3, .val (.int .u64 (clock : Int))), (5, .ptr 1 0), (6, .ptr 2 0), (9, .ptr 3 0)], if b then .cells (Bs key) :: .cells Bd :: .cells RQ :: .cells (Bd ++ [.sl 0 [] .no] ++ [.sl 0 [] .full]) :: .dead :: .dead :: dd ts.length else [.cells (Bs key), .cells Bd, .cells RQ, .cells (Bd ++ [.sl 0 [] .no] ++ [.sl 1 TK .full]), .dead]⟩)
    (fun b => b = true → ts.all g = true) (fun b => if b then 0 else 1) false (by simp) (.of_keep [3, 5, 6, 9] (by exact rfl)) ?_
  intro b hbI
  cases b with
  | true =>
    have hall := hbI rfl
    refine awp_seq ?_
    refine awp_seq ?_
    refine awp_region [] ?_
    simp only [qq, K_eqs, Nat.reduceLT, K_ops, Nat.reduceEqDiff, anil, afieldAddr, Tryz.underlying154, tszs, ne_eq, reduceCtorEq, aload, apart, isAggD, Tryz.underlying152, abuiltin, amaplen, alen, cav, K_binC, K_nil, Then, hWl, hW38, Int.cast_ofNat_Int, K_int, aint, Int.lt_irrefl, decide_false]
    refine awp_condF rfl ?_
    refine awp_exit ?_
    simp only [Then, InBlock, if_true]
    refine hK1 _ ?_
    clear hK1 K1
    refine awp_keep [9] ?_
    simp only [keep_eqs, K_ops, Nat.reduceEqDiff, if_true, if_false]
    refine awp_seq_k fun K1 hK1 => ?_
    refine awp_seq_k fun K hK => awp_region [] ?_
    simp only [qq, K_eqs, Nat.reduceLT, K_ops, anil, Nat.reduceEqDiff, afieldAddr, Tryz.underlying154, tszs, ne_eq, reduceCtorEq, aload, apart, isAggD, Tryz.underlying147, K_call, Nat.reduceAdd, cav, K_clo, aviews, aview, ntok, List.headD_cons, noref, hWl, hW37, norefs]
    refine andC_eq (by simp [norefs]) (hasB0_ok (.bool false) .no).g rfl ?_
    simp only [RestC_eqs, K_nil, Then]
    refine hK _ ?_
    clear hK K
    refine awp_condF rfl (awp_skip (hK1 _ ?_))
    clear hK1 K1
    refine awp_keep [9] ?_
    simp only [keep_eqs, K_ops, Nat.reduceEqDiff, if_true, if_false]
    refine awp_seq_k fun K hK => awp_region [] ?_
    simp only [qq, K_eqs, Nat.reduceLT, K_ops, cav, K_nil, Then]
    (repeat' apply And.intro) <;> try (first | exact True.intro | omega)
    refine hK _ ?_
    clear hK K
    refine awp_keep [8] ?_
    simp only [keep_eqs, K_ops, Nat.reduceEqDiff, if_true, if_false]
    refine awp_ret ?_
    exact ⟨_, _, rfl, ⟨rfl, trivial⟩, rfl, by rw [hall]; rfl⟩
  | false =>
    clear hbI
    refine awp_seq ?_
    refine awp_seq ?_
    refine awp_region [] ?_
    simp only [qq, K_eqs, Nat.reduceLT, K_ops, Nat.reduceEqDiff, anil, afieldAddr, Tryz.underlying154, tszs, ne_eq, reduceCtorEq, aload, apart, isAggD, Tryz.underlying152, abuiltin, amaplen, alen, cav, K_binC, K_nil, Then, hWl, hW38, Int.cast_ofNat_Int, K_int, aint, Int.reduceGT, decide_true]
    refine awp_condT rfl (awp_skip ?_)
    simp only [Then]
    refine awp_keep [3, 5, 6, 9] ?_
    simp only [keep_eqs, K_ops, Nat.reduceEqDiff, if_true, if_false]
    refine awp_block ?_
    refine awp_seq_k fun K hK => awp_region [] ?_
    simp only [qq, K_eqs, Nat.reduceLT, K_ops, Nat.reduceEqDiff, anil, afieldAddr, Tryz.underlying154, tszs, ne_eq, reduceCtorEq, aload, apart, isAggD, Tryz.underlying152, aidxAddr, cav, Int.le_refl, Int.toNat_zero, Nat.zero_mul, Tryz.underlying151, aalloc, tzeros, Nat.reduceAdd, K_store, astore, acells, spl, K_nil, Then, hWl, hW38, hKl, Nat.reduceMul, Int.cast_ofNat_Int, Int.reduceLT, Nat.zero_lt_succ, hKt, hKo, List.drop_nil]
    refine hK _ ?_
    clear hK K
    refine awp_keep [3, 5, 6, 9, 11] ?_
    simp only [keep_eqs, K_ops, Nat.reduceEqDiff, if_true, if_false]
    refine awp_seq_k fun K hK => awp_region [] ?_
    have h11 : ((1 : Int) - 1).toNat = 0 := rfl
    simp only [qq, K_eqs, Nat.reduceLT, K_ops, Nat.reduceEqDiff, anil, afieldAddr, Tryz.underlying154, tszs, ne_eq, reduceCtorEq, aload, apart, isAggD, Tryz.underlying152, aslice, bopt, Option.map_some, cav, Option.map_none, lowOf, Int.reduceLE, highOf, Int.le_refl, not_true_eq_false, or_false, Int.reduceToNat, sliceP, Int.toNat_natCast, K_store, astore, acells, spl, K_nil, Then, hWl, hB38t, hW38, hKl, Nat.reduceMul, Int.cast_ofNat_Int, h11, Nat.zero_mul, hKd, List.take_nil, List.all_cons, oneC, List.all_nil, Nat.reduceAdd, Nat.zero_lt_succ, hB39]
    refine hK _ ?_
    clear hK K
    refine awp_keep [3, 5, 6, 9, 11] ?_
    simp only [keep_eqs, K_ops, Nat.reduceEqDiff, if_true, if_false]
    have hCl := CS_length t.cavs
    refine awp_seq_k fun K hK => awp_region [] ?_
    simp only [qq, K_eqs, afieldAddr, Tryz.underlying151, tszs, K_ops, Nat.reduceEqDiff, ne_eq, reduceCtorEq, Nat.reduceLT, Tryz.underlying67, aload, apart, isAggD, Tryz.underlying65, abuiltin, amaplen, alen, cav, K_nil, Then, hKl, hK2]
    (repeat' apply And.intro) <;> try (first | exact True.intro | omega)
    refine hK _ ?_
    clear hK K
    refine awp_keep [3, 5, 6, 9, 11, 74, 75, 76] ?_
    simp only [keep_eqs, K_ops, Nat.reduceEqDiff, if_true, if_false]
    refine awp_block ?_
    refine awp_loop_from (fun i : Nat => ⟨108, [(3, .val (.int .u64 (clock : Int))), (5, .ptr 1 0), (6, .ptr 2 0), (9, .ptr 3 0), (11, .ptr 5 0), (74, .sl t.cavs.length (CS t.cavs) p), (75, .val (.int .i64 (t.cavs.length : Int))), (76, .val (.int .i64 (i : Int)))], .cells (Bs key) :: .cells Bd :: .cells RQ :: .cells (Bd ++ [.sl 0 [] .no] ++ [.sl 0 [] .full]) :: .dead :: .cells TK :: dd i⟩)
      (fun i => i ≤ ts.length ∧ (ts.take i).all g = true) (fun i => ts.length - i) 0 (by simp) (.of_keep [3, 5, 6, 9, 11, 74, 75, 76] (by exact rfl)) ?_
    rintro i ⟨hi, hga⟩
    refine awp_seq_k fun K hK => awp_region [] ?_
    simp only [qq, K_eqs, K_ops, Nat.reduceEqDiff, K_binC, K_int, aint, d_ltn, Nat.reduceLT, K_nil, Then]
    (repeat' apply And.intro) <;> try (first | exact True.intro | omega)
    refine hK _ ?_
    clear hK K
    refine awp_seq ?_
    refine awp_cond rfl rfl (fun hq => ?_) (fun hq => ?_)
    · have hlt : i < t.cavs.length := of_decide_eq_true hq
      have hlt' : i < ts.length := by omega
      refine awp_skip ?_
      simp only [Then]
      refine awp_keep [3, 5, 6, 9, 11, 74, 75, 76] ?_
      simp only [keep_eqs, K_ops, Nat.reduceEqDiff, if_true, if_false]
      have hget := CS_get hlt (t.cavs[i])
      rw [List.getD_eq_getElem?_getD, List.getElem?_eq_getElem hlt] at hget
      simp only [Option.getD_some] at hget
      have hci : t.cavs[i] = textC ts[i] := by
        have : t.cavs[i]? = (ts.map textC)[i]? := by rw [hpl]
        rw [List.getElem?_eq_getElem hlt, List.getElem?_map, List.getElem?_eq_getElem hlt'] at this
        simpa using this
      rw [hci] at hget
      have cG := hG ts[i] (List.getElem_mem hlt')
      have htk1 : (ts.take (i + 1)).all g = ((ts.take i).all g && g ts[i]) := by
        rw [List.take_add_one, List.getElem?_eq_getElem hlt', List.all_append]
        simp
      have hany : g ts[i] = false → ts.all g = false := fun h => by
        rw [Bool.eq_false_iff]
        intro hh
        rw [List.all_eq_true] at hh
        rw [hh _ (List.getElem_mem hlt')] at h
        cases h
      generalize ts[i] = s at *
      rw [show CA (textC s) = [.val (.bool false), .val (.string ⟨s.toArray⟩), .val (.int .u64 0), .val (.string ⟨#[]⟩), .val (.string ⟨#[]⟩)] from rfl] at hget
      simp only [str] at cG
      refine awp_seq ?_
      refine awp_block ?_
      refine awp_seq_k fun K hK => awp_region [] ?_
      simp only [qq, K_eqs, Nat.reduceLT, K_ops, Nat.reduceEqDiff, aidxAddr, Tryz.underlying65, tszs, hCl, Int.toNat_natCast, aload, apart, isAggD, Tryz.underlying74, aalloc, tzeros, dd_length, cav, K_store, astore, acells, spl, K_nil, Then, dd_at, Nat.reduceAdd, dd_set, List.length_drop, hget, List.all_cons, oneC, Value.oneCell', List.all_nil, List.drop_nil]
      refine ⟨⟨by omega, by omega⟩, by omega, hK _ ?_⟩
      clear hK K
      have hRt : RQ.take 20 = RQ := List.take_of_length_le (by omega)
      refine awp_keep [3, 5, 6, 9, 11, 13, 74, 75, 76] ?_
      simp only [keep_eqs, K_ops, Nat.reduceEqDiff, if_true, if_false]
      refine awp_seq_k fun K hK => awp_region [] ?_
      simp only [qq, K_eqs, Nat.reduceLT, K_ops, cav, K_nil, Then]
      (repeat' apply And.intro) <;> try (first | exact True.intro | omega)
      refine hK _ ?_
      clear hK K
      refine awp_keep [3, 5, 6, 9, 11, 13, 14, 74, 75, 76] ?_
      simp only [keep_eqs, K_ops, Nat.reduceEqDiff, if_true, if_false]
      refine awp_seq_k fun K2 hK2 => ?_
      refine awp_block ?_
      refine awp_seq ?_
      refine awp_region [] ?_
      simp only [qq, K_eqs, afieldAddr, Tryz.underlying74, tszs, K_ops, Nat.reduceEqDiff, ne_eq, reduceCtorEq, Nat.reduceLT, aload, apart, isAggD, Tryz.underlying4, K_nil, Then, dd_at, Nat.reduceAdd]
      refine awp_condF rfl ?_
      refine awp_seq ?_
      refine awp_region [] ?_
      simp only [qq, K_eqs, afieldAddr, Tryz.underlying74, tszs, K_ops, Nat.reduceEqDiff, ne_eq, reduceCtorEq, Nat.reduceLT, aload, apart, isAggD, Tryz.underlying9, Tryz.underlying29, hRl, hRt, K_call, Nat.reduceAdd, K_clo, aviews, aview, ntok, List.headD_cons, List.tail_cons, noref, dd_at, List.getD_cons_succ]
      refine andC_eq (by simp [norefs, noref, hRn]) cG rfl ?_
      simp only [qq, RestC_eqs, K_eqs, aun, K_ops, Nat.reduceEqDiff, Nat.reduceLT, K_nil, Then]
      cases hgs : g s with
      | false =>
        refine awp_condT (by simp only [K_ops, lk]; simp [hgs]) ?_
        refine awp_keep [3, 5, 6, 9, 11, 13, 74, 75, 76] ?_
        simp only [keep_eqs, K_ops, Nat.reduceEqDiff, if_true, if_false]
        refine awp_region [] ?_
        simp only [qq, K_eqs, Nat.reduceLT, K_ops, cav, K_nil]
        simp only [InBlock, Then]
        refine hK2 _ ?_
        clear hK2 K2
        refine awp_keep [14] ?_
        simp only [keep_eqs, K_ops, Nat.reduceEqDiff, if_true, if_false]
        refine awp_seq ?_
        refine awp_region [] ?_
        simp only [qq, K_eqs, Nat.reduceLT, K_ops, Nat.reduceEqDiff, cav, K_binC, K_int, aint, Int.reduceBNe, K_nil, Then]
        refine awp_condT rfl ?_
        refine awp_keep [14] ?_
        simp only [keep_eqs, K_ops, Nat.reduceEqDiff, if_true, if_false]
        refine awp_seq_k fun K hK => awp_region [] ?_
        simp only [qq, K_eqs, Nat.reduceLT, K_ops, Nat.reduceEqDiff, K_nil, Then]
        (repeat' apply And.intro) <;> try (first | exact True.intro | omega)
        refine hK _ ?_
        clear hK K
        refine awp_keep [8] ?_
        simp only [keep_eqs, K_ops, Nat.reduceEqDiff, if_true, if_false]
        refine awp_ret ?_
        simp only [InBlock, Then]
        exact ⟨_, _, rfl, ⟨rfl, trivial⟩, rfl, by rw [hany hgs]; rfl⟩
      | true =>
        refine awp_condF (by simp only [K_ops, lk]; simp [hgs]) ?_
        refine awp_skip ?_
        simp only [InBlock, Then]
        refine hK2 _ ?_
        clear hK2 K2
        refine awp_keep [3, 5, 6, 9, 11, 13, 14, 74, 75, 76] ?_
        simp only [keep_eqs, K_ops, Nat.reduceEqDiff, if_true, if_false]
        refine awp_seq ?_
        refine awp_region [] ?_
        simp only [qq, K_eqs, Nat.reduceLT, K_ops, Nat.reduceEqDiff, cav, K_binC, K_int, aint, Int.reduceBNe, K_nil, Then]
        refine awp_condF rfl ?_
        refine awp_skip ?_
        simp only [InBlock, Then]
        refine awp_dead (i + 6) ?_
        simp only [List.set_cons_succ, dd_set, dd_kill]
        refine awp_keep [3, 5, 6, 9, 11, 74, 75, 76] ?_
        simp only [keep_eqs, K_ops, Nat.reduceEqDiff, if_true, if_false]
        have h6 : IntKind.i64.wrap ((i + 1 : Nat) : Int) = ((i + 1 : Nat) : Int) := n_i64 (by have := hs.2.1; omega)
        refine awp_region [] ?_
        simp only [qq, K_eqs, K_ops, Nat.reduceEqDiff, cav, K_binC, K_int, aint, n_add, h6, Nat.reduceLT, K_nil, Then]
        exact ⟨i + 1, ⟨by omega, by rw [htk1, hga, hgs]; rfl⟩, by omega, .of_keep [3, 5, 6, 9, 11, 74, 75, 76] rfl⟩
    · have he : i = ts.length := by have := of_decide_eq_false hq; omega
      subst he
      refine awp_exit ?_
      simp only [Then, InBlock, if_true]
      rw [List.take_length] at hga
      exact ⟨true, fun _ => hga, by decide, .trans (.dead 5) (.of_keep [3, 5, 6, 9] (by exact rfl))⟩
def SV (clock most last : Nat) (m : AObj) (l : List OutV) : List AObj := [.cells [.val (.int .u64 (clock : Int)), .ptr 1 0, .ptr 3 0], KO most last 2, m, SO l 4, .tok 3 l.length]

theorem must_ok [Gv] : ACalls Tryz.prog GP 85 [.val (.int .i64 0)] [] (fun r os => os = [] ∧ r = .tup []) := by
  refine acalls_of_awp Tryz.func85 rfl rfl Tryz.ntmps85 (rts := #[]) rfl Tryz.results85 (by simp) ?_
  simp only [argSlots, Nat.reduceAdd]
  refine awp_seq_k fun K hK => awp_region [] ?_
  simp only [qq, K_eqs, Nat.reduceLT, K_ops, reduceCtorEq, cav, K_binC, K_int, aint, Int.reduceBNe, K_nil, Then]
  (repeat' apply And.intro) <;> try (first | exact True.intro | omega)
  refine hK _ ?_
  clear hK K
  refine awp_condF rfl (awp_skip ?_)
  exact ⟨_, _, rfl, trivial, rfl, rfl⟩

theorem service_new_ok [Gv] (most : Nat) (h : most ≤ 1024) : ACalls Tryz.prog GP 10 [.val (.int .i64 (most : Int))] [] (fun r os => os = SV 0 most 0 (.map []) [] ∧ r = .ptr 0 0) := by
  have cK := knew_ok most h
  have cS := snew_ok
  simp only [KO, SO, List.length_nil, show OS [] = [] from rfl] at *
  refine acallsG_of_awp Tryz.func10 rfl rfl Tryz.ntmps10 (rts := #[35]) rfl Tryz.results10 (by simp) ?_
  simp only [argSlots, Nat.reduceAdd]
  refine awp_seq_k fun K hK => awp_region [] ?_
  simp only [qq, K_eqs, Nat.reduceLT, K_ops, cav, K_nil, Then]
  (repeat' apply And.intro) <;> try (first | exact True.intro | omega)
  refine hK _ ?_
  clear hK K
  refine awp_keep [0] ?_
  simp only [keep_eqs, K_ops, Nat.reduceEqDiff, if_true, if_false]
  refine awp_seq_k fun K hK => awp_region [1000004, 1000005] ?_
  simp only [qq, K_eqs, Nat.reduceLT, K_ops, K_call, Nat.reduceAdd, List.contains_cons, beq_self_eq_true, Nat.reduceBEq, reduceCtorEq, K_clo, aviews, aview, noref]
  refine andH_gen [] false [3] ⟨by decide, by simp, by simp⟩ rfl (by simp [noref]) (by simpa [GHd] using cK) ⟨by simp, by simp [refO, refs, ref, refP], by simp [refs, ref], fun h => by cases h⟩ ?_
  simp only [qq, ren, σn, Nat.reduceLT, Nat.reduceSub, GBack, setAll, renO, rens, RestH_eqs, K_call, Nat.reduceAdd, List.contains_cons, Nat.reduceBEq, beq_self_eq_true, Bool.false_or, K_ops, K_clo, aviews]
  refine andH_gen [] false [] ⟨by decide, by simp, by simp⟩ rfl (by simp [noref]) (by simpa [GHd] using cS) ⟨by simp, by simp [refO, refs, ref, refP, OS], by simp [refs, ref], fun h => by cases h⟩ ?_
  simp only [qq, ren, σn, Nat.reduceLT, Nat.reduceAdd, Nat.reduceSub, GBack, setAll, renO, rens, renP, RestH_eqs, K_eqs, abuild, tzeros, Tryz.underlying106, tsfs, cav, aparts, K_ops, Nat.reduceEqDiff, reduceCtorEq, afill, spl, acells, List.drop_nil, List.all_cons, oneC, List.all_nil, Nat.reduceLeDiff, List.contains_cons, Nat.reduceBEq, aboxF, abox, K_nil, Then, Value.oneCell']
  refine hK _ ?_
  clear hK K
  refine awp_keep [2] ?_
  simp only [keep_eqs, K_ops, Nat.reduceEqDiff, if_true, if_false]
  refine awp_ret ?_
  refine FinG_mk [4, 0, 1, 2, 3] ⟨by simp, by simp, by decide, by simp, by simp [refO, refs, ref, refP]⟩ ?_
  exact ⟨⟨trivial, trivial⟩, rfl, rfl, rfl⟩

structure OpF (O : List AV) (kind key «until» ticks out : Nat) (draw text : List UInt8) (pub : Bool) : Prop where
  len : O.length = 129
  ones : O.all oneC = true
  nor : norefs O = true
  fkind : O.getD 0 .top = .val (.int .i64 (kind : Int))
  fkey : O.getD 1 .top = .val (.int .u64 (key : Int))
  funtil : O.getD 2 .top = .val (.int .u64 («until» : Int))
  fticks : O.getD 4 .top = .val (.int .u64 (ticks : Int))
  fdraw : (O.drop 5).take 32 = Bs draw
  ldraw : draw.length = 32
  ftext : O.getD 101 .top = .val (.string ⟨text.toArray⟩)
  fout : O.getD 104 .top = .val (.int .i64 (out : Int))
  fpub : O.getD 128 .top = .val (.bool pub)

theorem refs_SV [Gv] (clock most last : Nat) (m : AObj) (hm : objOk m = true) (l : List OutV) : ∀ o ∈ SV clock most last m l, refO (fun r => decide (r < 5)) o = true := by
  intro o ho
  simp only [SV, List.mem_cons, List.not_mem_nil, or_false] at ho
  rcases ho with rfl | rfl | rfl | rfl | rfl
  · rfl
  · rfl
  · exact refO_noref _ _ hm
  · simp [SO, refO, refs, ref, refP, refs_noref _ _ (norefs_OS l)]
  · rfl

def AN (e r n : Nat) (out : Int) : List AV := [.val (.int .i64 (e : Int)), .val (.int .i64 (r : Int)), .val (.int .u64 (n : Int)), .val (.int .i64 out)]

theorem svput_ok [Gv] (clock most last : Nat) (m : AObj) (hm : objOk m = true) (l : List OutV) (hl : l.length ≤ 1000000) (t : TokV) (p : Perm) (hp : notok p = true) (hs : small t) (hok : okT t = true) (hb : t.bound = false) (hlen : (encB t).length ≤ 65536)
    (O : List AV) {kind key un ticks out : Nat} {draw text : List UInt8} {pub : Bool} (hO : OpF O kind key un ticks out draw text pub) :
    ACalls Tryz.prog GP 86 [.ptr 0 0, .agg (BA t p), .agg O] (SV clock most last m l) (fun r os => os = SV clock most last m (l ++ [⟨encB t, true, pub⟩]) ∧ r = .agg (AN 0 0 0 (l.length : Int))) := by
  have cE := (bencode_ok t p hs hp hb hok hlen).g (G := GP)
  have cP := sput_ok l hl ⟨encB t, true, pub⟩
  have hOA : OA ⟨encB t, true, pub⟩ = [.val (.string ⟨(encB t).toArray⟩), .val (.bool true), .val (.bool pub)] := rfl
  rw [hOA] at cP
  have hnl := norefs_OS l
  have hnl2 := norefs_OS (l ++ [⟨encB t, true, pub⟩])
  have hlB := BA_length t p hs.2.2.2.1
  have hoB := BA_oneC t p
  have hnB := norefs_BA t p hp
  have hBt : (BA t p).take 37 = BA t p := List.take_of_length_le (by omega)
  have hrf := refs_SV clock most last m hm
  generalize (⟨encB t, true, pub⟩ : OutV) = ov at *
  generalize encB t = eB at *
  generalize BA t p = Bd at *
  have hOl := hO.len
  have hOo := hO.ones
  have hOp := hO.fpub
  have hOt : O.take 129 = O := List.take_of_length_le (by omega)
  simp only [SV, KO, SO] at *
  refine acallsG_of_awp Tryz.func86 rfl rfl Tryz.ntmps86 (rts := #[40]) rfl Tryz.results86 (by simp) ?_
  simp only [argSlots, Nat.reduceAdd]
  refine awp_seq_k fun K hK => awp_region [] ?_
  simp only [qq, Nat.reduceAdd, K_eqs, aboxF, acells, K_ops, reduceCtorEq, Nat.reduceEqDiff, hoB, abox, Nat.reduceLT, hOo, aalloc, tzeros, cav, K_nil, Then]
  (repeat' apply And.intro) <;> try (first | exact True.intro | omega)
  refine hK _ ?_
  clear hK K
  refine awp_keep [0, 4, 5, 6] ?_
  simp only [keep_eqs, K_ops, Nat.reduceEqDiff, if_true, if_false]
  refine awp_seq_k fun K hK => awp_region [] ?_
  simp only [qq, Nat.reduceAdd, K_eqs, aload, K_ops, reduceCtorEq, Nat.reduceEqDiff, apart, isAggD, Tryz.underlying70, tszs, hlB, hBt, Nat.reduceLT, K_call, K_clo, aviews, aview, ntok, List.headD_cons, noref]
  refine andC_eq hnB cE (by simp [noref, norefs, norefs_Bs]) ?_
  simp only [qq, RestC_eqs, K_eqs, Nat.reduceLT, K_ops, Nat.reduceEqDiff, reduceCtorEq, aext, K_nil, Then]
  refine hK _ ?_
  clear hK K
  refine awp_keep [0, 5, 6, 7, 8] ?_
  simp only [keep_eqs, K_ops, Nat.reduceEqDiff, if_true, if_false]
  refine awp_seq_k fun K hK => awp_region [] ?_
  simp only [qq, Nat.reduceAdd, K_eqs, Nat.reduceLT, K_ops, reduceCtorEq, Nat.reduceEqDiff, K_call, K_clo, aviews, aview, noref]
  refine andC_eq trivial must_ok (by simp [noref, norefs]) ?_
  simp only [RestC_eqs, K_nil, Then]
  refine hK _ ?_
  clear hK K
  refine awp_keep [0, 5, 6, 7] ?_
  simp only [keep_eqs, K_ops, Nat.reduceEqDiff, if_true, if_false]
  refine awp_seq_k fun K hK => ?_
  refine awp_draw [1000025] (by kernel_rfl) (by kernel_rfl) ?_
  simp only [qq, Nat.reduceAdd, K_eqs, Nat.reduceLT, K_ops, reduceCtorEq, anil, Nat.reduceEqDiff, afieldAddr, Tryz.underlying106, tszs, ne_eq, aload, List.contains_cons, Nat.reduceBEq, apart, isAggD, Tryz.underlying50, K_conv, Tryz.underlying9, aconvO, aview, norefs_Bs, ntok, aconv, Tryz.underlying54, Tryz.underlying5, Bs_length, Bs_isByte, Bs_bytes, Tryz.underlying46, Tryz.underlying4, abuild, tzeros, Tryz.underlying48, tsfs, cav, aparts, afill, spl, acells, Nat.reduceLeDiff, List.all_cons, oneC, Value.oneCell', List.all_nil, K_call, beq_self_eq_true, K_clo, aviews, List.headD_cons, List.tail_cons, hOl, hOp, List.drop_nil, List.getD_cons_succ]
  refine andH_gen [3, 4] false [50, 48] ⟨by decide, by simp, by simp [refO, refs, ref, refP, refs_noref _ _ hnl]⟩ rfl (by simp [noref]) (by simp only [GHd, List.map_cons, List.map_nil, List.getD_cons_zero, List.getD_cons_succ, renO, rens, ren, renP, rens_noref _ _ hnl]; exact cP) ⟨by simp, by simp [refO, refs, ref, refP, refs_noref _ _ hnl2], by simp [refs, ref], fun h => by cases h⟩ ?_
  simp only [qq, ren, GBack, setAll, renO, rens, rens_noref _ _ hnl2, renP, σn, Nat.reduceAdd, Nat.reduceLT, List.getD_cons_succ, Nat.reduceSub, List.headD_cons, List.tail_cons, List.drop_nil, RestH_eqs, K_eqs, abuild, tzeros, Tryz.underlying40, tsfs, cav, aparts, K_ops, Nat.reduceEqDiff, reduceCtorEq, afill, spl, acells, List.all_cons, oneC, Value.oneCell', List.all_nil, K_store, astore, tszs, K_nil, Then]
  refine hK _ ?_
  clear hK K
  refine awp_keep [6] ?_
  simp only [keep_eqs, K_ops, Nat.reduceEqDiff, if_true, if_false]
  refine awp_ret ?_
  have hr := hrf (l ++ [ov])
  simp only [List.length_append, List.length_cons, List.length_nil, Nat.zero_add] at hr ⊢
  refine FinG_all (by simp) hr ?_
  simp only [qq, andO, aresN, aresNs, aresN1, aload, K_ops, apart, isAggD, Tryz.underlying40, tszs, Nat.reduceAdd, List.take_nil]
  exact ⟨rfl, rfl⟩

theorem objOk_KM [Gv] (tag : List UInt8) (u : Nat) : objOk (KM tag u) = true := by simp [KM, objOk, norefs, noref, norefs_KY]

theorem find_ok [Gv] (clock most : Nat) (tag : List UInt8) (ht : tag.length = 32) (u : Nat) (hlive : clock < u) (l : List OutV) :
    ACalls Tryz.prog GP 84 [.ptr 0 0, .val (.int .i64 1), .val (.int .u64 1)] (SV clock most 1 (KM tag u) l) (fun r os => os = SV clock most 1 (KM tag u) l ∧ r = .agg (Bs tag)) := by
  have cF := kfind_ok most tag ht u clock
  rw [if_pos hlive] at cF
  have hnY := norefs_KY tag u
  have hrf := refs_SV clock most 1 (KM tag u) (objOk_KM tag u) l
  have hbl : (Bs tag).length = 32 := by rw [Bs_length]; omega
  have htt : tag.take 32 = tag := List.take_of_length_le (by omega)
  have hbo : (Bs tag).all oneC = true := by
    rw [List.all_eq_true]
    intro x hx
    obtain ⟨z, _, rfl⟩ := List.mem_map.1 hx
    rfl
  have hz : (Z 32).drop 32 = [] := List.drop_eq_nil_of_le (by rw [Z_length]; exact Nat.le_refl _)
  simp only [SV, KO, KM] at *
  refine acallsG_of_awp Tryz.func84 rfl rfl Tryz.ntmps84 (rts := #[23]) rfl Tryz.results84 (by simp) ?_
  simp only [argSlots, Nat.reduceAdd]
  refine awp_seq_k fun K hK => awp_region [] ?_
  simp only [qq, Int.cast_ofNat_Int, Nat.reduceAdd, K_eqs, aalloc, tzeros, zvs_u8, Nat.reduceLT, K_nil, Then, K_ops]
  (repeat' apply And.intro) <;> try (first | exact True.intro | omega)
  refine hK _ ?_
  clear hK K
  refine awp_keep [0, 1, 2, 6] ?_
  simp only [keep_eqs, K_ops, Nat.reduceEqDiff, if_true, if_false]
  refine awp_seq_k fun K hK => ?_
  refine awp_draw [2000020] (by kernel_rfl) (by kernel_rfl) ?_
  simp only [qq, Int.cast_ofNat_Int, Nat.reduceAdd, K_eqs, Nat.reduceLT, K_ops, reduceCtorEq, anil, Nat.reduceEqDiff, afieldAddr, Tryz.underlying106, tszs, ne_eq, aload, List.contains_cons, Nat.reduceBEq, apart, isAggD, Tryz.underlying103, Tryz.underlying30, K_call, K_clo, beq_self_eq_true, aviews, aview, ntok, List.headD_cons, noref, List.tail_cons, List.getD_cons_succ]
  refine andH_gen [1, 2] false [103, 3, 30, 30] ⟨by decide, by simp, by simp [refO, refs, ref, refP, refs_noref _ _ hnY]⟩ rfl (by simp [noref]) (by simp only [GHd, List.map_cons, List.map_nil, List.getD_cons_zero, List.getD_cons_succ, renO, rens, ren, renP, rens_noref _ _ hnY]; exact cF) ⟨by simp, by simp [refO, refs, ref, refP, refs_noref _ _ hnY], by simp [refs, ref, refs_noref _ _ (norefs_Bs tag)], fun h => by cases h⟩ ?_
  simp only [qq, ren, rens, rens_noref _ _ (norefs_Bs tag), GBack, setAll, Int.cast_ofNat_Int, renO, σn, Nat.reduceAdd, Nat.reduceLT, List.getD_cons_succ, Nat.reduceSub, rens_noref _ _ hnY, List.headD_cons, List.tail_cons, List.drop_nil, RestK_eqs, K_eqs, K_ops, Nat.reduceEqDiff, reduceCtorEq, aext, aalloc, tzeros, zvs_u8, K_store, astore, tszs, acells, spl, K_nil, Then, Bs_length, Z_length, Bs_drop, hbo, hbl, hz, Bs_nil]
  refine hK _ ?_
  clear hK K
  refine awp_keep [6, 7, 8] ?_
  simp only [keep_eqs, K_ops, Nat.reduceEqDiff, if_true, if_false]
  refine awp_seq_k fun K1 hK1 => ?_
  refine awp_seq_k fun K hK => awp_region [] ?_
  simp only [qq, Int.cast_ofNat_Int, Nat.reduceAdd, K_eqs, Nat.reduceLT, K_ops, Nat.reduceEqDiff, cav, K_binC, K_int, aint, Int.reduceBNe, K_nil, Then]
  (repeat' apply And.intro) <;> try (first | exact True.intro | omega)
  refine hK _ ?_
  clear hK K
  refine awp_condF rfl (awp_skip (hK1 _ ?_))
  clear hK1 K1
  refine awp_keep [6, 7] ?_
  simp only [keep_eqs, K_ops, Nat.reduceEqDiff, if_true, if_false]
  refine awp_seq_k fun K hK => awp_region [] ?_
  simp only [qq, Int.cast_ofNat_Int, Nat.reduceAdd, K_eqs, aload, K_ops, Nat.reduceEqDiff, apart, isAggD, Tryz.underlying23, tszs, hbl, Bs_take, htt, Nat.reduceLT, K_store, astore, acells, Bs_length, Z_length, spl, Bs_drop, K_nil, Then, hbo, hz, Bs_nil]
  refine hK _ ?_
  clear hK K
  refine awp_keep [6] ?_
  simp only [keep_eqs, K_ops, Nat.reduceEqDiff, if_true, if_false]
  refine awp_ret ?_
  refine FinG_all (by simp) hrf ?_
  simp only [qq, andO, aresN, aresNs, aresN1, aload, K_ops, apart, isAggD, Tryz.underlying23, tszs, hbl, Bs_take, htt, Int.cast_ofNat_Int, Nat.reduceAdd]
  simp [ref, refs_noref _ _ (norefs_Bs tag)]

theorem svbundle_ok [Gv] (clock most last : Nat) (m : AObj) (hm : objOk m = true) (l : List OutV) (hl : l.length ≤ 1000000) (i : Nat) (hi : i < l.length) (t : TokV) (ts : List (List UInt8)) (ho : isB l[i] t ts) :
    ACalls Tryz.prog GP 87 [.ptr 0 0, .val (.int .i64 (i : Int))] (SV clock most last m l) (fun r os => os = SV clock most last m l ∧ r = .agg (BA t .no)) := by
  have cR := sbundle_ok l hl i hi t ts ho
  obtain ⟨o1, o2, hs, hpl, hok, hb, hlen⟩ := ho
  have hnC := norefs_OS l
  have hlB := BA_length t .no hs.2.2.2.1
  have hoB := BA_oneC t .no
  have hnB := norefs_BA t .no rfl
  have hBt : (BA t .no).take 37 = BA t .no := List.take_of_length_le (by omega)
  have hBd : (BA t .no).drop 37 = [] := List.drop_eq_nil_of_le (by omega)
  have hz0 := zeroB_lit
  have hlz := BA_length zeroT .full (by simp [zeroT])
  have hzd7 : (BA zeroT .full).drop 37 = [] := rfl
  have hrf := refs_SV clock most last m hm l
  generalize BA zeroT .full = B0 at *
  generalize BA t .no = Bd at *
  simp only [SV, KO, SO] at *
  refine acallsG_of_awp Tryz.func87 rfl rfl Tryz.ntmps87 (rts := #[70]) rfl Tryz.results87 (by simp) ?_
  simp only [argSlots, Nat.reduceAdd]
  refine awp_seq_k fun K hK => awp_region [] ?_
  simp only [qq, Nat.reduceAdd, K_eqs, aalloc, tzeros, cav, Nat.reduceLT, K_nil, Then, K_ops]
  (repeat' apply And.intro) <;> try (first | exact True.intro | omega)
  refine hK _ ?_
  clear hK K
  rw [hz0]
  refine awp_keep [0, 1, 4] ?_
  simp only [keep_eqs, K_ops, Nat.reduceEqDiff, if_true, if_false]
  refine awp_seq_k fun K hK => awp_region [1000013] ?_
  simp only [qq, Nat.reduceAdd, K_eqs, Nat.reduceLT, K_ops, reduceCtorEq, anil, Nat.reduceEqDiff, afieldAddr, Tryz.underlying106, tszs, ne_eq, aload, List.contains_cons, Nat.reduceBEq, apart, isAggD, Tryz.underlying50, K_call, beq_self_eq_true, K_clo, aviews, aview, ntok, List.headD_cons, noref, List.getD_cons_succ]
  refine andH_gen [3, 4] false [50, 3] ⟨by decide, by simp, by simp [refO, refs, ref, refP, refs_noref _ _ hnC]⟩ rfl (by simp [noref]) (by simp only [GHd, List.map_cons, List.map_nil, List.getD_cons_zero, List.getD_cons_succ, renO, rens, ren, renP, rens_noref _ _ hnC]; exact cR) ⟨by simp, by simp [refO, refs, ref, refP, refs_noref _ _ hnC], by simp [refs, ref, refs_noref _ _ hnB], fun h => by cases h⟩ ?_
  simp only [qq, ren, rens, rens_noref _ _ hnB, GBack, setAll, renO, rens_noref _ _ hnC, renP, σn, Nat.reduceAdd, Nat.reduceLT, List.getD_cons_succ, Nat.reduceSub, List.headD_cons, List.tail_cons, List.drop_nil, RestH_eqs, K_eqs, K_ops, Nat.reduceEqDiff, reduceCtorEq, aext, aalloc, tzeros, cav, K_store, astore, tszs, acells, spl, K_nil, Then, hoB, hlB]
  refine hK _ ?_
  clear hK K
  refine awp_keep [4, 5, 6] ?_
  simp only [keep_eqs, K_ops, Nat.reduceEqDiff, if_true, if_false]
  refine awp_seq_k fun K hK => awp_region [] ?_
  simp only [qq, Nat.reduceAdd, K_eqs, Nat.reduceLT, K_ops, Nat.reduceEqDiff, K_call, K_clo, aviews, aview, noref]
  refine andC_eq trivial must_ok (by simp [noref, norefs]) ?_
  simp only [RestC_eqs, K_nil, Then]
  refine hK _ ?_
  clear hK K
  refine awp_keep [4, 5] ?_
  simp only [keep_eqs, K_ops, Nat.reduceEqDiff, if_true, if_false]
  refine awp_seq_k fun K hK => awp_region [] ?_
  simp only [qq, Nat.reduceAdd, K_eqs, aload, K_ops, Nat.reduceEqDiff, apart, isAggD, Tryz.underlying70, tszs, hlB, hBt, Nat.reduceLT, K_store, astore, acells, hlz, spl, K_nil, Then, hoB, hzd7]
  refine hK _ ?_
  clear hK K
  refine awp_keep [4] ?_
  simp only [keep_eqs, K_ops, Nat.reduceEqDiff, if_true, if_false]
  refine awp_ret ?_
  refine FinG_all (by simp) hrf ?_
  simp only [qq, andO, aresN, aresNs, aresN1, aload, K_ops, apart, isAggD, Tryz.underlying70, tszs, hlB, hBt, Nat.reduceAdd]
  simp [ref, refs, refs_noref _ _ hnB]
theorem rootmint_ok [Gv] {C : List Nat → List UInt8 → List Nat} (hC : COk C) (clock most : Nat) (tag : List UInt8) (ht : tag.length = 32) (u : Nat) (hlive : clock < u) (l : List OutV) (hl : l.length ≤ 1000000)
    (O : List AV) {un ticks out : Nat} {draw text : List UInt8} {pub : Bool} (hO : OpF O 7 1 un ticks out draw text pub) (hi : text.length ≤ 200000) (hok : okT (mintT C tag 1 text) = true) (hlen : (encB (mintT C tag 1 text)).length ≤ 65536) :
    ACalls Tryz.prog GP 38 [.ptr 0 0, .agg O] (SV clock most 1 (KM tag u) l) (fun r os => os = SV clock most 1 (KM tag u) (l ++ [⟨encB (mintT C tag 1 text), true, pub⟩]) ∧ r = .agg (AN 0 0 0 (l.length : Int))) := by
  have cF := find_ok clock most tag ht u hlive l
  have cM := cmint_ok hC tag ht 1 (by omega) text hi
  rw [hok, if_pos rfl] at cM
  have hsm := small_mintT hC tag 1 (by omega) text hi
  have cO := fun q => (bof_ok (mintT C tag 1 text) .full q hsm rfl).g (G := GP)
  have cP := svput_ok clock most 1 (KM tag u) (objOk_KM tag u) l hl (mintT C tag 1 text) .no rfl hsm hok rfl hlen O hO
  have hlT := TA_length (mintT C tag 1 text) .full hsm.2.2.2.1
  have hoT := TA_oneC (mintT C tag 1 text) .full
  have hnT := norefs_TA (mintT C tag 1 text) .full rfl
  have hTt : (TA (mintT C tag 1 text) .full).take 36 = TA (mintT C tag 1 text) .full := List.take_of_length_le (by omega)
  have hTd : (TA (mintT C tag 1 text) .full).drop 36 = [] := List.drop_eq_nil_of_le (by omega)
  have hnB := norefs_BA (mintT C tag 1 text) .no rfl
  have hrf := refs_SV clock most 1 (KM tag u) (objOk_KM tag u)
  have hSl : ∀ l, (SV clock most 1 (KM tag u) l).length = 5 := fun l => rfl
  generalize encB (mintT C tag 1 text) = eB at *
  generalize TA (mintT C tag 1 text) .full = T at *
  generalize BA (mintT C tag 1 text) .no = Bd at *
  have hOl := hO.len
  have hOo := hO.ones
  have hOt : O.take 129 = O := List.take_of_length_le (by omega)
  have hk := hO.fkind
  have hkey := hO.fkey
  have htx := hO.ftext
  have hOn := hO.nor
  simp only [str] at cM
  show ACalls Tryz.prog GP 38 _ [.cells [.val (.int .u64 (clock : Int)), .ptr 1 0, .ptr 3 0], KO most 1 2, KM tag u, SO l 4, .tok 3 l.length] _
  refine acallsG_of_awp Tryz.func38 rfl rfl Tryz.ntmps38 (rts := #[40]) rfl Tryz.results38 (by simp) ?_
  simp only [argSlots, Nat.reduceAdd]
  refine awp_seq_k fun K hK => awp_region [] ?_
  simp only [qq, Nat.reduceAdd, K_eqs, aboxF, acells, K_ops, reduceCtorEq, hOo, abox, Nat.reduceLT, aalloc, tzeros, cav, K_nil, Then]
  (repeat' apply And.intro) <;> try (first | exact True.intro | omega)
  refine hK _ ?_
  clear hK K
  refine awp_freeze 3 5 O rfl rfl (by omega) hOn ?_
  simp only [List.set_cons_succ, List.set_cons_zero]
  refine awp_keep [0, 3, 4] ?_
  simp only [keep_eqs, K_ops, Nat.reduceEqDiff, if_true, if_false]
  refine awp_seq_k fun K1 hK1 => ?_
  refine awp_seq_k fun K hK => awp_region [] ?_
  simp only [qq, Nat.reduceAdd, K_eqs, afieldAddr, Tryz.underlying46, tszs, K_ops, reduceCtorEq, Nat.reduceEqDiff, ne_eq, hOl, Nat.reduceLeDiff, Nat.reduceLT, aload, apart, isAggD, Tryz.underlying3, cav, K_binC, K_nil, Then, Nat.zero_lt_succ, hk, Int.cast_ofNat_Int, K_int, aint, beq_self_eq_true]
  (repeat' apply And.intro) <;> try (first | exact True.intro | omega)
  refine hK _ ?_
  clear hK K
  refine awp_condT rfl ?_
  refine awp_keep [0, 3, 4] ?_
  simp only [keep_eqs, K_ops, Nat.reduceEqDiff, if_true, if_false]
  refine awp_seq_k fun K hK => ?_
  refine awp_draw [2000020, 19, 22, 24] (by kernel_rfl) (by kernel_rfl) ?_
  simp only [qq, Nat.reduceAdd, K_eqs, Nat.reduceLT, K_ops, reduceCtorEq, afieldAddr, Tryz.underlying46, tszs, Nat.reduceEqDiff, ne_eq, hOl, Nat.reduceLeDiff, aload, List.contains_cons, Nat.reduceBEq, beq_self_eq_true, Bool.false_or, apart, isAggD, Tryz.underlying30, K_call, cav, K_clo, aviews, aview, noref, ntok, List.tail_cons, List.headD_cons, List.length_drop, Nat.reduceSub, drop_getD, hkey, Int.cast_ofNat_Int]
  refine andH_range (objs := SV clock most 1 (KM tag u) l) [35, 3, 30] (hrf l) rfl (by simp [noref]) cF rfl (hrf l) (by simp [ref, refs_noref _ _ (norefs_Bs tag)]) ?_
  simp only [qq, RestK_eqs, Nat.reduceAdd, K_eqs, afieldAddr, Tryz.underlying46, tszs, K_ops, Nat.reduceEqDiff, reduceCtorEq, ne_eq, hOl, Nat.reduceLeDiff, Nat.reduceLT, aload, List.contains_cons, Nat.reduceBEq, beq_self_eq_true, Bool.false_or, apart, isAggD, Tryz.underlying30, Tryz.underlying9, K_call, K_clo, aviews, aview, noref, norefs_Bs, ntok, List.tail_cons, List.headD_cons, List.length_drop, Nat.reduceSub, drop_getD, htx, hkey, Int.cast_ofNat_Int]
  refine ⟨rfl, ?_⟩
  refine andC_eq (by simp [noref, norefs, norefs_Bs]) cM (by simp [noref, norefs, hnT]) ?_
  simp only [qq, SV, RestC_eqs, K_eqs, Nat.reduceLT, K_ops, Nat.reduceEqDiff, reduceCtorEq, aext, aalloc, tzeros, Nat.reduceAdd, cav, K_store, astore, tszs, acells, spl, K_nil, Then, hoT, hlT, List.drop_nil]
  refine hK _ ?_
  clear hK K
  refine awp_keep [0, 3, 4, 5, 6] ?_
  simp only [keep_eqs, K_ops, Nat.reduceEqDiff, if_true, if_false]
  refine awp_seq_k fun K hK => awp_region [] ?_
  simp only [qq, Nat.reduceAdd, K_eqs, Nat.reduceLT, K_ops, reduceCtorEq, Nat.reduceEqDiff, K_call, K_clo, aviews, aview, noref]
  refine andC_eq trivial must_ok (by simp [noref, norefs]) ?_
  simp only [RestC_eqs, K_nil, Then]
  refine hK _ ?_
  clear hK K
  refine awp_keep [0, 3, 4, 5] ?_
  simp only [keep_eqs, K_ops, Nat.reduceEqDiff, if_true, if_false]
  refine awp_seq_k fun K hK => ?_
  refine awp_draw [1000034, 33] (by kernel_rfl) (by kernel_rfl) ?_
  simp only [qq, Nat.reduceAdd, K_eqs, Nat.reduceLT, K_ops, reduceCtorEq, aload, Nat.reduceEqDiff, List.contains_cons, Nat.reduceBEq, apart, isAggD, Tryz.underlying67, tszs, hlT, hTt, K_call, cav, K_clo, aviews, aview, ntok, List.headD_cons, norefs, noref]
  refine andC_eq (by simp [noref, norefs, hnT]) (cO _) (by simp [noref, norefs, hnB]) ?_
  simp only [qq, RestC_eqs, K_eqs, aload, K_ops, Nat.reduceEqDiff, reduceCtorEq, apart, isAggD, Tryz.underlying46, tszs, hOl, hOt, Nat.reduceLT, K_call, Nat.reduceAdd, List.contains_cons, beq_self_eq_true, Nat.reduceBEq, K_clo, aviews, aview, noref, ntok, List.tail_cons, List.headD_cons]
  have hvw : ∀ rest, gviews Tryz.prog (SV clock most 1 (KM tag u) l ++ rest) (List.range (SV clock most 1 (KM tag u) l).length) [35, 70, 46] [.ptr 0 0, .agg Bd, .agg O] = some (True ∧ True ∧ True ∧ True, false, [.ptr 0 0, .agg Bd, .agg O]) := fun rest => by
    simp only [gviews, gview, refs_noref _ _ hnB, refs_noref _ _ hOn, rens_noref _ _ hnB, rens_noref _ _ hOn]
    rfl
  refine andH_range (objs := SV clock most 1 (KM tag u) l) [35, 70, 46] (hrf l) (hvw _) ⟨trivial, trivial, trivial, trivial⟩ cP rfl (hrf _) rfl ?_
  simp only [qq, SV, AN, Int.cast_ofNat_Int, RestH_eqs, K_store, astore, K_ops, Nat.reduceEqDiff, reduceCtorEq, tszs, acells, List.all_cons, oneC, Value.oneCell', List.all_nil, Nat.reduceAdd, Nat.reduceLT, spl, List.drop_nil, K_nil, Then]
  refine hK _ ?_
  clear hK K
  refine awp_keep [4] ?_
  simp only [keep_eqs, K_ops, Nat.reduceEqDiff, if_true, if_false]
  refine awp_ret ?_
  simp only [InBlock, Then]
  refine FinG_all (by simp) (hrf _) ?_
  simp only [qq, andO, aresN, aresNs, aresN1, aload, K_ops, apart, isAggD, Tryz.underlying40, tszs, Nat.reduceAdd, List.take_nil, AN, Int.cast_ofNat_Int]
  exact ⟨rfl, rfl⟩

theorem rootatt_ok [Gv] {C : List Nat → List UInt8 → List Nat} (hC : COk C) (clock most last : Nat) (m : AObj) (hm : objOk m = true) (l : List OutV) (hl : l.length ≤ 1000000)
    (O : List AV) {key un ticks out : Nat} {draw text : List UInt8} {pub : Bool} (hO : OpF O 8 key un ticks out draw text pub) (hi : out < l.length) (t : TokV) (ts : List (List UInt8)) (ho : isB l[out] t ts) (htx : text.length ≤ 200000)
    (hs' : small (addT C t (textC text))) (hok' : okT (addT C t (textC text)) = true) (hl' : (encB (addT C t (textC text))).length ≤ 65536)
    (PR : List AV) (hPl : PR.length = 23) (hPo : PR.all oneC = true) (hPn : norefs PR = true) (hP : ACalls Tryz.prog GP 24 [str text] [] (fun r os => os = [] ∧ r = .tup [.agg PR, .val (.bool true)])) :
    ACalls Tryz.prog GP 38 [.ptr 0 0, .agg O] (SV clock most last m l) (fun r os => os = SV clock most last m (l ++ [⟨encB (addT C t (textC text)), true, pub⟩]) ∧ r = .agg (AN 0 0 0 (l.length : Int))) := by
  have cB := svbundle_ok clock most last m hm l hl out hi t ts ho
  obtain ⟨o1, o2, hs, hpl, hok, hb, hlen⟩ := ho
  have cA := vatt_ok hC t .no hs rfl hb hok text htx hs' hok' hl' PR hPl hPo hPn hP
  have hb' : (addT C t (textC text)).bound = false := hb
  have cP := svput_ok clock most last m hm l hl (addT C t (textC text)) .no rfl hs' hok' hb' hl' O hO
  have hlB := BA_length t .no hs.2.2.2.1
  have hoB := BA_oneC t .no
  have hnB := norefs_BA t .no rfl
  have hBt : (BA t .no).take 37 = BA t .no := List.take_of_length_le (by omega)
  have hBd : (BA t .no).drop 37 = [] := List.drop_eq_nil_of_le (by omega)
  have hl7 := BA_length (addT C t (textC text)) .no hs'.2.2.2.1
  have ho7 := BA_oneC (addT C t (textC text)) .no
  have hn7 := norefs_BA (addT C t (textC text)) .no rfl
  have ht7 : (BA (addT C t (textC text)) .no).take 37 = BA (addT C t (textC text)) .no := List.take_of_length_le (by omega)
  have hd7 : (BA (addT C t (textC text)) .no).drop 37 = [] := List.drop_eq_nil_of_le (by omega)
  have hrf := refs_SV clock most last m hm
  generalize encB (addT C t (textC text)) = eB at *
  generalize BA (addT C t (textC text)) .no = B7 at *
  generalize BA t .no = Bd at *
  have hOl := hO.len
  have hOo := hO.ones
  have hOt : O.take 129 = O := List.take_of_length_le (by omega)
  have hk := hO.fkind
  have hout := hO.fout
  have hxt := hO.ftext
  have hOn := hO.nor
  simp only [str] at cA
  show ACalls Tryz.prog GP 38 _ [.cells [.val (.int .u64 (clock : Int)), .ptr 1 0, .ptr 3 0], KO most last 2, m, SO l 4, .tok 3 l.length] _
  refine acallsG_of_awp Tryz.func38 rfl rfl Tryz.ntmps38 (rts := #[40]) rfl Tryz.results38 (by simp) ?_
  simp only [argSlots, Nat.reduceAdd]
  refine awp_seq_k fun K hK => awp_region [] ?_
  simp only [qq, Nat.reduceAdd, K_eqs, aboxF, acells, K_ops, reduceCtorEq, hOo, abox, Nat.reduceLT, aalloc, tzeros, cav, K_nil, Then]
  (repeat' apply And.intro) <;> try (first | exact True.intro | omega)
  refine hK _ ?_
  clear hK K
  refine awp_freeze 3 5 O rfl rfl (by omega) hOn ?_
  simp only [List.set_cons_succ, List.set_cons_zero]
  refine awp_keep [0, 3, 4] ?_
  simp only [keep_eqs, K_ops, Nat.reduceEqDiff, if_true, if_false]
  refine awp_seq_k fun K1 hK1 => ?_
  refine awp_seq_k fun K hK => awp_region [] ?_
  simp only [qq, Nat.reduceAdd, K_eqs, afieldAddr, Tryz.underlying46, tszs, K_ops, reduceCtorEq, Nat.reduceEqDiff, ne_eq, hOl, Nat.reduceLeDiff, Nat.reduceLT, aload, apart, isAggD, Tryz.underlying3, cav, K_binC, K_nil, Then, Nat.zero_lt_succ, hk, Int.cast_ofNat_Int, K_int, aint, Int.reduceBEq]
  (repeat' apply And.intro) <;> try (first | exact True.intro | omega)
  refine hK _ ?_
  clear hK K
  refine awp_condF rfl (awp_skip (hK1 _ ?_))
  clear hK1 K1
  refine awp_keep [0, 3, 4] ?_
  simp only [keep_eqs, K_ops, Nat.reduceEqDiff, if_true, if_false]
  refine awp_seq_k fun K hK => awp_region [1000038, 37] ?_
  simp only [qq, Nat.reduceAdd, K_eqs, Nat.reduceLT, K_ops, reduceCtorEq, afieldAddr, Tryz.underlying46, tszs, Nat.reduceEqDiff, ne_eq, hOl, Nat.reduceLeDiff, aload, List.contains_cons, Nat.reduceBEq, beq_self_eq_true, Bool.false_or, apart, isAggD, Tryz.underlying3, K_call, K_clo, aviews, aview, ntok, List.tail_cons, List.headD_cons, List.length_drop, Nat.reduceSub, drop_getD, hout]
  refine andH_range (objs := SV clock most last m l) [35, 3] (hrf l) rfl (by simp [noref]) cB rfl (hrf l) (by simp [ref, refs_noref _ _ hnB]) ?_
  simp only [qq, SV, RestH_eqs, K_eqs, aalloc, tzeros, Nat.reduceAdd, cav, Nat.reduceLT, K_store, astore, K_ops, Nat.reduceEqDiff, reduceCtorEq, tszs, acells, hoB, hlB, spl, K_nil, Then, List.drop_nil]
  refine hK _ ?_
  clear hK K
  refine awp_keep [0, 3, 4, 7] ?_
  simp only [keep_eqs, K_ops, Nat.reduceEqDiff, if_true, if_false]
  refine awp_seq_k fun K1 hK1 => ?_
  refine awp_seq_k fun K hK => awp_region [] ?_
  simp only [qq, Nat.reduceAdd, K_eqs, afieldAddr, Tryz.underlying46, tszs, K_ops, reduceCtorEq, Nat.reduceEqDiff, ne_eq, hOl, Nat.reduceLeDiff, Nat.reduceLT, aload, apart, isAggD, Tryz.underlying3, cav, K_binC, K_nil, Then, Nat.zero_lt_succ, hk, Int.cast_ofNat_Int, K_int, aint, beq_self_eq_true]
  (repeat' apply And.intro) <;> try (first | exact True.intro | omega)
  refine hK _ ?_
  clear hK K
  refine awp_condT rfl ?_
  refine awp_keep [0, 3, 4, 7] ?_
  simp only [keep_eqs, K_ops, Nat.reduceEqDiff, if_true, if_false]
  refine awp_seq_k fun K hK => awp_region [45] ?_
  simp only [qq, Nat.reduceAdd, K_eqs, aload, K_ops, reduceCtorEq, Nat.reduceEqDiff, List.contains_cons, Nat.reduceBEq, apart, isAggD, Tryz.underlying70, tszs, hlB, hBt, Nat.reduceLT, afieldAddr, Tryz.underlying46, ne_eq, hOl, Nat.reduceLeDiff, beq_self_eq_true, Tryz.underlying9, K_call, K_clo, aviews, aview, ntok, List.headD_cons, List.tail_cons, List.length_drop, Nat.reduceSub, drop_getD, hxt, noref]
  refine andC_eq (by simp [noref, norefs, hnB]) cA (by simp [noref, norefs, hn7]) ?_
  simp only [qq, RestC_eqs, K_eqs, Nat.reduceLT, K_ops, Nat.reduceEqDiff, reduceCtorEq, aext, aalloc, tzeros, Nat.reduceAdd, cav, K_store, astore, tszs, acells, spl, K_nil, Then, ho7, hl7, List.drop_nil]
  refine hK _ ?_
  clear hK K
  refine awp_keep [0, 3, 4, 8, 9] ?_
  simp only [keep_eqs, K_ops, Nat.reduceEqDiff, if_true, if_false]
  refine awp_seq_k fun K hK => awp_region [] ?_
  simp only [qq, Nat.reduceAdd, K_eqs, Nat.reduceLT, K_ops, reduceCtorEq, Nat.reduceEqDiff, K_call, K_clo, aviews, aview, noref]
  refine andC_eq trivial must_ok (by simp [noref, norefs]) ?_
  simp only [RestC_eqs, K_nil, Then]
  refine hK _ ?_
  clear hK K
  refine awp_keep [0, 3, 4, 8] ?_
  simp only [keep_eqs, K_ops, Nat.reduceEqDiff, if_true, if_false]
  refine awp_seq_k fun K hK => awp_region [1000054, 53] ?_
  simp only [qq, Nat.reduceAdd, K_eqs, Nat.reduceLT, K_ops, reduceCtorEq, aload, Nat.reduceEqDiff, List.contains_cons, Nat.reduceBEq, apart, isAggD, Tryz.underlying70, tszs, hl7, ht7, Tryz.underlying46, hOl, hOt, K_call, beq_self_eq_true, K_clo, aviews, aview, ntok, List.tail_cons, List.headD_cons]
  have hvw : ∀ rest, gviews Tryz.prog (SV clock most last m l ++ rest) (List.range (SV clock most last m l).length) [35, 70, 46] [.ptr 0 0, .agg B7, .agg O] = some (True ∧ True ∧ True ∧ True, false, [.ptr 0 0, .agg B7, .agg O]) := fun rest => by
    simp only [gviews, gview, refs_noref _ _ hn7, refs_noref _ _ hOn, rens_noref _ _ hn7, rens_noref _ _ hOn]
    rfl
  refine andH_range (objs := SV clock most last m l) [35, 70, 46] (hrf l) (hvw _) ⟨trivial, trivial, trivial, trivial⟩ cP rfl (hrf _) rfl ?_
  simp only [qq, SV, AN, Int.cast_ofNat_Int, RestH_eqs, K_store, astore, K_ops, Nat.reduceEqDiff, reduceCtorEq, tszs, acells, List.all_cons, oneC, Value.oneCell', List.all_nil, Nat.reduceAdd, Nat.reduceLT, spl, List.drop_nil, K_nil, Then]
  refine hK _ ?_
  clear hK K
  refine awp_keep [4] ?_
  simp only [keep_eqs, K_ops, Nat.reduceEqDiff, if_true, if_false]
  refine awp_ret ?_
  simp only [InBlock, Then]
  refine FinG_all (by simp) (hrf _) ?_
  simp only [qq, andO, aresN, aresNs, aresN1, aload, K_ops, apart, isAggD, Tryz.underlying40, tszs, Nat.reduceAdd, List.take_nil, AN, Int.cast_ofNat_Int]
  exact ⟨rfl, rfl⟩
theorem plainroot_ok [Gv] (clock most : Nat) (hm : 0 < most) (l : List OutV) (O : List AV) {key un ticks out : Nat} {draw text : List UInt8} {pub : Bool} (hO : OpF O 2 key un ticks out draw text pub) :
    ACalls Tryz.prog GP 41 [.ptr 0 0, .agg O, .agg (AN 0 0 0 (-1))] (SV clock most 0 (.map []) l) (fun r os => os = SV clock most 1 (KM draw un) l ∧ r = .agg (AN 0 0 1 (-1))) := by
  have cM := kmake_ok most hm draw hO.ldraw un
  have hnl := norefs_OS l
  have hnY := norefs_KY draw un
  have hrf := refs_SV clock most 1 (KM draw un) (objOk_KM draw un) l
  have hOl := hO.len
  have hOo := hO.ones
  have hk := hO.fkind
  have hun := hO.funtil
  have hdr := hO.fdraw
  have hdl := hO.ldraw
  have hdt : draw.take 32 = draw := List.take_of_length_le (by omega)
  have hOn := hO.nor
  show ACalls Tryz.prog GP 41 _ [.cells [.val (.int .u64 (clock : Int)), .ptr 1 0, .ptr 3 0], KO most 0 2, .map [], SO l 4, .tok 3 l.length] _
  simp only [KO, KM] at *
  refine acallsG_of_awp Tryz.func41 rfl rfl Tryz.ntmps41 (rts := #[40]) rfl Tryz.results41 (by simp) ?_
  simp only [argSlots, Nat.reduceAdd]
  refine awp_seq_k fun K hK => awp_region [] ?_
  simp only [qq, AN, Int.cast_ofNat_Int, Nat.reduceAdd, K_eqs, aboxF, acells, K_ops, reduceCtorEq, Nat.reduceEqDiff, hOo, abox, Nat.reduceLT, List.all_cons, oneC, Value.oneCell', List.all_nil, aalloc, tzeros, cav, K_nil, Then]
  (repeat' apply And.intro) <;> try (first | exact True.intro | omega)
  refine hK _ ?_
  clear hK K
  refine awp_freeze 4 5 O rfl rfl (by omega) hOn ?_
  simp only [List.set_cons_succ, List.set_cons_zero]
  refine awp_keep [0, 4, 5, 6] ?_
  simp only [keep_eqs, K_ops, Nat.reduceEqDiff, if_true, if_false]
  refine awp_seq_k fun K hK => awp_region [] ?_
  simp only [qq, Int.cast_ofNat_Int, Nat.reduceAdd, K_eqs, Nat.reduceLT, K_ops, cav, K_nil, Then]
  (repeat' apply And.intro) <;> try (first | exact True.intro | omega)
  refine hK _ ?_
  clear hK K
  refine awp_keep [0, 4, 5, 6, 7] ?_
  simp only [keep_eqs, K_ops, Nat.reduceEqDiff, if_true, if_false]
  refine awp_seq_k fun K1 hK1 => ?_
  refine awp_seq ?_
  refine awp_region [] ?_
  simp only [qq, Int.cast_ofNat_Int, Nat.reduceAdd, K_eqs, afieldAddr, Tryz.underlying46, tszs, K_ops, reduceCtorEq, Nat.reduceEqDiff, ne_eq, hOl, Nat.reduceLeDiff, Nat.reduceLT, aload, apart, isAggD, Tryz.underlying3, K_nil, Then, hk]
  refine awp_block ?_
  refine awp_seq ?_
  refine awp_region [] ?_
  simp only [qq, K_eqs, K_ops, Nat.reduceEqDiff, reduceCtorEq, cav, K_binC, K_int, aint, Int.reduceBEq, Nat.reduceLT, K_nil, Then]
  refine awp_condF rfl ?_
  refine awp_seq ?_
  refine awp_region [] ?_
  simp only [qq, K_eqs, K_ops, Nat.reduceEqDiff, reduceCtorEq, cav, K_binC, K_int, aint, beq_self_eq_true, Nat.reduceLT, K_nil, Then]
  refine awp_condT rfl ?_
  refine awp_keep [0, 4, 5, 6, 7] ?_
  simp only [keep_eqs, K_ops, Nat.reduceEqDiff, if_true, if_false]
  refine awp_draw [1000044, 41, 43] (by kernel_rfl) (by kernel_rfl) ?_
  simp only [qq, K_eqs, Nat.reduceLT, K_ops, reduceCtorEq, anil, Nat.reduceEqDiff, afieldAddr, Tryz.underlying106, tszs, ne_eq, aload, List.contains_cons, Nat.reduceBEq, apart, isAggD, Tryz.underlying103, Tryz.underlying46, hOl, Nat.reduceLeDiff, aidxAddr, cav, Tryz.underlying42, Int.le_refl, Int.toNat_zero, Nat.zero_mul, beq_self_eq_true, Bool.false_or, Tryz.underlying23, Tryz.underlying30, K_call, Nat.reduceAdd, K_clo, aviews, aview, ntok, List.headD_cons, noref, List.tail_cons, List.length_drop, Nat.reduceSub, drop_getD, hun, Int.cast_ofNat_Int, Int.reduceLT, hdr, List.getD_cons_succ]
  refine andH_gen [1, 2] false [103, 3, 23, 30] ⟨by decide, by simp, by simp [refO, refs, ref, refP]⟩ (C := True ∧ True ∧ True ∧ True ∧ True) (as' := [.ptr 0 0, .val (.int .i64 1), .agg (Bs draw), .val (.int .u64 (un : Int))]) (by simp [gviews, gview, noref, refs_noref _ _ (norefs_Bs draw), rens_noref _ _ (norefs_Bs draw)]) ⟨trivial, trivial, trivial, trivial, trivial⟩ (by simp only [GHd, List.map_cons, List.map_nil, List.getD_cons_zero, List.getD_cons_succ, renO, rens, ren, renP]; exact cM) ⟨by simp, by simp [refO, refs, ref, refP, refs_noref _ _ hnY], by simp [refs, ref], fun h => by cases h⟩ ?_
  simp only [qq, ren, rens, GBack, setAll, Int.cast_ofNat_Int, renO, σn, Nat.reduceAdd, Nat.reduceLT, List.getD_cons_succ, Nat.reduceSub, rens_noref _ _ hnY, List.headD_cons, List.tail_cons, List.drop_nil, RestH_eqs, K_eqs, K_ops, Nat.reduceEqDiff, reduceCtorEq, aext, afieldAddr, Tryz.underlying40, tszs, ne_eq, K_store, astore, acells, spl, K_nil, List.all_cons, oneC, Value.oneCell', List.all_nil, Nat.reduceLeDiff]
  simp only [InBlock, Then]
  refine hK1 _ ?_
  clear hK1 K1
  refine awp_keep [0, 5, 6, 7] ?_
  simp only [keep_eqs, K_ops, Nat.reduceEqDiff, if_true, if_false]
  refine awp_seq_k fun K hK => awp_region [] ?_
  simp only [qq, Int.cast_ofNat_Int, Nat.reduceAdd, K_eqs, Nat.reduceLT, K_ops, reduceCtorEq, Nat.reduceEqDiff, K_call, K_clo, aviews, aview, noref]
  refine andC_eq trivial must_ok (by simp [noref, norefs]) ?_
  simp only [RestC_eqs, K_nil, Then]
  refine hK _ ?_
  clear hK K
  refine awp_keep [5, 6] ?_
  simp only [keep_eqs, K_ops, Nat.reduceEqDiff, if_true, if_false]
  refine awp_seq_k fun K hK => awp_region [] ?_
  simp only [qq, Int.cast_ofNat_Int, Nat.reduceAdd, K_eqs, aload, K_ops, Nat.reduceEqDiff, apart, isAggD, Tryz.underlying40, tszs, List.take_nil, Nat.reduceLT, K_store, astore, acells, spl, K_nil, Then, List.all_cons, oneC, Value.oneCell', List.all_nil, List.drop_nil]
  refine hK _ ?_
  clear hK K
  refine awp_keep [6] ?_
  simp only [keep_eqs, K_ops, Nat.reduceEqDiff, if_true, if_false]
  refine awp_ret ?_
  refine FinG_all (by simp) hrf ?_
  simp only [qq, andO, aresN, aresNs, aresN1, aload, K_ops, apart, isAggD, Tryz.underlying40, tszs, Nat.reduceAdd, List.take_nil, Int.cast_ofNat_Int, AN]

  exact ⟨rfl, rfl⟩

theorem plaintick_ok [Gv] (clock most last : Nat) (m : AObj) (hm : objOk m = true) (l : List OutV) (hc : clock < 18446744073709551616) (O : List AV) {key un ticks out : Nat} {draw text : List UInt8} {pub : Bool} (hO : OpF O 1 key un ticks out draw text pub) (ht : ticks < 18446744073709551616) :
    ACalls Tryz.prog GP 41 [.ptr 0 0, .agg O, .agg (AN 0 0 0 (-1))] (SV clock most last m l) (fun r os => os = SV (clock + min ticks (18446744073709551615 - clock)) most last m l ∧ r = .agg (AN 0 0 (clock + min ticks (18446744073709551615 - clock)) (-1))) := by
  obtain ⟨d, hd⟩ : ∃ d, d = min ticks (18446744073709551615 - clock) := ⟨_, rfl⟩
  rw [← hd]
  have hrf := refs_SV (clock + d) most last m hm l
  have hOl := hO.len
  have hOo := hO.ones
  have hk := hO.fkind
  have htk := hO.fticks
  have hOn := hO.nor
  have e1 : IntKind.u64.wrap (18446744073709551615 - (clock : Int)) = ((18446744073709551615 - clock : Nat) : Int) := by
    rw [show (18446744073709551615 : Int) - (clock : Int) = ((18446744073709551615 - clock : Nat) : Int) by omega, n_u64, Nat.mod_eq_of_lt (by omega)]
  have e2 : IntKind.u64.wrap ((clock : Int) + ((d : Nat) : Int)) = ((clock + d : Nat) : Int) := by
    rw [show (clock : Int) + ((d : Nat) : Int) = ((clock + d : Nat) : Int) by omega, n_u64, Nat.mod_eq_of_lt (by omega)]
  have e3 : (if ((18446744073709551615 - clock : Nat) : Int) < (ticks : Int) then ((18446744073709551615 - clock : Nat) : Int) else (ticks : Int)) = ((d : Nat) : Int) := by
    split <;> omega
  generalize hcl : clock + d = clock' at *
  show ACalls Tryz.prog GP 41 _ [.cells [.val (.int .u64 (clock : Int)), .ptr 1 0, .ptr 3 0], KO most last 2, m, SO l 4, .tok 3 l.length] _
  refine acallsG_of_awp Tryz.func41 rfl rfl Tryz.ntmps41 (rts := #[40]) rfl Tryz.results41 (by simp) ?_
  simp only [argSlots, Nat.reduceAdd]
  refine awp_seq_k fun K hK => awp_region [] ?_
  simp only [qq, AN, Int.cast_ofNat_Int, Nat.reduceAdd, K_eqs, aboxF, acells, K_ops, reduceCtorEq, Nat.reduceEqDiff, hOo, abox, Nat.reduceLT, List.all_cons, oneC, Value.oneCell', List.all_nil, aalloc, tzeros, cav, K_nil, Then]
  (repeat' apply And.intro) <;> try (first | exact True.intro | omega)
  refine hK _ ?_
  clear hK K
  refine awp_freeze 4 5 O rfl rfl (by omega) hOn ?_
  simp only [List.set_cons_succ, List.set_cons_zero]
  refine awp_keep [0, 4, 5, 6] ?_
  simp only [keep_eqs, K_ops, Nat.reduceEqDiff, if_true, if_false]
  refine awp_seq_k fun K hK => awp_region [] ?_
  simp only [qq, Nat.reduceAdd, K_eqs, Nat.reduceLT, K_ops, cav, K_nil, Then]
  (repeat' apply And.intro) <;> try (first | exact True.intro | omega)
  refine hK _ ?_
  clear hK K
  refine awp_keep [0, 4, 5, 6, 7] ?_
  simp only [keep_eqs, K_ops, Nat.reduceEqDiff, if_true, if_false]
  refine awp_seq_k fun K1 hK1 => ?_
  refine awp_seq ?_
  refine awp_region [] ?_
  simp only [qq, Nat.reduceAdd, K_eqs, afieldAddr, Tryz.underlying46, tszs, K_ops, reduceCtorEq, Nat.reduceEqDiff, ne_eq, hOl, Nat.reduceLeDiff, Nat.reduceLT, aload, apart, isAggD, Tryz.underlying3, K_nil, Then, hk, Int.cast_ofNat_Int]
  refine awp_block ?_
  refine awp_seq ?_
  refine awp_region [] ?_
  simp only [qq, K_eqs, K_ops, Nat.reduceEqDiff, reduceCtorEq, cav, K_binC, K_int, aint, beq_self_eq_true, Nat.reduceLT, K_nil, Then]
  refine awp_condT rfl ?_
  refine awp_keep [0, 4, 5, 6, 7] ?_
  simp only [keep_eqs, K_ops, Nat.reduceEqDiff, if_true, if_false]
  refine awp_seq ?_
  refine awp_draw [17] (by kernel_rfl) (by kernel_rfl) ?_
  simp only [qq, K_eqs, Nat.reduceLT, K_ops, reduceCtorEq, anil, Nat.reduceEqDiff, afieldAddr, Tryz.underlying106, tszs, ne_eq, aload, List.contains_cons, Nat.reduceBEq, apart, isAggD, Tryz.underlying30, Tryz.underlying46, hOl, Nat.reduceLeDiff, beq_self_eq_true, cav, K_binC, abuiltin, amin2, K_store, astore, acells, spl, K_nil, Then, Nat.reduceAdd, K_int, aint, e1, List.length_drop, Nat.reduceSub, drop_getD, htk, e3, e2, List.all_cons, oneC, Value.oneCell', List.all_nil]
  refine awp_keep [0, 5, 6, 7] ?_
  simp only [keep_eqs, K_ops, Nat.reduceEqDiff, if_true, if_false]
  refine awp_region [] ?_
  simp only [qq, K_eqs, Nat.reduceLT, K_ops, reduceCtorEq, anil, Nat.reduceEqDiff, afieldAddr, Tryz.underlying106, tszs, ne_eq, aload, apart, isAggD, Tryz.underlying30, Tryz.underlying40, K_store, astore, acells, spl, K_nil, Nat.reduceAdd, List.all_cons, oneC, Value.oneCell', List.all_nil, Nat.reduceLeDiff]
  simp only [InBlock, Then]
  refine hK1 _ ?_
  clear hK1 K1
  refine awp_keep [0, 5, 6, 7] ?_
  simp only [keep_eqs, K_ops, Nat.reduceEqDiff, if_true, if_false]
  refine awp_seq_k fun K hK => awp_region [] ?_
  simp only [qq, Nat.reduceAdd, K_eqs, Nat.reduceLT, K_ops, reduceCtorEq, Nat.reduceEqDiff, K_call, K_clo, aviews, aview, noref]
  refine andC_eq trivial must_ok (by simp [noref, norefs]) ?_
  simp only [RestC_eqs, K_nil, Then]
  refine hK _ ?_
  clear hK K
  refine awp_keep [5, 6] ?_
  simp only [keep_eqs, K_ops, Nat.reduceEqDiff, if_true, if_false]
  refine awp_seq_k fun K hK => awp_region [] ?_
  simp only [qq, Nat.reduceAdd, K_eqs, aload, K_ops, Nat.reduceEqDiff, apart, isAggD, Tryz.underlying40, tszs, List.take_nil, Nat.reduceLT, K_store, astore, acells, spl, K_nil, Then, List.all_cons, oneC, Value.oneCell', List.all_nil, List.drop_nil]
  refine hK _ ?_
  clear hK K
  refine awp_keep [6] ?_
  simp only [keep_eqs, K_ops, Nat.reduceEqDiff, if_true, if_false]
  refine awp_ret ?_
  refine FinG_all (by simp) hrf ?_
  simp only [qq, andO, aresN, aresNs, aresN1, aload, K_ops, apart, isAggD, Tryz.underlying40, tszs, Nat.reduceAdd, List.take_nil, AN, Int.cast_ofNat_Int]
  exact ⟨rfl, rfl⟩
theorem judge_ok [Gv] {C : List Nat → List UInt8 → List Nat} (hC : COk C) (clock most : Nat) (tag : List UInt8) (ht : tag.length = 32) (u : Nat) (l : List OutV) (t : TokV) (ts : List (List UInt8)) (hs : small t) (hpl : plainT t ts) (hb : t.bound = false) (hok : okT t = true) (hlen : (encB t).length ≤ 65536)
    (hkey : t.key = 1) (htag : goodTag C tag t) (RQ : List AV) (hRl : RQ.length = 20) (hRo : RQ.all oneC = true) (hRn : norefs RQ = true) (g : List UInt8 → Bool)
    (hG : ∀ s ∈ ts, ACalls Tryz.prog GP 75 [str s, .agg RQ, .val (.int .u64 (clock : Int))] [] (fun r os => os = [] ∧ r = .val (.bool (g s)))) :
    ACalls Tryz.prog GP 14 [.ptr 0 0, .sl (encB t).length (Bs (encB t)) .no, .agg RQ] (SV clock most 1 (KM tag u) l) (fun r os => os = SV clock most 1 (KM tag u) l ∧ r = .val (.int .i64 (if clock < u then if ts.all g then 0 else 7 else 4))) := by
  have cD := (bdecode_ok t ts hs hpl hok hb hlen).g (G := GP)
  have cF := kfind_ok most tag ht u clock
  have cV := verify_ok hC tag ht t ts .no rfl hs hpl hb hok htag RQ hRl hRo hRn clock g hG
  have hrf := refs_SV clock most 1 (KM tag u) (objOk_KM tag u) l
  have hnY := norefs_KY tag u
  have hlB := BA_length t .no hs.2.2.2.1
  have hoB := BA_oneC t .no
  have hnB := norefs_BA t .no rfl
  have g0 := BA_key t .no
  rw [hkey] at g0
  have hBt : (BA t .no).take 37 = BA t .no := List.take_of_length_le (by omega)
  have hBd : (BA t .no).drop 37 = [] := List.drop_eq_nil_of_le (by omega)
  have hz0 := zeroB_lit
  have hlz := BA_length zeroT .full (by simp [zeroT])
  have hzd7 : (BA zeroT .full).drop 37 = [] := rfl
  have hRt : RQ.take 20 = RQ := List.take_of_length_le (by omega)
  have hz : (Z 32).drop 32 = [] := List.drop_eq_nil_of_le (by rw [Z_length]; exact Nat.le_refl _)
  generalize BA zeroT .full = B0 at *
  generalize BA t .no = Bd at *
  generalize encB t = eB at *
  generalize (if ts.all g = true then 0 else 7 : Int) = ans at *
  obtain ⟨kt, kr, hkt, hkr, cF'⟩ : ∃ (kt : List UInt8) (kr : Int), kt.length = 32 ∧ (clock < u → kt = tag ∧ kr = 0) ∧ (¬ clock < u → kr = 4) ∧ ACalls Tryz.prog GP 44 [.ptr 0 0, .val (.int .i64 1), .val (.int .u64 1), .val (.int .u64 (clock : Int))] [KO most 1 1, KM tag u] (fun r os => os = [KO most 1 1, KM tag u] ∧ r = .tup [.agg (Bs kt), .val (.int .i64 kr)]) := by
    by_cases h : clock < u
    · rw [if_pos h] at cF; exact ⟨tag, 0, ht, fun _ => ⟨rfl, rfl⟩, fun h' => absurd h h', cF⟩
    · rw [if_neg h] at cF; exact ⟨Z 32, 4, Z_length 32, fun h' => absurd h' h, fun _ => rfl, cF⟩
  obtain ⟨hkr4, cF'⟩ := cF'
  clear cF
  have hbl : (Bs kt).length = 32 := by rw [Bs_length]; omega
  have htt : kt.take 32 = kt := List.take_of_length_le (by omega)
  have hbo : (Bs kt).all oneC = true := by
    rw [List.all_eq_true]
    intro x hx
    obtain ⟨z, _, rfl⟩ := List.mem_map.1 hx
    rfl
  show ACalls Tryz.prog GP 14 _ [.cells [.val (.int .u64 (clock : Int)), .ptr 1 0, .ptr 3 0], KO most 1 2, KM tag u, SO l 4, .tok 3 l.length] _
  simp only [KO, KM] at *
  refine acallsG_of_awp Tryz.func14 rfl rfl Tryz.ntmps14 (rts := #[38]) rfl Tryz.results14 (by simp) ?_
  simp only [argSlots, Nat.reduceAdd]
  refine awp_seq_k fun K hK => awp_region [] ?_
  simp only [qq, Int.cast_ofNat_Int, Nat.reduceAdd, K_eqs, aboxF, acells, K_ops, reduceCtorEq, Nat.reduceEqDiff, hRo, abox, Nat.reduceLT, cav, K_nil, Then]
  (repeat' apply And.intro) <;> try (first | exact True.intro | omega)
  refine hK _ ?_
  clear hK K
  refine awp_keep [0, 1, 5] ?_
  simp only [keep_eqs, K_ops, Nat.reduceEqDiff, if_true, if_false]
  refine awp_seq_k fun K hK => awp_region [] ?_
  simp only [qq, Int.cast_ofNat_Int, Nat.reduceAdd, K_eqs, Nat.reduceLT, K_ops, reduceCtorEq, Nat.reduceEqDiff, K_call, K_clo, aviews, aview, norefs_Bs, ntok]
  refine andC_eq (by simp [norefs_Bs]) cD (by simp [noref, norefs, hnB]) ?_
  simp only [qq, RestC_eqs, K_eqs, Nat.reduceLT, K_ops, Nat.reduceEqDiff, reduceCtorEq, aext, aalloc, tzeros, Nat.reduceAdd, cav, K_store, astore, tszs, acells, spl, K_nil, Then, hoB, hlB, List.drop_nil]
  refine hK _ ?_
  clear hK K
  refine awp_keep [0, 5, 7, 8] ?_
  simp only [keep_eqs, K_ops, Nat.reduceEqDiff, if_true, if_false]
  refine awp_seq_k fun K1 hK1 => ?_
  refine awp_seq_k fun K hK => awp_region [] ?_
  simp only [qq, Int.cast_ofNat_Int, Nat.reduceAdd, K_eqs, Nat.reduceLT, K_ops, reduceCtorEq, Nat.reduceEqDiff, K_nil, Then]
  (repeat' apply And.intro) <;> try (first | exact True.intro | omega)
  refine hK _ ?_
  clear hK K
  refine awp_block ?_
  refine awp_seq ?_
  refine awp_region [] ?_
  simp only [qq, Int.cast_ofNat_Int, Nat.reduceAdd, K_eqs, K_ops, reduceCtorEq, Nat.reduceEqDiff, cav, K_binC, K_int, aint, beq_self_eq_true, Nat.reduceLT, K_nil, Then]
  refine awp_condT rfl ?_
  refine awp_skip ?_
  simp only [InBlock, Then]
  refine hK1 _ ?_
  clear hK1 K1
  refine awp_keep [0, 5, 7] ?_
  simp only [keep_eqs, K_ops, Nat.reduceEqDiff, if_true, if_false]
  refine awp_seq_k fun K hK => ?_
  refine awp_draw [2000033] (by kernel_rfl) (by kernel_rfl) ?_
  simp only [qq, Int.cast_ofNat_Int, Nat.reduceAdd, K_eqs, Nat.reduceLT, K_ops, reduceCtorEq, anil, Nat.reduceEqDiff, afieldAddr, Tryz.underlying106, tszs, ne_eq, aload, List.contains_cons, Nat.reduceBEq, apart, isAggD, Tryz.underlying103, Tryz.underlying70, Tryz.underlying67, Tryz.underlying30, K_call, cav, K_clo, beq_self_eq_true, aviews, aview, ntok, List.headD_cons, noref, List.tail_cons, hlB, g0, List.getD_cons_succ]
  refine andH_gen [1, 2] false [103, 3, 30, 30] ⟨by decide, by simp, by simp [refO, refs, ref, refP, refs_noref _ _ hnY]⟩ rfl (by simp [noref]) (by simp only [GHd, List.map_cons, List.map_nil, List.getD_cons_zero, List.getD_cons_succ, renO, rens, ren, renP, rens_noref _ _ hnY]; exact cF') ⟨by simp, by simp [refO, refs, ref, refP, refs_noref _ _ hnY], by simp [refs, ref, refs_noref _ _ (norefs_Bs kt)], fun h => by cases h⟩ ?_
  simp only [qq, ren, rens, rens_noref _ _ (norefs_Bs kt), GBack, setAll, Int.cast_ofNat_Int, renO, σn, Nat.reduceAdd, Nat.reduceLT, List.getD_cons_succ, Nat.reduceSub, rens_noref _ _ hnY, List.headD_cons, List.tail_cons, List.drop_nil, RestK_eqs, K_eqs, K_ops, Nat.reduceEqDiff, reduceCtorEq, aext, aalloc, tzeros, zvs_u8, K_store, astore, tszs, acells, spl, K_nil, Then, Bs_length, Z_length, Bs_drop, hbo, hbl, hz, Bs_nil]
  refine hK _ ?_
  clear hK K
  refine awp_keep [0, 5, 7, 9, 10] ?_
  simp only [keep_eqs, K_ops, Nat.reduceEqDiff, if_true, if_false]
  refine awp_seq_k fun K1 hK1 => ?_
  refine awp_seq_k fun K hK => awp_region [] ?_
  simp only [qq, Int.cast_ofNat_Int, Nat.reduceAdd, K_eqs, Nat.reduceLT, K_ops, reduceCtorEq, Nat.reduceEqDiff, cav, K_binC, K_int, aint, K_nil, Then]
  (repeat' apply And.intro) <;> try (first | exact True.intro | omega)
  refine hK _ ?_
  clear hK K
  by_cases hlive : clock < u
  · obtain ⟨rfl, rfl⟩ := hkr hlive
    refine awp_condF rfl (awp_skip (hK1 _ ?_))
    clear hK1 K1
    refine awp_keep [0, 5, 7, 9] ?_
    simp only [keep_eqs, K_ops, Nat.reduceEqDiff, if_true, if_false]
    refine awp_seq_k fun K hK => ?_
    refine awp_draw [] (by kernel_rfl) (by kernel_rfl) ?_
    simp only [qq, Int.cast_ofNat_Int, Nat.reduceAdd, K_eqs, aload, K_ops, reduceCtorEq, Nat.reduceEqDiff, apart, isAggD, Tryz.underlying23, tszs, hbl, Bs_take, htt, Nat.reduceLT, Tryz.underlying70, hlB, hBt, Tryz.underlying29, hRl, hRt, anil, afieldAddr, Tryz.underlying106, ne_eq, Tryz.underlying30, K_call, K_clo, aviews, aview, ntok, List.headD_cons, List.tail_cons, noref, norefs_Bs]
    refine andC_eq (by simp [norefs, noref, norefs_Bs, hnB, hRn]) cV rfl ?_
    simp only [qq, RestC_eqs, K_eqs, Nat.reduceLT, K_ops, Nat.reduceEqDiff, reduceCtorEq, K_nil, Then]
    refine hK _ ?_
    clear hK K
    refine awp_keep [6] ?_
    simp only [keep_eqs, K_ops, Nat.reduceEqDiff, if_true, if_false]
    refine awp_ret ?_
    refine FinG_all (by simp) hrf ?_
    simp only [qq, andO, aresN, aresNs, aresN1, K_ops, Int.cast_ofNat_Int, Nat.reduceAdd]
    refine ⟨rfl, rfl, ?_⟩
    rw [if_pos hlive]
  · have h4 := hkr4 hlive
    subst h4
    refine awp_condT rfl ?_
    refine awp_keep [10] ?_
    simp only [keep_eqs, K_ops, Nat.reduceEqDiff, if_true, if_false]
    refine awp_seq_k fun K hK => awp_region [] ?_
    simp only [qq, Int.cast_ofNat_Int, Nat.reduceAdd, K_eqs, Nat.reduceLT, K_ops, Nat.reduceEqDiff, K_nil, Then]
    refine hK _ ?_
    clear hK K
    refine awp_keep [6] ?_
    simp only [keep_eqs, K_ops, Nat.reduceEqDiff, if_true, if_false]
    refine awp_ret ?_
    simp only [InBlock, Then]
    refine FinG_all (by simp) hrf ?_
    simp only [qq, andO, aresN, aresNs, aresN1, K_ops, Int.cast_ofNat_Int, Nat.reduceAdd]
    refine ⟨rfl, rfl, ?_⟩
    rw [if_neg hlive]
theorem neq20 {w : World} (d : TypeId) (v : Value) : Sem.run Tryz.prog (binOp .neq 20 .nilIface .nilIface) w = .ok (.bool false) w ∧ Sem.run Tryz.prog (binOp .neq 20 (.iface d v) .nilIface) w = .ok (.bool true) w := by
  have h := run_equal_iface (P := Tryz.prog) (w := w) (t := 20) Tryz.underlying20 d v
  constructor
  · simp [binOp, h.2]
  · simp [binOp, h.1]

theorem idle37 : Idle Tryz.prog 37 := by
  refine ⟨⟨_, Tryz.func37, rfl, rfl⟩, fun cap w _ => ?_⟩
  refine callsD_of_wpS Tryz.func37 rfl fun c₀ cs hm => ?_
  have hrec : recoverD (c₀ :: cs) = none := by simp [recoverD, hm]
  have hn : Tryz.f37.ntmps = 20 := Tryz.ntmps37
  rw [hn]
  have hc : ({ c₀ with mode := .returning } : Frame) = c₀ := by rw [← hm]
  refine wpS_seq (wpS_region ?_)
  simp [wpOpsS, Region.wanted, execOp, resolve, Deferred.ofValue, invoke, builtin, hrec, Act.put, Act.eval, List.range, List.range.loop, Oper.upon, Exit.thenS]
  refine wpS_seq (wpS_region ?_)
  simp [wpOpsS, Region.wanted, execOp, Act.put, Act.eval, List.range, List.range.loop, Oper.upon, Exit.thenS, (neq20 0 .nilIface).1]
  refine wpS_cond (t := false) (by simp [Act.eval]) ?_
  refine wpS_of_wp (wp_skip ?_)
  refine ⟨rfl, .returning, by rw [hc], .tuple #[], ?_, ⟨_, rfl⟩, rfl, rfl⟩
  simp [results_eq, rvSem]
end Go.Proofs.YtefdnmeopbkflaaGreatDoor
