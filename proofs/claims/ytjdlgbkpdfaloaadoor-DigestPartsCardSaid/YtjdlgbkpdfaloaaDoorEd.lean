/- The walk of the sum of parts. -/
import Derived.Test.YtjdlgbkpdfaloaaDoorEc
namespace Go.Proofs.YtjdlgbkpdfaloaaDoor
open Go Go.V
set_option linter.unusedSimpArgs false
set_option linter.unusedVariables false

/-- Parts, as a row. -/
def PS (l : List (List UInt8)) : List AV := l.map fun b => .sl b.length (Bs b) .no
theorem PS_length (l : List (List UInt8)) : (PS l).length = l.length := List.length_map _
theorem PS_getD (l : List (List UInt8)) (i : Nat) (h : i < l.length) : (PS l).getD i .top = .sl (l.getD i []).length (Bs (l.getD i [])) .no := by
  simp [PS, List.getD_eq_getElem?_getD, List.getElem?_map, List.getElem?_eq_getElem h]
theorem norefs_PS (l : List (List UInt8)) : norefs (PS l) = true := by
  induction l with
  | nil => rfl
  | cons b l ih => rw [show PS (b :: l) = .sl b.length (Bs b) .no :: PS l from rfl]; simp [norefs, noref, norefs_Bs, ih]
theorem PS_oneC (l : List (List UInt8)) : (PS l).all oneC = true := by
  rw [List.all_eq_true]
  intro x hx
  obtain ⟨z, _, rfl⟩ := List.mem_map.1 hx
  rfl
theorem PS_append (a b : List (List UInt8)) : PS (a ++ b) = PS a ++ PS b := List.map_append
theorem PS_one (b : List UInt8) : PS [b] = [.sl b.length (Bs b) .no] := rfl

def start0 : DS := ⟨start8, List.replicate 64 0, 0⟩
theorem start0_ok : DOk start0 := ⟨⟨_, _, _, _, _, _, _, _, rfl, by omega, by omega, by omega, by omega, by omega, by omega, by omega, by omega⟩, rfl⟩
/-- The sum of bytes. -/
def shaB (C : List Nat → List UInt8 → List Nat) (l : List UInt8) : List UInt8 := sumB C (runs C start0 l)

theorem take_flat (l : List (List UInt8)) (i : Nat) (h : i < l.length) : (l.take (i + 1)).flatten = (l.take i).flatten ++ l.getD i [] := by
  rw [List.take_add_one, List.getElem?_eq_getElem h, List.flatten_append, List.getD_eq_getElem?_getD, List.getElem?_eq_getElem h]
  simp
theorem take_flat_le (l : List (List UInt8)) (i : Nat) : (l.take i).flatten.length ≤ l.flatten.length := by
  conv => rhs; rw [← List.take_append_drop i l, List.flatten_append, List.length_append]
  omega

theorem of_dok {C : List Nat → List UInt8 → List Nat} (hC : COk C) (l : List (List UInt8)) (p : Perm) (hl : l.flatten.length ≤ 900000000) (hl2 : l.length ≤ 900000000) :
    ACalls Tryd.prog GP 36 [.sl l.length (PS l) p] [] (fun v os => os = [] ∧ v = .agg (Bs (shaB C l.flatten))) := by
  have cN := new_ok.g (G := GP)
  rw [show DC start8 (List.replicate 64 0) 0 = DC start0.h start0.rest start0.many from rfl] at cN
  have hn0 := DC_norefs start0.h start0.rest start0.many
  obtain ⟨z, hz, hzl⟩ : ∃ z : List UInt8, (zvs .u8 32).map cav = Bs z ∧ z.length = 32 := ⟨List.replicate 32 0, by simp [zvs, Bs, B, cav], by simp⟩
  have hpl := PS_length l
  refine acalls_of_awp Tryd.func36 rfl rfl Tryd.ntmps36 (rts := #[47]) rfl Tryd.results36 (by simp) ?_
  simp only [argSlots, Nat.reduceAdd]
  refine awp_seq_k fun K hK => awp_region [] ?_
  simp only [K_eqs, aalloc, tzeros, List.length_nil, hz, List.nil_append, Nat.reduceLT, K_nil, Then, true_and, K_ops]
  (repeat' apply And.intro) <;> try (first | exact True.intro | omega)
  refine hK _ ?_
  clear hK K
  refine awp_seq_k fun K hK => awp_region [1000006] ?_
  simp only [K_call, Nat.reduceLT, Nat.reduceAdd, List.contains_cons, beq_self_eq_true, List.contains_nil, Bool.or_false, K_ops, List.map_nil, Nat.reduceBEq, Bool.false_eq_true, if_false, aviews, if_true, true_and]
  refine andH_ptr (by simp [hviews]) cN (by simpa [objOk] using hn0) ?_
  simp only [List.length_cons, List.length_nil, Nat.zero_add, List.cons_append, List.nil_append, RestH_eqs, K_eqs, Nat.reduceLT, K_ops, Nat.reduceEqDiff, reduceCtorEq, if_false, if_true, K_nil, Then, true_and]
  refine hK _ ?_
  clear hK K
  refine awp_keep [0, 2, 3] ?_
  simp only [keep_eqs, K_ops, Nat.reduceEqDiff, if_true, if_false]
  refine awp_seq_k fun K1 hK1 => ?_
  refine awp_seq_k fun K hK => awp_region [] ?_
  simp only [K_eqs, Nat.reduceLT, K_ops, reduceCtorEq, if_false, if_true, abuiltin, List.map_cons, Nat.reduceEqDiff, List.map_nil, alen, Tryd.underlying45, cav, K_nil, Then, true_and]
  (repeat' apply And.intro) <;> try (first | exact True.intro | omega)
  refine hK _ ?_
  clear hK K
  refine awp_keep [2, 3, 7, 8, 9] ?_
  simp only [keep_eqs, K_ops, Nat.reduceEqDiff, if_true, if_false]
  refine awp_block ?_
  refine awp_loop_from (fun i : Nat => ⟨19, [(2, .ptr 0 0), (3, .ptr 1 0), (7, .sl l.length (PS l) p), (8, .val (.int .i64 (l.length : Int))), (9, .val (.int .i64 (i : Int)))], [.cells (Bs z), .cells (DC (runs C start0 (l.take i).flatten).h (runs C start0 (l.take i).flatten).rest (runs C start0 (l.take i).flatten).many)]⟩)
    (fun i => i ≤ l.length) (fun i => l.length - i) 0 (by omega) (.of_keep [2, 3, 7, 8, 9] rfl) ?_
  intro i hi
  refine awp_seq_k fun K hK => awp_region [] ?_
  simp only [K_eqs, K_ops, Nat.reduceEqDiff, if_true, if_false, K_int, aint, d_ltn, Nat.reduceLT, K_nil, Then, true_and]
  (repeat' apply And.intro) <;> try (first | exact True.intro | omega)
  refine hK _ ?_
  clear hK K
  refine awp_seq ?_
  refine awp_cond rfl rfl (fun h => ?_) (fun h => ?_)
  · have hlt : i < l.length := of_decide_eq_true h
    refine awp_skip ?_
    simp only [Then]
    refine awp_keep [2, 3, 7, 8, 9] ?_
    simp only [keep_eqs, K_ops, Nat.reduceEqDiff, if_true, if_false]
    have hget := PS_getD l i hlt
    have hfl := take_flat l i hlt
    have hle := take_flat_le l i
    have hle1 := take_flat_le l (i + 1)
    have hrm := runs_many C start0 (l.take i).flatten
    have hflen : ((l.take (i + 1)).flatten).length = ((l.take i).flatten).length + (l.getD i []).length := by rw [hfl, List.length_append]
    have cW := write_ok hC (runs C start0 (l.take i).flatten) (runs_ok hC.1 start0_ok _) (l.getD i []) .no (by rw [hrm, show start0.many = 0 from rfl]; omega)
    rw [← runs_append, ← hfl] at cW
    have hn1 := DC_norefs (runs C start0 (l.take i).flatten).h (runs C start0 (l.take i).flatten).rest (runs C start0 (l.take i).flatten).many
    have hn2 := DC_norefs (runs C start0 (l.take (i + 1)).flatten).h (runs C start0 (l.take (i + 1)).flatten).rest (runs C start0 (l.take (i + 1)).flatten).many
    generalize l.getD i [] = b at cW hget hflen
    generalize DC (runs C start0 (l.take i).flatten).h (runs C start0 (l.take i).flatten).rest (runs C start0 (l.take i).flatten).many = D1 at *
    generalize hD2 : DC (runs C start0 (l.take (i + 1)).flatten).h (runs C start0 (l.take (i + 1)).flatten).rest (runs C start0 (l.take (i + 1)).flatten).many = D2 at *
    refine awp_seq ?_
    refine awp_block ?_
    refine awp_seq_k fun K hK => awp_region [] ?_
    simp only [K_eqs, aidxAddr, K_ops, Nat.reduceEqDiff, if_true, if_false, Tryd.underlying45, tszs, hpl, Nat.mul_one, Nat.reduceLT, and_true, true_and, Int.toNat_natCast, aload, List.contains_nil, Bool.false_eq_true, apart, isAggD, Tryd.underlying27, K_nil, Then, List.length_drop, drop_getD, Nat.add_zero, hget]
    refine ⟨by omega, by omega, hK _ ?_⟩
    clear hK K
    refine awp_keep [2, 3, 5, 7, 8, 9] ?_
    simp only [keep_eqs, K_ops, Nat.reduceEqDiff, if_true, if_false]
    refine awp_region [1000015] ?_
    simp only [K_eqs, Nat.reduceLT, K_ops, Nat.reduceEqDiff, if_false, if_true, K_call, Nat.reduceAdd, List.contains_cons, beq_self_eq_true, List.contains_nil, Bool.or_false, List.map_cons, List.map_nil, Nat.reduceBEq, Bool.false_eq_true, aviews, aview, norefs_Bs, ntok, and_true, true_and]
    refine andH_one (v' := .tup []) 1 (.cells D1) rfl (by simpa [objOk] using hn1) (by simp [hviews, hview, norefs_Bs, ntok]) cW (by simp [objOk, hn2]) (by simp [hres, noref, norefs]) ?_
    simp only [List.set_cons_succ, List.set_cons_zero, List.append_nil, RestH_eqs, K_nil]
    subst hD2
    simp only [InBlock, Then]
    refine awp_keep [2, 3, 7, 8, 9] ?_
    simp only [keep_eqs, K_ops, Nat.reduceEqDiff, if_true, if_false]
    have h6 : IntKind.i64.wrap ((i + 1 : Nat) : Int) = ((i + 1 : Nat) : Int) := n_i64 (by omega)
    refine awp_region [] ?_
    simp only [K_eqs, K_ops, Nat.reduceEqDiff, if_true, if_false, cav, K_int, aint, n_add, h6, Nat.reduceLT, K_nil, Then, true_and]
    refine ⟨i + 1, by omega, by omega, .of_keep [2, 3, 7, 8, 9] rfl⟩
  · have he : i = l.length := by have := of_decide_eq_false h; omega
    subst he
    refine awp_exit ?_
    simp only [Then, InBlock, if_true]
    refine hK1 _ ?_
    clear hK1 K1
    rw [List.take_length]
    have hrm := runs_many C start0 l.flatten
    have cS := sum_dok hC (runs C start0 l.flatten) (runs_ok hC.1 start0_ok _) (by rw [hrm, show start0.many = 0 from rfl]; omega)
    have hn1 := DC_norefs (runs C start0 l.flatten).h (runs C start0 l.flatten).rest (runs C start0 l.flatten).many
    have hsl : (sumB C (runs C start0 l.flatten)).length = 32 := sumB_length hC _ (runs_ok hC.1 start0_ok _)
    show awp _ _ _ _ (V.Fin _ _ _ fun v os => os = [] ∧ v = .agg (Bs (sumB C (runs C start0 l.flatten))))
    generalize DC (runs C start0 l.flatten).h (runs C start0 l.flatten).rest (runs C start0 l.flatten).many = D1 at *
    generalize sumB C (runs C start0 l.flatten) = S at *
    refine awp_keep [2, 3] ?_
    simp only [keep_eqs, K_ops, Nat.reduceEqDiff, if_true, if_false]
    have zd : z.drop 32 = [] := List.drop_eq_nil_of_le (by omega)
    refine awp_seq_k fun K hK => awp_region [1000018] ?_
    simp only [K_eqs, Nat.reduceLT, K_ops, Nat.reduceEqDiff, if_true, if_false, K_call, Nat.reduceAdd, List.contains_cons, beq_self_eq_true, List.contains_nil, Bool.or_false, List.map_cons, List.map_nil, Nat.reduceBEq, Bool.false_eq_true, aviews, aview, true_and]
    refine andH_one (v' := .agg (Bs S)) 1 (.cells D1) rfl (by simpa [objOk] using hn1) (by simp [hviews, hview]) cS (by simp [objOk, hn1]) (by simp [hres, noref, norefs_Bs]) ?_
    simp only [List.set_cons_succ, List.set_cons_zero, List.append_nil, RestH_eqs, K_store, astore, K_ops, Nat.reduceEqDiff, if_false, if_true, List.getElem?_cons_zero, tszs, acells, Bs_one, Bs_length, hsl, Nat.zero_add, hzl, Nat.le_refl, Nat.reduceLT, and_true, spl, List.take_zero, List.nil_append, Bs_drop, zd, Bs_nil, K_nil, Then, true_and]
    refine hK _ ?_
    clear hK K
    refine awp_keep [2] ?_
    simp only [keep_eqs, K_ops, Nat.reduceEqDiff, if_true, if_false]
    have ht32 : S.take 32 = S := List.take_of_length_le (by omega)
    refine awp_ret ?_
    simp only [K_fin, ares, aress, ares1, aload, K_ops, if_true, List.getElem?_cons_zero, apart, isAggD, Tryd.underlying47, tszs, Nat.zero_add, Bs_length, hsl, Nat.le_refl, List.drop_zero, Bs_take, ht32, afin, noref, norefs_Bs, and_true, true_and]
end Go.Proofs.YtjdlgbkpdfaloaaDoor
