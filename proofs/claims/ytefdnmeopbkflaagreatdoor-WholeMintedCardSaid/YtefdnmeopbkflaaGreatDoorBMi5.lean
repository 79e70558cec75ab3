/-
  Texts of one proof, merged: Kg, Sh, Na, Nb, Nc, Nd, Ne, Nf, Ng, Nh, Ni, Nj, Nk, Nl, Hc, Ha, Hd.
-/
import Derived.Test.YtefdnmeopbkflaaGreatDoorBMi4
import Derived.Shelf.Strings.Builder1
import Derived.Shelf.Strings.Builder2
import Derived.Shelf.Strings.OnBuilder
import Derived.Shelf.Small.Utf8
import Derived.Shelf.Small.Strs
import Derived.Shelf.Small.Wraps
import Derived.Shelf.Utf8.RuneCount
import Derived.Shelf.Strconv.Atoi
import Derived.Shelf.Strconv.Itoa0
import Derived.Shelf.Strconv.Itoa1
import Derived.Shelf.LaysM
import Derived.Shelf.Strconv.Itoa2
import Derived.Shelf.Strconv.Itoa3
import Derived.Shelf.Strconv.AtoiErrFast
import Derived.Shelf.Strconv.ParseIntEmpty
import Derived.Shelf.Strconv.AtoiFail
import Derived.Shelf.Strconv.Clone
import Derived.Shelf.Strconv.SyntaxError
import Derived.Shelf.LaysC
import Derived.Shelf.Strconv.ToError
import Derived.Shelf.Strconv.Lower
import Derived.Shelf.Strconv.ParseUint10
import Derived.Shelf.Strconv.ParseUint10Empty
import Derived.Shelf.Strconv.ParseUint10Any
import Derived.Shelf.Strconv.ParseInt10
import Derived.Shelf.Strconv.AtoiLong
import Derived.Shelf.Strconv.AtoiInnerAll
import Derived.Shelf.Strconv.RangeError
import Derived.Shelf.Strconv.ToErrorRange
import Derived.Shelf.Strconv.AtoiAll
import Derived.Shelf.Strconv.ErrVarAll
import Derived.Ground.MpProg
import Derived.Shelf.Pu.ParseUintPublic10
import Derived.Shelf.Pu.ErrVarParseUint
import Derived.Shelf.Strings.Search1
import Derived.Shelf.Strings.Search2
import Derived.Shelf.Strings.Search3
import Derived.Shelf.Strings.Cut
import Derived.Shelf.Strings.Count
import Derived.Shelf.Strings.Shaped
import Derived.Shelf.GgClosure.StringsIndexFunc
import Derived.Ground.GgwProg
import Derived.Shelf.GgClosure.StringsIndexFuncTop
import Derived.Shelf.GgClosure.StringsRunes
import Derived.Shelf.Strings.Prefix
import Derived.Shelf.Strings.Split
import Derived.Shelf.Strings.SplitShaped
import Derived.Shelf.Unicode.Decode
import Derived.Shelf.Strings.Runes
import Derived.Shelf.Strings.RuneCount
import Derived.Shelf.Strings.Explode
import Derived.Shelf.Unicode.DecodeSlow
import Derived.Shelf.Unicode.DecodeAny
import Derived.Shelf.Strings.FuncGrows
import Derived.Shelf.Slices.Turned
import Derived.Shelf.Slices.Equal
import Derived.Shelf.Slices.Empties2
import Derived.Test.YtefdnmeopbkflaaGreatDoorProg
import Derived.ProofKit
import Derived.WideShapes
import Derived.Test.YtefdnmeopbkflaaGreatDoorRows
import Derived.Lib.LaidTab
import Derived.LaidLaws
import Derived.ShapedOpen
import Derived.Deep.DeepWitnessRowRef
import Derived.Deep.DeepHandedRow
import Derived.Lib.LaidIn
set_option linter.unusedSimpArgs false
set_option linter.unusedVariables false
namespace Go.Proofs.YtefdnmeopbkflaaGreatDoor
open Go Go.V
set_option linter.unusedSimpArgs false
set_option linter.unusedVariables false
set_option maxRecDepth 20000

theorem _root_.Go.V.ACalls.defer [Gv] {P : Program} {G : Gl} {f : FuncId} {args : List AV} {outs : List AObj} {Q : AV → List AObj → Prop} (h : ACalls P G f args outs Q) (ds : List Deferred) : ACalls P ⟨G.tab, ds⟩ f args outs Q :=
  ⟨h.1, fun E vs h1 h2 h3 => h.2 E vs h1 h2 h3⟩

theorem FinR_ret [Gv] {P : Program} {G : Gl} {g : FuncId} {cap : AV} {ts : List TypeId} {rvs : List ResultVar} {n0 : Nat} {Q : AV → List AObj → Prop} {st : St} (h : FinG P ts rvs n0 Q .ret st) : FinR P G g cap ts rvs n0 Q .ret st := h
theorem FinR_panic [Gv] {P : Program} {G : Gl} {g : FuncId} {cap : AV} {ts : List TypeId} {rvs : List ResultVar} {n0 : Nat} {Q : AV → List AObj → Prop} {st : St} {v : Value} (objs' : List AObj) (h : ARec P G g cap st.objs v objs') (h' : FinG P ts rvs n0 Q .ret ⟨st.nt, st.slots, objs'⟩) :
    FinR P G g cap ts rvs n0 Q (.panic (Pn v)) st := ⟨v, objs', rfl, h, h'⟩

theorem doplain_ok [Gv] (clock most last : Nat) (m : AObj) (hm : objOk m = true) (l : List OutV) (clock' last' : Nat) (m' : AObj) (hm' : objOk m' = true) (l' : List OutV) (O : List AV) {kind key un ticks out : Nat} {draw text : List UInt8} {pub : Bool} (hO : OpF O kind key un ticks out draw text pub)
    (hkind : kind < 7) {e r n : Nat} {no : Int} (cP : ACalls Tryz.prog GP 41 [.ptr 0 0, .agg O, .agg (AN 0 0 0 (-1))] (SV clock most last m l) (fun r' os => os = SV clock' most last' m' l' ∧ r' = .agg (AN e r n no))) :
    ACalls Tryz.prog GP 11 [.ptr 0 0, .agg O] (SV clock most last m l) (fun r' os => os = SV clock' most last' m' l' ∧ r' = .agg (AN e r n no)) := by
  have hrf0 := refs_SV clock most last m hm l
  have hrf := refs_SV clock' most last' m' hm' l'
  have hOl := hO.len
  have hOo := hO.ones
  have hOt : O.take 129 = O := List.take_of_length_le (by omega)
  have hk := hO.fkind
  have hOn := hO.nor
  have d7 : (kind == 7) = false := beq_eq_false_iff_ne.2 (by omega)
  have d8 : (kind == 8) = false := beq_eq_false_iff_ne.2 (by omega)
  have d9 : (kind == 9) = false := beq_eq_false_iff_ne.2 (by omega)
  have d10 : (kind == 10) = false := beq_eq_false_iff_ne.2 (by omega)
  have d11 : (kind == 11) = false := beq_eq_false_iff_ne.2 (by omega)
  show ACalls Tryz.prog GP 11 _ [.cells [.val (.int .u64 (clock : Int)), .ptr 1 0, .ptr 3 0], KO most last 2, m, SO l 4, .tok 3 l.length] _
  refine acallsG_of_awp_recover Tryz.func11 rfl rfl Tryz.ntmps11 (rts := #[40]) rfl Tryz.results11 (by simp) idle37 rfl ?_
  simp only [argSlots, Nat.reduceAdd]
  refine awp_region [] ?_
  simp only [qq, Nat.reduceAdd, K_eqs, aboxF, acells, K_ops, reduceCtorEq, hOo, abox, Nat.reduceLT, aalloc, tzeros, cav, K_nil, Nat.reduceEqDiff]
  refine ⟨6, 0, rfl, fun d => ?_⟩
  refine awp_freeze 3 5 O rfl rfl (by omega) hOn ?_
  simp only [List.set_cons_succ, List.set_cons_zero]
  refine awp_keep [0, 3, 4] ?_
  simp only [keep_eqs, K_ops, Nat.reduceEqDiff, if_true, if_false]
  refine awp_seq_k fun K1 hK1 => ?_
  refine awp_seq ?_
  refine awp_region [] ?_
  simp only [qq, K_eqs, afieldAddr, Tryz.underlying46, tszs, K_ops, reduceCtorEq, Nat.reduceEqDiff, ne_eq, hOl, Nat.reduceLeDiff, Nat.reduceLT, aload, apart, isAggD, Tryz.underlying3, K_nil, Then, hk]
  refine awp_block ?_
  refine awp_seq_k fun K2 hK2 => ?_
  refine awp_seq ?_
  refine awp_region [] ?_
  simp only [qq, K_eqs, K_ops, Nat.reduceEqDiff, reduceCtorEq, cav, K_binC, K_int, aint, d_eq, d7, Nat.reduceLT, K_nil, Then]
  refine awp_condF rfl ?_
  refine awp_seq ?_
  refine awp_region [] ?_
  simp only [qq, K_eqs, K_ops, Nat.reduceEqDiff, reduceCtorEq, cav, K_binC, K_int, aint, d_eq, d8, Nat.reduceLT, K_nil, Then]
  refine awp_condF rfl ?_
  refine awp_region [] ?_
  simp only [qq, K_eqs, K_ops, Nat.reduceEqDiff, reduceCtorEq, cav, K_binC, K_int, aint, d_eq, d9, Nat.reduceLT, K_nil, Then]
  refine hK2 _ ?_
  clear hK2 K2
  refine awp_condF rfl ?_
  refine awp_seq ?_
  refine awp_region [] ?_
  simp only [qq, K_eqs, K_ops, Nat.reduceEqDiff, reduceCtorEq, cav, K_binC, K_int, aint, d_eq, d10, Nat.reduceLT, K_nil, Then]
  refine awp_condF rfl ?_
  refine awp_seq ?_
  refine awp_region [] ?_
  simp only [qq, K_eqs, K_ops, Nat.reduceEqDiff, reduceCtorEq, cav, K_binC, K_int, aint, d_eq, d11, Nat.reduceLT, K_nil, Then]
  refine awp_condF rfl (awp_skip ?_)
  simp only [InBlock, Then]
  refine hK1 _ ?_
  clear hK1 K1
  refine awp_keep [0, 3, 4] ?_
  simp only [keep_eqs, K_ops, Nat.reduceEqDiff, if_true, if_false]
  refine awp_seq_k fun K hK => awp_region [] ?_
  simp only [qq, K_eqs, afieldAddr, Tryz.underlying40, tszs, K_ops, reduceCtorEq, Nat.reduceEqDiff, ne_eq, Nat.reduceLT, K_store, astore, acells, cav, List.all_cons, oneC, Value.oneCell', List.all_nil, spl, K_nil, Then, Nat.reduceAdd, List.drop_nil]
  refine hK _ ?_
  clear hK K
  refine awp_keep [0, 3, 4] ?_
  simp only [keep_eqs, K_ops, Nat.reduceEqDiff, if_true, if_false]
  refine awp_seq_k fun K hK => awp_region [1000029] ?_
  simp only [qq, K_eqs, Nat.reduceLT, K_ops, reduceCtorEq, aload, Nat.reduceEqDiff, apart, isAggD, Tryz.underlying46, tszs, hOl, hOt, List.contains_cons, Nat.reduceBEq, Tryz.underlying40, Nat.reduceAdd, List.take_nil, K_call, beq_self_eq_true, K_clo, aviews, aview, ntok, List.tail_cons, List.headD_cons]
  have hvw : ∀ rest, gviews Tryz.prog (SV clock most last m l ++ rest) (List.range (SV clock most last m l).length) [35, 46, 40] [.ptr 0 0, .agg O, .agg (AN 0 0 0 (-1))] = some (True ∧ True ∧ True ∧ True, false, [.ptr 0 0, .agg O, .agg (AN 0 0 0 (-1))]) := fun rest => by
    simp only [gviews, gview, refs_noref _ _ hOn, rens_noref _ _ hOn]
    rfl
  refine andH_range (objs := SV clock most last m l) [35, 46, 40] (hrf0) (hvw _) ⟨trivial, trivial, trivial, trivial⟩ (cP.defer [d]) rfl (hrf) rfl ?_
  simp only [qq, SV, AN, RestH_eqs, K_store, astore, K_ops, Nat.reduceEqDiff, reduceCtorEq, tszs, acells, List.all_cons, oneC, Value.oneCell', List.all_nil, Nat.reduceAdd, Nat.reduceLT, spl, List.drop_nil, K_nil, Then]
  refine hK _ ?_
  clear hK K
  refine awp_keep [4] ?_
  simp only [keep_eqs, K_ops, Nat.reduceEqDiff, if_true, if_false]
  refine awp_ret ?_
  refine FinR_ret (FinG_all (by simp) hrf ?_)
  simp only [qq, andO, aresN, aresNs, aresN1, aload, K_ops, apart, isAggD, Tryz.underlying40, tszs, Nat.reduceAdd, List.take_nil, AN]
  exact ⟨rfl, rfl⟩

theorem doroot_ok [Gv] (clock most last : Nat) (m : AObj) (hm : objOk m = true) (l : List OutV) (clock' last' : Nat) (m' : AObj) (hm' : objOk m' = true) (l' : List OutV) (O : List AV) {kind key un ticks out : Nat} {draw text : List UInt8} {pub : Bool} (hO : OpF O kind key un ticks out draw text pub)
    (hkind : kind = 7 ∨ kind = 8) {e r n : Nat} {no : Int} (cP : ACalls Tryz.prog GP 38 [.ptr 0 0, .agg O] (SV clock most last m l) (fun r' os => os = SV clock' most last' m' l' ∧ r' = .agg (AN e r n no))) :
    ACalls Tryz.prog GP 11 [.ptr 0 0, .agg O] (SV clock most last m l) (fun r' os => os = SV clock' most last' m' l' ∧ r' = .agg (AN e r n no)) := by
  have hrf0 := refs_SV clock most last m hm l
  have hrf := refs_SV clock' most last' m' hm' l'
  have hOl := hO.len
  have hOo := hO.ones
  have hOt : O.take 129 = O := List.take_of_length_le (by omega)
  have hk := hO.fkind
  have hOn := hO.nor
  show ACalls Tryz.prog GP 11 _ [.cells [.val (.int .u64 (clock : Int)), .ptr 1 0, .ptr 3 0], KO most last 2, m, SO l 4, .tok 3 l.length] _
  refine acallsG_of_awp_recover Tryz.func11 rfl rfl Tryz.ntmps11 (rts := #[40]) rfl Tryz.results11 (by simp) idle37 rfl ?_
  simp only [argSlots, Nat.reduceAdd]
  refine awp_region [] ?_
  simp only [qq, Nat.reduceAdd, K_eqs, aboxF, acells, K_ops, reduceCtorEq, hOo, abox, Nat.reduceLT, aalloc, tzeros, cav, K_nil, Nat.reduceEqDiff]
  refine ⟨6, 0, rfl, fun d => ?_⟩
  refine awp_freeze 3 5 O rfl rfl (by omega) hOn ?_
  simp only [List.set_cons_succ, List.set_cons_zero]
  refine awp_keep [0, 3, 4] ?_
  simp only [keep_eqs, K_ops, Nat.reduceEqDiff, if_true, if_false]
  refine awp_seq_k fun K1 hK1 => ?_
  refine awp_seq ?_
  refine awp_region [] ?_
  simp only [qq, K_eqs, afieldAddr, Tryz.underlying46, tszs, K_ops, reduceCtorEq, Nat.reduceEqDiff, ne_eq, hOl, Nat.reduceLeDiff, Nat.reduceLT, aload, apart, isAggD, Tryz.underlying3, K_nil, Then, hk]
  refine awp_block ?_
  refine awp_seq_k fun K2 hK2 => ?_
  refine awp_seq ?_
  refine awp_region [] ?_
  simp only [qq, K_eqs, K_ops, Nat.reduceEqDiff, reduceCtorEq, cav, K_binC, K_int, aint, d_eq, Nat.reduceLT, K_nil, Then]
  have goon : ∀ s, lk s.slots 8 = .val (.bool true) → keep [0, 3, 4] s.slots = [(0, .ptr 0 0), (3, .cptr O), (4, .ptr 6 0)] → s.nt = 30 → s.objs = [.cells [.val (.int .u64 (clock : Int)), .ptr 1 0, .ptr 3 0], KO most last 2, m, SO l 4, .tok 3 l.length, .dead, .cells [.val (.int .i64 0), .val (.int .i64 0), .val (.int .u64 0), .val (.int .i64 0)]] → K2 s := by
    rintro ⟨nt, sl, os⟩ h8 hkp hnt hos
    simp only at h8 hkp hnt hos
    subst hnt hos
    refine hK2 _ ?_
    refine awp_condT h8 ?_
    refine awp_keep [0, 3, 4] ?_
    rw [hkp]
    refine awp_seq_k fun K hK => awp_region [1000014] ?_
    simp only [qq, K_eqs, Nat.reduceLT, K_ops, reduceCtorEq, aload, Nat.reduceEqDiff, apart, isAggD, Tryz.underlying46, tszs, hOl, hOt, K_call, Nat.reduceAdd, List.contains_cons, beq_self_eq_true, K_clo, Nat.reduceBEq, aviews, aview, ntok, List.tail_cons, List.headD_cons]
    have hvw : ∀ rest, gviews Tryz.prog (SV clock most last m l ++ rest) (List.range (SV clock most last m l).length) [35, 46] [.ptr 0 0, .agg O] = some (True ∧ True ∧ True, false, [.ptr 0 0, .agg O]) := fun rest => by
      simp only [gviews, gview, refs_noref _ _ hOn, rens_noref _ _ hOn]
      rfl
    refine andH_range (objs := SV clock most last m l) [35, 46] (hrf0) (hvw _) ⟨trivial, trivial, trivial⟩ (cP.defer [d]) rfl (hrf) rfl ?_
    simp only [qq, SV, AN, RestH_eqs, K_store, astore, K_ops, Nat.reduceEqDiff, reduceCtorEq, tszs, acells, List.all_cons, oneC, Value.oneCell', List.all_nil, Nat.reduceAdd, Nat.reduceLT, spl, List.drop_nil, K_nil, Then]
    refine hK _ ?_
    clear hK K
    refine awp_keep [4] ?_
    simp only [keep_eqs, K_ops, Nat.reduceEqDiff, if_true, if_false]
    refine awp_ret ?_
    simp only [InBlock, Then]
    refine FinR_ret (FinG_all (by simp) hrf ?_)
    simp only [qq, andO, aresN, aresNs, aresN1, aload, K_ops, apart, isAggD, Tryz.underlying40, tszs, Nat.reduceAdd, List.take_nil, AN]
    exact ⟨rfl, rfl⟩
  clear hK2
  rcases hkind with rfl | rfl
  · refine awp_condT rfl (awp_skip ?_)
    exact goon _ rfl rfl rfl rfl
  · refine awp_condF rfl ?_
    refine awp_seq ?_
    refine awp_region [] ?_
    simp only [qq, Nat.reduceBEq, Int.cast_ofNat_Int, K_eqs, K_ops, Nat.reduceEqDiff, reduceCtorEq, cav, K_binC, K_int, aint, beq_self_eq_true, Nat.reduceLT, K_nil, Then]
    refine awp_condT rfl (awp_skip ?_)
    exact goon _ rfl rfl rfl rfl

end Go.Proofs.YtefdnmeopbkflaaGreatDoor
namespace Go.Proofs
open Go.Shelf
open Go.RowKit in
open Go.RowKit in
open Go.RowKit in
open Go.RowKit in
open Go.RowKit in
def Tryz.lays156_ren : Go.Shelf.Ren := ⟨fun | 156 => 173 | 165 => 222 | 166 => 223 | 169 => 224 | 240 => 264 | 241 => 265 | 276 => 285 | 277 => 286 | n => n, fun | 31 => 43 | 9 => 9 | 3 => 3 | 4 => 4 | 0 => 0 | 20 => 20 | 72 => 299 | 76 => 215 | 70 => 297 | 37 => 54 | 75 => 206 | 127 => 334 | 164 => 352 | 5 => 5 | 80 => 301 | n => n, fun | n => n⟩
theorem Tryz.lays156 : Go.Proofs.Lays.n156 Tryz.prog Tryz.lays156_ren := {
  mixed := by kernel_rfl
  f156 := Tryz.func173.trans (congrArg some (by kernel_rfl))
  f165 := Tryz.func222.trans (congrArg some (by kernel_rfl))
  f166 := Tryz.func223.trans (congrArg some (by kernel_rfl))
  f169 := Tryz.func224.trans (congrArg some (by kernel_rfl))
  f240 := Tryz.func264.trans (congrArg some (by kernel_rfl))
  f241 := Tryz.func265.trans (congrArg some (by kernel_rfl))
  f276 := Tryz.func285.trans (congrArg some (by kernel_rfl))
  f277 := Tryz.func286.trans (congrArg some (by kernel_rfl))
  t0 := Tryz.underlying0
  a0 := Tryz.isAgg0
  z0 := Tryz.sizeOf0
  v0 := Tryz.zeroValue0
  t3 := Tryz.underlying3
  a3 := Tryz.isAgg3
  z3 := Tryz.sizeOf3
  v3 := Tryz.zeroValue3
  t4 := Tryz.underlying4
  a4 := Tryz.isAgg4
  z4 := Tryz.sizeOf4
  v4 := Tryz.zeroValue4
  t9 := Tryz.underlying9
  a9 := Tryz.isAgg9
  z9 := Tryz.sizeOf9
  v9 := Tryz.zeroValue9
  t20 := Tryz.underlying20
  a20 := Tryz.isAgg20
  z20 := Tryz.sizeOf20
  v20 := Tryz.zeroValue20
  t31 := Tryz.underlying43
  a31 := Tryz.isAgg43
  z31 := Tryz.sizeOf43
  v31 := Tryz.zeroValue43
  t37 := Tryz.underlying54
  a37 := Tryz.isAgg54
  z37 := Tryz.sizeOf54
  v37 := Tryz.zeroValue54
  t70 := Tryz.underlying297
  a70 := Tryz.isAgg297
  z70 := Tryz.sizeOf297
  v70 := Tryz.zeroValue297
  t72 := Tryz.underlying299
  a72 := Tryz.isAgg299
  z72 := Tryz.sizeOf299
  v72 := Tryz.zeroValue299
  t75 := Tryz.underlying206
  a75 := Tryz.isAgg206
  z75 := Tryz.sizeOf206
  v75 := Tryz.zeroValue206
  t76 := Tryz.underlying215
  a76 := Tryz.isAgg215
  z76 := Tryz.sizeOf215
  v76 := Tryz.zeroValue215
  t127 := Tryz.underlying334
  a127 := Tryz.isAgg334
  z127 := Tryz.sizeOf334
  v127 := Tryz.zeroValue334
  t164 := Tryz.underlying352
  a164 := Tryz.isAgg352
  z164 := Tryz.sizeOf352
  v164 := Tryz.zeroValue352 }
theorem Tryz.Builder_Extra_156 : Builder.Extra Tryz.prog Tryz.lays156_ren := {
  sizeBuilder := by kernel_rfl
  liesBuilder := by kernel_rfl
  t5 := Tryz.underlying5
  a5 := Tryz.isAgg5
  z5 := Tryz.sizeOf5
  v5 := Tryz.zeroValue5
  infoByte := by kernel_rfl
  cellsByte := by kernel_rfl
  sizeByte := by kernel_rfl
  neB5 := by decide }
open Go.RowKit in
theorem Tryz.strings_Join_none (a : Option Addr) (c : Nat) (sep : ByteArray) (w : World) :
    Calls Tryz.prog 173 #[.slice a 0 c, .string sep] w fun e w' => e = .returned (.string ⟨#[]⟩) ∧ w' = w := Any.strings_Join_none Tryz.lays156 Tryz.Builder_Extra_156 a c sep w
open Go.RowKit in
theorem Tryz.strings_Join (bk o c : Nat) (xs : List ByteArray) (sep : ByteArray) (w : World) (hcells : ∀ (j : Nat) x, xs[j]? = some x → w.cell? ⟨bk, o + j, none⟩ = some (.string x)) (hbk : bk < w.heap.size) (hN : xs.length ≤ 140737488355328) (hcap : xs.length ≤ c) (hlen : (Lib.join (xs.map (·.data.toList)) sep.data.toList).length ≤ 140737488355328) :
    Calls Tryz.prog 173 #[.slice (some ⟨bk, o, none⟩) xs.length c, .string sep] w fun e w' => e = .returned (.string ⟨(Lib.join (xs.map (·.data.toList)) sep.data.toList).toArray⟩) ∧ Below w.heap.size w w' := Any.strings_Join Tryz.lays156 Tryz.Builder_Extra_156 bk o c xs sep w hcells hbk hN hcap hlen
open Go.RowKit in
open Go.RowKit in
open Go.RowKit in
open Go.RowKit in
open Go.RowKit in
open Go.RowKit in
open Go.Lib in
open Go.Lib in
open Go.Lib in
open Go.Lib in
open Go.RowKit Go.Sort Go.Lib in
open Go.RowKit Go.Sort Go.Lib in
open Go.RowKit Go.Sort Go.Lib in
open Go.RowKit Go.Sort Go.Lib in
open Go.RowKit Go.Sort Go.Lib in
open Go.RowKit Go.Sort Go.Lib in
open Go.RowKit Go.Sort Go.Lib in
open Go.RowKit in
open Go.RowKit in
open Go.RowKit in
open Go.RowKit in
open Go.RowKit in
open Go.RowKit in
open Go.RowKit in
open Go.RowKit in
open Go.RowKit in
open Go.RowKit in
open Go.RowKit in
open Go.RowKit in
open Go.RowKit in
open Go.RowKit in
open Go.RowKit in
open Go.RowKit in
open Go.RowKit in
open Go.RowKit in
open Go.RowKit in
open Go.RowKit in
open Go.RowKit in
open Go.RowKit in
open Go.RowKit in
open Go.RowKit in
open Go.RowKit in
open Go.RowKit in
open Go.RowKit in
open Go.RowKit in
open Go.RowKit in
open Go.RowKit in
open Go.RowKit in
open Go.RowKit in
open Go.RowKit in
open Go.RowKit in
open Go.RowKit Go.Lib in
open Go.RowKit Go.Lib in
open Go.RowKit Go.Lib in
open Go.RowKit Go.Lib in
open Go.RowKit Go.Lib in
open Go.RowKit Go.Lib in
open Go.RowKit Go.Lib in
open Go.RowKit Go.Lib in
open Go.RowKit Go.Lib in
open Go.RowKit Go.Lib in
open Go.RowKit Go.Lib in
open Go.RowKit Go.Lib in
open Go.RowKit Go.Lib in
def Tryz.laysGw17_ren : Go.Shelf.Ren := ⟨fun | 17 => 115 | 15 => 181 | 20 => 235 | n => n, fun | 9 => 9 | 23 => 203 | 4 => 4 | 3 => 3 | 0 => 0 | 21 => 21 | n => n, fun | n => n⟩
theorem Tryz.laysGw17 : Go.Proofs.LaysGw.n17 Tryz.prog Tryz.laysGw17_ren := {
  mixed := by kernel_rfl
  f15 := Tryz.func181.trans (congrArg some (by kernel_rfl))
  f17 := Tryz.func115.trans (congrArg some (by kernel_rfl))
  f20 := Tryz.func235.trans (congrArg some (by kernel_rfl))
  t0 := Tryz.underlying0
  a0 := Tryz.isAgg0
  z0 := Tryz.sizeOf0
  v0 := Tryz.zeroValue0
  i0 := by kernel_rfl
  t3 := Tryz.underlying3
  a3 := Tryz.isAgg3
  z3 := Tryz.sizeOf3
  v3 := Tryz.zeroValue3
  i3 := by kernel_rfl
  t4 := Tryz.underlying4
  a4 := Tryz.isAgg4
  z4 := Tryz.sizeOf4
  v4 := Tryz.zeroValue4
  i4 := by kernel_rfl
  t9 := Tryz.underlying9
  a9 := Tryz.isAgg9
  z9 := Tryz.sizeOf9
  v9 := Tryz.zeroValue9
  i9 := by kernel_rfl
  t21 := Tryz.underlying21
  a21 := Tryz.isAgg21
  z21 := Tryz.sizeOf21
  v21 := Tryz.zeroValue21
  i21 := by kernel_rfl
  t23 := Tryz.underlying203
  a23 := Tryz.isAgg203
  z23 := Tryz.sizeOf203
  v23 := Tryz.zeroValue203
  i23 := by kernel_rfl }
open Go.RowKit Go.Lib in
open Go.RowKit Go.Lib in
def Tryz.lays146_ren : Go.Shelf.Ren := ⟨fun | 146 => 114 | 221 => 180 | 268 => 232 | 138 => 233 | 143 => 234 | 195 => 269 | 197 => 270 | 218 => 271 | 219 => 245 | 260 => 287 | 217 => 276 | 225 => 277 | 224 => 278 | 267 => 279 | 266 => 289 | 314 => 290 | n => n, fun | 9 => 9 | 31 => 43 | 3 => 3 | 4 => 4 | 0 => 0 | 105 => 338 | 21 => 21 | 5 => 5 | 46 => 160 | 119 => 366 | 139 => 369 | 138 => 368 | 146 => 359 | 51 => 279 | n => n, fun | 1 => 5 | 3 => 7 | 4 => 8 | n => n⟩
theorem Tryz.lays146 : Go.Proofs.Lays.n146 Tryz.prog Tryz.lays146_ren := {
  mixed := by kernel_rfl
  f138 := Tryz.func233.trans (congrArg some (by kernel_rfl))
  f143 := Tryz.func234.trans (congrArg some (by kernel_rfl))
  f146 := Tryz.func114.trans (congrArg some (by kernel_rfl))
  f195 := Tryz.func269.trans (congrArg some (by kernel_rfl))
  f197 := Tryz.func270.trans (congrArg some (by kernel_rfl))
  f217 := Tryz.func276.trans (congrArg some (by kernel_rfl))
  f218 := Tryz.func271.trans (congrArg some (by kernel_rfl))
  f219 := Tryz.func245.trans (congrArg some (by kernel_rfl))
  f221 := Tryz.func180.trans (congrArg some (by kernel_rfl))
  f224 := Tryz.func278.trans (congrArg some (by kernel_rfl))
  f225 := Tryz.func277.trans (congrArg some (by kernel_rfl))
  f260 := Tryz.func287.trans (congrArg some (by kernel_rfl))
  f266 := Tryz.func289.trans (congrArg some (by kernel_rfl))
  f267 := Tryz.func279.trans (congrArg some (by kernel_rfl))
  f268 := Tryz.func232.trans (congrArg some (by kernel_rfl))
  f314 := Tryz.func290.trans (congrArg some (by kernel_rfl))
  t0 := Tryz.underlying0
  a0 := Tryz.isAgg0
  z0 := Tryz.sizeOf0
  v0 := Tryz.zeroValue0
  t3 := Tryz.underlying3
  a3 := Tryz.isAgg3
  z3 := Tryz.sizeOf3
  v3 := Tryz.zeroValue3
  t4 := Tryz.underlying4
  a4 := Tryz.isAgg4
  z4 := Tryz.sizeOf4
  v4 := Tryz.zeroValue4
  t5 := Tryz.underlying5
  a5 := Tryz.isAgg5
  z5 := Tryz.sizeOf5
  v5 := Tryz.zeroValue5
  t9 := Tryz.underlying9
  a9 := Tryz.isAgg9
  z9 := Tryz.sizeOf9
  v9 := Tryz.zeroValue9
  t21 := Tryz.underlying21
  a21 := Tryz.isAgg21
  z21 := Tryz.sizeOf21
  v21 := Tryz.zeroValue21
  t31 := Tryz.underlying43
  a31 := Tryz.isAgg43
  z31 := Tryz.sizeOf43
  v31 := Tryz.zeroValue43
  t46 := Tryz.underlying160
  a46 := Tryz.isAgg160
  z46 := Tryz.sizeOf160
  v46 := Tryz.zeroValue160
  t51 := Tryz.underlying279
  a51 := Tryz.isAgg279
  z51 := Tryz.sizeOf279
  v51 := Tryz.zeroValue279
  t105 := Tryz.underlying338
  a105 := Tryz.isAgg338
  z105 := Tryz.sizeOf338
  v105 := Tryz.zeroValue338
  t119 := Tryz.underlying366
  a119 := Tryz.isAgg366
  z119 := Tryz.sizeOf366
  t138 := Tryz.underlying368
  a138 := Tryz.isAgg368
  z138 := Tryz.sizeOf368
  v138 := Tryz.zeroValue368
  t139 := Tryz.underlying369
  a139 := Tryz.isAgg369
  z139 := Tryz.sizeOf369
  v139 := Tryz.zeroValue369
  t146 := Tryz.underlying359
  a146 := Tryz.isAgg359
  z146 := Tryz.sizeOf359
  v146 := Tryz.zeroValue359
  g1 := by kernel_rfl
  g3 := by kernel_rfl
  g4 := by kernel_rfl }
open Go.RowKit Go.Lib in
theorem Tryz.strings_Split (s sep : ByteArray) (m : Int) (w : World) (hs : s.size < 4294967281) (hm : w.cell? ⟨5, 0, none⟩ = some (.int .i64 m)) (h1 : 1 ≤ sep.size) :
    Calls Tryz.prog 114 #[.string s, .string sep] w fun e w' =>
      e = .returned (.slice (some ⟨w.heap.size, 0, none⟩) (Lib.countB s sep + 1) (Lib.countB s sep + 1)) ∧ w' = w.alloc (.cells ((Lib.splitB sep 0 (Lib.countB s sep) s).map Value.string).toArray 9) := Any.strings_Split Tryz.lays146 (by kernel_rfl) s sep m w hs hm h1
open Go.RowKit Go.Lib in
open Go.RowKit Go.Lib in
open Go.RowKit Go.Lib in
open Go.RowKit Go.Lib in
open Go.RowKit Go.Lib in
open Go.RowKit Go.Lib in
theorem Tryz.strings_ContainsFunc_grows (g : Nat) (lb : Array Value) (eg : ∀ args w, (callFunc g args).run Tryz.prog w = .ok (.enter g args) w) (p : Nat → Bool) (s : ByteArray) (w : World) (hp : PredGrows Tryz.prog g lb p w) :
    Calls Tryz.prog 115 #[.string s, .func (.func g) #[] lb] w fun e w' => e = .returned (.bool (decide (0 ≤ Lib.idxFunc p true s))) ∧ Below w.heap.size w w' := Any.strings_ContainsFunc_grows Tryz.laysGw17 g lb eg p s w hp
open Go.Lib in
open Go.Lib in
def Tryz.lays110_ren : Go.Shelf.Ren := ⟨fun | 110 => 117 | 109 => 182 | n => n, fun | 31 => 43 | 9 => 9 | 4 => 4 | 3 => 3 | 0 => 0 | n => n, fun | n => n⟩
theorem Tryz.lays110 : Go.Proofs.Lays.n110 Tryz.prog Tryz.lays110_ren := {
  mixed := by kernel_rfl
  f109 := Tryz.func182.trans (congrArg some (by kernel_rfl))
  f110 := Tryz.func117.trans (congrArg some (by kernel_rfl))
  t0 := Tryz.underlying0
  a0 := Tryz.isAgg0
  z0 := Tryz.sizeOf0
  v0 := Tryz.zeroValue0
  t3 := Tryz.underlying3
  a3 := Tryz.isAgg3
  z3 := Tryz.sizeOf3
  v3 := Tryz.zeroValue3
  t4 := Tryz.underlying4
  a4 := Tryz.isAgg4
  z4 := Tryz.sizeOf4
  v4 := Tryz.zeroValue4
  t9 := Tryz.underlying9
  a9 := Tryz.isAgg9
  z9 := Tryz.sizeOf9
  v9 := Tryz.zeroValue9
  t31 := Tryz.underlying43
  a31 := Tryz.isAgg43
  z31 := Tryz.sizeOf43
  v31 := Tryz.zeroValue43 }
open Go.Lib in
theorem Tryz.slices_Contains_string (b off n c : Nat) (zs : List ByteArray) (x : ByteArray) (w : World) (hz : n ≤ zs.length) (hbig : n ≤ 9223372036854775807) (hc : ∀ j, j < zs.length → w.cell? ⟨b, off + j, none⟩ = some (.string (zs.getD j ByteArray.empty))) :
    Calls Tryz.prog 117 #[.slice (some ⟨b, off, none⟩) n c, .string x] w fun e w' => e = .returned (.bool (Lib.containsS (zs.take n) x)) ∧ w' = w := Any.slices_Contains_string Tryz.lays110 b off n c zs x w hz hbig hc
open Go.Lib in
theorem Tryz.slices_Contains_string_empty (a : Option Addr) (c : Nat) (x : ByteArray) (w : World) :
    Calls Tryz.prog 117 #[.slice a 0 c, .string x] w fun e w' => e = .returned (.bool false) ∧ w' = w := Any.slices_Contains_string_empty Tryz.lays110 a c x w
def Tryz.lays193_ren : Go.Shelf.Ren := ⟨fun | 193 => 112 | n => n, fun | 31 => 43 | 9 => 9 | 4 => 4 | 3 => 3 | 0 => 0 | n => n, fun | n => n⟩
theorem Tryz.lays193 : Go.Proofs.Lays.n193 Tryz.prog Tryz.lays193_ren := {
  mixed := by kernel_rfl
  f193 := Tryz.func112.trans (congrArg some (by kernel_rfl))
  t0 := Tryz.underlying0
  a0 := Tryz.isAgg0
  z0 := Tryz.sizeOf0
  v0 := Tryz.zeroValue0
  t3 := Tryz.underlying3
  a3 := Tryz.isAgg3
  z3 := Tryz.sizeOf3
  v3 := Tryz.zeroValue3
  t4 := Tryz.underlying4
  a4 := Tryz.isAgg4
  z4 := Tryz.sizeOf4
  v4 := Tryz.zeroValue4
  t9 := Tryz.underlying9
  a9 := Tryz.isAgg9
  z9 := Tryz.sizeOf9
  v9 := Tryz.zeroValue9
  t31 := Tryz.underlying43
  a31 := Tryz.isAgg43
  z31 := Tryz.sizeOf43
  v31 := Tryz.zeroValue43 }
open Go.RowKit Go.Lib in
theorem Tryz.slices_Equal_string (b1 o1 n c b2 o2 m d : Nat) (xs ys : List ByteArray) (w : World) (hx : n ≤ xs.length) (hy : m ≤ ys.length) (hbig : n ≤ 9223372036854775807) (hbig2 : m ≤ 9223372036854775807) (hc1 : ∀ j, j < xs.length → w.cell? ⟨b1, o1 + j, none⟩ = some (.string (xs.getD j ByteArray.empty))) (hc2 : ∀ j, j < ys.length → w.cell? ⟨b2, o2 + j, none⟩ = some (.string (ys.getD j ByteArray.empty))) :
    Calls Tryz.prog 112 #[.slice (some ⟨b1, o1, none⟩) n c, .slice (some ⟨b2, o2, none⟩) m d] w fun e w' => e = .returned (.bool (decide (xs.take n = ys.take m))) ∧ ∃ q, w' = w.drewN q := Any.slices_Equal_string Tryz.lays193 b1 o1 n c b2 o2 m d xs ys w hx hy hbig hbig2 hc1 hc2
open Go.RowKit Go.Lib in
theorem Tryz.slices_Equal_string_empty (a1 a2 : Option Addr) (c m d : Nat) (w : World) (hbig2 : m ≤ 9223372036854775807) :
    Calls Tryz.prog 112 #[.slice a1 0 c, .slice a2 m d] w fun e w' => e = .returned (.bool (decide (m = 0))) ∧ w' = w := Any.slices_Equal_string_empty Tryz.lays193 a1 a2 c m d w hbig2
open Go.RowKit Go.Lib in
theorem Tryz.slices_Equal_string_lens (a1 a2 : Option Addr) (n c m d : Nat) (w : World) (hnm : n ≠ m) :
    Calls Tryz.prog 112 #[.slice a1 n c, .slice a2 m d] w fun e w' => e = .returned (.bool false) ∧ w' = w := Any.slices_Equal_string_lens Tryz.lays193 a1 a2 n c m d w hnm
end Go.Proofs
namespace Go.Proofs.YtefdnmeopbkflaaGreatDoor
open Go Go.V
open Go.RowKit (Below)
set_option linter.unusedSimpArgs false
set_option linter.unusedVariables false
set_option maxRecDepth 20000

def strs (l : List (List UInt8)) : List AV := l.map str
theorem strs_length [Gv] (l : List (List UInt8)) : (strs l).length = l.length := by simp [strs]
theorem norefs_strs [Gv] (l : List (List UInt8)) : norefs (strs l) = true := by
  induction l with
  | nil => rfl
  | cons c l ih => simp only [strs, List.map_cons, norefs] at ih ⊢; rw [ih]; rfl
theorem strs_getD [Gv] {l : List (List UInt8)} {i : Nat} (h : i < l.length) : (strs l).getD i .top = str (l.getD i []) := by
  simp [strs, List.getD_eq_getElem?_getD, List.getElem?_map, List.getElem?_eq_getElem h]
theorem rep_strs [Gv] (E : Env) (l : List (List UInt8)) : RepL E (strs l) (l.map fun s => Value.string ⟨s.toArray⟩) := by
  induction l with
  | nil => simp [strs, RepL]
  | cons c l ih => simp only [strs, List.map_cons, RepL] at ih ⊢; exact ⟨_, _, rfl, by simp only [str, RepV], ih⟩
theorem most_cell [Gv] {E : Env} (hG : GOk E GP) : E.w.cell? ⟨5, 0, none⟩ = some (.int .i64 Gv.most) := by
  obtain ⟨_, _, h, _⟩ := hG 5 [.val (.int .i64 Gv.most)] (by simp [GP])
  simp only [RepAt] at h
  obtain ⟨⟨v, h1, h2⟩, _⟩ := h
  simp only [RepV] at h2
  rw [h1, h2]

theorem split_ok [Gv] (s : List UInt8) (c : UInt8) (hs : s.length < 4294967281) : ACalls Tryz.prog GP 114 [str s, str [c]] [] (fun r os => os = [] ∧ r = .sl (splitC c s).length (strs (splitC c s)) .full) := by
  refine acalls_rep ⟨_, Tryz.func114, rfl, rfl⟩ fun E vs hl hG => ?_
  simp only [RepL, RepV, str] at hl
  obtain ⟨_, _, rfl, rfl, _, _, rfl, rfl, rfl⟩ := hl
  have hsz : (⟨s.toArray⟩ : ByteArray).size = s.length := by simp [ByteArray.size]
  refine (Tryz.strings_Split ⟨s.toArray⟩ ⟨#[c]⟩ Gv.most E.w (by rw [hsz]; exact hs) (most_cell hG) (Nat.le_refl 1)).mono ?_
  rintro e w' ⟨rfl, rfl⟩
  have hlen : Lib.countB ⟨s.toArray⟩ ⟨#[c]⟩ + 1 = (splitC c s).length := by
    have h1 := Lib.splitB_all ⟨#[c]⟩ (Nat.le_refl 1) 0 _ ⟨s.toArray⟩ rfl
    rw [← splitB_eq, List.length_map, h1]
  have hb : Below E.w.heap.size E.w (E.w.alloc (.cells ((Lib.splitB ⟨#[c]⟩ 0 (Lib.countB ⟨s.toArray⟩ ⟨#[c]⟩) ⟨s.toArray⟩).map Value.string).toArray 9)) := (Below.refl _ _).alloc (Nat.le_refl _) _
  refine ⟨_, fun _ => (strs (splitC c s)).length, rfl, hb, ?_⟩
  rw [hlen]
  have hmap : (Lib.splitB ⟨#[c]⟩ 0 (Lib.countB ⟨s.toArray⟩ ⟨#[c]⟩) ⟨s.toArray⟩).map Value.string = (splitC c s).map fun s => Value.string ⟨s.toArray⟩ := by
    rw [← splitB_eq, List.map_map]
    rfl
  refine rep_row hb (Pushed.alloc E.w _).new (fun E' _ => ?_) (.inr trivial)
  rw [hmap]
  exact rep_strs E' _

theorem cfunc_ok [Gv] (g : FuncId) (p : Nat → Bool) (hp : ∀ r, 128 ≤ r → p r = true) (hg : ∀ r : Nat, r ≤ 1114111 → ACalls Tryz.prog GP g [.val (.int .i32 (r : Int))] [] (fun x os => os = [] ∧ x = .val (.bool (p r)))) (s : List UInt8) :
    ACalls Tryz.prog GP 115 [str s, .val (.func (.func g) #[] #[])] [] (fun x os => os = [] ∧ x = .val (.bool (s.any fun b => p b.toNat))) := by
  refine acalls_val ⟨_, Tryz.func115, rfl, rfl⟩ fun E vs hl hG => ?_
  simp only [RepL, RepV, str] at hl
  obtain ⟨_, _, rfl, rfl, _, _, rfl, rfl, rfl⟩ := hl
  obtain ⟨fn, hfn, hb, hn⟩ := (hg 0 (by omega)).1
  rw [← idx_any p hp s]
  refine Tryz.strings_ContainsFunc_grows g #[] (fun args w => callFunc_run hfn hb hn args w) p ⟨s.toArray⟩ E.w fun W x hx hbl => ?_
  have hc := (hg x hx).calls W [.int .i32 (x : Int)] (fun E' _ => by simp only [RepL, RepV]; exact ⟨_, _, rfl, rfl, rfl⟩) ⟨{ w := W, lim := E.lim, k := 0, ρ := E.ρ }, rfl, rfl, ?_⟩
  · exact hc
  · intro g' cells hm
    obtain ⟨h1, h2, h3, h4⟩ := hG g' cells hm
    refine ⟨Nat.lt_of_lt_of_le h1 hbl.size, h2, RepAt.of_cell fun i c hc => ?_, h4⟩
    obtain ⟨v, hv, hr⟩ := h3.cell i c hc
    obtain ⟨u, rfl⟩ := h4 c (List.mem_of_getElem? hc)
    exact ⟨v, by rw [← hv]; exact hbl.cell (p := ⟨g', 0 + i, none⟩) h1, by simpa only [RepV] using hr⟩

theorem contains_ok [Gv] (l : List (List UInt8)) (x : List UInt8) (p : Perm) (hl : l.length ≤ 9223372036854775807) : ACalls Tryz.prog GP 117 [.sl l.length (strs l) p, str x] [] (fun r os => os = [] ∧ r = .val (.bool (l.contains x))) := by
  refine acalls_val ⟨_, Tryz.func117, rfl, rfl⟩ fun E vs hv hG => ?_
  simp only [RepL, RepV, str] at hv
  obtain ⟨_, _, rfl, ⟨A, cap, rfl, hn, hc, _⟩, _, _, rfl, rfl, rfl⟩ := hv
  by_cases h0 : l = []
  · subst h0
    refine (Tryz.slices_Contains_string_empty A cap ⟨x.toArray⟩ E.w).mono ?_
    rintro e w' ⟨rfl, rfl⟩
    exact ⟨rfl, Below.refl _ _⟩
  · rcases hc with e | ⟨g, o, rfl, hg, ho, hat⟩
    · exact absurd (by simpa [strs] using e) h0
    · refine (Tryz.slices_Contains_string g o l.length cap (l.map fun s => ⟨s.toArray⟩) ⟨x.toArray⟩ E.w (by simp) hl fun j hj => ?_).mono ?_
      · have hj' : j < l.length := by simpa using hj
        obtain ⟨v, h1, h2⟩ := hat.cell j (str l[j]) (by simp [strs, hj'])
        simp only [str, RepV] at h2
        rw [h1, h2]
        simp [hj']
      · rintro e w' ⟨rfl, rfl⟩
        refine ⟨?_, Below.refl _ _⟩
        congr 2
        rw [Bool.eq_iff_iff, Lib.containsS_iff, List.take_of_length_le (by simp)]
        simp only [List.mem_map, List.contains_iff_mem]
        constructor
        · rintro ⟨a, ha, hax⟩
          have : a = x := by
            have := congrArg (fun b : ByteArray => b.data.toList) hax
            simpa using this
          exact this ▸ ha
        · intro h; exact ⟨x, h, rfl⟩

theorem strsEq_ok [Gv] (a b : List (List UInt8)) (p q : Perm) (ha : a.length ≤ 9223372036854775807) (hb : b.length ≤ 9223372036854775807) : ACalls Tryz.prog GP 112 [.sl a.length (strs a) p, .sl b.length (strs b) q] [] (fun r os => os = [] ∧ r = .val (.bool (decide (a = b)))) := by
  refine acalls_val ⟨_, Tryz.func112, rfl, rfl⟩ fun E vs hv hG => ?_
  simp only [RepL, RepV, str] at hv
  obtain ⟨_, _, rfl, ⟨A, cap, rfl, hn, hc, _⟩, _, _, rfl, ⟨A2, cap2, rfl, hn2, hc2, _⟩, rfl⟩ := hv
  by_cases hne : a.length = b.length
  · by_cases h0 : a = []
    · subst h0
      refine (Tryz.slices_Equal_string_empty A A2 cap b.length cap2 E.w hb).mono ?_
      rintro e w' ⟨rfl, rfl⟩
      have hb0 : b = [] := List.length_eq_zero_iff.1 hne.symm
      subst hb0
      exact ⟨rfl, Below.refl _ _⟩
    · have hb0 : b ≠ [] := fun e => h0 (List.length_eq_zero_iff.1 (by rw [hne, e]; rfl))
      rcases hc with e | ⟨g, o, rfl, hg, ho, hat⟩
      · exact absurd (by simpa [strs] using e) h0
      rcases hc2 with e | ⟨g2, o2, rfl, hg2, ho2, hat2⟩
      · exact absurd (by simpa [strs] using e) hb0
      refine (Tryz.slices_Equal_string g o a.length cap g2 o2 b.length cap2 (a.map fun s => ⟨s.toArray⟩) (b.map fun s => ⟨s.toArray⟩) E.w (by simp) (by simp) ha hb (fun j hj => ?_) fun j hj => ?_).mono ?_
      · have hj' : j < a.length := by simpa using hj
        obtain ⟨v, h1, h2⟩ := hat.cell j (str a[j]) (by simp [strs, hj'])
        simp only [str, RepV] at h2
        rw [h1, h2]
        simp [hj']
      · have hj' : j < b.length := by simpa using hj
        obtain ⟨v, h1, h2⟩ := hat2.cell j (str b[j]) (by simp [strs, hj'])
        simp only [str, RepV] at h2
        rw [h1, h2]
        simp [hj']
      · rintro e w' ⟨rfl, k, rfl⟩
        refine ⟨?_, below_drewNg _ _⟩
        congr 2
        rw [List.take_of_length_le (by simp), List.take_of_length_le (by simp), decide_eq_decide]
        constructor
        · intro h
          have := congrArg (List.map fun b : ByteArray => b.data.toList) h
          rw [List.map_map, List.map_map] at this
          simpa [Function.comp_def] using this
        · intro h; rw [h]
  · refine (Tryz.slices_Equal_string_lens A A2 a.length cap b.length cap2 E.w hne).mono ?_
    rintro e w' ⟨rfl, rfl⟩
    refine ⟨?_, Below.refl _ _⟩
    rw [decide_eq_false (fun e => hne (by rw [e]))]

theorem join_ok [Gv] (l : List (List UInt8)) (sep : List UInt8) (p : Perm) (hl : l.length ≤ 140737488355328) (hj : (Lib.join l sep).length ≤ 140737488355328) : ACalls Tryz.prog GP 173 [.sl l.length (strs l) p, str sep] [] (fun r os => os = [] ∧ r = str (Lib.join l sep)) := by
  refine acalls_val ⟨_, Tryz.func173, rfl, rfl⟩ fun E vs hv hG => ?_
  simp only [RepL, RepV, str] at hv
  obtain ⟨_, _, rfl, ⟨A, cap, rfl, hn, hc, _⟩, _, _, rfl, rfl, rfl⟩ := hv
  by_cases h0 : l = []
  · subst h0
    refine (Tryz.strings_Join_none A cap ⟨sep.toArray⟩ E.w).mono ?_
    rintro e w' ⟨rfl, rfl⟩
    exact ⟨rfl, Below.refl _ _⟩
  · rcases hc with e | ⟨g, o, rfl, hg, ho, hat⟩
    · exact absurd (by simpa [strs] using e) h0
    · have hm : (l.map fun s => (⟨s.toArray⟩ : ByteArray)).map (·.data.toList) = l := by rw [List.map_map]; simp [Function.comp_def]
      have h := Tryz.strings_Join g o cap (l.map fun s => ⟨s.toArray⟩) ⟨sep.toArray⟩ E.w (fun j x hx => ?_) hg (by simpa using hl) (by simpa using hn) (by rw [hm]; exact hj)
      · rw [hm, List.length_map] at h
        exact h
      · simp only [List.getElem?_map, Option.map_eq_some_iff] at hx
        obtain ⟨s, hs, rfl⟩ := hx
        obtain ⟨v, h1, h2⟩ := hat.cell j (str s) (by simp [strs, hs])
        simp only [str, RepV] at h2
        rw [h1, h2]
end Go.Proofs.YtefdnmeopbkflaaGreatDoor
namespace Go.Proofs.YtefdnmeopbkflaaGreatDoor
open Go Go.V
set_option linter.unusedSimpArgs false
set_option linter.unusedVariables false
set_option maxRecDepth 20000

theorem words1_ok [Gv] (r : Nat) (hr : r ≤ 1114111) : ACalls Tryz.prog GP 116 [.val (.int .i32 (r : Int))] [] (fun x os => os = [] ∧ x = .val (.bool (decide (r < 32) || decide (126 < r)))) := by
  refine acalls_of_awp Tryz.func116 rfl rfl Tryz.ntmps116 (rts := #[4]) rfl Tryz.results116 (by simp) ?_
  simp only [argSlots, Nat.reduceAdd]
  refine awp_seq_k fun K hK => awp_region [] ?_
  simp only [qq, K_eqs, Nat.reduceLT, K_ops, cav, K_nil, Then]
  (repeat' apply And.intro) <;> try (first | exact True.intro | omega)
  refine hK _ ?_
  clear hK K
  refine awp_keep [0] ?_
  simp only [keep_eqs, K_ops, Nat.reduceEqDiff, if_true, if_false]
  refine awp_seq_k fun K hK => ?_
  by_cases h : r < 32
  · have h1 : decide ((r : Int) < 32) = true := decide_eq_true (by omega)
    refine awp_region [] ?_
    simp only [qq, K_eqs, Nat.reduceLT, K_ops, reduceCtorEq, cav, K_binC, K_int, aint, h1, Nat.reduceEqDiff, gval, gslot, Option.bind_some, gdec_eqs, K_gF, gok, apick, K_nil, Then]
    refine hK _ ?_
    refine awp_keep [2] ?_
    simp only [keep_eqs, K_ops, Nat.reduceEqDiff, if_true, if_false]
    refine awp_ret ?_
    simp only [qq, K_fin, ares, aress, ares1, afin, K_ops, noref]
    simp [h]
  · have h1 : decide ((r : Int) < 32) = false := decide_eq_false (by omega)
    have h2 : decide ((126 : Int) < (r : Int)) = decide (126 < r) := decide_eq_decide.2 (by omega)
    refine awp_region [] ?_
    simp only [qq, K_eqs, Nat.reduceLT, K_ops, reduceCtorEq, cav, K_binC, K_int, aint, h1, Nat.reduceEqDiff, gval, gslot, Option.bind_some, gdec_eqs, Bool.not_false, K_gT, gok, gt_iff_lt, h2, apick, K_nil, Then]
    refine hK _ ?_
    refine awp_keep [2] ?_
    simp only [keep_eqs, K_ops, Nat.reduceEqDiff, if_true, if_false]
    refine awp_ret ?_
    simp only [qq, K_fin, ares, aress, ares1, afin, K_ops, noref]
    simp [h]
theorem name1_ok [Gv] (r : Nat) (hr : r ≤ 1114111) : ACalls Tryz.prog GP 185 [.val (.int .i32 (r : Int))] [] (fun x os => os = [] ∧ x = .val (.bool (decide (r < 97) || decide (122 < r)))) := by
  refine acalls_of_awp Tryz.func185 rfl rfl Tryz.ntmps185 (rts := #[4]) rfl Tryz.results185 (by simp) ?_
  simp only [argSlots, Nat.reduceAdd]
  refine awp_seq_k fun K hK => awp_region [] ?_
  simp only [qq, K_eqs, Nat.reduceLT, K_ops, cav, K_nil, Then]
  (repeat' apply And.intro) <;> try (first | exact True.intro | omega)
  refine hK _ ?_
  clear hK K
  refine awp_keep [0] ?_
  simp only [keep_eqs, K_ops, Nat.reduceEqDiff, if_true, if_false]
  refine awp_seq_k fun K hK => ?_
  by_cases h : r < 97
  · have h1 : decide ((r : Int) < 97) = true := decide_eq_true (by omega)
    refine awp_region [] ?_
    simp only [qq, K_eqs, Nat.reduceLT, K_ops, reduceCtorEq, cav, K_binC, K_int, aint, h1, Nat.reduceEqDiff, gval, gslot, Option.bind_some, gdec_eqs, K_gF, gok, apick, K_nil, Then]
    refine hK _ ?_
    refine awp_keep [2] ?_
    simp only [keep_eqs, K_ops, Nat.reduceEqDiff, if_true, if_false]
    refine awp_ret ?_
    simp only [qq, K_fin, ares, aress, ares1, afin, K_ops, noref]
    simp [h]
  · have h1 : decide ((r : Int) < 97) = false := decide_eq_false (by omega)
    have h2 : decide ((122 : Int) < (r : Int)) = decide (122 < r) := decide_eq_decide.2 (by omega)
    refine awp_region [] ?_
    simp only [qq, K_eqs, Nat.reduceLT, K_ops, reduceCtorEq, cav, K_binC, K_int, aint, h1, Nat.reduceEqDiff, gval, gslot, Option.bind_some, gdec_eqs, Bool.not_false, K_gT, gok, gt_iff_lt, h2, apick, K_nil, Then]
    refine hK _ ?_
    refine awp_keep [2] ?_
    simp only [keep_eqs, K_ops, Nat.reduceEqDiff, if_true, if_false]
    refine awp_ret ?_
    simp only [qq, K_fin, ares, aress, ares1, afin, K_ops, noref]
    simp [h]

def oddW (s : List UInt8) : Bool := s.any fun b => decide (b.toNat < 32) || decide (126 < b.toNat)
def oddN (s : List UInt8) : Bool := s.any fun b => decide (b.toNat < 97) || decide (122 < b.toNat)
theorem oddW_ok [Gv] (s : List UInt8) : ACalls Tryz.prog GP 115 [str s, .val (.func (.func 116) #[] #[])] [] (fun x os => os = [] ∧ x = .val (.bool (oddW s))) :=
  cfunc_ok 116 _ (fun r hr => by simp; omega) (fun r hr => words1_ok r hr) s
theorem oddN_ok [Gv] (s : List UInt8) : ACalls Tryz.prog GP 115 [str s, .val (.func (.func 185) #[] #[])] [] (fun x os => os = [] ∧ x = .val (.bool (oddN s))) :=
  cfunc_ok 185 _ (fun r hr => by simp; omega) (fun r hr => name1_ok r hr) s

def wordsF (s : List UInt8) : Option (List (List UInt8)) := if s = [] then some [] else if oddW s = true ∨ 512 < s.length ∨ [] ∈ splitC 32 s then none else some (splitC 32 s)
def wordsV (s : List UInt8) : AV := match wordsF s with
  | some l => .tup [.sl l.length (strs l) .full, .val (.bool true)]
  | none => .tup [.sl 0 [] .full, .val (.bool false)]

theorem words_ok [Gv] (s : List UInt8) (hs : s.length ≤ 200000) : ACalls Tryz.prog GP 57 [str s] [] (fun x os => os = [] ∧ x = wordsV s) := by
  have cS := split_ok s 32 (by omega)
  have cO := oddW_ok s
  have cC := contains_ok (splitC 32 s) [] .full (by rw [splitC_length]; have := List.count_le_length (a := (32 : UInt8)) (l := s); omega)
  have hsz : ((⟨s.toArray⟩ : ByteArray).size : Int) = (s.length : Int) := by simp [ByteArray.size]
  have hn := norefs_strs (splitC 32 s)
  have hl := strs_length (splitC 32 s)
  simp only [str] at *
  refine acalls_of_awp Tryz.func57 rfl rfl Tryz.ntmps57 (rts := #[43,4]) rfl Tryz.results57 (by simp) ?_
  simp only [argSlots, Nat.reduceAdd]
  refine awp_seq_k fun K hK => awp_region [] ?_
  simp only [qq, K_eqs, Nat.reduceLT, K_ops, cav, K_nil, Then]
  (repeat' apply And.intro) <;> try (first | exact True.intro | omega)
  refine hK _ ?_
  clear hK K
  refine awp_keep [0, 2, 3] ?_
  simp only [keep_eqs, K_ops, Nat.reduceEqDiff, if_true, if_false]
  refine awp_seq_k fun K1 hK1 => ?_
  refine awp_seq_k fun K hK => awp_region [] ?_
  simp only [qq, K_eqs, Nat.reduceLT, K_ops, reduceCtorEq, Nat.reduceEqDiff, cav, K_binC, K_int, astr, ByteArray.toList_mk, K_nil, Then]
  (repeat' apply And.intro) <;> try (first | exact True.intro | omega)
  refine hK _ ?_
  clear hK K
  by_cases h0 : s = []
  · subst h0
    refine awp_condT rfl ?_
    refine awp_keep [0, 2, 3] ?_
    simp only [keep_eqs, K_ops, Nat.reduceEqDiff, if_true, if_false]
    refine awp_seq_k fun K hK => awp_region [] ?_
    simp only [qq, K_eqs, Nat.reduceLT, K_ops, cav, K_nil, Then]
    (repeat' apply And.intro) <;> try (first | exact True.intro | omega)
    refine hK _ ?_
    clear hK K
    refine awp_keep [2, 3] ?_
    simp only [keep_eqs, K_ops, Nat.reduceEqDiff, if_true, if_false]
    refine awp_ret ?_
    simp only [qq, Then, K_fin, ares, aress, ares1, afin, K_ops, Nat.reduceEqDiff, norefs, ntok, noref]
    simp [wordsV, wordsF, strs]
  have e0 : (s == []) = false := beq_eq_false_iff_ne.2 h0
  refine awp_condF (by simp [lk, e0]) (awp_skip (hK1 _ ?_))
  clear hK1 K1
  refine awp_keep [0, 2, 3] ?_
  simp only [keep_eqs, K_ops, Nat.reduceEqDiff, if_true, if_false]
  refine awp_seq_k fun K hK => awp_region [] ?_
  simp only [qq, K_eqs, Nat.reduceLT, K_ops, reduceCtorEq, K_call, Nat.reduceAdd, Nat.reduceEqDiff, cav, K_clo, aviews, aview, noref]
  refine andC_eq (by simp [norefs, noref]) cS (by simp [noref, hn]) ?_
  simp only [qq, RestC_eqs, K_eqs, Nat.reduceLT, K_ops, Nat.reduceEqDiff, reduceCtorEq, K_nil, Then]
  refine hK _ ?_
  clear hK K
  refine awp_keep [0, 2, 3, 4] ?_
  simp only [keep_eqs, K_ops, Nat.reduceEqDiff, if_true, if_false]
  refine awp_seq_k fun K hK => awp_region [] ?_
  simp only [qq, K_eqs, Nat.reduceLT, K_ops, reduceCtorEq, K_call, Nat.reduceAdd, Nat.reduceEqDiff, K_clo, aviews, aview, noref]
  refine andC_eq (by simp [norefs, noref]) cO (by simp [noref]) ?_
  simp only [qq, RestC_eqs, K_eqs, Nat.reduceLT, K_ops, Nat.reduceEqDiff, reduceCtorEq, K_nil, Then]
  refine hK _ ?_
  clear hK K
  refine awp_keep [0, 2, 3, 4, 5] ?_
  simp only [keep_eqs, K_ops, Nat.reduceEqDiff, if_true, if_false]
  refine awp_seq_k fun K1 hK1 => ?_
  refine awp_seq_k fun K hK => ?_
  have bad : ∀ st, wordsF s = none → lk st.slots 21 = .val (.bool true) → st.nt = 23 → st.objs = [] → K st := by
    rintro ⟨nt, sl, os⟩ hw h21 hnt hos
    simp only at h21 hnt hos
    subst hnt hos
    refine hK _ ?_
    refine awp_condT h21 ?_
    refine awp_keep [] ?_
    simp only [keep_eqs]
    refine awp_seq_k fun K hK => awp_region [] ?_
    simp only [qq, K_eqs, Nat.reduceLT, K_ops, cav, K_nil, Then]
    (repeat' apply And.intro) <;> try (first | exact True.intro | omega)
    refine hK _ ?_
    clear hK K
    refine awp_keep [2, 3] ?_
    simp only [keep_eqs, K_ops, Nat.reduceEqDiff, if_true, if_false]
    refine awp_ret ?_
    simp only [Then]
    simp only [qq, K_fin, ares, aress, ares1, afin, K_ops, Nat.reduceEqDiff, norefs, ntok, noref]
    simp [wordsV, hw, strs, ntok, norefs]
  by_cases h1 : oddW s = true
  · refine awp_region [] ?_
    simp only [qq, h1, K_eqs, Nat.reduceLT, K_ops, reduceCtorEq, Nat.reduceEqDiff, gval, gslot, Option.bind_some, gdec_eqs, K_gF, gok, apick, cav, K_nil, Then]
    refine bad _ ?_ rfl rfl rfl
    simp [wordsF, h0, h1]
  have h1' : oddW s = false := by simpa using h1
  by_cases h2 : 512 < s.length
  · have e2 : decide ((s.length : Int) > 512) = true := decide_eq_true (by omega)
    refine awp_region [] ?_
    simp only [qq, h1', K_eqs, Nat.reduceLT, K_ops, reduceCtorEq, Nat.reduceEqDiff, gval, gslot, Option.bind_some, gdec_eqs, Bool.not_false, K_gT, gok, abuiltin, amaplen, alen, Tryz.underlying9, ba_size, cav, K_binC, apick, K_int, aint, e2, K_gF, K_nil, Then]
    refine bad _ ?_ rfl rfl rfl
    simp [wordsF, h0, h2]
  have e2 : decide ((s.length : Int) > 512) = false := decide_eq_false (by omega)
  refine awp_region [] ?_
  simp only [qq, h1', K_eqs, Nat.reduceLT, K_ops, reduceCtorEq, Nat.reduceEqDiff, gval, gslot, Option.bind_some, gdec_eqs, Bool.not_false, K_gT, gok, abuiltin, amaplen, alen, Tryz.underlying9, ba_size, cav, K_binC, apick, K_int, aint, e2, K_call, Nat.reduceAdd, K_clo, aviews, aview, ntok, noref]
  refine andC_eq hn cC rfl ?_
  by_cases h3 : (splitC 32 s).contains [] = true
  · skip
    simp only [qq, h3, RestC_eqs, K_eqs, apick, K_ops, Nat.reduceEqDiff, reduceCtorEq, cav, Nat.reduceLT, K_nil, Then]
    refine bad _ ?_ rfl rfl rfl
    simp only [List.contains_iff_mem] at h3
    simp [wordsF, h0, h3]
  have h3' : (splitC 32 s).contains [] = false := by simpa using h3
  simp only [qq, h3', RestC_eqs, K_eqs, apick, K_ops, Nat.reduceEqDiff, reduceCtorEq, cav, Nat.reduceLT, K_nil, Then]
  clear bad
  refine hK _ ?_
  clear hK K
  have hw : wordsF s = some (splitC 32 s) := by
    have h3m : ¬ [] ∈ splitC 32 s := fun h => by rw [List.contains_iff_mem.2 h] at h3'; cases h3'
    unfold wordsF
    rw [if_neg h0, if_neg (by simp only [h1', Bool.false_eq_true, false_or, not_or]; exact ⟨h2, h3m⟩)]
  refine awp_condF rfl (awp_skip (hK1 _ ?_))
  clear hK1 K1
  refine awp_keep [4] ?_
  simp only [keep_eqs, K_ops, Nat.reduceEqDiff, if_true, if_false]
  refine awp_seq_k fun K hK => awp_region [] ?_
  simp only [qq, K_eqs, Nat.reduceLT, K_ops, Nat.reduceEqDiff, cav, K_nil, Then]
  (repeat' apply And.intro) <;> try (first | exact True.intro | omega)
  refine hK _ ?_
  clear hK K
  refine awp_keep [2, 3] ?_
  simp only [keep_eqs, K_ops, Nat.reduceEqDiff, if_true, if_false]
  refine awp_ret ?_
  simp only [qq, K_fin, ares, aress, ares1, afin, K_ops, Nat.reduceEqDiff, ntok, noref]
  simp [wordsV, hw, hn]

def nameF (s : List UInt8) : Bool := !(s == []) && decide (s.length ≤ 16) && !oddN s
theorem name_ok [Gv] (s : List UInt8) : ACalls Tryz.prog GP 119 [str s] [] (fun x os => os = [] ∧ x = .val (.bool (nameF s))) := by
  have cO := oddN_ok s
  have hsz : ((⟨s.toArray⟩ : ByteArray).size : Int) = (s.length : Int) := by simp [ByteArray.size]
  simp only [str] at *
  refine acalls_of_awp Tryz.func119 rfl rfl Tryz.ntmps119 (rts := #[4]) rfl Tryz.results119 (by simp) ?_
  simp only [argSlots, Nat.reduceAdd]
  refine awp_seq_k fun K hK => awp_region [] ?_
  simp only [qq, K_eqs, Nat.reduceLT, K_ops, cav, K_nil, Then]
  (repeat' apply And.intro) <;> try (first | exact True.intro | omega)
  refine hK _ ?_
  clear hK K
  refine awp_keep [0, 2] ?_
  simp only [keep_eqs, K_ops, Nat.reduceEqDiff, if_true, if_false]
  refine awp_seq_k fun K hK => ?_
  by_cases h0 : s = []
  · have e0 : (s == []) = true := beq_iff_eq.2 h0
    refine awp_region [] ?_
    simp only [qq, K_eqs, Nat.reduceLT, K_ops, reduceCtorEq, Nat.reduceEqDiff, cav, K_binC, K_int, astr, ByteArray.toList_mk, e0, Bool.not_true, gval, gslot, Option.bind_some, gdec_eqs, K_gF, gok, apick, K_nil, Then]
    refine hK _ ?_
    refine awp_keep [2] ?_
    simp only [keep_eqs, K_ops, Nat.reduceEqDiff, if_true, if_false]
    refine awp_ret ?_
    simp only [qq, K_fin, ares, aress, ares1, afin, K_ops, noref]
    simp [nameF, h0]
  have e0 : (s == []) = false := beq_eq_false_iff_ne.2 h0
  by_cases h1 : s.length ≤ 16
  · have e1 : decide ((s.length : Int) ≤ 16) = true := decide_eq_true (by omega)
    refine awp_region [] ?_
    simp only [qq, K_eqs, Nat.reduceLT, K_ops, reduceCtorEq, Nat.reduceEqDiff, cav, K_binC, K_int, astr, ByteArray.toList_mk, e0, Bool.not_false, gval, gslot, Option.bind_some, gdec_eqs, K_gT, gok, abuiltin, amaplen, alen, Tryz.underlying9, ba_size, apick, aint, e1, K_call, Nat.reduceAdd, K_clo, aviews, aview, noref]
    refine andC_eq (by simp [norefs, noref]) cO (by simp [noref]) ?_
    simp only [qq, RestC_eqs, gval, gslot, Option.bind_some, K_ops, Nat.reduceEqDiff, reduceCtorEq, gdec_eqs, K_gT, gok, Nat.reduceLT, K_eqs, aun, apick, cav, K_nil, Then]
    refine hK _ ?_
    refine awp_keep [2] ?_
    simp only [keep_eqs, K_ops, Nat.reduceEqDiff, if_true, if_false]
    refine awp_ret ?_
    simp only [qq, K_fin, ares, aress, ares1, afin, K_ops, noref]
    simp [nameF, h0, h1]
  · have e1 : decide ((s.length : Int) ≤ 16) = false := decide_eq_false (by omega)
    refine awp_region [] ?_
    simp only [qq, K_eqs, Nat.reduceLT, K_ops, reduceCtorEq, Nat.reduceEqDiff, cav, K_binC, K_int, astr, ByteArray.toList_mk, e0, Bool.not_false, gval, gslot, Option.bind_some, gdec_eqs, K_gT, gok, abuiltin, amaplen, alen, Tryz.underlying9, ba_size, apick, aint, e1, Bool.not_true, K_gF, K_nil, Then]
    refine hK _ ?_
    refine awp_keep [2] ?_
    simp only [keep_eqs, K_ops, Nat.reduceEqDiff, if_true, if_false]
    refine awp_ret ?_
    simp only [qq, K_fin, ares, aress, ares1, afin, K_ops, noref]
    simp [nameF, h0, h1]

def riseAt (l : List (List UInt8)) (i : Nat) : Bool := nameF (l.getD i []) && (decide (i = 0) || Op.bytesLess (l.getD (i - 1) []) (l.getD i []))
def risesF (l : List (List UInt8)) : Bool := (List.range l.length).all fun i => riseAt l i
def namesF (s : List UInt8) : Option (List (List UInt8)) := if (splitC 44 s).length ≤ 32 ∧ risesF (splitC 44 s) = true then some (splitC 44 s) else none
def namesV (s : List UInt8) : AV := match namesF s with
  | some l => .tup [.sl l.length (strs l) .full, .val (.bool true)]
  | none => .tup [.sl 0 [] .full, .val (.bool false)]

theorem names_ok [Gv] (s : List UInt8) (hs : s.length ≤ 200000) : ACalls Tryz.prog GP 59 [str s] [] (fun x os => os = [] ∧ x = namesV s) := by
  have cS := split_ok s 44 (by omega)
  have hlen : (splitC 44 s).length ≤ 200001 := by rw [splitC_length]; have := List.count_le_length (a := (44 : UInt8)) (l := s); omega
  generalize hL : splitC 44 s = l at *
  have hn := norefs_strs l
  have hl := strs_length l
  simp only [str] at cS ⊢
  refine acalls_of_awp Tryz.func59 rfl rfl Tryz.ntmps59 (rts := #[43,4]) rfl Tryz.results59 (by simp) ?_
  simp only [argSlots, Nat.reduceAdd]
  refine awp_seq_k fun K hK => awp_region [] ?_
  simp only [qq, K_eqs, Nat.reduceLT, K_ops, cav, K_nil, Then]
  (repeat' apply And.intro) <;> try (first | exact True.intro | omega)
  refine hK _ ?_
  clear hK K
  refine awp_keep [0, 2, 3] ?_
  simp only [keep_eqs, K_ops, Nat.reduceEqDiff, if_true, if_false]
  refine awp_seq_k fun K hK => awp_region [] ?_
  simp only [qq, K_eqs, Nat.reduceLT, K_ops, reduceCtorEq, K_call, Nat.reduceAdd, Nat.reduceEqDiff, cav, K_clo, aviews, aview, noref]
  refine andC_eq (by simp [norefs, noref]) cS (by simp [noref, hn]) ?_
  simp only [qq, RestC_eqs, K_eqs, Nat.reduceLT, K_ops, Nat.reduceEqDiff, reduceCtorEq, K_nil, Then]
  refine hK _ ?_
  clear hK K
  refine awp_keep [2, 3, 4] ?_
  simp only [keep_eqs, K_ops, Nat.reduceEqDiff, if_true, if_false]
  refine awp_seq_k fun K1 hK1 => ?_
  refine awp_seq_k fun K hK => awp_region [] ?_
  simp only [qq, K_eqs, Nat.reduceLT, K_ops, Nat.reduceEqDiff, abuiltin, amaplen, alen, Tryz.underlying43, cav, K_binC, K_nil, Then, K_int, aint, gt_iff_lt, d_gt]
  (repeat' apply And.intro) <;> try (first | exact True.intro | omega)
  refine hK _ ?_
  clear hK K
  by_cases h1 : 32 < l.length
  · have e1 : decide (32 < l.length) = true := decide_eq_true h1
    refine awp_condT (by simp [lk, e1]) ?_
    refine awp_keep [2, 3, 4] ?_
    simp only [keep_eqs, K_ops, Nat.reduceEqDiff, if_true, if_false]
    refine awp_seq_k fun K hK => awp_region [] ?_
    simp only [qq, K_eqs, Nat.reduceLT, K_ops, cav, K_nil, Then]
    (repeat' apply And.intro) <;> try (first | exact True.intro | omega)
    refine hK _ ?_
    clear hK K
    refine awp_keep [2, 3] ?_
    simp only [keep_eqs, K_ops, Nat.reduceEqDiff, if_true, if_false]
    refine awp_ret ?_
    simp only [qq, Then, K_fin, ares, aress, ares1, afin, K_ops, Nat.reduceEqDiff, norefs, ntok, noref]
    have hw : namesF s = none := by unfold namesF; rw [hL, if_neg (fun h => by omega)]
    simp [namesV, hw, strs]
  have e1 : decide (32 < l.length) = false := decide_eq_false h1
  refine awp_condF (by simp [lk, e1]) (awp_skip (hK1 _ ?_))
  clear hK1 K1
  refine awp_keep [2, 3, 4] ?_
  simp only [keep_eqs, K_ops, Nat.reduceEqDiff, if_true, if_false]
  refine awp_seq_k fun K1 hK1 => ?_
  refine awp_seq_k fun K hK => awp_region [] ?_
  simp only [qq, K_eqs, Nat.reduceLT, K_ops, Nat.reduceEqDiff, abuiltin, amaplen, alen, Tryz.underlying43, cav, K_nil, Then]
  (repeat' apply And.intro) <;> try (first | exact True.intro | omega)
  refine hK _ ?_
  clear hK K
  refine awp_keep [2, 3, 4, 12, 13, 14] ?_
  simp only [keep_eqs, K_ops, Nat.reduceEqDiff, if_true, if_false]
  refine awp_block ?_
  refine awp_loop_from (fun i : Nat => ⟨37, [(2, .sl 0 [] .full), (3, .val (.bool false)), (4, .sl l.length (strs l) .full), (12, .sl l.length (strs l) .full), (13, .val (.int .i64 (l.length : Int))), (14, .val (.int .i64 (i : Int)))], []⟩)
    (fun i => i ≤ l.length ∧ ∀ j, j < i → riseAt l j = true) (fun i => l.length - i) 0 (by simp) (.of_keep [2, 3, 4, 12, 13, 14] (by exact rfl)) ?_
  rintro i ⟨hi, hgood⟩
  refine awp_seq_k fun K hK => awp_region [] ?_
  simp only [qq, K_eqs, K_ops, Nat.reduceEqDiff, K_binC, K_int, aint, d_ltn, Nat.reduceLT, K_nil, Then]
  (repeat' apply And.intro) <;> try (first | exact True.intro | omega)
  refine hK _ ?_
  clear hK K
  refine awp_seq ?_
  refine awp_cond rfl rfl (fun hq => ?_) (fun hq => ?_)
  · have hlt : i < l.length := of_decide_eq_true hq
    refine awp_skip ?_
    simp only [Then]
    refine awp_keep [2, 3, 4, 12, 13, 14] ?_
    simp only [keep_eqs, K_ops, Nat.reduceEqDiff, if_true, if_false]
    have hgd := strs_getD hlt
    have hne := name_ok (l.getD i [])
    refine awp_seq ?_
    refine awp_block ?_
    refine awp_seq_k fun K hK => awp_region [] ?_
    simp only [qq, K_eqs, Nat.reduceLT, K_ops, Nat.reduceEqDiff, aidxAddr, Tryz.underlying43, tszs, Nat.mul_one, Int.toNat_natCast, aload, apart, isAggD, Tryz.underlying9, K_nil, Then, List.length_drop, drop_getD, hgd]
    (repeat' apply And.intro) <;> try (first | exact True.intro | omega)
    refine hK _ ?_
    clear hK K
    refine awp_keep [2, 3, 4, 5, 6, 12, 13, 14] ?_
    simp only [keep_eqs, K_ops, Nat.reduceEqDiff, if_true, if_false]
    refine awp_seq_k fun K hK => ?_
    have bad : ∀ st, namesF s = none → lk st.slots 34 = .val (.bool true) → st.nt = 37 → st.objs = [] → K st := by
      rintro ⟨nt, sl, os⟩ hw h21 hnt hos
      simp only at h21 hnt hos
      subst hnt hos
      refine hK _ ?_
      refine awp_condT h21 ?_
      refine awp_keep [] ?_
      simp only [keep_eqs]
      refine awp_seq_k fun K hK => awp_region [] ?_
      simp only [qq, K_eqs, Nat.reduceLT, K_ops, cav, K_nil, Then]
      (repeat' apply And.intro) <;> try (first | exact True.intro | omega)
      refine hK _ ?_
      clear hK K
      refine awp_keep [2, 3] ?_
      simp only [keep_eqs, K_ops, Nat.reduceEqDiff, if_true, if_false]
      refine awp_ret ?_
      simp only [Then, InBlock]
      simp only [qq, K_fin, ares, aress, ares1, afin, K_ops, Nat.reduceEqDiff, norefs, ntok, noref]
      simp [namesV, hw, strs, ntok, norefs]
    have none_of : riseAt l i = false → namesF s = none := fun h => by
      unfold namesF
      rw [hL, if_neg]
      rintro ⟨_, hr⟩
      have := List.all_eq_true.1 hr i (List.mem_range.2 hlt)
      rw [h] at this
      cases this
    have good : ∀ st, riseAt l i = true → lk st.slots 34 = .val (.bool false) → keep [2, 3, 4, 12, 13, 14] st.slots = [(2, .sl 0 [] .full), (3, .val (.bool false)), (4, .sl l.length (strs l) .full), (12, .sl l.length (strs l) .full), (13, .val (.int .i64 (l.length : Int))), (14, .val (.int .i64 (i : Int)))] → st.nt = 37 → st.objs = [] → K st := by
      rintro ⟨nt, sl, os⟩ hw h21 hkp hnt hos
      simp only at h21 hnt hos hkp
      subst hnt hos
      refine hK _ ?_
      refine awp_condF h21 (awp_skip ?_)
      simp only [InBlock, Then]
      refine awp_keep [2, 3, 4, 12, 13, 14] ?_
      rw [hkp]
      have h6 : IntKind.i64.wrap ((i + 1 : Nat) : Int) = ((i + 1 : Nat) : Int) := n_i64 (by omega)
      refine awp_region [] ?_
      simp only [qq, K_eqs, K_ops, Nat.reduceEqDiff, cav, K_binC, K_int, aint, n_add, h6, Nat.reduceLT, K_nil, Then]
      refine ⟨i + 1, ⟨by omega, fun j hj => ?_⟩, by omega, .of_keep [2, 3, 4, 12, 13, 14] rfl⟩
      by_cases hji : j = i
      · rw [hji]; exact hw
      · exact hgood j (by omega)
    simp only [str] at hne
    by_cases hname : nameF (l.getD i []) = true
    · by_cases hi0 : i = 0
      · subst hi0
        refine awp_region [] ?_
        simp only [qq, Int.cast_ofNat_Int, str, K_eqs, Nat.reduceLT, K_ops, Nat.reduceEqDiff, K_call, Nat.reduceAdd, K_clo, aviews, aview, noref]
        refine andC_eq (by simp [norefs, noref]) hne rfl ?_
        simp only [qq, hname, RestC_eqs, K_eqs, aun, K_ops, Nat.reduceEqDiff, Bool.not_true, Nat.reduceLT, gval, gslot, Option.bind_some, gdec_eqs, Bool.not_false, K_gT, gok, cav, K_binC, K_int, aint, Int.lt_irrefl, decide_false, K_gF, apick, K_nil, Then]
        refine good _ ?_ rfl rfl rfl rfl
        unfold riseAt
        rw [hname]
        rfl
      · have hp : 0 < i := Nat.pos_of_ne_zero hi0
        have hgt : decide ((i : Int) > 0) = true := decide_eq_true (by omega)
        have hgd2 := strs_getD (l := l) (i := i - 1) (by omega)
        have hsub : IntKind.i64.wrap ((i : Int) - 1) = ((i - 1 : Nat) : Int) := by
          rw [show (i : Int) - 1 = ((i - 1 : Nat) : Int) by omega]; exact n_i64 (by omega)
        refine awp_region [] ?_
        simp only [qq, str, K_eqs, Nat.reduceLT, K_ops, Nat.reduceEqDiff, K_call, Nat.reduceAdd, K_clo, aviews, aview, noref]
        refine andC_eq (by simp [norefs, noref]) hne rfl ?_
        simp only [qq, hname, RestC_eqs, K_eqs, aun, K_ops, Nat.reduceEqDiff, Bool.not_true, Nat.reduceLT, gval, gslot, Option.bind_some, gdec_eqs, Bool.not_false, K_gT, gok, cav, K_binC, K_int, aint, hgt, hsub, aidxAddr, Tryz.underlying43, tszs, Nat.mul_one, Int.toNat_natCast, aload, apart, isAggD, Tryz.underlying9, apick, K_nil, Then, List.length_drop, drop_getD, hgd2, str, astr, ByteArray.toList_mk]
        refine ⟨⟨by omega, by omega, by omega⟩, by omega, ?_⟩
        cases hb : Op.bytesLess (l.getD (i - 1) []) (l.getD i []) with
        | true =>
          refine good _ ?_ (by simp [lk]) rfl rfl rfl
          unfold riseAt
          rw [hname, hb]
          simp
        | false =>
          refine bad _ (none_of ?_) (by simp [lk]) rfl rfl
          unfold riseAt
          rw [hb]
          simp [hi0]
    · have hname' : nameF (l.getD i []) = false := by simpa using hname
      refine awp_region [] ?_
      simp only [qq, str, K_eqs, Nat.reduceLT, K_ops, Nat.reduceEqDiff, K_call, Nat.reduceAdd, K_clo, aviews, aview, noref]
      refine andC_eq (by simp [norefs, noref]) hne rfl ?_
      simp only [qq, hname', RestC_eqs, K_eqs, aun, K_ops, Nat.reduceEqDiff, Bool.not_false, Nat.reduceLT, gval, gslot, Option.bind_some, gdec_eqs, K_gF, gok, apick, cav, K_nil, Then]
      refine bad _ (none_of ?_) rfl rfl rfl
      unfold riseAt
      rw [hname']
      rfl
  · have he : i = l.length := by have := of_decide_eq_false hq; omega
    subst he
    refine awp_exit ?_
    simp only [Then, InBlock, if_true]
    refine hK1 _ ?_
    clear hK1 K1
    have hw : namesF s = some l := by
      unfold namesF
      rw [hL, if_pos]
      exact ⟨by omega, List.all_eq_true.2 fun j hj => hgood j (List.mem_range.1 hj)⟩
    refine awp_keep [4] ?_
    simp only [keep_eqs, K_ops, Nat.reduceEqDiff, if_true, if_false]
    refine awp_seq_k fun K hK => awp_region [] ?_
    simp only [qq, K_eqs, Nat.reduceLT, K_ops, Nat.reduceEqDiff, cav, K_nil, Then]
    (repeat' apply And.intro) <;> try (first | exact True.intro | omega)
    refine hK _ ?_
    clear hK K
    refine awp_keep [2, 3] ?_
    simp only [keep_eqs, K_ops, Nat.reduceEqDiff, if_true, if_false]
    refine awp_ret ?_
    simp only [qq, K_fin, ares, aress, ares1, afin, K_ops, Nat.reduceEqDiff, ntok, noref]
    simp [namesV, hw, hn]
def lexJoin (l : List (List UInt8)) : List UInt8 := if namesF (Lib.join l [44]) = some l then Lib.join l [44] else []

theorem ljoin_ok [Gv] (l : List (List UInt8)) (p : Perm) (hl : l.length ≤ 200000) (hj : (Lib.join l [44]).length ≤ 200000) : ACalls Tryz.prog GP 109 [.sl l.length (strs l) p] [] (fun x os => os = [] ∧ x = str (lexJoin l)) := by
  have cJ := fun q => join_ok l [44] q (by omega) (by omega)
  have cN := names_ok (Lib.join l [44]) hj
  have hl2 : (splitC 44 (Lib.join l [44])).length ≤ 200001 := by rw [splitC_length]; have := List.count_le_length (a := (44 : UInt8)) (l := Lib.join l [44]); omega
  have hn := norefs_strs l
  generalize hS : Lib.join l [44] = s at *
  simp only [str] at *
  refine acalls_of_awp Tryz.func109 rfl rfl Tryz.ntmps109 (rts := #[9]) rfl Tryz.results109 (by simp) ?_
  simp only [argSlots, Nat.reduceAdd]
  refine awp_seq_k fun K hK => awp_region [] ?_
  simp only [qq, K_eqs, Nat.reduceLT, K_ops, cav, K_nil, Then]
  (repeat' apply And.intro) <;> try (first | exact True.intro | omega)
  refine hK _ ?_
  clear hK K
  refine awp_keep [0, 2] ?_
  simp only [keep_eqs, K_ops, Nat.reduceEqDiff, if_true, if_false]
  refine awp_seq_k fun K hK => awp_region [] ?_
  simp only [qq, K_eqs, Nat.reduceLT, K_ops, reduceCtorEq, K_call, Nat.reduceAdd, Nat.reduceEqDiff, cav, K_clo, aviews, aview, ntok, noref]
  refine andC_eq (by simp [norefs, noref, hn]) (cJ _) (by simp [noref]) ?_
  simp only [qq, RestC_eqs, K_eqs, Nat.reduceLT, K_ops, Nat.reduceEqDiff, reduceCtorEq, K_nil, Then]
  refine hK _ ?_
  clear hK K
  refine awp_keep [0, 2, 3] ?_
  simp only [keep_eqs, K_ops, Nat.reduceEqDiff, if_true, if_false]
  refine awp_seq_k fun K1 hK1 => ?_
  have nope : ∀ st, namesF s ≠ some l → st.nt = 22 → st.objs = [] → awp Tryz.prog GP (.seq (.region 4 #[⟨some 2, .assign (.const (.string ⟨#[]⟩)), 9, "lex.go:60", #[], none⟩] false) .ret) st (Then K1 (V.Fin Tryz.prog [9] [ResultVar.tmp 2] fun x os => os = [] ∧ x = .val (.string ⟨(lexJoin l).toArray⟩))) := by
    rintro ⟨nt, sl, os⟩ hw hnt hos
    simp only at hnt hos
    subst hnt hos
    refine awp_seq_k fun K hK => awp_region [] ?_
    simp only [qq, K_eqs, Nat.reduceLT, K_ops, cav, K_nil, Then]
    (repeat' apply And.intro) <;> try (first | exact True.intro | omega)
    refine hK _ ?_
    clear hK K
    refine awp_keep [2] ?_
    simp only [keep_eqs, K_ops, Nat.reduceEqDiff, if_true, if_false]
    refine awp_ret ?_
    simp only [Then, InBlock]
    simp only [qq, K_fin, ares, aress, ares1, afin, K_ops, noref]
    unfold lexJoin
    rw [hS, if_neg hw]
  refine awp_seq_k fun K hK => awp_region [] ?_
  simp only [qq, K_eqs, Nat.reduceLT, K_ops, reduceCtorEq, Nat.reduceEqDiff, K_call, Nat.reduceAdd, K_clo, aviews, aview, noref]
  have hnv : noref (namesV s) = true := by
    unfold namesV
    split
    · simp only [noref, norefs, norefs_strs, Bool.and_true]
    · rfl
  refine andC_eq (by simp [norefs, noref]) cN hnv ?_
  cases hF : namesF s with
  | none =>
    simp only [qq, namesV, hF, RestC_eqs, K_eqs, Nat.reduceLT, K_ops, Nat.reduceEqDiff, reduceCtorEq, aext, K_nil, Then]
    refine hK _ ?_
    clear hK K
    refine awp_keep [0, 2, 3, 4, 5] ?_
    simp only [keep_eqs, K_ops, Nat.reduceEqDiff, if_true, if_false]
    refine awp_seq_k fun K hK => awp_region [] ?_
    simp only [qq, K_eqs, Nat.reduceLT, K_ops, reduceCtorEq, Nat.reduceEqDiff, aun, Bool.not_false, gval, gslot, Option.bind_some, gdec_eqs, K_gF, gok, apick, cav, K_nil, Then]
    (repeat' apply And.intro) <;> try (first | exact True.intro | omega)
    refine hK _ ?_
    clear hK K
    refine awp_condT rfl ?_
    exact nope _ (by rw [hF]; simp) rfl rfl
  | some l' =>
    have hl' : l' = splitC 44 s := by
      unfold namesF at hF
      split at hF
      · injection hF with hF; exact hF.symm
      · cases hF
    have cE := fun q q' => strsEq_ok l' l q q' (by rw [hl']; omega) (by omega)
    have hn' := norefs_strs l'
    simp only [qq, namesV, hF, RestC_eqs, K_eqs, Nat.reduceLT, K_ops, Nat.reduceEqDiff, reduceCtorEq, aext, K_nil, Then]
    refine hK _ ?_
    clear hK K
    refine awp_keep [0, 2, 3, 4, 5] ?_
    simp only [keep_eqs, K_ops, Nat.reduceEqDiff, if_true, if_false]
    refine awp_seq_k fun K hK => awp_region [] ?_
    simp only [qq, K_eqs, Nat.reduceLT, K_ops, reduceCtorEq, Nat.reduceEqDiff, aun, Bool.not_true, gval, gslot, Option.bind_some, gdec_eqs, Bool.not_false, K_gT, gok, K_call, Nat.reduceAdd, K_clo, aviews, aview, ntok]
    refine andC_eq (by simp [norefs, noref, hn, hn']) (cE _ _) rfl ?_
    by_cases hq : l' = l
    · have e : decide (l' = l) = true := decide_eq_true hq
      simp only [qq, e, RestC_eqs, gval, gslot, Option.bind_some, K_ops, Nat.reduceEqDiff, reduceCtorEq, gdec_eqs, Bool.not_false, K_gT, gok, Nat.reduceLT, K_eqs, aun, Bool.not_true, apick, cav, K_nil, Then]
      refine hK _ ?_
      clear hK K
      refine awp_condF rfl (awp_skip (hK1 _ ?_))
      clear hK1 K1 nope
      refine awp_keep [3] ?_
      simp only [keep_eqs, K_ops, Nat.reduceEqDiff, if_true, if_false]
      refine awp_seq_k fun K hK => awp_region [] ?_
      simp only [qq, K_eqs, Nat.reduceLT, K_ops, Nat.reduceEqDiff, K_nil, Then]
      (repeat' apply And.intro) <;> try (first | exact True.intro | omega)
      refine hK _ ?_
      clear hK K
      refine awp_keep [2] ?_
      simp only [keep_eqs, K_ops, Nat.reduceEqDiff, if_true, if_false]
      refine awp_ret ?_
      simp only [qq, K_fin, ares, aress, ares1, afin, K_ops, noref]
      unfold lexJoin
      rw [hS, hF, hq, if_pos rfl]
    · have e : decide (l' = l) = false := decide_eq_false hq
      simp only [qq, e, RestC_eqs, gval, gslot, Option.bind_some, K_ops, Nat.reduceEqDiff, reduceCtorEq, gdec_eqs, Bool.not_false, K_gT, gok, Nat.reduceLT, K_eqs, aun, apick, cav, K_nil, Then]
      refine hK _ ?_
      clear hK K
      refine awp_condT rfl ?_
      exact nope _ (by rw [hF]; intro h; injection h with h; exact hq h) rfl rfl
def PD (k : Int) (t : Nat) (n : Nat) (cs : List AV) (q : Perm) (pa : List UInt8) (M : List AV) : List AV := .val (.int .i64 k) :: .val (.int .u64 (t : Int)) :: .sl n cs q :: str pa :: M

structure MF (M : List AV) (N : List AV) (c : Nat) : Prop where
  eq : M = N ++ [.val (.float .f64 c)]
  len : N.length = 18
  ones : N.all oneC = true
  nor : norefs N = true

theorem wordsop_ok [Gv] (t : Nat) (l : List (List UInt8)) (q : Perm) (hq : notok q = true) (pa : List UInt8) (M N : List AV) (c : Nat) (hM : MF M N c) (hl : l.length ≤ 200000) (hj : (Lib.join l [44]).length ≤ 200000) :
    ACalls Tryz.prog GP 53 [.ptr 0 0] [.cells (PD 3 t l.length (strs l) q pa M)] (fun r os => os = [.cells (PD 3 t 0 [] .full pa M)] ∧ r = .tup [str [111, 112], str (lexJoin l)]) := by
  have cJ := fun q => ljoin_ok l q hl hj
  have hn := norefs_strs l
  have hMl : M.length = 19 := by rw [hM.eq]; simp [hM.len]
  have hMo : M.all oneC = true := by rw [hM.eq, List.all_append, hM.ones]; rfl
  have hMn : norefs M = true := by rw [hM.eq, norefs_append, hM.nor]; rfl
  have hMt : M.take 19 = M := List.take_of_length_le (by omega)
  have hMd : M.drop 19 = [] := List.drop_eq_nil_of_le (by omega)
  simp only [str, PD] at *
  refine acallsG_of_awp Tryz.func53 rfl rfl Tryz.ntmps53 (rts := #[9,9]) rfl Tryz.results53 (by simp) ?_
  simp only [argSlots, Nat.reduceAdd]
  refine awp_seq_k fun K hK => awp_region [] ?_
  simp only [qq, K_eqs, Nat.reduceLT, K_ops, cav, K_nil, Then]
  (repeat' apply And.intro) <;> try (first | exact True.intro | omega)
  refine hK _ ?_
  clear hK K
  refine awp_keep [0, 2, 3] ?_
  simp only [keep_eqs, K_ops, Nat.reduceEqDiff, if_true, if_false]
  refine awp_seq_k fun K hK => awp_region [] ?_
  simp only [qq, K_eqs, Nat.reduceLT, K_ops, reduceCtorEq, anil, Nat.reduceEqDiff, aload, apart, isAggD, Tryz.underlying81, tszs, aalloc, tzeros, cav, K_store, astore, acells, spl, K_nil, Then, Nat.reduceAdd, hMl, hMt, List.all_cons, oneC, Value.oneCell', hMo, List.drop_nil]
  refine hK _ ?_
  clear hK K
  refine awp_keep [0, 2, 3, 4] ?_
  simp only [keep_eqs, K_ops, Nat.reduceEqDiff, if_true, if_false]
  refine awp_seq_k fun K1 hK1 => ?_
  refine awp_seq ?_
  refine awp_region [] ?_
  simp only [qq, K_eqs, Nat.reduceLT, K_ops, reduceCtorEq, anil, Nat.reduceEqDiff, afieldAddr, Tryz.underlying81, tszs, ne_eq, aload, apart, isAggD, Tryz.underlying3, K_nil, Then, hMl, Nat.reduceAdd]
  refine awp_block ?_
  refine awp_seq_k fun K2 hK2 => ?_
  refine awp_seq ?_
  refine awp_region [] ?_
  simp only [qq, K_eqs, K_ops, Nat.reduceEqDiff, reduceCtorEq, cav, K_binC, K_int, aint, Int.reduceBEq, Nat.reduceLT, K_nil, Then]
  refine awp_condF rfl ?_
  refine awp_region [] ?_
  simp only [qq, K_eqs, K_ops, Nat.reduceEqDiff, reduceCtorEq, cav, K_binC, K_int, aint, Int.reduceBEq, Nat.reduceLT, K_nil, Then]
  refine hK2 _ ?_
  clear hK2 K2
  refine awp_condF rfl ?_
  refine awp_seq ?_
  refine awp_region [] ?_
  simp only [qq, K_eqs, K_ops, Nat.reduceEqDiff, reduceCtorEq, cav, K_binC, K_int, aint, beq_self_eq_true, Nat.reduceLT, K_nil, Then]
  refine awp_condT rfl ?_
  refine awp_keep [0, 4] ?_
  simp only [keep_eqs, K_ops, Nat.reduceEqDiff, if_true, if_false]
  refine awp_region [] ?_
  simp only [qq, K_eqs, Nat.reduceLT, K_ops, reduceCtorEq, afieldAddr, Tryz.underlying81, tszs, Nat.reduceEqDiff, ne_eq, aload, apart, isAggD, Tryz.underlying43, K_call, Nat.reduceAdd, K_clo, aviews, aview, ntok, List.headD_cons, hMl, List.getD_cons_succ]
  refine andC_eq hn (cJ _) (by simp [noref]) ?_
  simp only [qq, RestC_eqs, K_eqs, Nat.reduceLT, K_ops, cav, Nat.reduceEqDiff, reduceCtorEq, anil, afieldAddr, Tryz.underlying81, tszs, ne_eq, K_store, astore, acells, List.all_cons, oneC, List.all_nil, spl, K_nil, Nat.reduceAdd, hMl, Nat.reduceLeDiff]
  simp only [InBlock, Then]
  refine hK1 _ ?_
  clear hK1 K1
  refine awp_keep [2, 3] ?_
  simp only [keep_eqs, K_ops, Nat.reduceEqDiff, if_true, if_false]
  refine awp_seq_k fun K hK => awp_region [] ?_
  simp only [qq, K_eqs, Nat.reduceLT, K_ops, Nat.reduceEqDiff, K_nil, Then]
  (repeat' apply And.intro) <;> try (first | exact True.intro | omega)
  refine hK _ ?_
  clear hK K
  refine awp_keep [2, 3] ?_
  simp only [keep_eqs, K_ops, Nat.reduceEqDiff, if_true, if_false]
  refine awp_ret ?_
  refine FinG_all (by simp) ?_ ?_
  · intro o ho
    simp only [List.take_succ_cons, List.take_zero, List.mem_cons, List.not_mem_nil, or_false, List.length_cons, List.length_nil] at ho
    subst ho
    simp [refO, refs, ref, refP, refs_noref _ _ hMn]
  simp only [qq, andO, aresN, aresNs, aresN1, K_ops, Nat.reduceEqDiff]
  rfl
theorem run113 [Gv] (c : Nat) (w : World) : (callFunc 113 #[.float .f64 c]).run Tryz.prog w = .ok (.value (.int .u64 (c : Int))) w := by
  have h : Tryz.prog.funcs[113]? = some Tryz.f113 := Tryz.func113
  have hb : Tryz.f113.body = none := rfl
  have h1 : Extern.findNext Tryz.f113 = none := by rfl
  have h2 : Extern.find Tryz.f113 = some Extern.MathFloatBits.float64bits := by rfl
  have h3 : Extern.MathFloatBits.float64bits #[.float .f64 c] = pure (.int .u64 (c : Int)) := rfl
  have hn' : Tryz.f113.name ≠ "runtime.NumGoroutine" := by decide
  unfold callFunc
  simp [h, hb, h1, h2, h3, hn']
theorem run45 [Gv] (c : Nat) (w : World) : (callFunc 45 #[.int .u64 (c : Int)]).run Tryz.prog w = .ok (.value (.float .f64 c)) w := by
  have h : Tryz.prog.funcs[45]? = some Tryz.f45 := Tryz.func45
  have hb : Tryz.f45.body = none := rfl
  have h1 : Extern.findNext Tryz.f45 = none := by rfl
  have h2 : Extern.find Tryz.f45 = some Extern.MathFloatBits.float64frombits := by rfl
  have h3 : Extern.MathFloatBits.float64frombits #[.int .u64 (c : Int)] = pure (.float .f64 c) := rfl
  have hn' : Tryz.f45.name ≠ "runtime.NumGoroutine" := by decide
  unfold callFunc
  simp [h, hb, h1, h2, h3, hn']
theorem fbits_ok [Gv] (c : Nat) : AExt Tryz.prog 113 [.val (.float .f64 c)] (.int .u64 (c : Int)) := fun E vs hl => by
  simp only [RepL, RepV] at hl
  obtain ⟨_, _, rfl, rfl, rfl⟩ := hl
  exact run113 c E.w
theorem ffrom_ok [Gv] (c : Nat) : AExt Tryz.prog 45 [.val (.int .u64 (c : Int))] (.float .f64 c) := fun E vs hl => by
  simp only [RepL, RepV] at hl
  obtain ⟨_, _, rfl, rfl, rfl⟩ := hl
  exact run45 c E.w


def NT (v6 : Bool) (b : List UInt8) (bits : Int) : List AV := .val (.bool v6) :: (Bs b ++ [.val (.int .i64 bits)])
theorem NT_length [Gv] (v6 : Bool) (b : List UInt8) (bits : Int) (hb : b.length = 16) : (NT v6 b bits).length = 18 := by simp [NT, Bs_length, hb]
theorem NT_one [Gv] (v6 : Bool) (b : List UInt8) (bits : Int) : (NT v6 b bits).all oneC = true := by simp [NT, Bs_one, oneC, Value.oneCell']
theorem NT_nor [Gv] (v6 : Bool) (b : List UInt8) (bits : Int) : norefs (NT v6 b bits) = true := by simp [NT, norefs, noref, norefs_append, Go.V.norefs_Bs]
theorem aggEq_NT [Gv] (v6 v6' : Bool) (b b' : List UInt8) (bits bits' : Int) (hb : b.length = 16) (hb' : b'.length = 16) : aggEq (NT v6 b bits) (NT v6' b' bits') = ((v6 == v6') && ((b == b') && (bits == bits'))) := by
  unfold NT
  rw [aggEq, aggEq_append _ _ _ _ (by rw [Bs_length, Bs_length]; omega), aggEq_Bs]
  simp [aggEq, cellEq]
theorem netcmp [Gv] (v6 v6' : Bool) (b b' : List UInt8) (bits bits' : Int) (hb : b.length = 16) (hb' : b'.length = 16) : deepT Tryz.prog 10 79 (NT v6 b bits) (NT v6' b' bits') = true := by
  have h2 := all2_Bs (P := Tryz.prog) (e := 5) Tryz.underlying5 b b' (by omega)
  have e1 : ∀ (x : AV) (b : List UInt8), b.length = 16 → (Bs b ++ [x]).take 16 = Bs b := fun x b hb => by
    have : (Bs b).length = 16 := by rw [Bs_length, hb]
    rw [← this]; simp
  have e2 : ∀ (x : AV) (b : List UInt8), b.length = 16 → (Bs b ++ [x]).drop 16 = [x] := fun x b hb => by
    have : (Bs b).length = 16 := by rw [Bs_length, hb]
    rw [← this]; simp
  have e3 : ∀ (b : List UInt8), b.length = 16 → (Bs b).take 16 = Bs b := fun b hb => List.take_of_length_le (by rw [Bs_length, hb]; exact Nat.le_refl _)
  have hArr : ∀ d, deepT Tryz.prog (d + 1) 24 (Bs b) (Bs b') = true := fun d => by
    unfold deepT
    rw [Tryz.underlying24]
    simp [tszs, h2, Bs_length, hb]
  have hBool : ∀ d, deepT Tryz.prog (d + 1) 4 [.val (.bool v6)] [.val (.bool v6')] = true := fun d => by
    unfold deepT
    rw [Tryz.underlying4]
    simp [cellT, Tryz.underlying4]
  have hInt : ∀ d, deepT Tryz.prog (d + 1) 3 [.val (.int .i64 bits)] [.val (.int .i64 bits')] = true := fun d => by
    unfold deepT
    rw [Tryz.underlying3]
    simp [cellT, Tryz.underlying3]
  have hAddr : ∀ d, deepT Tryz.prog (d + 2) 26 (.val (.bool v6) :: Bs b) (.val (.bool v6') :: Bs b') = true := fun d => by
    unfold deepT
    rw [Tryz.underlying26]
    simp [deepF, tszs, tstds, hArr, hBool, Bs_length, hb, hb', e3 _ hb, e3 _ hb', List.drop_eq_nil_of_le]
  unfold deepT
  rw [Tryz.underlying79]
  simp [deepF, tszs, tstds, hAddr, hInt, NT, e1 _ _ hb, e1 _ _ hb', e2 _ _ hb, e2 _ _ hb', Bs_length, hb, hb']

theorem same_ok [Gv] (k k' : Int) (t t' : Nat) (l l' : List (List UInt8)) (q q' : Perm) (hq : notok q = true) (hq' : notok q' = true) (pa pa' : List UInt8) (v6 v6' : Bool) (b b' : List UInt8) (bits bits' : Int) (c c' : Nat) (hb : b.length = 16) (hb' : b'.length = 16)
    (hl : l.length ≤ 200000) (hl' : l'.length ≤ 200000) :
    ACalls Tryz.prog GP 54 [.agg (PD k t l.length (strs l) q pa (NT v6 b bits ++ [.val (.float .f64 c)])), .agg (PD k' t' l'.length (strs l') q' pa' (NT v6' b' bits' ++ [.val (.float .f64 c')]))] []
      (fun r os => os = [] ∧ r = .val (.bool ((k == k') && ((t == t') && (decide (l = l') && ((pa == pa') && (((v6 == v6') && ((b == b') && (bits == bits'))) && (c == c')))))))) := by
  have cE := fun q q' => strsEq_ok l l' q q' (by omega) (by omega)
  have cF := fbits_ok c
  have cF' := fbits_ok c'
  have hn := norefs_strs l
  have hn' := norefs_strs l'
  have hcmp := netcmp v6 v6' b b' bits bits' hb hb'
  have hagg := aggEq_NT v6 v6' b b' bits bits' hb hb'
  have h1 := NT_length v6 b bits hb
  have h1' := NT_length v6' b' bits' hb'
  have h2 := NT_one v6 b bits
  have h2' := NT_one v6' b' bits'
  have h3 := NT_nor v6 b bits
  have h3' := NT_nor v6' b' bits'
  generalize NT v6 b bits = N at *
  generalize NT v6' b' bits' = N' at *
  generalize hnet : ((v6 == v6') && ((b == b') && (bits == bits'))) = net at *
  have eo : (N ++ [.val (.float .f64 c)] : List AV).all oneC = true := by rw [List.all_append, h2]; rfl
  have eo' : (N' ++ [.val (.float .f64 c')] : List AV).all oneC = true := by rw [List.all_append, h2']; rfl
  have el : (N ++ [.val (.float .f64 c)] : List AV).length = 19 := by simp [h1]
  have el' : (N' ++ [.val (.float .f64 c')] : List AV).length = 19 := by simp [h1']
  have et : (N ++ [.val (.float .f64 c)] : List AV).take 18 = N := by rw [← h1]; simp
  have et' : (N' ++ [.val (.float .f64 c')] : List AV).take 18 = N' := by rw [← h1']; simp
  have eg : (N ++ [.val (.float .f64 c)] : List AV).getD 18 .top = .val (.float .f64 c) := by rw [← h1]; simp
  have eg' : (N' ++ [.val (.float .f64 c')] : List AV).getD 18 .top = .val (.float .f64 c') := by rw [← h1']; simp
  generalize (N ++ [.val (.float .f64 c)] : List AV) = M at *
  generalize (N' ++ [.val (.float .f64 c')] : List AV) = M' at *
  simp only [str, PD] at *
  refine acalls_of_awp Tryz.func54 rfl rfl Tryz.ntmps54 (rts := #[4]) rfl Tryz.results54 (by simp) ?_
  simp only [argSlots, Nat.reduceAdd]
  refine awp_seq_k fun K hK => awp_region [] ?_
  simp only [qq, K_eqs, aboxF, acells, K_ops, reduceCtorEq, List.all_cons, oneC, Value.oneCell', eo, abox, Nat.reduceLT, Nat.reduceEqDiff, eo', cav, K_nil, Then]
  (repeat' apply And.intro) <;> try (first | exact True.intro | omega)
  refine hK _ ?_
  clear hK K
  refine awp_keep [2, 3, 4] ?_
  simp only [keep_eqs, K_ops, Nat.reduceEqDiff, if_true, if_false]
  refine awp_seq_k fun K hK => ?_
  have fin : ∀ st (r : Bool), r = ((k == k') && ((t == t') && (decide (l = l') && ((pa == pa') && (net && (c == c')))))) → lk st.slots 4 = .val (.bool r) → st.nt = 47 → K st := by
    rintro ⟨nt, sl, os⟩ r hr h4 hnt
    simp only at h4 hnt
    subst hnt
    refine hK _ ?_
    refine awp_keep [4] ?_
    simp only [keep_eqs, h4]
    refine awp_ret ?_
    simp only [qq, K_fin, ares, aress, ares1, afin, K_ops, noref]
    rw [hr]
  refine awp_draw [] (by kernel_rfl) (by kernel_rfl) ?_
  by_cases q1 : k = k'
  case neg =>
    have q1' : (k == k') = false := beq_eq_false_iff_ne.2 q1
    simp only [qq, q1', K_eqs, afieldAddr, Tryz.underlying81, tszs, K_ops, Nat.reduceEqDiff, ne_eq, reduceCtorEq, Nat.reduceLT, aload, apart, isAggD, Tryz.underlying3, K_binC, el', Nat.reduceAdd, el, K_int, aint, gval, gslot, Option.bind_some, gdec_eqs, Bool.not_true, K_gF, gok, apick, cav, K_nil, Then]
    refine fin _ false (by simp [q1']) rfl rfl
  have q1' : (k == k') = true := beq_iff_eq.2 q1
  by_cases q2 : t = t'
  case neg =>
    have q2' : (t == t') = false := beq_eq_false_iff_ne.2 q2
    have q2i : (((t : Nat) : Int) == ((t' : Nat) : Int)) = false := beq_eq_false_iff_ne.2 (by omega)
    simp only [qq, q1', q2', Bool.true_and, K_eqs, afieldAddr, Tryz.underlying81, tszs, K_ops, Nat.reduceEqDiff, ne_eq, reduceCtorEq, Nat.reduceLT, aload, apart, isAggD, Tryz.underlying3, K_binC, el', Nat.reduceAdd, el, K_int, aint, gval, gslot, Option.bind_some, gdec_eqs, K_gT, gok, Tryz.underlying30, apick, cav, List.getD_cons_succ, q2i, Bool.not_true, K_gF, K_nil, Then]
    refine fin _ false (by simp [q1', q2']) rfl rfl
  have q2' : (t == t') = true := beq_iff_eq.2 q2
  have q2i : (((t : Nat) : Int) == ((t' : Nat) : Int)) = true := beq_iff_eq.2 (by omega)
  simp only [qq, q1', q2', Bool.true_and, K_eqs, afieldAddr, Tryz.underlying81, tszs, K_ops, Nat.reduceEqDiff, ne_eq, reduceCtorEq, Nat.reduceLT, aload, apart, isAggD, Tryz.underlying3, K_binC, el', Nat.reduceAdd, el, K_int, aint, gval, gslot, Option.bind_some, gdec_eqs, K_gT, gok, Tryz.underlying30, apick, cav, List.getD_cons_succ, q2i, Tryz.underlying43, K_call, K_clo, aviews, aview, ntok, List.headD_cons, List.tail_cons]
  refine andC_eq (by simp [norefs, noref, hn, hn']) (cE _ _) rfl ?_
  by_cases q3 : l = l'
  case neg =>
    have q3' : decide (l = l') = false := decide_eq_false q3
    simp only [qq, q3', RestC_eqs, K_eqs, apick, K_ops, Nat.reduceEqDiff, cav, Nat.reduceLT, gval, gslot, Option.bind_some, gdec_eqs, Bool.not_true, K_gF, gok, K_nil, Then]
    refine fin _ false (by simp [q1', q2', q3']) rfl rfl
  have q3' : decide (l = l') = true := decide_eq_true q3
  by_cases q4 : pa = pa'
  case neg =>
    have q4' : (pa == pa') = false := beq_eq_false_iff_ne.2 q4
    simp only [qq, q3', q4', Bool.true_and, RestC_eqs, K_eqs, apick, K_ops, Nat.reduceEqDiff, cav, Nat.reduceLT, gval, gslot, Option.bind_some, gdec_eqs, K_gT, gok, afieldAddr, Tryz.underlying81, tszs, ne_eq, reduceCtorEq, aload, apart, isAggD, Tryz.underlying9, K_binC, el', Nat.reduceAdd, List.getD_cons_succ, el, K_int, astr, ByteArray.toList_mk, Bool.not_true, K_gF, K_nil, Then]
    refine fin _ false (by simp [q1', q2', q3', q4']) rfl rfl
  have q4' : (pa == pa') = true := beq_iff_eq.2 q4
  simp only [qq, q3', q4', Bool.true_and, RestC_eqs, K_eqs, apick, K_ops, Nat.reduceEqDiff, cav, Nat.reduceLT, gval, gslot, Option.bind_some, gdec_eqs, K_gT, gok, afieldAddr, Tryz.underlying81, tszs, ne_eq, reduceCtorEq, aload, apart, isAggD, Tryz.underlying9, K_binC, el', Nat.reduceAdd, List.getD_cons_succ, el, K_int, astr, ByteArray.toList_mk, Tryz.underlying79, Nat.reduceLeDiff, et', et, aagg, aggCmp, tgrds, tstds, hagg]
  refine ⟨.inr ?_, ?_⟩
  · have hcmp' := hcmp
    unfold deepT at hcmp'
    rw [Tryz.underlying79] at hcmp'
    simp only [Bool.and_eq_true] at hcmp'
    exact hcmp'.2
  have q5 : net = true ∨ net = false := by cases net <;> simp
  rcases q5 with rfl | rfl
  case inr =>
    simp only [qq, gval, gslot, Option.bind_some, K_ops, Nat.reduceEqDiff, gdec_eqs, Bool.not_true, K_gF, gok, Nat.reduceLT, K_eqs, apick, cav, K_nil, Then]
    refine fin _ false (by simp [q1', q2', q3', q4']) rfl rfl
  simp only [qq, Bool.true_and, gval, gslot, Option.bind_some, K_ops, Nat.reduceEqDiff, gdec_eqs, K_gT, gok, Nat.reduceLT, K_eqs, afieldAddr, Tryz.underlying81, tszs, ne_eq, reduceCtorEq, aload, apart, isAggD, Tryz.underlying27, K_call, Nat.reduceAdd, K_clo, aviews, aview, ntok, List.headD_cons, el, List.getD_cons_succ, eg, noref]
  refine andC_ext (by simp [norefs, noref]) cF ?_
  simp only [qq, RestC_eqs, gval, gslot, Option.bind_some, K_ops, Nat.reduceEqDiff, gdec_eqs, K_gT, gok, Nat.reduceLT, K_eqs, afieldAddr, Tryz.underlying81, tszs, ne_eq, reduceCtorEq, aload, apart, isAggD, Tryz.underlying27, K_call, Nat.reduceAdd, K_clo, aviews, aview, ntok, List.headD_cons, el', List.getD_cons_succ, eg', noref]
  refine andC_ext (by simp [norefs, noref]) cF' ?_
  simp only [qq, RestC_eqs, gval, gslot, Option.bind_some, K_ops, Nat.reduceEqDiff, gdec_eqs, K_gT, gok, Nat.reduceLT, K_eqs, K_binC, K_int, aint, apick, cav, K_nil, Then]
  have q6 : (((c : Nat) : Int) == ((c' : Nat) : Int)) = (c == c') := by
    rw [Bool.eq_iff_iff]
    simp only [beq_iff_eq]
    omega
  simp only [q6]
  refine fin _ (c == c') (by simp [q1', q2', q3', q4']) rfl rfl
structure PV where
  kind : Int
  time : Nat
  names : List (List UInt8)
  path : List UInt8
  v6 : Bool
  addr : List UInt8
  bits : Int
  cost : Nat
def PA (p : PV) (q : Perm) : List AV := PD p.kind p.time p.names.length (strs p.names) q p.path (NT p.v6 p.addr p.bits ++ [.val (.float .f64 p.cost)])
def onlyK (k : Int) : PV := ⟨k, 0, [], [], false, Z 16, 0, 0⟩
def sameP (a b : PV) : Bool := (a.kind == b.kind) && ((a.time == b.time) && (decide (a.names = b.names) && ((a.path == b.path) && (((a.v6 == b.v6) && ((a.addr == b.addr) && (a.bits == b.bits))) && (a.cost == b.cost)))))
def smallP (p : PV) : Prop := p.addr.length = 16 ∧ p.names.length ≤ 200000 ∧ (Lib.join p.names [44]).length ≤ 200000 ∧ p.path.length ≤ 200000

theorem PA_length [Gv] (p : PV) (q : Perm) (h : p.addr.length = 16) : (PA p q).length = 23 := by simp [PA, PD, NT, Bs_length, h]
theorem PA_one [Gv] (p : PV) (q : Perm) : (PA p q).all oneC = true := by
  simp [PA, PD, NT, Bs_one, oneC, Value.oneCell', str]
theorem PA_nor [Gv] (p : PV) (q : Perm) (hq : notok q = true) : norefs (PA p q) = true := by
  have := norefs_strs p.names
  cases q <;> simp_all [PA, PD, NT, norefs, noref, norefs_append, Go.V.norefs_Bs, str, notok]
theorem PA_kind [Gv] (p : PV) (q : Perm) : (PA p q).getD 0 .top = .val (.int .i64 p.kind) := rfl

theorem psame_ok [Gv] (a b : PV) (q q' : Perm) (hq : notok q = true) (hq' : notok q' = true) (ha : smallP a) (hb : smallP b) : ACalls Tryz.prog GP 54 [.agg (PA a q), .agg (PA b q')] [] (fun r os => os = [] ∧ r = .val (.bool (sameP a b))) :=
  same_ok _ _ _ _ _ _ _ _ hq hq' _ _ _ _ _ _ _ _ _ _ ha.1 hb.1 ha.2.1 hb.2.1

theorem small_onlyK [Gv] (k : Int) : smallP (onlyK k) := ⟨rfl, by simp [onlyK], by simp [onlyK, Lib.join_nil], by simp [onlyK]⟩

def textW (w x : List UInt8) (s : Bool) : List UInt8 := if x = [] ∨ 512 < (w ++ 32 :: x).length ∨ s = false then [] else w ++ 32 :: x

theorem ctext_ok [Gv] (p p' : PV) (q q' : Perm) (hq : notok q = true) (hq' : notok q' = true) (hp : smallP p) (hp' : smallP p') (w x : List UInt8) (hw : w.length ≤ 20) (hx : x.length ≤ 300000)
    (hW : ACalls Tryz.prog GP 53 [.ptr 0 0] [.cells (PA p q)] (fun r os => os = [.cells (PA p' q')] ∧ r = .tup [str w, str x])) :
    ACalls Tryz.prog GP 22 [.agg (PA p q)] [] (fun r os => os = [] ∧ r = str (textW w x (sameP p' (onlyK p.kind)))) := by
  have cS := psame_ok p' (onlyK p.kind) q' .full hq' rfl hp' (small_onlyK _)
  have h1 := PA_length p q hp.1
  have h2 := PA_one p q
  have h3 := PA_nor p q hq
  have h4 := PA_kind p q
  have g1 := PA_length p' q' hp'.1
  have g2 := PA_one p' q'
  have g3 := PA_nor p' q' hq'
  have gt : (PA p' q').take 23 = PA p' q' := List.take_of_length_le (by omega)
  generalize hsm : sameP p' (onlyK p.kind) = sm at *
  generalize p.kind = k at *
  generalize PA p q = P at *
  generalize PA p' q' = P' at *
  simp only [str] at *
  refine acalls_of_awp Tryz.func22 rfl rfl Tryz.ntmps22 (rts := #[9]) rfl Tryz.results22 (by simp) ?_
  simp only [argSlots, Nat.reduceAdd]
  refine awp_seq_k fun K hK => awp_region [] ?_
  simp only [qq, K_eqs, aboxF, acells, K_ops, h2, abox, Nat.reduceLT, cav, K_nil, Then]
  (repeat' apply And.intro) <;> try (first | exact True.intro | omega)
  refine hK _ ?_
  clear hK K
  refine awp_keep [1, 2] ?_
  simp only [keep_eqs, K_ops, Nat.reduceEqDiff, if_true, if_false]
  refine awp_seq_k fun K hK => awp_region [] ?_
  simp only [qq, K_eqs, afieldAddr, Tryz.underlying81, tszs, K_ops, Nat.reduceEqDiff, ne_eq, reduceCtorEq, Nat.reduceLT, aload, apart, isAggD, Tryz.underlying3, K_nil, Then, h1, h4]
  (repeat' apply And.intro) <;> try (first | exact True.intro | omega)
  refine hK _ ?_
  clear hK K
  refine awp_keep [1, 2, 3] ?_
  simp only [keep_eqs, K_ops, Nat.reduceEqDiff, if_true, if_false]
  refine awp_seq_k fun K hK => awp_region [1000010] ?_
  simp only [qq, K_call, Nat.reduceLT, Nat.reduceAdd, List.contains_cons, beq_self_eq_true, K_ops, Nat.reduceEqDiff, K_clo, Nat.reduceBEq, aviews, aview]
  have hr1 : ∀ o ∈ [AObj.cells P], refO (fun r => decide (r < [AObj.cells P].length)) o = true := fun o ho => by
    simp only [List.mem_cons, List.not_mem_nil, or_false] at ho
    subst ho
    exact refs_noref _ _ h3
  have hr2 : ∀ o ∈ [AObj.cells P'], refO (fun r => decide (r < [AObj.cells P].length)) o = true := fun o ho => by
    simp only [List.mem_cons, List.not_mem_nil, or_false] at ho
    subst ho
    exact refs_noref _ _ g3
  refine andH_range (objs := [.cells P]) (rest := []) [129] hr1 rfl (by simp) hW rfl hr2 rfl ?_
  simp only [qq, RestH_eqs, K_eqs, Nat.reduceLT, K_ops, Nat.reduceEqDiff, aext, K_nil, Then]
  refine hK _ ?_
  clear hK K
  refine awp_keep [1, 2, 3, 4, 5] ?_
  simp only [keep_eqs, K_ops, Nat.reduceEqDiff, if_true, if_false]
  have hsz : ∀ l : List UInt8, ((⟨l.toArray⟩ : ByteArray).size : Int) = (l.length : Int) := fun l => by simp [ByteArray.size]
  have hcat : (⟨w.toArray⟩ : ByteArray) ++ ⟨#[32]⟩ ++ ⟨x.toArray⟩ = ⟨(w ++ 32 :: x).toArray⟩ := by
    apply ByteArray.ext
    simp
  refine awp_seq_k fun K hK => awp_region [] ?_
  simp only [qq, K_eqs, Nat.reduceLT, K_ops, Nat.reduceEqDiff, cav, K_binC, K_int, astr, ba_size, K_nil, Then]
  have hsz2 : ((⟨w.toArray⟩ : ByteArray) ++ ⟨#[32]⟩).size = w.length + 1 := by simp [ByteArray.size]
  rw [hsz2, hcat]
  refine ⟨by omega, by omega, hK _ ?_⟩
  clear hK K
  refine awp_keep [1, 2, 3, 5, 6] ?_
  simp only [keep_eqs, K_ops, Nat.reduceEqDiff, if_true, if_false]
  have hlen : (w ++ 32 :: x).length = w.length + (x.length + 1) := by simp
  refine awp_seq_k fun K1 hK1 => ?_
  refine awp_seq_k fun K hK => ?_
  have nope : ∀ st, textW w x sm = [] → lk st.slots 30 = .val (.bool true) → st.nt = 32 → st.objs = [.cells P'] → K st := by
    rintro ⟨nt, sl, os⟩ hw h30 hnt hos
    simp only at h30 hnt hos
    subst hnt hos
    refine hK _ ?_
    refine awp_condT h30 ?_
    refine awp_keep [] ?_
    simp only [keep_eqs]
    refine awp_seq_k fun K hK => awp_region [] ?_
    simp only [qq, K_eqs, Nat.reduceLT, K_ops, cav, K_nil, Then]
    (repeat' apply And.intro) <;> try (first | exact True.intro | omega)
    refine hK _ ?_
    clear hK K
    refine awp_keep [2] ?_
    simp only [keep_eqs, K_ops, Nat.reduceEqDiff, if_true, if_false]
    refine awp_ret ?_
    simp only [Then, InBlock]
    simp only [qq, K_fin, ares, aress, ares1, afin, K_ops, noref]
    rw [hw]
  have yes : ∀ st, textW w x sm = w ++ 32 :: x → lk st.slots 30 = .val (.bool false) → lk st.slots 6 = .val (.string ⟨(w ++ 32 :: x).toArray⟩) → st.nt = 32 → st.objs = [.cells P'] → K st := by
    rintro ⟨nt, sl, os⟩ hw h30 h6 hnt hos
    simp only at h30 hnt hos h6
    subst hnt hos
    refine hK _ ?_
    refine awp_condF h30 (awp_skip (hK1 _ ?_))
    refine awp_keep [6] ?_
    simp only [keep_eqs, h6]
    refine awp_seq_k fun K hK => awp_region [] ?_
    simp only [qq, K_eqs, Nat.reduceLT, K_ops, Nat.reduceEqDiff, K_nil, Then]
    (repeat' apply And.intro) <;> try (first | exact True.intro | omega)
    refine hK _ ?_
    clear hK K
    refine awp_keep [2] ?_
    simp only [keep_eqs, K_ops, Nat.reduceEqDiff, if_true, if_false]
    refine awp_ret ?_
    simp only [qq, K_fin, ares, aress, ares1, afin, K_ops, noref]
    rw [hw]
  by_cases x0 : x = []
  · have x0' : (x == []) = true := beq_iff_eq.2 x0
    refine awp_region [] ?_
    simp only [qq, K_eqs, Nat.reduceLT, K_ops, Nat.reduceEqDiff, cav, K_binC, K_int, astr, ByteArray.toList_mk, x0', gval, gslot, Option.bind_some, gdec_eqs, K_gF, gok, apick, K_nil, Then]
    exact nope _ (by simp [textW, x0]) rfl rfl rfl
  have x0' : (x == []) = false := beq_eq_false_iff_ne.2 x0
  by_cases hl : 512 < (w ++ 32 :: x).length
  · have hl' : decide (((w ++ 32 :: x).length : Int) > 512) = true := decide_eq_true (by omega)
    refine awp_region [] ?_
    simp only [qq, K_eqs, Nat.reduceLT, K_ops, Nat.reduceEqDiff, cav, K_binC, K_int, astr, ByteArray.toList_mk, x0', gval, gslot, Option.bind_some, gdec_eqs, Bool.not_false, K_gT, gok, abuiltin, amaplen, alen, Tryz.underlying9, ba_size, apick, aint, hl', K_gF, K_nil, Then]
    exact nope _ (by unfold textW; rw [if_pos (.inr (.inl hl))]) rfl rfl rfl
  have hl' : decide (((w ++ 32 :: x).length : Int) > 512) = false := decide_eq_false (by omega)
  have hz : ∀ k, ([.val (.int .i64 k), .val (.int .u64 0), .sl 0 [] .full, .val (.string ⟨#[]⟩), .val (.bool false), .val (.int .u8 0), .val (.int .u8 0), .val (.int .u8 0), .val (.int .u8 0), .val (.int .u8 0), .val (.int .u8 0), .val (.int .u8 0), .val (.int .u8 0), .val (.int .u8 0), .val (.int .u8 0), .val (.int .u8 0), .val (.int .u8 0), .val (.int .u8 0), .val (.int .u8 0), .val (.int .u8 0), .val (.int .u8 0), .val (.int .i64 0), .val (.float .f64 0)] : List AV) = PA (onlyK k) .full := fun k => rfl
  refine awp_region [] ?_
  simp only [qq, K_eqs, Nat.reduceLT, K_ops, Nat.reduceEqDiff, cav, K_binC, K_int, astr, ByteArray.toList_mk, x0', gval, gslot, Option.bind_some, gdec_eqs, Bool.not_false, K_gT, gok, abuiltin, amaplen, alen, Tryz.underlying9, ba_size, apick, aint, hl', aload, apart, isAggD, Tryz.underlying81, tszs, g1, gt, abuild, tzeros, tsfs, aparts, afill, spl, acells, Nat.reduceAdd, Nat.reduceLeDiff, List.all_cons, oneC, Value.oneCell', List.all_nil, K_call, K_clo, aviews, aview, ntok, List.headD_cons, List.tail_cons, noref, norefs]
  rw [hz]
  refine andC_eq g3 cS rfl ?_
  cases hs : sm with
  | false =>
    subst hs
    simp only [qq, RestC_eqs, gval, gslot, Option.bind_some, K_ops, Nat.reduceEqDiff, gdec_eqs, Bool.not_false, K_gT, gok, Nat.reduceLT, K_eqs, aun, apick, cav, K_nil, Then]
    exact nope _ (by unfold textW; rw [if_pos (.inr (.inr rfl))]) rfl rfl rfl
  | true =>
    subst hs
    simp only [qq, RestC_eqs, gval, gslot, Option.bind_some, K_ops, Nat.reduceEqDiff, gdec_eqs, Bool.not_false, K_gT, gok, Nat.reduceLT, K_eqs, aun, Bool.not_true, apick, cav, K_nil, Then]
    refine yes _ ?_ rfl rfl rfl rfl
    unfold textW
    rw [if_neg]
    simp only [x0, hl, false_or, Bool.true_eq_false, not_false_eq_true]

theorem ccheck_ok [Gv] (p : PV) (q : Perm) (hq : notok q = true) (hp : p.addr.length = 16) (t : List UInt8) (hT : ACalls Tryz.prog GP 22 [.agg (PA p q)] [] (fun r os => os = [] ∧ r = str t)) :
    ACalls Tryz.prog GP 31 [.agg (PA p q)] [] (fun r os => os = [] ∧ r = .val (.bool (!(t == [])))) := by
  have h1 := PA_length p q hp
  have h2 := PA_one p q
  have h3 := PA_nor p q hq
  have h5 : (PA p q).take 23 = PA p q := List.take_of_length_le (by omega)
  generalize PA p q = P at *
  simp only [str] at *
  refine acalls_of_awp Tryz.func31 rfl rfl Tryz.ntmps31 (rts := #[4]) rfl Tryz.results31 (by simp) ?_
  simp only [argSlots, Nat.reduceAdd]
  refine awp_seq_k fun K hK => awp_region [] ?_
  simp only [qq, K_eqs, aboxF, acells, K_ops, h2, abox, Nat.reduceLT, cav, K_nil, Then]
  (repeat' apply And.intro) <;> try (first | exact True.intro | omega)
  refine hK _ ?_
  clear hK K
  refine awp_keep [1, 2] ?_
  simp only [keep_eqs, K_ops, Nat.reduceEqDiff, if_true, if_false]
  refine awp_seq_k fun K hK => awp_region [] ?_
  simp only [qq, K_eqs, aload, K_ops, Nat.reduceEqDiff, apart, isAggD, Tryz.underlying81, tszs, h1, h5, Nat.reduceLT, K_call, Nat.reduceAdd, K_clo, aviews, aview, ntok, List.headD_cons, noref]
  refine andC_eq h3 hT rfl ?_
  simp only [qq, RestC_eqs, K_eqs, K_ops, Nat.reduceEqDiff, cav, K_binC, K_int, astr, ByteArray.toList_mk, Nat.reduceLT, K_nil, Then]
  refine hK _ ?_
  refine awp_keep [2] ?_
  simp only [keep_eqs, K_ops, Nat.reduceEqDiff, if_true, if_false]
  refine awp_ret ?_
  simp only [qq, K_fin, ares, aress, ares1, afin, K_ops, noref]
theorem idle82 [Gv] : Idle Tryz.prog 82 := by
  refine ⟨⟨_, Tryz.func82, rfl, rfl⟩, fun cap w _ => ?_⟩
  refine callsD_of_wpS Tryz.func82 rfl fun c₀ cs hm => ?_
  have hrec : recoverD (c₀ :: cs) = none := by simp [recoverD, hm]
  have hn : Tryz.f82.ntmps = 3 := Tryz.ntmps82
  rw [hn]
  have hc : ({ c₀ with mode := .returning } : Frame) = c₀ := by rw [← hm]
  refine wpS_seq (wpS_region ?_)
  simp [wpOpsS, Region.wanted, execOp, resolve, Deferred.ofValue, invoke, builtin, hrec, Act.put, Act.eval, List.range, List.range.loop, Oper.upon, Exit.thenS, (neq20 0 .nilIface).1]
  refine wpS_cond (t := false) (by simp [Act.eval]) ?_
  refine wpS_of_wp (wp_skip ?_)
  refine ⟨rfl, .returning, by rw [hc], .tuple #[], ?_, ⟨_, rfl⟩, rfl, rfl⟩
  simp [results_eq, rvSem]

theorem holds_ok [Gv] (p : PV) (q : Perm) (hq : notok q = true) (hp : p.addr.length = 16) (RQ : List AV) (hRl : RQ.length = 20) (hRo : RQ.all oneC = true) (hRn : norefs RQ = true) (clock : Nat) (ch a : Bool)
    (hC : ACalls Tryz.prog GP 31 [.agg (PA p q)] [] (fun r os => os = [] ∧ r = .val (.bool ch)))
    (hA : ch = true → ACalls Tryz.prog GP 83 [.agg (PA p q), .agg RQ, .val (.int .u64 (clock : Int))] [] (fun r os => os = [] ∧ r = .val (.bool a))) :
    ACalls Tryz.prog GP 34 [.agg (PA p q), .agg RQ, .val (.int .u64 (clock : Int))] [] (fun r os => os = [] ∧ r = .val (.bool (ch && a))) := by
  have h1 := PA_length p q hp
  have h2 := PA_one p q
  have h3 := PA_nor p q hq
  have h5 : (PA p q).take 23 = PA p q := List.take_of_length_le (by omega)
  have hRt : RQ.take 20 = RQ := List.take_of_length_le (by omega)
  generalize PA p q = P at *
  refine acallsG_of_awp_recover Tryz.func34 rfl rfl Tryz.ntmps34 (rts := #[4]) rfl Tryz.results34 (by simp) idle82 rfl ?_
  simp only [argSlots, Nat.reduceAdd]
  refine awp_region [] ?_
  simp only [qq, K_eqs, aboxF, acells, K_ops, reduceCtorEq, h2, abox, Nat.reduceLT, Nat.reduceEqDiff, hRo, aalloc, tzeros, Nat.reduceAdd, cav, K_nil]
  refine ⟨2, 0, rfl, fun d => ?_⟩
  refine awp_keep [2, 3, 4, 6] ?_
  simp only [keep_eqs, K_ops, Nat.reduceEqDiff, if_true, if_false]
  refine awp_seq_k fun K hK => awp_region [] ?_
  simp only [qq, K_eqs, aload, K_ops, Nat.reduceEqDiff, apart, isAggD, Tryz.underlying81, tszs, h1, h5, Nat.reduceLT, K_call, Nat.reduceAdd, K_clo, aviews, aview, ntok, List.headD_cons, noref]
  refine andC_eq h3 (hC.defer [d]) rfl ?_
  cases hch : ch with
  | false =>
    simp only [qq, RestC_eqs, K_eqs, Nat.reduceLT, K_ops, Nat.reduceEqDiff, gval, gslot, Option.bind_some, gdec_eqs, Bool.not_true, K_gF, gok, apick, cav, K_store, astore, tszs, acells, spl, K_nil, Then, List.all_cons, oneC, Value.oneCell', List.all_nil, List.drop_nil]
    refine hK _ ?_
    clear hK K
    refine awp_keep [6] ?_
    simp only [keep_eqs, K_ops, Nat.reduceEqDiff, if_true, if_false]
    refine awp_ret ?_
    refine FinR_ret (FinG_all (by simp) (by simp) ?_)
    simp only [qq, andO, aresN, aresNs, aresN1, aload, K_ops, apart, isAggD, Tryz.underlying4, Nat.reduceLT]
    exact ⟨rfl, by rw [hch]; rfl⟩
  | true =>
    simp only [qq, Bool.true_and, RestC_eqs, K_eqs, Nat.reduceLT, K_ops, Nat.reduceEqDiff, gval, gslot, Option.bind_some, gdec_eqs, K_gT, gok, aload, apart, isAggD, Tryz.underlying81, tszs, h1, h5, Tryz.underlying29, hRl, hRt, K_call, Nat.reduceAdd, K_clo, aviews, aview, ntok, List.headD_cons, List.tail_cons, noref]
    refine andC_eq (by simp [noref, norefs, h3, hRn]) ((hA hch).defer [d]) rfl ?_
    simp only [qq, RestC_eqs, K_eqs, apick, K_ops, Nat.reduceEqDiff, cav, Nat.reduceLT, K_store, astore, tszs, acells, spl, K_nil, Then, List.all_cons, oneC, Value.oneCell', List.all_nil, List.drop_nil]
    refine hK _ ?_
    clear hK K
    refine awp_keep [6] ?_
    simp only [keep_eqs, K_ops, Nat.reduceEqDiff, if_true, if_false]
    refine awp_ret ?_
    refine FinR_ret (FinG_all (by simp) (by simp) ?_)
    simp only [qq, andO, aresN, aresNs, aresN1, aload, K_ops, apart, isAggD, Tryz.underlying4, Nat.reduceLT]
    exact ⟨rfl, by rw [hch]; rfl⟩

theorem asksop_ok [Gv] (p : PV) (q : Perm) (hq : notok q = true) (hp : p.addr.length = 16) (hk : p.kind = 3) (hl : p.names.length ≤ 200000) (RQ : List AV) (hRl : RQ.length = 20) (hRo : RQ.all oneC = true) (hRn : norefs RQ = true) (op : List UInt8) (hop : RQ.getD 0 .top = str op) (clock : Nat) :
    ACalls Tryz.prog GP 83 [.agg (PA p q), .agg RQ, .val (.int .u64 (clock : Int))] [] (fun r os => os = [] ∧ r = .val (.bool (p.names.contains op))) := by
  have cC := fun q => contains_ok p.names op q (by omega)
  have h1 := PA_length p q hp
  have h2 := PA_one p q
  have h4 := PA_kind p q
  rw [hk] at h4
  have h6 : (PA p q).getD 2 .top = .sl p.names.length (strs p.names) q := rfl
  have hn := norefs_strs p.names
  generalize PA p q = P at *
  generalize p.names = l at *
  simp only [str] at *
  refine acalls_of_awp Tryz.func83 rfl rfl Tryz.ntmps83 (rts := #[4]) rfl Tryz.results83 (by simp) ?_
  simp only [argSlots, Nat.reduceAdd]
  refine awp_seq_k fun K hK => awp_region [] ?_
  simp only [qq, K_eqs, aboxF, acells, K_ops, reduceCtorEq, h2, abox, Nat.reduceLT, Nat.reduceEqDiff, hRo, cav, K_nil, Then]
  (repeat' apply And.intro) <;> try (first | exact True.intro | omega)
  refine hK _ ?_
  clear hK K
  refine awp_keep [2, 3, 4, 6] ?_
  simp only [keep_eqs, K_ops, Nat.reduceEqDiff, if_true, if_false]
  refine awp_seq_k fun K1 hK1 => ?_
  refine awp_seq ?_
  refine awp_region [] ?_
  simp only [qq, K_eqs, afieldAddr, Tryz.underlying81, tszs, K_ops, Nat.reduceEqDiff, ne_eq, reduceCtorEq, Nat.reduceLT, aload, apart, isAggD, Tryz.underlying3, K_nil, Then, h1, h4]
  refine awp_block ?_
  refine awp_seq ?_
  refine awp_region [] ?_
  simp only [qq, K_eqs, K_ops, Nat.reduceEqDiff, cav, K_binC, K_int, aint, Int.reduceBEq, Nat.reduceLT, K_nil, Then]
  refine awp_condF rfl ?_
  refine awp_seq ?_
  refine awp_region [] ?_
  simp only [qq, K_eqs, K_ops, Nat.reduceEqDiff, cav, K_binC, K_int, aint, Int.reduceBEq, Nat.reduceLT, K_nil, Then]
  refine awp_condF rfl ?_
  refine awp_seq ?_
  refine awp_region [] ?_
  simp only [qq, K_eqs, K_ops, Nat.reduceEqDiff, cav, K_binC, K_int, aint, beq_self_eq_true, Nat.reduceLT, K_nil, Then]
  refine awp_condT rfl ?_
  refine awp_keep [3, 4] ?_
  simp only [keep_eqs, K_ops, Nat.reduceEqDiff, if_true, if_false]
  refine awp_seq_k fun K hK => awp_region [] ?_
  simp only [qq, K_eqs, afieldAddr, Tryz.underlying81, tszs, K_ops, Nat.reduceEqDiff, ne_eq, reduceCtorEq, Nat.reduceLT, aload, apart, isAggD, Tryz.underlying43, Tryz.underlying29, Tryz.underlying9, K_call, Nat.reduceAdd, K_clo, aviews, aview, ntok, List.headD_cons, List.tail_cons, hRl, hop, noref, h1, h6]
  refine andC_eq (by simp [noref, norefs, hn]) (cC _) rfl ?_
  simp only [qq, RestC_eqs, K_eqs, Nat.reduceLT, K_ops, Nat.reduceEqDiff, K_nil, Then]
  refine hK _ ?_
  clear hK K
  refine awp_keep [6] ?_
  simp only [keep_eqs, K_ops, Nat.reduceEqDiff, if_true, if_false]
  refine awp_ret ?_
  simp only [qq, InBlock, Then, K_fin, ares, aress, ares1, afin, K_ops, noref]

def zeroPV : PV := ⟨0, 0, [], [], false, Z 16, 0, 0⟩
def parseOp (t : List UInt8) : AV := match namesF t with
  | some l => .tup [.agg (PA ⟨3, 0, l, [], false, Z 16, 0, 0⟩ .full), .val (.bool true)]
  | none => .tup [.agg (PA zeroPV .full), .val (.bool false)]

theorem parseop_ok [Gv] (s t : List UInt8) (hs : s.length ≤ 200000) (ht : t.length ≤ 200000) (hw : wordsF s = some [[111, 112], t]) : ACalls Tryz.prog GP 24 [str s] [] (fun r os => os = [] ∧ r = parseOp t) := by
  have cW := words_ok s hs
  have hv : wordsV s = .tup [.sl 2 [.val (.string ⟨#[111, 112]⟩), .val (.string ⟨t.toArray⟩)] .full, .val (.bool true)] := by unfold wordsV; rw [hw]; rfl
  rw [hv] at cW
  have cN := names_ok t ht
  simp only [str] at *
  refine acalls_of_awp Tryz.func24 rfl rfl Tryz.ntmps24 (rts := #[81,4]) rfl Tryz.results24 (by simp) ?_
  simp only [argSlots, Nat.reduceAdd]
  refine awp_seq_k fun K hK => awp_region [] ?_
  simp only [qq, K_eqs, aalloc, tzeros, cav, Nat.reduceLT, K_ops, K_nil, Then]
  (repeat' apply And.intro) <;> try (first | exact True.intro | omega)
  refine hK _ ?_
  clear hK K
  refine awp_keep [0, 2, 3] ?_
  simp only [keep_eqs, K_ops, Nat.reduceEqDiff, if_true, if_false]
  refine awp_seq_k fun K hK => awp_region [] ?_
  simp only [qq, K_eqs, Nat.reduceLT, K_ops, reduceCtorEq, K_call, Nat.reduceAdd, Nat.reduceEqDiff, K_clo, aviews, aview, noref]
  refine andC_eq (by simp [noref, norefs]) cW (by simp [noref, norefs]) ?_
  simp only [qq, RestC_eqs, K_eqs, Nat.reduceLT, K_ops, Nat.reduceEqDiff, reduceCtorEq, aext, K_nil, Then]
  refine hK _ ?_
  clear hK K
  refine awp_keep [2, 3, 4] ?_
  simp only [keep_eqs, K_ops, Nat.reduceEqDiff, if_true, if_false]
  refine awp_seq_k fun K1 hK1 => ?_
  refine awp_seq_k fun K hK => awp_region [] ?_
  simp only [qq, K_eqs, Nat.reduceLT, K_ops, Nat.reduceEqDiff, aun, Bool.not_true, gval, gslot, Option.bind_some, gdec_eqs, Bool.not_false, K_gT, gok, abuiltin, amaplen, alen, Tryz.underlying43, Int.cast_ofNat_Int, cav, K_binC, apick, K_nil, Then, K_int, aint, Int.reduceBNe]
  (repeat' apply And.intro) <;> try (first | exact True.intro | omega)
  refine hK _ ?_
  clear hK K
  refine awp_condF rfl (awp_skip (hK1 _ ?_))
  clear hK1 K1
  refine awp_keep [2, 3, 4] ?_
  simp only [keep_eqs, K_ops, Nat.reduceEqDiff, if_true, if_false]
  refine awp_seq_k fun K hK => ?_
  refine awp_draw [] (by kernel_rfl) (by kernel_rfl) ?_
  simp only [qq, K_eqs, Nat.reduceLT, K_ops, Nat.reduceEqDiff, aidxAddr, cav, Tryz.underlying43, tszs, Nat.reduceAdd, Nat.mul_one, Int.le_refl, Int.cast_ofNat_Int, Int.reduceLT, Nat.zero_lt_succ, Int.toNat_zero, aload, apart, isAggD, Tryz.underlying9, Int.reduceLE, Int.reduceToNat, K_nil, Then]
  refine hK _ ?_
  clear hK K
  refine awp_keep [2, 3, 5, 6] ?_
  simp only [keep_eqs, K_ops, Nat.reduceEqDiff, if_true, if_false]
  refine awp_seq_k fun K1 hK1 => ?_
  refine awp_seq ?_
  refine awp_region [] ?_
  simp only [qq, K_eqs, Nat.reduceLT, K_ops, Nat.reduceEqDiff, K_nil, Then]
  refine awp_block ?_
  refine awp_seq_k fun K2 hK2 => ?_
  refine awp_seq ?_
  refine awp_region [] ?_
  simp only [qq, K_eqs, K_ops, Nat.reduceEqDiff, cav, K_binC, K_int, astr, ByteArray.toList_mk, Nat.reduceLT, K_nil, Then]
  refine awp_condF rfl ?_
  refine awp_region [] ?_
  simp only [qq, K_eqs, K_ops, Nat.reduceEqDiff, cav, K_binC, K_int, astr, ByteArray.toList_mk, Nat.reduceLT, K_nil, Then]
  refine hK2 _ ?_
  clear hK2 K2
  refine awp_condF rfl ?_
  refine awp_seq ?_
  refine awp_region [] ?_
  simp only [qq, K_eqs, K_ops, Nat.reduceEqDiff, cav, K_binC, K_int, astr, ByteArray.toList_mk, beq_self_eq_true, Nat.reduceLT, K_nil, Then]
  refine awp_condT rfl ?_
  refine awp_keep [2, 3, 6] ?_
  simp only [keep_eqs, K_ops, Nat.reduceEqDiff, if_true, if_false]
  refine awp_seq ?_
  refine awp_region [] ?_
  simp only [qq, K_eqs, afieldAddr, Tryz.underlying81, tszs, K_ops, Nat.reduceEqDiff, ne_eq, reduceCtorEq, Nat.reduceLT, K_store, astore, acells, cav, List.all_cons, oneC, Value.oneCell', List.all_nil, spl, K_nil, Then, Nat.reduceAdd, Nat.reduceLeDiff]
  refine awp_keep [2, 6] ?_
  simp only [keep_eqs, K_ops, Nat.reduceEqDiff, if_true, if_false]
  refine awp_region [] ?_
  simp only [qq, K_eqs, Nat.reduceLT, K_ops, Nat.reduceEqDiff, K_call, Nat.reduceAdd, K_clo, aviews, aview, noref]
  have hnv : noref (namesV t) = true := by
    unfold namesV
    split
    · simp only [noref, norefs, norefs_strs, Bool.and_true]
    · rfl
  refine andC_eq (by simp [noref, norefs]) cN hnv ?_
  cases hF : namesF t with
  | none =>
    simp only [qq, namesV, hF, RestC_eqs, K_eqs, Nat.reduceLT, K_ops, Nat.reduceEqDiff, aext, afieldAddr, Tryz.underlying81, tszs, ne_eq, reduceCtorEq, K_store, astore, acells, spl, K_nil, Nat.reduceAdd, List.all_cons, oneC, List.all_nil, Nat.reduceLeDiff]
    simp only [InBlock, Then]
    refine hK1 _ ?_
    clear hK1 K1
    refine awp_keep [2, 3] ?_
    simp only [keep_eqs, K_ops, Nat.reduceEqDiff, if_true, if_false]
    refine awp_seq_k fun K1 hK1 => ?_
    refine awp_seq_k fun K hK => awp_region [] ?_
    simp only [qq, K_eqs, Nat.reduceLT, K_ops, Nat.reduceEqDiff, aun, Bool.not_false, K_nil, Then]
    (repeat' apply And.intro) <;> try (first | exact True.intro | omega)
    refine hK _ ?_
    clear hK K
    refine awp_condT rfl ?_
    refine awp_keep [2, 3] ?_
    simp only [keep_eqs, K_ops, Nat.reduceEqDiff, if_true, if_false]
    refine awp_seq_k fun K hK => awp_region [] ?_
    simp only [qq, K_eqs, abuild, tzeros, Tryz.underlying81, tsfs, cav, aparts, afill, Nat.reduceLT, K_store, astore, K_ops, Nat.reduceEqDiff, tszs, acells, Nat.reduceAdd, spl, K_nil, Then, List.all_cons, oneC, Value.oneCell', List.all_nil, List.drop_nil]
    (repeat' apply And.intro) <;> try (first | exact True.intro | omega)
    refine hK _ ?_
    clear hK K
    refine awp_keep [2, 3] ?_
    simp only [keep_eqs, K_ops, Nat.reduceEqDiff, if_true, if_false]
    refine awp_ret ?_
    simp only [qq, Then, K_fin, ares, aress, ares1, aload, K_ops, Nat.reduceEqDiff, apart, isAggD, Tryz.underlying81, tszs, Nat.reduceAdd, List.take_nil, afin, noref, norefs]
    unfold parseOp
    rw [hF]
    rfl
  | some l =>
    have hn := norefs_strs l
    simp only [qq, namesV, hF, RestC_eqs, K_eqs, Nat.reduceLT, K_ops, Nat.reduceEqDiff, aext, afieldAddr, Tryz.underlying81, tszs, ne_eq, reduceCtorEq, K_store, astore, acells, spl, K_nil, Nat.reduceAdd, List.all_cons, oneC, List.all_nil, Nat.reduceLeDiff]
    simp only [InBlock, Then]
    refine hK1 _ ?_
    clear hK1 K1
    refine awp_keep [2, 3] ?_
    simp only [keep_eqs, K_ops, Nat.reduceEqDiff, if_true, if_false]
    refine awp_seq_k fun K1 hK1 => ?_
    refine awp_seq_k fun K hK => awp_region [] ?_
    simp only [qq, K_eqs, Nat.reduceLT, K_ops, Nat.reduceEqDiff, aun, Bool.not_true, K_nil, Then]
    (repeat' apply And.intro) <;> try (first | exact True.intro | omega)
    refine hK _ ?_
    clear hK K
    refine awp_condF rfl (awp_skip (hK1 _ ?_))
    clear hK1 K1
    refine awp_keep [2, 3] ?_
    simp only [keep_eqs, K_ops, Nat.reduceEqDiff, if_true, if_false]
    refine awp_seq_k fun K hK => awp_region [] ?_
    simp only [qq, K_eqs, aload, K_ops, Nat.reduceEqDiff, apart, isAggD, Tryz.underlying81, tszs, Nat.reduceAdd, List.take_nil, Nat.reduceLT, K_store, astore, acells, spl, cav, K_nil, Then, List.all_cons, oneC, Value.oneCell', List.all_nil, List.drop_nil]
    (repeat' apply And.intro) <;> try (first | exact True.intro | omega)
    refine hK _ ?_
    clear hK K
    refine awp_keep [2, 3] ?_
    simp only [keep_eqs, K_ops, Nat.reduceEqDiff, if_true, if_false]
    refine awp_ret ?_
    simp only [qq, K_fin, ares, aress, ares1, aload, K_ops, Nat.reduceEqDiff, apart, isAggD, Tryz.underlying81, tszs, Nat.reduceAdd, List.take_nil, afin, noref, norefs, Bool.true_and]
    exact ⟨hn, by unfold parseOp; rw [hF]; rfl⟩

theorem gtext_ok [Gv] (s : List UInt8) (p : PV) (hp : p.addr.length = 16) (ok h : Bool) (RQ : List AV) (hRl : RQ.length = 20) (hRo : RQ.all oneC = true) (hRn : norefs RQ = true) (clock : Nat)
    (cP : ACalls Tryz.prog GP 24 [str s] [] (fun r os => os = [] ∧ r = .tup [.agg (PA p .full), .val (.bool ok)]))
    (cH : ok = true → ACalls Tryz.prog GP 34 [.agg (PA p .full), .agg RQ, .val (.int .u64 (clock : Int))] [] (fun r os => os = [] ∧ r = .val (.bool h))) :
    ACalls Tryz.prog GP 75 [str s, .agg RQ, .val (.int .u64 (clock : Int))] [] (fun r os => os = [] ∧ r = .val (.bool (ok && h))) := by
  have h1 := PA_length p .full hp
  have h2 := PA_one p .full
  have h3 := PA_nor p .full rfl
  have h5 : (PA p .full).take 23 = PA p .full := List.take_of_length_le (by omega)
  have h6 : (PA p .full).drop 23 = [] := List.drop_eq_nil_of_le (by omega)
  have hRt : RQ.take 20 = RQ := List.take_of_length_le (by omega)
  generalize PA p .full = P at *
  simp only [str] at *
  refine acalls_of_awp Tryz.func75 rfl rfl Tryz.ntmps75 (rts := #[4]) rfl Tryz.results75 (by simp) ?_
  simp only [argSlots, Nat.reduceAdd]
  refine awp_seq_k fun K hK => awp_region [] ?_
  simp only [qq, K_eqs, aboxF, acells, K_ops, reduceCtorEq, Nat.reduceEqDiff, hRo, abox, Nat.reduceLT, cav, K_nil, Then]
  (repeat' apply And.intro) <;> try (first | exact True.intro | omega)
  refine hK _ ?_
  clear hK K
  refine awp_keep [0, 2, 4, 6] ?_
  simp only [keep_eqs, K_ops, Nat.reduceEqDiff, if_true, if_false]
  refine awp_seq_k fun K hK => awp_region [] ?_
  simp only [qq, K_eqs, Nat.reduceLT, K_ops, reduceCtorEq, K_call, Nat.reduceAdd, Nat.reduceEqDiff, K_clo, aviews, aview, noref]
  refine andC_eq (by simp [noref, norefs]) cP (by simp [noref, norefs, h3]) ?_
  simp only [qq, RestC_eqs, K_eqs, Nat.reduceLT, K_ops, Nat.reduceEqDiff, reduceCtorEq, aext, aalloc, tzeros, cav, K_store, astore, tszs, acells, spl, K_nil, Then, Nat.reduceAdd, h2, h1, List.drop_nil]
  refine hK _ ?_
  clear hK K
  refine awp_keep [2, 4, 6, 7, 8] ?_
  simp only [keep_eqs, K_ops, Nat.reduceEqDiff, if_true, if_false]
  refine awp_seq_k fun K hK => awp_region [] ?_
  cases hok : ok with
  | false =>
    simp only [qq, K_eqs, Nat.reduceLT, K_ops, Nat.reduceEqDiff, gval, gslot, Option.bind_some, gdec_eqs, Bool.not_true, K_gF, gok, apick, cav, K_nil, Then]
    refine hK _ ?_
    refine awp_keep [6] ?_
    simp only [keep_eqs, K_ops, Nat.reduceEqDiff, if_true, if_false]
    refine awp_ret ?_
    simp only [qq, K_fin, ares, aress, ares1, afin, K_ops, noref]
    rw [hok]
    rfl
  | true =>
    simp only [qq, Bool.true_and, K_eqs, Nat.reduceLT, K_ops, Nat.reduceEqDiff, gval, gslot, Option.bind_some, gdec_eqs, K_gT, gok, aload, apart, isAggD, Tryz.underlying81, tszs, h1, h5, Tryz.underlying29, hRl, hRt, K_call, Nat.reduceAdd, K_clo, aviews, aview, ntok, List.headD_cons, List.tail_cons, noref]
    refine andC_eq (by simp [noref, norefs, h3, hRn]) (cH hok) rfl ?_
    simp only [qq, RestC_eqs, K_eqs, apick, K_ops, Nat.reduceEqDiff, cav, Nat.reduceLT, K_nil, Then]
    refine hK _ ?_
    refine awp_keep [6] ?_
    simp only [keep_eqs, K_ops, Nat.reduceEqDiff, if_true, if_false]
    refine awp_ret ?_
    simp only [qq, K_fin, ares, aress, ares1, afin, K_ops, noref]
    rw [hok]
    rfl
def opa : List UInt8 := [111, 112, 32, 97]
def opP : PV := ⟨3, 0, [[97]], [], false, Z 16, 0, 0⟩
theorem opa_words [Gv] : wordsF opa = some [[111, 112], [97]] := by decide
theorem opa_names [Gv] : namesF [97] = some [[97]] := by decide
theorem opa_parse [Gv] : ACalls Tryz.prog GP 24 [str opa] [] (fun r os => os = [] ∧ r = .tup [.agg (PA opP .full), .val (.bool true)]) := by
  have h := parseop_ok opa [97] (by decide) (by decide) opa_words
  unfold parseOp at h
  rw [opa_names] at h
  exact h
theorem opa_grant [Gv] (RQ : List AV) (hRl : RQ.length = 20) (hRo : RQ.all oneC = true) (hRn : norefs RQ = true) (op : List UInt8) (hop : RQ.getD 0 .top = str op) (clock : Nat) :
    ACalls Tryz.prog GP 75 [str opa, .agg RQ, .val (.int .u64 (clock : Int))] [] (fun r os => os = [] ∧ r = .val (.bool (op == [97]))) := by
  have hsm : smallP opP := ⟨rfl, by decide, by decide, by decide⟩
  have hW := wordsop_ok 0 [[97]] .full rfl [] (NT false (Z 16) 0 ++ [.val (.float .f64 0)]) (NT false (Z 16) 0) 0 ⟨rfl, rfl, NT_one _ _ _, NT_nor _ _ _⟩ (by decide) (by decide)
  have hT := ctext_ok opP ⟨3, 0, [], [], false, Z 16, 0, 0⟩ .full .full rfl rfl hsm ⟨rfl, by decide, by decide, by decide⟩ [111, 112] (lexJoin [[97]]) (by decide) (by decide) hW
  have hC := ccheck_ok opP .full rfl rfl _ hT
  have e : (!(textW [111, 112] (lexJoin [[97]]) (sameP ⟨3, 0, [], [], false, Z 16, 0, 0⟩ (onlyK opP.kind)) == [])) = true := by decide
  rw [e] at hC
  have hA := asksop_ok opP .full rfl rfl rfl (by decide) RQ hRl hRo hRn op hop clock
  have hH := holds_ok opP .full rfl rfl RQ hRl hRo hRn clock true _ hC (fun _ => hA)
  have h := gtext_ok opa opP rfl true _ RQ hRl hRo hRn clock opa_parse (fun _ => hH)
  have e2 : (true && (true && opP.names.contains op)) = (op == [97]) := by
    rw [Bool.true_and, Bool.true_and]
    show [[97]].contains op = _
    rw [Bool.eq_iff_iff]
    simp
  rw [e2] at h
  exact h

def OT (text : List UInt8) (out : Int) : List AV := [str text, .sl 0 [] .full, str [], .val (.int .i64 out), .sl 0 [] .full, str [], str []] ++ ((NT false (Z 16) 0).take 17 ++ [.val (.float .f64 0), .val (.bool false), .val (.bool false), .val (.bool false)])
def OP (kind : Int) (key un ticks : Nat) (draws : List AV) (text : List UInt8) (out : Int) : List AV :=
  [.val (.int .i64 kind), .val (.int .u64 (key : Int)), .val (.int .u64 (un : Int)), .val (.int .u64 0), .val (.int .u64 (ticks : Int))] ++ (draws ++ OT text out)

theorem sget2_ok [Gv] (l : List OutV) (hl : l.length ≤ 1000000) (i : Nat) (hi : i < l.length) : ACalls Tryz.prog GP 13 [.cptr [.sl l.length (OS l) .no], .val (.int .i64 (i : Int))] [] (fun r os => os = [] ∧ r = .tup [.agg (OA l[i]), .val (.bool true)]) := by
  have hOl := OS_length l
  have hOo := OS_oneC l
  have hnO := norefs_OS l
  have hget := OS_get hi
  generalize l[i] = o at *
  have hao := OA_oneC o
  have hno := norefs_OA o
  have hal : (OA o).length = 3 := rfl
  have hat : (OA o).take 3 = OA o := rfl
  have had : (OA o).drop 3 = [] := rfl
  generalize OA o = oa at *
  have d1 : decide ((i : Int) < 0) = false := by simp
  have d2 : decide ((i : Int) ≥ (l.length : Int)) = false := by simp; omega
  refine acallsG_of_awp Tryz.func13 rfl rfl Tryz.ntmps13 (rts := #[48,4]) rfl Tryz.results13 (by simp) ?_
  simp only [argSlots, Nat.reduceAdd]
  refine awp_seq_k fun K hK => awp_region [] ?_
  simp only [qq, K_eqs, aalloc, tzeros, cav, Nat.reduceLT, K_ops, K_nil, Then]
  (repeat' apply And.intro) <;> try (first | exact True.intro | omega)
  refine hK _ ?_
  clear hK K
  refine awp_keep [0, 1, 4] ?_
  simp only [keep_eqs, K_ops, Nat.reduceEqDiff, if_true, if_false]
  refine awp_seq_k fun K1 hK1 => ?_
  refine awp_seq_k fun K hK => awp_region [] ?_
  simp only [qq, K_eqs, Nat.reduceLT, K_ops, reduceCtorEq, Nat.reduceEqDiff, cav, K_binC, K_int, aint, d1, gval, gslot, Option.bind_some, gdec_eqs, Bool.not_false, K_gT, gok, anil, afieldAddr, Tryz.underlying113, tszs, ne_eq, aload, apart, isAggD, Tryz.underlying111, abuiltin, amaplen, alen, apick, K_nil, Then, Nat.reduceLeDiff, d2]
  refine hK _ ?_
  clear hK K
  refine awp_condF rfl (awp_skip (hK1 _ ?_))
  clear hK1 K1
  refine awp_keep [0, 1, 4] ?_
  simp only [keep_eqs, K_ops, Nat.reduceEqDiff, if_true, if_false]
  refine awp_seq_k fun K hK => awp_region [] ?_
  simp only [qq, K_eqs, Nat.reduceLT, K_ops, reduceCtorEq, anil, Nat.reduceEqDiff, afieldAddr, Tryz.underlying113, tszs, ne_eq, aload, apart, isAggD, Tryz.underlying111, aidxAddr, Int.toNat_natCast, Tryz.underlying48, K_store, astore, acells, Nat.reduceAdd, spl, cav, K_nil, Then, Nat.reduceLeDiff, hOl, List.length_drop, hget, hao, hal, List.drop_nil]
  refine ⟨⟨by omega, by omega⟩, by omega, hK _ ?_⟩
  clear hK K
  refine awp_keep [4, 5] ?_
  simp only [keep_eqs, K_ops, Nat.reduceEqDiff, if_true, if_false]
  refine awp_ret ?_
  refine FinG_all (by simp) (by simp) ?_
  simp only [qq, andO, aresN, aresNs, aresN1, aload, K_ops, Nat.reduceEqDiff, apart, isAggD, Tryz.underlying48, tszs, hal, hat]
  simp [ref, refs, refs_noref _ _ hno]

theorem store2_ok [Gv] (clock most last : Nat) (m : AObj) (hm : objOk m = true) (l : List OutV) (hl : l.length ≤ 1000000) :
    ACalls Tryz.prog GP 12 [.ptr 0 0] (SV clock most last m l) (fun r os => os = SV clock most last m l ∧ r = .cptr [.sl l.length (OS l) .no]) := by
  have cC := sclone2_ok l hl
  have hnl := norefs_OS l
  simp only [SV, KO, SO] at *
  refine acallsG_of_awp Tryz.func12 rfl rfl Tryz.ntmps12 (rts := #[50]) rfl Tryz.results12 (by simp) ?_
  simp only [argSlots, Nat.reduceAdd]
  refine awp_seq_k fun K hK => awp_region [] ?_
  simp only [qq, Nat.reduceAdd, K_eqs, Nat.reduceLT, K_ops, cav, K_nil, Then]
  (repeat' apply And.intro) <;> try (first | exact True.intro | omega)
  refine hK _ ?_
  clear hK K
  refine awp_keep [0] ?_
  simp only [keep_eqs, K_ops, Nat.reduceEqDiff, if_true, if_false]
  refine awp_seq_k fun K hK => awp_region [1000007] ?_
  simp only [qq, Nat.reduceAdd, K_eqs, Nat.reduceLT, K_ops, anil, reduceCtorEq, afieldAddr, Tryz.underlying106, tszs, Nat.reduceEqDiff, ne_eq, aload, List.contains_cons, Nat.reduceBEq, apart, isAggD, Tryz.underlying50, K_call, beq_self_eq_true, K_clo, aviews, aview, ntok, List.headD_cons, List.getD_cons_succ]
  refine andH_gen [3, 4] false [50] ⟨by decide, by simp, by simp [refO, refs, ref, refP, refs_noref _ _ hnl]⟩ rfl (by simp [noref]) (by simp only [GHd, List.map_cons, List.map_nil, List.getD_cons_zero, List.getD_cons_succ, renO, rens, ren, renP, rens_noref _ _ hnl]; exact cC) ⟨by simp, by simp [refO, refs, ref, refP, refs_noref _ _ hnl], by simp [refs, ref], fun h => by cases h⟩ ?_
  simp only [qq, ren, σn, Nat.reduceAdd, Nat.reduceLT, List.getD_cons_succ, Nat.reduceSub, GBack, setAll, renO, rens, rens_noref _ _ hnl, renP, List.headD_cons, List.tail_cons, RestH_eqs, K_eqs, K_ops, Nat.reduceEqDiff, reduceCtorEq, K_nil, Then]
  refine hK _ ?_
  clear hK K
  refine awp_keep [2] ?_
  simp only [keep_eqs, K_ops, Nat.reduceEqDiff, if_true, if_false]
  refine awp_objw 5 [.sl l.length (OS l) (.tok 6)] [.sl l.length (OS l) .no] rfl rfl (fun E vs h => ?_) ?_
  · simp only [RepL] at h ⊢
    obtain ⟨v, vs', rfl, h1, h2⟩ := h
    exact ⟨v, vs', rfl, RepV_ntok (p := .tok 6) h1, h2⟩
  simp only [List.set_cons_succ, List.set_cons_zero]
  refine awp_freeze 2 5 [.sl l.length (OS l) .no] rfl rfl (Nat.zero_lt_succ _) (by simp [norefs, noref, norefs_OS]) ?_
  simp only [List.set_cons_succ, List.set_cons_zero]
  refine awp_keep [2] ?_
  simp only [keep_eqs, K_ops, Nat.reduceEqDiff, if_true, if_false]
  refine awp_ret ?_
  refine FinG_all (by simp) (refs_SV clock most last m hm l) ?_
  simp only [qq, andO, aresN, aresNs, aresN1, K_ops, Nat.reduceAdd]
  simp [ref, refs, refP, refs_noref _ _ hnl]

theorem fby_le [Gv] (f : FieldV) (h : f.2.length < 18446744073709551616) : (fby f).length ≤ 11 + f.2.length := by
  have := vb_len10 h
  simp only [fby, List.length_cons, List.length_append]
  omega
theorem encC_text [Gv] (s : List UInt8) (h : s.length ≤ 100000) : (encC (textC s)).length ≤ 11 + s.length := by
  have := fby_le (3, s) (by simp; omega)
  simpa [encC, textC, V.join, encC] using this
theorem encCs_texts [Gv] (ts : List (List UInt8)) (k : Nat) (h : ∀ s ∈ ts, s.length ≤ k) (hk : k ≤ 100000) : ((ts.map textC).flatMap encC).length ≤ ts.length * (11 + k) := by
  induction ts with
  | nil => simp
  | cons s ts ih =>
    rw [List.map_cons, List.flatMap_cons, List.length_append, List.length_cons]
    have h1 := encC_text s (by have := h s (by simp); omega)
    have h2 := h s (by simp)
    have h3 := ih (fun s hs => h s (by simp [hs]))
    have : (ts.length + 1) * (11 + k) = ts.length * (11 + k) + (11 + k) := by rw [Nat.succ_mul]
    omega
theorem encB_le [Gv] (t : TokV) (ts : List (List UInt8)) (hp : plainT t ts) (k : Nat) (h : ∀ s ∈ ts, s.length ≤ k) (hk : k ≤ 1000) (hn : ts.length ≤ 64) (hkey : t.key < 18446744073709551616) (hid : t.id.length ≤ 100000) (htag : t.tag.length = 32) :
    (encB t).length ≤ 200 + t.id.length + ts.length * (11 + k) := by
  have h1 := encCs_texts ts k h (by omega)
  have hm : ts.length * (11 + k) ≤ 64 * 1011 := Nat.mul_le_mul hn (by omega)
  have hv := vb_len10 hkey
  have e : (encT t).length ≤ 120 + t.id.length + ts.length * (11 + k) := by
    have f1 := fby_le (1, vb t.key) (by simp; omega)
    have f2 := fby_le (2, t.id) (by simp; omega)
    have f3 := fby_le (7, [if t.bound then 1 else 0]) (by simp)
    have f4 := fby_le (8, t.tag) (by simp; omega)
    simp only [List.length_cons, List.length_nil] at f1 f2 f3 f4
    unfold encT
    rw [hp]
    simp only [V.join, List.flatMap_cons, List.flatMap_nil, List.append_nil, List.length_append]
    omega
  have f := fby_le (16, encT t) (by simp; omega)
  simp only at f
  unfold encB
  simp only [V.join, List.flatMap_cons, List.flatMap_nil, List.append_nil]
  omega

theorem OP_F [Gv] (kind key un ticks : Nat) (draw : List UInt8) (hd : draw.length = 32) (text : List UInt8) (out : Nat) : OpF (OP (kind : Int) key un ticks (Bs draw ++ Bs (Z 64)) text (out : Int)) kind key un ticks out draw text false := by
  have hZ : (Z 64).length = 64 := Z_length 64
  have hl : (Bs draw ++ Bs (Z 64)).length = 96 := by rw [List.length_append, Bs_length, Bs_length]; omega
  have hdr : (Bs draw ++ Bs (Z 64)).take 32 = Bs draw := by rw [← hd, ← Bs_length draw]; simp
  have hone : (Bs draw ++ Bs (Z 64)).all oneC = true := by rw [List.all_append, Bs_one, Bs_one]; rfl
  have hnor : norefs (Bs draw ++ Bs (Z 64)) = true := by rw [norefs_append, Go.V.norefs_Bs, Go.V.norefs_Bs]; rfl
  generalize Bs draw ++ Bs (Z 64) = D at *
  have hg : ∀ (T : List AV) (i : Nat), (D ++ T).getD (96 + i) .top = T.getD i .top := fun T i => by
    rw [List.getD_eq_getElem?_getD, List.getElem?_append_right (by omega), List.getD_eq_getElem?_getD, hl]
    congr 2
    omega
  refine ⟨?_, ?_, ?_, rfl, rfl, rfl, rfl, ?_, hd, ?_, ?_, ?_⟩
  · simp [OP, OT, hl, NT, Bs_length, hZ, Z_length]
  · simp only [OP, List.all_append, hone]; rfl
  · simp only [OP, norefs_append, hnor]; rfl
  · show ((D ++ _).take 32) = _
    rw [List.take_append_of_le_length (by omega), hdr]
  · show (D ++ _).getD (96 + 0) .top = _
    rw [hg]; rfl
  · show (D ++ _).getD (96 + 3) .top = _
    rw [hg]; rfl
  · show (D ++ _).getD (96 + 27) .top = _
    rw [hg]; rfl

theorem andH_arg [Gv] {P : Program} {G : Gl} {f : Option FuncId} {a : AV} {L O : List AV} {objs : List AObj} {k : AV → List AObj → Prop} (h : L = O) (hk : andH P G f [a, .agg O] objs k) : andH P G f [a, .agg L] objs k := h ▸ hk

theorem andH_do [Gv] {clock most last : Nat} {m : AObj} {l : List OutV} {clock' most' last' : Nat} {m' : AObj} {l' : List OutV} {rest objs : List AObj} {k : AV → List AObj → Prop} {A : List AV} (O : List AV) (hOn : norefs O = true) (hAn : norefs A = true) (hm : objOk m = true) (hm' : objOk m' = true)
    (cD : ACalls Tryz.prog GP 11 [.ptr 0 0, .agg O] (SV clock most last m l) (fun r os => os = SV clock' most' last' m' l' ∧ r = .agg A)) (hobjs : objs = SV clock most last m l ++ rest)
    (hk : k (.agg A) (SV clock' most' last' m' l' ++ rest)) : andH Tryz.prog GP (some 11) [.ptr 0 0, .agg O] objs k := by
  subst hobjs
  have hrf0 := refs_SV clock most last m hm l
  have hrf := refs_SV clock' most' last' m' hm' l'
  have hvw : gviews Tryz.prog (SV clock most last m l ++ rest) (List.range (SV clock most last m l).length) [35, 46] [.ptr 0 0, .agg O] = some (True ∧ True ∧ True, false, [.ptr 0 0, .agg O]) := by
    simp only [gviews, gview, refs_noref _ _ hOn, rens_noref _ _ hOn]
    rfl
  exact andH_range (objs := SV clock most last m l) [35, 46] hrf0 hvw ⟨trivial, trivial, trivial⟩ cD rfl hrf (by simp only [ref]; exact refs_noref _ _ hAn) hk


def tag1 : List UInt8 := 1 :: Z 31
def me : List UInt8 := [109, 101]
theorem okT_mint [Gv] (C : List Nat → List UInt8 → List Nat) (key : List UInt8) (id : List UInt8) (h : id.length ≤ 1024) : okT (mintT C key 1 id) = true := by
  simp [okT, mintT, h]
theorem lenB_mint [Gv] {C : List Nat → List UInt8 → List Nat} (hC : COk C) (key : List UInt8) (id : List UInt8) (h : id.length ≤ 1024) : (encB (mintT C key 1 id)).length ≤ 65536 := by
  have := encB_le (mintT C key 1 id) [] rfl 0 (by simp) (by omega) (by simp) (by simp [mintT]) (by simp [mintT]; omega) (deriveB_length hC _ _ _)
  simp [mintT] at this
  simp [mintT]
  omega

def T1 (C : List Nat → List UInt8 → List Nat) : TokV := mintT C tag1 1 me
def T2 (C : List Nat → List UInt8 → List Nat) : TokV := addT C (T1 C) (textC opa)
theorem isB_T1 [Gv] {C : List Nat → List UInt8 → List Nat} (hC : COk C) : isB ⟨encB (T1 C), true, false⟩ (T1 C) [] :=
  ⟨rfl, rfl, small_mintT hC tag1 1 (by omega) me (by decide), rfl, okT_mint _ _ _ (by decide), rfl, lenB_mint hC _ _ (by decide)⟩
theorem tag_T2 [Gv] {C : List Nat → List UInt8 → List Nat} (hC : COk C) : (T2 C).tag.length = 32 := by
  unfold T2 addT
  dsimp only
  unfold nextB
  exact deriveB_length hC _ _ _
theorem good_T2 [Gv] (C : List Nat → List UInt8 → List Nat) : goodTag C tag1 (T2 C) := by
  unfold goodTag T2 addT T1 mintT
  dsimp only
  unfold tagAt
  rw [List.nil_append, List.foldl_cons, List.foldl_nil]
theorem small_T2 [Gv] {C : List Nat → List UInt8 → List Nat} (hC : COk C) : small (T2 C) := by
  refine ⟨by show me.length ≤ 200000; decide, by show ([] ++ [textC opa] : List CavV).length ≤ 1000000; decide, ?_, tag_T2 hC, by show (1 : Nat) < 18446744073709551616; omega, ?_⟩
  · intro c hc
    have : c = textC opa := by simpa [T2, addT, T1, mintT] using hc
    subst this
    decide
  · intro c hc
    have : c = textC opa := by simpa [T2, addT, T1, mintT] using hc
    subst this
    decide
theorem okT_T2 [Gv] (C : List Nat → List UInt8 → List Nat) : okT (T2 C) = true := by
  show (decide (me.length ≤ 1024) && decide (([] ++ [textC opa] : List CavV).length ≤ 64) && ([] ++ [textC opa] : List CavV).all canC) = true
  decide
theorem len_T2 [Gv] {C : List Nat → List UInt8 → List Nat} (hC : COk C) : (encB (T2 C)).length ≤ 65536 := by
  have := encB_le (T2 C) [opa] rfl 10 (by decide) (by omega) (by decide) (by show (1 : Nat) < 18446744073709551616; omega) (by show me.length ≤ 100000; decide) (tag_T2 hC)
  have h2 : (T2 C).id.length = 2 := rfl
  simp only [List.length_cons, List.length_nil] at this
  omega

def RQo (op : List UInt8) : List AV := [str op, str []] ++ ((NT false (Z 16) 0).take 17 ++ [.val (.float .f64 0)])

theorem judge2_ok [Gv] {C : List Nat → List UInt8 → List Nat} (hC : COk C) (l : List OutV) (op : List UInt8) :
    ACalls Tryz.prog GP 14 [.ptr 0 0, .sl (encB (T2 C)).length (Bs (encB (T2 C))) .no, .agg (RQo op)] (SV 0 3 1 (KM tag1 9) l) (fun r os => os = SV 0 3 1 (KM tag1 9) l ∧ r = .val (.int .i64 (if op == [97] then 0 else 7))) := by
  have h := judge_ok hC 0 3 tag1 rfl 9 l (T2 C) [opa] (small_T2 hC) rfl rfl (okT_T2 C) (len_T2 hC) rfl (good_T2 C) (RQo op) rfl rfl rfl (fun _ => op == [97]) (fun s hs => by
    have : s = opa := by simpa using hs
    subst this
    exact opa_grant (RQo op) rfl rfl rfl op rfl 0)
  rw [if_pos (by omega)] at h
  have e : ([opa].all fun _ => op == [97]) = (op == [97]) := by simp
  rw [e] at h
  exact h

theorem alive_ok [Gv] {C : List Nat → List UInt8 → List Nat} (hC : COk C) : ACalls Tryz.prog GP 8 [] [] (fun r os => os = [] ∧ r = .val (.bool true)) := by
  have cN := service_new_ok 3 (by omega)
  have F1 := OP_F 2 0 9 0 tag1 rfl [] 0
  have cD1 := doplain_ok 0 3 0 (.map []) rfl [] 0 1 (KM tag1 9) (objOk_KM _ _) [] _ F1 (by omega) (plainroot_ok 0 3 (by omega) [] _ F1)
  have F2 := OP_F 7 1 0 0 (Z 32) rfl me 0
  have cD2 := doroot_ok 0 3 1 (KM tag1 9) (objOk_KM _ _) [] 0 1 (KM tag1 9) (objOk_KM _ _) _ _ F2 (.inl rfl) (rootmint_ok hC 0 3 tag1 rfl 9 (by omega) [] (by simp) _ F2 (by decide) (okT_mint _ _ _ (by decide)) (lenB_mint hC _ _ (by decide)))
  have F3 := OP_F 8 0 0 0 (Z 32) rfl opa 0
  have cD3 := doroot_ok 0 3 1 (KM tag1 9) (objOk_KM _ _) _ 0 1 (KM tag1 9) (objOk_KM _ _) _ _ F3 (.inr rfl) (rootatt_ok hC 0 3 1 (KM tag1 9) (objOk_KM _ _) [⟨encB (T1 C), true, false⟩] (by simp) _ F3 (by simp) (T1 C) [] (isB_T1 hC) (by decide) (small_T2 hC) (okT_T2 C) (len_T2 hC) _ rfl (PA_one opP .full) (PA_nor opP .full rfl) opa_parse)
  have cS := store2_ok 0 3 1 (KM tag1 9) (objOk_KM _ _) [⟨encB (T1 C), true, false⟩, ⟨encB (T2 C), true, false⟩] (by simp)
  have cG := sget2_ok [⟨encB (T1 C), true, false⟩, ⟨encB (T2 C), true, false⟩] (by simp) 1 (by simp)
  have cJ1 := judge2_ok hC [⟨encB (T1 C), true, false⟩, ⟨encB (T2 C), true, false⟩] [97]
  have cJ2 := judge2_ok hC [⟨encB (T1 C), true, false⟩, ⟨encB (T2 C), true, false⟩] [98]
  have hrf := refs_SV 0 3 1 (KM tag1 9) (objOk_KM _ _) [⟨encB (T1 C), true, false⟩, ⟨encB (T2 C), true, false⟩]
  rw [show addT C (T1 C) (textC opa) = T2 C from rfl] at cD3
  rw [show mintT C tag1 1 me = T1 C from rfl] at cD2
  have hnB2 := Go.V.norefs_Bs (encB (T2 C))
  have hOA : OA (⟨encB (T2 C), true, false⟩ : OutV) = [.val (.string ⟨(encB (T2 C)).toArray⟩), .val (.bool true), .val (.bool false)] := rfl
  simp only [List.getElem_cons_succ, List.getElem_cons_zero, hOA] at cG
  generalize encB (T2 C) = e2 at *
  generalize encB (T1 C) = e1 at *
  refine acalls_of_awp Tryz.func8 rfl rfl Tryz.ntmps8 (rts := #[4]) rfl Tryz.results8 (by simp) ?_
  simp only [argSlots, Nat.reduceAdd]
  refine awp_seq_k fun K hK => awp_region [] ?_
  simp only [qq, K_eqs, Nat.reduceLT, K_ops, cav, K_nil, Then]
  (repeat' apply And.intro) <;> try (first | exact True.intro | omega)
  refine hK _ ?_
  clear hK K
  refine awp_seq_k fun K hK => awp_region [1000005] ?_
  simp only [qq, K_call, Nat.reduceLT, Nat.reduceAdd, List.contains_cons, beq_self_eq_true, K_ops, cav, K_clo, Nat.reduceBEq, aviews, aview, noref]
  refine andH_gen [] false [3] ⟨by decide, by simp, by simp⟩ rfl (by simp [noref]) (by simpa [GHd] using cN) ⟨by simp, by simp [SV, KO, SO, refO, refs, ref, refP, OS], by simp [SV, refs, ref], fun h => by cases h⟩ ?_
  have hB : GBack [] [] (SV 0 3 0 (.map []) []) = SV 0 3 0 (.map []) [] := rfl
  rw [hB]
  simp only [qq, ren, σn, Nat.reduceLT, Nat.reduceSub, RestH_eqs, K_eqs, K_ops, reduceCtorEq, K_nil, Then]
  refine hK _ ?_
  clear hK K hB
  refine awp_keep [0, 1] ?_
  simp only [keep_eqs, K_ops, Nat.reduceEqDiff, if_true, if_false]
  refine awp_seq_k fun K1 hK1 => ?_
  refine awp_seq_k fun K hK => awp_region [] ?_
  simp only [qq, K_eqs, Nat.reduceLT, K_ops, reduceCtorEq, Nat.reduceEqDiff, cav, K_binC, K_int, K_nil, Then]
  (repeat' apply And.intro) <;> try (first | exact True.intro | omega)
  refine hK _ ?_
  clear hK K
  refine awp_condF rfl (awp_skip (hK1 _ ?_))
  clear hK1 K1
  refine awp_keep [1] ?_
  simp only [keep_eqs, K_ops, Nat.reduceEqDiff, if_true, if_false]
  refine awp_seq_k fun K hK => awp_region [1000012] ?_
  simp only [qq, K_eqs, Nat.reduceLT, K_ops, abuild, tzeros, Tryz.underlying23, tszs, Nat.mul_one, zvs_u8, aparts, cav, afill, spl, acells, Bs_drop, Bs_length, Z_length, Nat.reduceLeDiff, List.all_cons, oneC, Value.oneCell', List.all_nil, Tryz.underlying42, Nat.reduceEqDiff, Nat.zero_mul, Tryz.underlying46, tsfs, Nat.reduceAdd, K_call, List.contains_cons, beq_self_eq_true, K_clo, Nat.reduceBEq, aviews, aview, ntok, List.tail_cons, List.headD_cons, List.length_drop, Nat.reduceSub, Bs_one, Bool.true_and]
  refine ⟨⟨rfl, rfl⟩, andH_arg (O := OP 2 0 9 0 (Bs tag1 ++ Bs (Z 64)) [] 0) (by kernel_rfl) (andH_do _ F1.nor rfl rfl (objOk_KM _ _) cD1 (List.append_nil _).symm ?_)⟩
  simp only [List.append_nil, RestH_eqs, K_nil, Then]
  refine hK _ ?_
  clear hK K
  refine awp_keep [1] ?_
  simp only [keep_eqs, K_ops, Nat.reduceEqDiff, if_true, if_false]
  refine awp_seq_k fun K hK => awp_region [1000015] ?_
  simp only [qq, K_eqs, Nat.reduceLT, K_ops, abuild, tzeros, Tryz.underlying46, tsfs, cav, aparts, afill, spl, acells, Nat.reduceAdd, Nat.reduceLeDiff, List.all_cons, oneC, Value.oneCell', List.all_nil, K_call, List.contains_cons, beq_self_eq_true, Nat.reduceEqDiff, K_clo, Nat.reduceBEq, aviews, aview, ntok, List.tail_cons, List.headD_cons]
  refine andH_arg (O := OP 7 1 0 0 (Bs (Z 32) ++ Bs (Z 64)) me 0) (by kernel_rfl) (andH_do _ F2.nor rfl (objOk_KM _ _) (objOk_KM _ _) cD2 (List.append_nil _).symm ?_)
  simp only [List.length_nil, Int.cast_ofNat_Int, List.nil_append, List.append_nil, RestH_eqs, K_nil, Then]
  refine hK _ ?_
  clear hK K
  refine awp_keep [1] ?_
  simp only [keep_eqs, K_ops, Nat.reduceEqDiff, if_true, if_false]
  refine awp_seq_k fun K hK => awp_region [1000018] ?_
  simp only [qq, K_eqs, Nat.reduceLT, K_ops, abuild, tzeros, Tryz.underlying46, tsfs, cav, aparts, afill, spl, acells, Nat.reduceAdd, Nat.reduceLeDiff, List.all_cons, oneC, Value.oneCell', List.all_nil, K_call, List.contains_cons, beq_self_eq_true, Nat.reduceEqDiff, K_clo, Nat.reduceBEq, aviews, aview, ntok, List.tail_cons, List.headD_cons]
  refine andH_arg (O := OP 8 0 0 0 (Bs (Z 32) ++ Bs (Z 64)) opa 0) (by kernel_rfl) (andH_do _ F3.nor rfl (objOk_KM _ _) (objOk_KM _ _) cD3 (List.append_nil _).symm ?_)
  simp only [qq, SV, Int.cast_ofNat_Int, AN, Nat.reduceAdd, RestH_eqs, K_eqs, aalloc, tzeros, cav, Nat.reduceLT, K_store, astore, K_ops, Nat.reduceEqDiff, tszs, acells, List.all_cons, oneC, Value.oneCell', List.all_nil, spl, K_nil, Then, List.drop_nil]
  refine hK _ ?_
  clear hK K
  refine awp_keep [1, 2] ?_
  simp only [keep_eqs, K_ops, Nat.reduceEqDiff, if_true, if_false]
  refine awp_freeze 2 5 [.val (.int .i64 0), .val (.int .i64 0), .val (.int .u64 0), .val (.int .i64 1)] rfl rfl (Nat.zero_lt_succ _) rfl ?_
  simp only [List.set_cons_succ, List.set_cons_zero]
  refine awp_keep [1, 2] ?_
  simp only [keep_eqs, K_ops, Nat.reduceEqDiff, if_true, if_false]
  refine awp_seq_k fun K hK => ?_
  refine awp_draw [2000021, 23, 24] (by kernel_rfl) (by kernel_rfl) ?_
  simp only [qq, K_eqs, Nat.reduceLT, K_ops, Nat.reduceEqDiff, K_call, Nat.reduceAdd, List.contains_cons, Nat.reduceBEq, K_clo, beq_self_eq_true, aviews, aview]
  refine andH_range (objs := SV 0 3 1 (KM tag1 9) [⟨e1, true, false⟩, ⟨e2, true, false⟩]) (rest := [.dead]) [35] hrf rfl (by simp) cS rfl hrf (by simp [ref, refs, refP, refs_noref _ _ (norefs_OS _)]) ?_
  simp only [qq, Nat.reduceAdd, SV, Int.cast_ofNat_Int, RestK_eqs, K_eqs, afieldAddr, Tryz.underlying40, tszs, K_ops, Nat.reduceEqDiff, ne_eq, reduceCtorEq, Nat.reduceLeDiff, Nat.reduceLT, aload, List.contains_cons, Nat.reduceBEq, beq_self_eq_true, Bool.false_or, apart, isAggD, Tryz.underlying3, K_call, K_clo, aviews, aview, noref, norefs, Bool.true_and, ntok, List.tail_cons, List.headD_cons]
  refine andC_eq (by simp [norefs, noref, norefs_OS]) cG (by simp [norefs, noref]) ?_
  simp only [qq, RestC_eqs, K_eqs, Nat.reduceLT, K_ops, Nat.reduceEqDiff, aext, aalloc, tzeros, Nat.reduceAdd, cav, K_store, astore, tszs, acells, spl, K_nil, Then, List.all_cons, oneC, Value.oneCell', List.all_nil, List.drop_nil]
  refine hK _ ?_
  clear hK K
  refine awp_keep [1, 2, 3, 4] ?_
  simp only [keep_eqs, K_ops, Nat.reduceEqDiff, if_true, if_false]
  refine awp_seq_k fun K hK => awp_region [1000039, 1000048] ?_
  simp only [qq, K_eqs, Nat.reduceLT, K_ops, Nat.reduceEqDiff, gval, gslot, Option.bind_some, gdec_eqs, K_gT, gok, afieldAddr, Tryz.underlying40, tszs, ne_eq, reduceCtorEq, Nat.reduceAdd, Nat.reduceLeDiff, aload, List.contains_cons, Nat.reduceBEq, apart, isAggD, Tryz.underlying3, cav, K_binC, apick, Nat.zero_lt_succ, K_int, aint, beq_self_eq_true, Tryz.underlying48, Tryz.underlying9, K_conv, Tryz.underlying54, abytes, Tryz.underlying5, abuild, tzeros, Tryz.underlying29, tsfs, aparts, afill, spl, acells, List.all_cons, oneC, Value.oneCell', List.all_nil, K_call, K_clo, aviews, aview, ntok, List.tail_cons, List.headD_cons, ba_size]
  have hvw : ∀ op rest, gviews Tryz.prog (SV 0 3 1 (KM tag1 9) [⟨e1, true, false⟩, ⟨e2, true, false⟩] ++ rest) (List.range 5) [35, 54, 29] [.ptr 0 0, .sl e2.length (Bs e2) .no, .agg (RQo op)] = some (True ∧ norefs (Bs e2) = true ∧ True ∧ True, false, [.ptr 0 0, .sl e2.length (Bs e2) .no, .agg (RQo op)]) := fun op rest => by
    simp only [gviews, gview, refs_noref _ _ (show norefs (RQo op) = true from rfl), rens_noref _ _ (show norefs (RQo op) = true from rfl)]
    rfl
  refine andH_range (objs := SV 0 3 1 (KM tag1 9) [⟨e1, true, false⟩, ⟨e2, true, false⟩]) [35, 54, 29] hrf (hvw [97] _) ⟨trivial, hnB2, trivial, trivial⟩ cJ1 rfl hrf rfl ?_
  simp only [qq, beq_self_eq_true, SV, Int.cast_ofNat_Int, Nat.reduceAdd, RestH_eqs, gval, gslot, Option.bind_some, K_ops, Nat.reduceEqDiff, gdec_eqs, K_gT, gok, Nat.reduceLT, K_eqs, cav, K_binC, K_int, aint, apick, afieldAddr, Tryz.underlying48, tszs, ne_eq, reduceCtorEq, aload, List.contains_cons, Nat.reduceBEq, apart, isAggD, Tryz.underlying9, K_conv, Tryz.underlying54, abytes, Tryz.underlying5, abuild, tzeros, Tryz.underlying29, tsfs, aparts, afill, spl, acells, Nat.reduceLeDiff, List.all_cons, oneC, Value.oneCell', List.all_nil, K_call, Bool.false_or, K_clo, aviews, aview, ntok, List.tail_cons, List.headD_cons, Nat.zero_lt_succ, ba_size]
  refine andH_range (objs := SV 0 3 1 (KM tag1 9) [⟨e1, true, false⟩, ⟨e2, true, false⟩]) [35, 54, 29] hrf (hvw [98] _) ⟨trivial, hnB2, trivial, trivial⟩ cJ2 rfl hrf rfl ?_
  simp only [qq, SV, Int.cast_ofNat_Int, Nat.reduceAdd, RestH_eqs, gval, gslot, Option.bind_some, K_ops, Nat.reduceEqDiff, gdec_eqs, K_gT, gok, Nat.reduceLT, K_eqs, cav, K_binC, K_int, aint, apick, Nat.zero_lt_succ, K_nil, Then]
  refine hK _ ?_
  clear hK K
  refine awp_keep [0] ?_
  simp only [keep_eqs, K_ops, Nat.reduceEqDiff, if_true, if_false]
  refine awp_ret ?_
  simp only [qq, K_fin, ares, aress, ares1, afin, K_ops, noref]
  rfl
theorem FinP_all [Gv] {n : Nat} {Q : AV → List AObj → Prop} {st : St} {v : Value} (hn : n ≤ st.objs.length) (href : ∀ o ∈ st.objs.take n, refO (fun r => decide (r < n)) o = true) (h : Q (.val v) (st.objs.take n)) : FinP n Q (.panic (Pn v)) st := by
  have hc : (fun r => (List.range n).contains r) = fun r => decide (r < n) := by funext r; simp
  have href' : ∀ i, i < n → refO (fun r => decide (r < n)) (st.objs.getD i .dead) = true := fun i hi => by
    have hlt : i < st.objs.length := by omega
    rw [List.getD_eq_getElem?_getD, List.getElem?_eq_getElem hlt]
    exact href _ (List.mem_take_iff_getElem.2 ⟨i, by omega, rfl⟩)
  refine ⟨v, List.range n, rfl, ⟨by simp, fun i hi => by rw [List.getD_eq_getElem?_getD, List.getElem?_range hi]; rfl, List.nodup_range, fun i hi => ?_, fun i hi => ?_⟩, ?_⟩
  · have := List.mem_range.1 hi; omega
  · rw [hc]; exact href' i (List.mem_range.1 hi)
  · rw [GHd_range hn href']; exact h

theorem _root_.Go.V.APan.defer [Gv] {P : Program} {G : Gl} {f : FuncId} {args : List AV} {outs : List AObj} {Q : AV → List AObj → Prop} (h : APan P G f args outs Q) (ds : List Deferred) : APan P ⟨G.tab, ds⟩ f args outs Q :=
  ⟨h.1, fun E vs h1 h2 h3 => h.2 E vs h1 h2 h3⟩

def refV (e r : Int) : Value := .iface 108 (.agg #[.int .i64 e, .int .i64 r])

theorem mustpan_ok [Gv] (e : Int) (he : e ≠ 0) : APan Tryz.prog GP 85 [.val (.int .i64 e)] [] (fun r os => os = [] ∧ r = .val (refV e 0)) := by
  refine apan_of_awp Tryz.func85 rfl rfl Tryz.ntmps85 (by simp) ?_
  simp only [argSlots, Nat.reduceAdd]
  have e1 : (e != 0) = true := by simp [he]
  refine awp_seq_k fun K hK => awp_region [] ?_
  simp only [qq, K_eqs, Nat.reduceLT, K_ops, reduceCtorEq, cav, K_binC, K_int, aint, e1, K_nil, Then]
  (repeat' apply And.intro) <;> try (first | exact True.intro | omega)
  refine hK _ ?_
  clear hK K
  refine awp_condT rfl ?_
  refine awp_die [] 3 rfl rfl rfl ?_
  simp only [List.take_succ_cons, List.take_zero]
  simp only [qq, K_ops, K_eqs, Nat.reduceLT, reduceCtorEq, abuild, tzeros, Tryz.underlying108, tsfs, cav, aparts, Nat.reduceEqDiff, afill, spl, acells, Nat.reduceAdd, Nat.reduceLeDiff, List.all_cons, oneC, Value.oneCell', List.all_nil, K_more, aiface, K_nil, gvals, Option.map_some]
  refine ⟨108, .agg #[.int .i64 e, .int .i64 0], rfl, ?_⟩
  exact FinP_all (by simp) (by simp) ⟨rfl, rfl⟩

theorem findpan_ok [Gv] (clock most : Nat) (tag : List UInt8) (ht : tag.length = 32) (u : Nat) (hold : ¬ clock < u) (l : List OutV) :
    APan Tryz.prog GP 84 [.ptr 0 0, .val (.int .i64 1), .val (.int .u64 1)] (SV clock most 1 (KM tag u) l) (fun r os => os = SV clock most 1 (KM tag u) l ∧ r = .val (refV 5 4)) := by
  have cF := kfind_ok most tag ht u clock
  rw [if_neg hold] at cF
  have hnY := norefs_KY tag u
  have hrf := refs_SV clock most 1 (KM tag u) (objOk_KM tag u) l
  have hbl : (Bs (Z 32)).length = 32 := by rw [Bs_length, Z_length]
  have hbo : (Bs (Z 32)).all oneC = true := Bs_one _
  have hz : (Z 32).drop 32 = [] := List.drop_eq_nil_of_le (by rw [Z_length]; exact Nat.le_refl _)
  simp only [SV, KO, KM] at *
  refine apan_of_awp Tryz.func84 rfl rfl Tryz.ntmps84 (by simp) ?_
  simp only [argSlots, Nat.reduceAdd]
  refine awp_seq_k fun K hK => awp_region [] ?_
  simp only [qq, Int.cast_ofNat_Int, Nat.reduceAdd, K_eqs, aalloc, tzeros, zvs_u8, Nat.reduceLT, K_nil, Then, K_ops]
  (repeat' apply And.intro) <;> try (first | exact True.intro | omega)
  refine hK _ ?_
  clear hK K
  refine awp_keep [0, 1, 2, 6] ?_
  simp only [keep_eqs, K_ops, Nat.reduceEqDiff, if_true, if_false]
  refine awp_seq_k fun K hK => ?_
  refine awp_draw [2000020] (by kernel_rfl) (by kernel_rfl) ?_
  simp only [qq, Int.cast_ofNat_Int, Nat.reduceAdd, K_eqs, Nat.reduceLT, K_ops, reduceCtorEq, anil, Nat.reduceEqDiff, afieldAddr, Tryz.underlying106, tszs, ne_eq, aload, List.contains_cons, Nat.reduceBEq, apart, isAggD, Tryz.underlying103, Tryz.underlying30, K_call, K_clo, beq_self_eq_true, aviews, aview, ntok, List.headD_cons, noref, List.tail_cons, List.getD_cons_succ]
  refine andH_gen [1, 2] false [103, 3, 30, 30] ⟨by decide, by simp, by simp [refO, refs, ref, refP, refs_noref _ _ hnY]⟩ rfl (by simp [noref]) (by simp only [GHd, List.map_cons, List.map_nil, List.getD_cons_zero, List.getD_cons_succ, renO, rens, ren, renP, rens_noref _ _ hnY]; exact cF) ⟨by simp, by simp [refO, refs, ref, refP, refs_noref _ _ hnY], by simp [refs, ref, refs_noref _ _ (norefs_Bs (Z 32))], fun h => by cases h⟩ ?_
  simp only [qq, ren, rens, rens_noref _ _ (norefs_Bs (Z 32)), GBack, setAll, Int.cast_ofNat_Int, renO, σn, Nat.reduceAdd, Nat.reduceLT, List.getD_cons_succ, Nat.reduceSub, rens_noref _ _ hnY, List.headD_cons, List.tail_cons, List.drop_nil, RestK_eqs, K_eqs, K_ops, Nat.reduceEqDiff, reduceCtorEq, aext, aalloc, tzeros, zvs_u8, K_store, astore, tszs, acells, spl, K_nil, Then, hbl, Bs_drop, hbo, hz, Bs_nil]
  refine hK _ ?_
  clear hK K
  refine awp_keep [6, 7, 8] ?_
  simp only [keep_eqs, K_ops, Nat.reduceEqDiff, if_true, if_false]
  refine awp_seq_k fun K1 hK1 => ?_
  refine awp_seq_k fun K hK => awp_region [] ?_
  simp only [qq, Int.cast_ofNat_Int, Nat.reduceAdd, K_eqs, Nat.reduceLT, K_ops, Nat.reduceEqDiff, cav, K_binC, K_int, aint, Int.reduceBNe, K_nil, Then]
  (repeat' apply And.intro) <;> try (first | exact True.intro | omega)
  refine hK _ ?_
  clear hK K
  refine awp_condT rfl ?_
  refine awp_keep [8] ?_
  simp only [keep_eqs, K_ops, Nat.reduceEqDiff, if_true, if_false]
  refine awp_die [] 3 rfl rfl rfl ?_
  simp only [List.take_succ_cons, List.take_zero]
  simp only [qq, K_ops, Then, Int.cast_ofNat_Int, Nat.reduceAdd, K_eqs, Nat.reduceLT, abuild, tzeros, Tryz.underlying108, tsfs, cav, aparts, Nat.reduceEqDiff, afill, spl, acells, List.drop_nil, List.all_cons, oneC, Value.oneCell', List.all_nil, Nat.reduceLeDiff, K_more, aiface, K_nil, gvals, Option.map_some]
  refine ⟨108, .agg #[.int .i64 5, .int .i64 4], rfl, ?_⟩
  exact FinP_all (by simp) hrf ⟨rfl, rfl⟩

theorem rootold_ok [Gv] (clock most : Nat) (tag : List UInt8) (ht : tag.length = 32) (u : Nat) (hold : ¬ clock < u) (l : List OutV)
    (O : List AV) {un ticks out : Nat} {draw text : List UInt8} {pub : Bool} (hO : OpF O 7 1 un ticks out draw text pub) :
    APan Tryz.prog GP 38 [.ptr 0 0, .agg O] (SV clock most 1 (KM tag u) l) (fun r os => os = SV clock most 1 (KM tag u) l ∧ r = .val (refV 5 4)) := by
  have cF := findpan_ok clock most tag ht u hold l
  have hrf := refs_SV clock most 1 (KM tag u) (objOk_KM tag u) l
  have hOl := hO.len
  have hOo := hO.ones
  have hOt : O.take 129 = O := List.take_of_length_le (by omega)
  have hk := hO.fkind
  have hkey := hO.fkey
  have htx := hO.ftext
  have hOn := hO.nor
  show APan Tryz.prog GP 38 _ [.cells [.val (.int .u64 (clock : Int)), .ptr 1 0, .ptr 3 0], KO most 1 2, KM tag u, SO l 4, .tok 3 l.length] _
  refine apan_of_awp Tryz.func38 rfl rfl Tryz.ntmps38 (by simp) ?_
  simp only [argSlots, Nat.reduceAdd]
  refine awp_seq_k fun K hK => awp_region [] ?_
  simp only [qq, Nat.reduceAdd, K_eqs, aboxF, acells, K_ops, reduceCtorEq, hOo, abox, Nat.reduceLT, aalloc, tzeros, cav, K_nil, Then]
  (repeat' apply And.intro) <;> try (first | exact True.intro | omega)
  refine hK _ ?_
  clear hK K
  refine awp_freeze 3 5 O rfl rfl (by omega) hOn ?_
  simp only [List.set_cons_succ, List.set_cons_zero]
  refine awp_keep [0, 3, 4] ?_
  simp only [keep_eqs, K_ops, Nat.reduceEqDiff, if_true, if_false]
  refine awp_seq_k fun K1 hK1 => ?_
  refine awp_seq_k fun K hK => awp_region [] ?_
  simp only [qq, Nat.reduceAdd, K_eqs, afieldAddr, Tryz.underlying46, tszs, K_ops, reduceCtorEq, Nat.reduceEqDiff, ne_eq, hOl, Nat.reduceLeDiff, Nat.reduceLT, aload, apart, isAggD, Tryz.underlying3, cav, K_binC, K_nil, Then, Nat.zero_lt_succ, hk, Int.cast_ofNat_Int, K_int, aint, beq_self_eq_true]
  (repeat' apply And.intro) <;> try (first | exact True.intro | omega)
  refine hK _ ?_
  clear hK K
  refine awp_condT rfl ?_
  refine awp_keep [0, 3, 4] ?_
  simp only [keep_eqs, K_ops, Nat.reduceEqDiff, if_true, if_false]
  refine awp_seq ?_
  have hkey' : O[1]?.getD .top = .val (.int .u64 1) := by simpa using hkey
  have htx' : O[101]?.getD .top = .val (.string ⟨text.toArray⟩) := by simpa using htx
  refine awp_draw_pan (M := []) 3 #[false, false, false, true, false, false, false, false, true, true, true, true, false, true, true] [(17, .ptr 0 0), (18, .cptr (O.drop 1)), (19, .val (.int .u64 1)), (21, .cptr (O.drop 1)), (22, .val (.int .u64 1)), (23, .cptr (O.drop 101)), (24, .val (.string ⟨text.toArray⟩))]
    (fun os => ∃ rest, os = [AObj.cells [.val (.int .u64 (clock : Int)), .ptr 1 0, .ptr 3 0], KO most 1 2, KM tag u, SO l 4, .tok 3 l.length, .dead, .cells [.val (.int .i64 0), .val (.int .i64 0), .val (.int .u64 0), .val (.int .i64 0)]] ++ rest)
    (by kernel_rfl) rfl rfl rfl (by kernel_rfl) (by kernel_rfl) (by simp) ⟨[], by simp⟩ ?_ ?_
  · intro i oi hi hw os hos
    obtain ⟨rest, rfl⟩ := hos
    rcases i with _ | _ | _ | _ | _ | _ | _ | _ | _ | _ | _ | _ | _ | _ | _ | i
    all_goals first
      | exact absurd hw (by decide)
      | skip
    all_goals
      simp only [List.getElem?_cons_succ, List.getElem?_cons_zero, List.getElem?_nil, Option.some.injEq, reduceCtorEq] at hi
    all_goals
      subst hi
      clear hw
      simp only [qq, K_ops, K_eqs, Nat.reduceLT, reduceCtorEq, K_nil, afieldAddr, Tryz.underlying46, tszs, Nat.reduceEqDiff, ne_eq, hOl, Nat.reduceLeDiff, aload, apart, isAggD, Tryz.underlying30, List.length_drop, Nat.reduceSub, drop_getD, Tryz.underlying9, aalloc, tzeros, cav]
      refine ⟨fun t ht hm => ?_, ?_⟩
      · first
        | (injection ht with ht; subst ht; rfl)
        | (injection ht with ht; subst ht; simp [hkey', htx']; done)
        | (injection ht with ht; subst ht; simp at hm)
      · first
        | exact ⟨_, rfl⟩
        | exact ⟨_, by simp only [List.cons_append, List.append_assoc]⟩
  · intro os hos
    obtain ⟨rest, rfl⟩ := hos
    have hvw : ∀ rest, gviews Tryz.prog (SV clock most 1 (KM tag u) l ++ rest) (List.range (SV clock most 1 (KM tag u) l).length) [35, 3, 30] [.ptr 0 0, .val (.int .i64 1), .val (.int .u64 1)] = some (True ∧ noref (AV.val (.int .i64 1)) = true ∧ noref (AV.val (.int .u64 1)) = true ∧ True, false, [.ptr 0 0, .val (.int .i64 1), .val (.int .u64 1)]) := fun rest => by
      rfl
    refine acallP_range (objs := SV clock most 1 (KM tag u) l) [35, 3, 30] (hrf) (hvw _) ⟨trivial, rfl, rfl, trivial⟩ cF rfl (hrf) ?_
    intro sl hsl
    simp only [Then, InBlock]
    exact FinP_all (by simp [SV]) hrf ⟨rfl, rfl⟩

theorem rootlong_ok [Gv] {C : List Nat → List UInt8 → List Nat} (hC : COk C) (clock most : Nat) (tag : List UInt8) (ht : tag.length = 32) (u : Nat) (hlive : clock < u) (l : List OutV)
    (O : List AV) {un ticks out : Nat} {draw text : List UInt8} {pub : Bool} (hO : OpF O 7 1 un ticks out draw text pub) (hi : text.length ≤ 200000) (hok : okT (mintT C tag 1 text) = false) :
    APan Tryz.prog GP 38 [.ptr 0 0, .agg O] (SV clock most 1 (KM tag u) l) (fun r os => os = SV clock most 1 (KM tag u) l ∧ r = .val (refV 1 0)) := by
  have cF := find_ok clock most tag ht u hlive l
  have cM := cmint_ok hC tag ht 1 (by omega) text hi
  rw [hok, if_neg (by decide)] at cM
  have cU := (mustpan_ok 1 (by decide)).defer []
  have hlT := TA_length zeroT .full (by simp [zeroT])
  have hoT := TA_oneC zeroT .full
  have hnT := norefs_TA zeroT .full rfl
  have hTt : (TA zeroT .full).take 36 = TA zeroT .full := List.take_of_length_le (by omega)
  have hTd : (TA zeroT .full).drop 36 = [] := List.drop_eq_nil_of_le (by omega)
  have hrf := refs_SV clock most 1 (KM tag u) (objOk_KM tag u) l
  generalize TA zeroT .full = T at *
  have hOl := hO.len
  have hOo := hO.ones
  have hOt : O.take 129 = O := List.take_of_length_le (by omega)
  have hk := hO.fkind
  have hkey := hO.fkey
  have htx := hO.ftext
  have hOn := hO.nor
  simp only [str] at cM
  show APan Tryz.prog GP 38 _ [.cells [.val (.int .u64 (clock : Int)), .ptr 1 0, .ptr 3 0], KO most 1 2, KM tag u, SO l 4, .tok 3 l.length] _
  refine apan_of_awp Tryz.func38 rfl rfl Tryz.ntmps38 (by simp) ?_
  simp only [argSlots, Nat.reduceAdd]
  refine awp_seq_k fun K hK => awp_region [] ?_
  simp only [qq, Nat.reduceAdd, K_eqs, aboxF, acells, K_ops, reduceCtorEq, hOo, abox, Nat.reduceLT, aalloc, tzeros, cav, K_nil, Then]
  (repeat' apply And.intro) <;> try (first | exact True.intro | omega)
  refine hK _ ?_
  clear hK K
  refine awp_freeze 3 5 O rfl rfl (by omega) hOn ?_
  simp only [List.set_cons_succ, List.set_cons_zero]
  refine awp_keep [0, 3, 4] ?_
  simp only [keep_eqs, K_ops, Nat.reduceEqDiff, if_true, if_false]
  refine awp_seq_k fun K1 hK1 => ?_
  refine awp_seq_k fun K hK => awp_region [] ?_
  simp only [qq, Nat.reduceAdd, K_eqs, afieldAddr, Tryz.underlying46, tszs, K_ops, reduceCtorEq, Nat.reduceEqDiff, ne_eq, hOl, Nat.reduceLeDiff, Nat.reduceLT, aload, apart, isAggD, Tryz.underlying3, cav, K_binC, K_nil, Then, Nat.zero_lt_succ, hk, Int.cast_ofNat_Int, K_int, aint, beq_self_eq_true]
  (repeat' apply And.intro) <;> try (first | exact True.intro | omega)
  refine hK _ ?_
  clear hK K
  refine awp_condT rfl ?_
  refine awp_keep [0, 3, 4] ?_
  simp only [keep_eqs, K_ops, Nat.reduceEqDiff, if_true, if_false]
  refine awp_seq_k fun K hK => ?_
  refine awp_draw [2000020, 19, 22, 24] (by kernel_rfl) (by kernel_rfl) ?_
  simp only [qq, Nat.reduceAdd, K_eqs, Nat.reduceLT, K_ops, reduceCtorEq, afieldAddr, Tryz.underlying46, tszs, Nat.reduceEqDiff, ne_eq, hOl, Nat.reduceLeDiff, aload, List.contains_cons, Nat.reduceBEq, beq_self_eq_true, Bool.false_or, apart, isAggD, Tryz.underlying30, K_call, cav, K_clo, aviews, aview, noref, ntok, List.tail_cons, List.headD_cons, List.length_drop, Nat.reduceSub, drop_getD, hkey, Int.cast_ofNat_Int]
  refine andH_range (objs := SV clock most 1 (KM tag u) l) [35, 3, 30] hrf rfl (by simp [noref]) cF rfl hrf (by simp [ref, refs_noref _ _ (norefs_Bs tag)]) ?_
  simp only [qq, RestK_eqs, Nat.reduceAdd, K_eqs, afieldAddr, Tryz.underlying46, tszs, K_ops, Nat.reduceEqDiff, reduceCtorEq, ne_eq, hOl, Nat.reduceLeDiff, Nat.reduceLT, aload, List.contains_cons, Nat.reduceBEq, beq_self_eq_true, Bool.false_or, apart, isAggD, Tryz.underlying30, Tryz.underlying9, K_call, K_clo, aviews, aview, noref, norefs_Bs, ntok, List.tail_cons, List.headD_cons, List.length_drop, Nat.reduceSub, drop_getD, htx, hkey, Int.cast_ofNat_Int]
  refine ⟨rfl, ?_⟩
  refine andC_eq (by simp [noref, norefs, norefs_Bs]) cM (by simp [noref, norefs, hnT]) ?_
  simp only [qq, SV, RestC_eqs, K_eqs, Nat.reduceLT, K_ops, Nat.reduceEqDiff, reduceCtorEq, aext, aalloc, tzeros, Nat.reduceAdd, cav, K_store, astore, tszs, acells, spl, K_nil, Then, hoT, hlT, List.drop_nil]
  refine hK _ ?_
  clear hK K
  refine awp_keep [0, 3, 4, 5, 6] ?_
  simp only [keep_eqs, K_ops, Nat.reduceEqDiff, if_true, if_false]
  refine awp_seq ?_
  refine awp_calldie [] 1 rfl rfl rfl ?_
  simp only [List.take_succ_cons, List.take_zero]
  simp only [qq, K_ops, Then, Nat.reduceAdd, K_eqs, Nat.reduceLT, reduceCtorEq, Nat.reduceEqDiff, K_nil]
  refine acallP_all [] false ⟨by simp, by simp, by simp⟩ rfl ⟨rfl, trivial⟩ cU ⟨by simp, by simp, rfl, fun h => by cases h⟩ ?_
  exact FinP_all (by simp [GBack, setAll]) hrf ⟨rfl, rfl⟩
theorem FinG_normal [Gv] {P : Program} {ts : List TypeId} {rvs : List ResultVar} {n0 : Nat} {Q : AV → List AObj → Prop} {st : St} (h : FinG P ts rvs n0 Q .ret st) : FinG P ts rvs n0 Q .normal st :=
  ⟨.inl rfl, h.2⟩

theorem arec37 [Gv] (e r : Nat) (clock most last : Nat) (m : AObj) (hm : objOk m = true) (l : List OutV) :
    ARec Tryz.prog GP 37 (.ptr 6 0) (SV clock most last m l ++ [.dead, .cells [.val (.int .i64 0), .val (.int .i64 0), .val (.int .u64 0), .val (.int .i64 0)]]) (refV e r)
      (SV clock most last m l ++ [.dead, .cells (AN e r 0 (-1))]) := by
  have hrf := refs_SV clock most last m hm l
  refine arec_of_awp Tryz.func37 rfl Tryz.ntmps37 Tryz.results37 (by decide) (by decide) (by decide) rfl ?_
  show awp _ _ _ ⟨_, _, [.cells [.val (.int .u64 (clock : Int)), .ptr 1 0, .ptr 3 0], KO most last 2, m, SO l 4, .tok 3 l.length, .dead, .cells [.val (.int .i64 0), .val (.int .i64 0), .val (.int .u64 0), .val (.int .i64 0)]]⟩ _
  simp only [refV]
  refine awp_seq_k fun K hK => awp_region [] ?_
  simp only [qq, K_eqs, Nat.reduceLT, K_ops, reduceCtorEq, Nat.reduceEqDiff, cav, K_binC, aifn, Tryz.underlying20, K_nil, Then]
  refine ⟨⟨_, rfl⟩, hK _ ?_⟩
  clear hK K
  refine awp_condT rfl ?_
  refine awp_seq_k fun K hK => awp_region [] ?_
  simp only [qq, K_eqs, Nat.reduceLT, K_ops, Nat.reduceEqDiff, reduceCtorEq, K_more, atass, Tryz.underlying108, cavd, cav, aext, aalloc, tzeros, Nat.reduceAdd, K_store, astore, tszs, acells, spl, K_nil, Then, List.all_cons, oneC, Value.oneCell', List.all_nil, List.drop_nil]
  refine hK _ ?_
  clear hK K
  refine awp_keep [0, 2, 3] ?_
  simp only [keep_eqs, K_ops, Nat.reduceEqDiff, if_true, if_false]
  refine awp_seq_k fun K1 hK1 => ?_
  refine awp_seq_k fun K hK => awp_region [] ?_
  simp only [qq, K_eqs, Nat.reduceLT, K_ops, reduceCtorEq, Nat.reduceEqDiff, aun, Bool.not_true, K_nil, Then]
  (repeat' apply And.intro) <;> try (first | exact True.intro | omega)
  refine hK _ ?_
  clear hK K
  refine awp_condF rfl (awp_skip (hK1 _ ?_))
  clear hK1 K1
  refine awp_keep [0, 2] ?_
  simp only [keep_eqs, K_ops, Nat.reduceEqDiff, if_true, if_false]
  refine awp_region [] ?_
  simp only [qq, K_eqs, afieldAddr, Tryz.underlying108, tszs, K_ops, reduceCtorEq, ne_eq, Nat.reduceLT, aload, Nat.reduceEqDiff, apart, isAggD, Tryz.underlying37, Tryz.underlying38, abuild, tzeros, Tryz.underlying40, tsfs, cav, aparts, afill, spl, acells, Nat.reduceAdd, List.all_cons, oneC, Value.oneCell', List.all_nil, Nat.reduceLeDiff, K_store, astore, K_nil, List.getD_cons_succ, List.drop_nil]
  refine FinG_normal (FinG_all ?_ ?_ ?_)
  · exact Nat.le_succ 7
  · intro o ho
    have ho' : o ∈ [AObj.cells [.val (.int .u64 (clock : Int)), .ptr 1 0, .ptr 3 0], KO most last 2, m, SO l 4, .tok 3 l.length, .dead, .cells (AN e r 0 (-1))] := ho
    simp only [List.mem_cons, List.not_mem_nil, or_false] at ho'
    rcases ho' with rfl | rfl | rfl | rfl | rfl | rfl | rfl
    · rfl
    · rfl
    · exact refO_noref _ _ hm
    · simp only [SO, refO, refs, ref, refP, refs_noref _ _ (norefs_OS l)]
      rfl
    · rfl
    · rfl
    · rfl
  · exact ⟨trivial, rfl, rfl⟩

theorem doroot_pan [Gv] (clock most last : Nat) (m : AObj) (hm : objOk m = true) (l : List OutV) (O : List AV) {key un ticks out : Nat} {draw text : List UInt8} {pub : Bool} (hO : OpF O 7 key un ticks out draw text pub)
    {e r : Nat} (cP : APan Tryz.prog GP 38 [.ptr 0 0, .agg O] (SV clock most last m l) (fun r' os => os = SV clock most last m l ∧ r' = .val (refV e r))) :
    ACalls Tryz.prog GP 11 [.ptr 0 0, .agg O] (SV clock most last m l) (fun r' os => os = SV clock most last m l ∧ r' = .agg (AN e r 0 (-1))) := by
  have hrf := refs_SV clock most last m hm l
  have hOl := hO.len
  have hOo := hO.ones
  have hOt : O.take 129 = O := List.take_of_length_le (by omega)
  have hk := hO.fkind
  have hOn := hO.nor
  have cA := arec37 e r clock most last m hm l
  show ACalls Tryz.prog GP 11 _ [.cells [.val (.int .u64 (clock : Int)), .ptr 1 0, .ptr 3 0], KO most last 2, m, SO l 4, .tok 3 l.length] _
  refine acallsG_of_awp_recover Tryz.func11 rfl rfl Tryz.ntmps11 (rts := #[40]) rfl Tryz.results11 (by simp) idle37 rfl ?_
  simp only [argSlots, Nat.reduceAdd]
  refine awp_region [] ?_
  simp only [qq, Nat.reduceAdd, K_eqs, aboxF, acells, K_ops, reduceCtorEq, hOo, abox, Nat.reduceLT, aalloc, tzeros, cav, K_nil, Nat.reduceEqDiff]
  refine ⟨6, 0, rfl, fun d => ?_⟩
  refine awp_freeze 3 5 O rfl rfl (by omega) hOn ?_
  simp only [List.set_cons_succ, List.set_cons_zero]
  refine awp_keep [0, 3, 4] ?_
  simp only [keep_eqs, K_ops, Nat.reduceEqDiff, if_true, if_false]
  refine awp_seq_k fun K1 hK1 => ?_
  refine awp_seq ?_
  refine awp_region [] ?_
  simp only [qq, K_eqs, afieldAddr, Tryz.underlying46, tszs, K_ops, reduceCtorEq, Nat.reduceEqDiff, ne_eq, hOl, Nat.reduceLeDiff, Nat.reduceLT, aload, apart, isAggD, Tryz.underlying3, K_nil, Then, hk, Int.cast_ofNat_Int]
  refine awp_block ?_
  refine awp_seq_k fun K2 hK2 => ?_
  refine awp_seq ?_
  refine awp_region [] ?_
  simp only [qq, K_eqs, K_ops, Nat.reduceEqDiff, reduceCtorEq, cav, K_binC, K_int, aint, beq_self_eq_true, Nat.reduceLT, K_nil, Then]
  refine awp_condT rfl (awp_skip ?_)
  refine hK2 _ ?_
  refine awp_condT rfl ?_
  refine awp_keep [0, 3, 4] ?_
  simp only [keep_eqs, K_ops, Nat.reduceEqDiff, if_true, if_false]
  refine awp_seq ?_
  refine awp_calldie [1000013] 2 rfl rfl rfl ?_
  simp only [List.take_succ_cons, List.take_zero]
  simp only [qq, K_ops, Then, K_eqs, Nat.reduceLT, reduceCtorEq, aload, Nat.reduceEqDiff, apart, isAggD, Tryz.underlying46, tszs, hOl, hOt, K_nil]
  have hvw : ∀ rest, gviews Tryz.prog (SV clock most last m l ++ rest) (List.range (SV clock most last m l).length) [35, 46] [.ptr 0 0, .agg O] = some (True ∧ True ∧ True, false, [.ptr 0 0, .agg O]) := fun rest => by
    simp only [gviews, gview, refs_noref _ _ hOn, rens_noref _ _ hOn]
    rfl
  refine acallP_range (objs := SV clock most last m l) [35, 46] hrf (hvw _) ⟨trivial, trivial, trivial⟩ (cP.defer [d]) rfl hrf ?_
  simp only [InBlock, Then]
  refine FinR_panic _ cA ?_
  refine FinG_all (by simp [SV]) hrf ?_
  simp only [qq, andO, aresN, aresNs, aresN1, aload, K_ops, Nat.reduceEqDiff, reduceCtorEq, SV, AN, Int.cast_ofNat_Int, apart, isAggD, Tryz.underlying40, tszs, Nat.reduceAdd, List.take_nil]
  rfl
structure RqF (RQ : List AV) (op path : List UInt8) : Prop where
  len : RQ.length = 20
  ones : RQ.all oneC = true
  nor : norefs RQ = true
  fop : RQ.getD 0 .top = str op
  fpath : RQ.getD 1 .top = str path

def oddR (op path : List UInt8) : Bool := decide (1000 < op.length) || decide (1000 < path.length)

theorem odd_ok [Gv] {RQ : List AV} {op path : List UInt8} (h : RqF RQ op path) (ho : op.length < 9223372036854775808) (hpl : path.length < 9223372036854775808) :
    ACalls Tryz.prog GP 9 [.agg RQ] [] (fun r os => os = [] ∧ r = .val (.int .i64 (if oddR op path then 1 else 0))) := by
  have hl := h.len
  have h1 := h.ones
  have f0 : RQ[0]?.getD .top = str op := by simpa using h.fop
  have f1 : RQ[1]?.getD .top = str path := by simpa using h.fpath
  have g0 := h.fop
  have g1 := h.fpath
  simp only [str] at f0 f1 g0 g1
  refine acalls_of_awp Tryz.func9 rfl rfl Tryz.ntmps9 (rts := #[3]) rfl Tryz.results9 (by simp) ?_
  simp only [argSlots, Nat.reduceAdd]
  refine awp_seq_k fun K hK => awp_region [1] ?_
  simp only [qq, K_eqs, List.contains_cons, beq_self_eq_true, aboxF, acells, K_ops, h1, abox, Nat.reduceLT, cav, K_nil, Then]
  refine hK _ ?_
  clear hK K
  refine awp_keep [1, 2] ?_
  simp only [keep_eqs, K_ops, Nat.reduceEqDiff, if_true, if_false]
  refine awp_seq_k fun K1 hK1 => ?_
  by_cases c1 : 1000 < op.length
  · have e1 : decide ((op.length : Int) > 1000) = true := decide_eq_true (by omega)
    refine awp_seq_k fun K hK => awp_region [] ?_
    simp only [qq, K_eqs, afieldAddr, Tryz.underlying29, tszs, K_ops, Nat.reduceEqDiff, ne_eq, reduceCtorEq, hl, Nat.reduceLeDiff, Nat.reduceLT, aload, apart, isAggD, Tryz.underlying9, abuiltin, amaplen, alen, cav, K_binC, Nat.zero_lt_succ, g0, ba_size, K_int, aint, e1, gval, gslot, Option.bind_some, gdec_eqs, K_gF, gok, apick, K_nil, Then]
    (repeat' apply And.intro) <;> try (first | exact True.intro | omega)
    refine hK _ ?_
    clear hK K
    refine awp_condT rfl ?_
    refine awp_keep [0] ?_
    simp only [keep_eqs, K_ops, Nat.reduceEqDiff, if_true, if_false]
    refine awp_seq_k fun K hK => awp_region [] ?_
    simp only [qq, K_eqs, Nat.reduceLT, K_ops, cav, K_nil, Then]
    (repeat' apply And.intro) <;> try (first | exact True.intro | omega)
    refine hK _ ?_
    clear hK K
    refine awp_keep [2] ?_
    simp only [keep_eqs, K_ops, Nat.reduceEqDiff, if_true, if_false]
    refine awp_ret ?_
    simp only [qq, Then, K_fin, ares, aress, ares1, afin, K_ops, noref]
    simp [oddR, c1]
  · have e1 : decide ((op.length : Int) > 1000) = false := decide_eq_false (by omega)
    by_cases c2 : 1000 < path.length
    · have e2 : decide ((path.length : Int) > 1000) = true := decide_eq_true (by omega)
      refine awp_seq_k fun K hK => awp_region [] ?_
      simp only [qq, K_eqs, afieldAddr, Tryz.underlying29, tszs, K_ops, Nat.reduceEqDiff, ne_eq, reduceCtorEq, hl, Nat.reduceLeDiff, Nat.reduceLT, aload, apart, isAggD, Tryz.underlying9, abuiltin, amaplen, alen, cav, K_binC, Nat.zero_lt_succ, g0, ba_size, K_int, aint, e1, gval, gslot, Option.bind_some, gdec_eqs, Bool.not_false, K_gT, gok, apick, K_nil, Then, List.length_drop, Nat.reduceSub, drop_getD, g1, e2]
      (repeat' apply And.intro) <;> try (first | exact True.intro | omega)
      refine hK _ ?_
      clear hK K
      refine awp_condT rfl ?_
      refine awp_keep [0] ?_
      simp only [keep_eqs, K_ops, Nat.reduceEqDiff, if_true, if_false]
      refine awp_seq_k fun K hK => awp_region [] ?_
      simp only [qq, K_eqs, Nat.reduceLT, K_ops, cav, K_nil, Then]
      (repeat' apply And.intro) <;> try (first | exact True.intro | omega)
      refine hK _ ?_
      clear hK K
      refine awp_keep [2] ?_
      simp only [keep_eqs, K_ops, Nat.reduceEqDiff, if_true, if_false]
      refine awp_ret ?_
      simp only [qq, Then, K_fin, ares, aress, ares1, afin, K_ops, noref]
      simp [oddR, c2]
    · have e2 : decide ((path.length : Int) > 1000) = false := decide_eq_false (by omega)
      refine awp_seq_k fun K hK => awp_region [] ?_
      simp only [qq, K_eqs, afieldAddr, Tryz.underlying29, tszs, K_ops, Nat.reduceEqDiff, ne_eq, reduceCtorEq, hl, Nat.reduceLeDiff, Nat.reduceLT, aload, apart, isAggD, Tryz.underlying9, abuiltin, amaplen, alen, cav, K_binC, Nat.zero_lt_succ, g0, ba_size, K_int, aint, e1, gval, gslot, Option.bind_some, gdec_eqs, Bool.not_false, K_gT, gok, apick, K_nil, Then, List.length_drop, Nat.reduceSub, drop_getD, g1, e2]
      (repeat' apply And.intro) <;> try (first | exact True.intro | omega)
      refine hK _ ?_
      clear hK K
      refine awp_condF rfl (awp_skip (hK1 _ ?_))
      clear hK1 K1
      refine awp_keep [0] ?_
      simp only [keep_eqs, K_ops, Nat.reduceEqDiff, if_true, if_false]
      refine awp_seq_k fun K hK => awp_region [] ?_
      simp only [qq, K_eqs, Nat.reduceLT, K_ops, cav, K_nil, Then]
      (repeat' apply And.intro) <;> try (first | exact True.intro | omega)
      refine hK _ ?_
      clear hK K
      refine awp_keep [2] ?_
      simp only [keep_eqs, K_ops, Nat.reduceEqDiff, if_true, if_false]
      refine awp_ret ?_
      simp only [qq, K_fin, ares, aress, ares1, afin, K_ops, noref]
      simp [oddR, c1, c2]

structure AkF (AK RQ : List AV) (u c : Nat) : Prop where
  len : AK.length = 22
  ones : AK.all oneC = true
  nor : norefs AK = true
  rq : AK.take 20 = RQ
  f20 : AK.getD 20 .top = .val (.int .u64 (u : Int))
  f21 : AK.getD 21 .top = .val (.int .u64 (c : Int))

theorem norefs_take [Gv] (n : Nat) (l : List AV) (h : norefs l = true) : norefs (l.take n) = true := by
  rw [← List.take_append_drop n l, norefs_append, Bool.and_eq_true] at h
  exact h.1

theorem request_ok [Gv] {AK RQ : List AV} {u c : Nat} (hA : AkF AK RQ u c) : ACalls Tryz.prog GP 15 [.agg AK] [] (fun r os => os = [] ∧ r = .agg (RQ.take 19 ++ [.val (.float .f64 u)])) := by
  have hAl := hA.len
  have hAo := hA.ones
  have hArq := hA.rq
  have hA20 := hA.f20
  have cF := ffrom_ok u
  have f20 : AK[20]?.getD .top = .val (.int .u64 (u : Int)) := by simpa using hA20
  refine acalls_of_awp Tryz.func15 rfl rfl Tryz.ntmps15 (rts := #[29]) rfl Tryz.results15 (by simp) ?_
  simp only [argSlots, Nat.reduceAdd]
  refine awp_seq_k fun K hK => awp_region [] ?_
  simp only [qq, K_eqs, aboxF, acells, K_ops, hAo, abox, Nat.reduceLT, aalloc, tzeros, cav, K_nil, Then]
  (repeat' apply And.intro) <;> try (first | exact True.intro | omega)
  refine hK _ ?_
  clear hK K
  refine awp_seq_k fun K hK => awp_region [] ?_
  simp only [qq, K_eqs, afieldAddr, Tryz.underlying32, tszs, K_ops, Nat.reduceEqDiff, reduceCtorEq, ne_eq, Nat.reduceLT, aload, apart, isAggD, Tryz.underlying30, K_call, Nat.reduceAdd, K_clo, aviews, aview, ntok, List.headD_cons, hAl, hA20, noref]
  refine andC_ext trivial cF ?_
  simp only [qq, RestC_eqs, K_eqs, afieldAddr, Tryz.underlying32, tszs, K_ops, Nat.reduceEqDiff, reduceCtorEq, ne_eq, Nat.reduceLT, Tryz.underlying29, K_store, astore, acells, List.all_cons, oneC, Value.oneCell', List.all_nil, spl, K_nil, Then, Nat.reduceAdd, hAl, Nat.reduceLeDiff]
  have hnf : norefs (RQ.take 19 ++ [.val (.float .f64 u)]) = true := by
    rw [norefs_append, ← hArq]
    simp only [norefs_take _ _ (norefs_take _ _ hA.nor), norefs, noref]
    rfl
  have hRl : (RQ.take 19).length = 19 := by rw [← hArq]; simp [hAl]
  have hBt : (List.take 19 AK ++ [AV.val (.float .f64 u)] ++ List.drop 20 AK).take 20 = RQ.take 19 ++ [.val (.float .f64 u)] := by
    have h19 : (List.take 19 AK ++ [AV.val (.float .f64 u)]).length = 20 := by simp [hAl]
    rw [List.take_append_of_le_length (by omega), List.take_of_length_le (by omega), ← hArq, List.take_take]
    rfl
  have hBl : (List.take 19 AK ++ [AV.val (.float .f64 u)] ++ List.drop 20 AK).length = 22 := by simp [hAl]
  have hBo : (List.take 19 AK ++ [AV.val (.float .f64 u)] ++ List.drop 20 AK).all oneC = true := by
    have h1 : (List.take 19 AK).all oneC = true := List.all_eq_true.2 fun x hx => List.all_eq_true.1 hAo x (List.mem_of_mem_take hx)
    have h2 : (List.drop 20 AK).all oneC = true := List.all_eq_true.2 fun x hx => List.all_eq_true.1 hAo x (List.mem_of_mem_drop hx)
    rw [List.all_append, List.all_append, h1, h2]
    rfl
  have hRo : (RQ.take 19 ++ [AV.val (.float .f64 u)]).all oneC = true := by
    rw [← hBt]
    exact List.all_eq_true.2 fun x hx => List.all_eq_true.1 hBo x (List.mem_of_mem_take hx)
  have hRl' : (RQ.take 19 ++ [AV.val (.float .f64 u)]).length = 20 := by simp [hRl]
  generalize List.take 19 AK ++ [AV.val (.float .f64 u)] ++ List.drop 20 AK = BF at *
  generalize RQ.take 19 ++ [.val (.float .f64 u)] = RF at *
  refine hK _ ?_
  clear hK K
  refine awp_keep [1, 2] ?_
  simp only [keep_eqs, K_ops, Nat.reduceEqDiff, if_true, if_false]
  refine awp_seq_k fun K hK => awp_region [] ?_
  simp only [qq, K_eqs, afieldAddr, Tryz.underlying32, tszs, K_ops, Nat.reduceEqDiff, ne_eq, reduceCtorEq, Nat.reduceLT, aload, apart, isAggD, Tryz.underlying29, K_store, astore, acells, Nat.reduceAdd, spl, K_nil, Then, hBl, Nat.reduceLeDiff, hBt, hRo, hRl', List.drop_nil]
  (repeat' apply And.intro) <;> try (first | exact True.intro | omega)
  refine hK _ ?_
  clear hK K
  refine awp_keep [2] ?_
  simp only [keep_eqs, K_ops, Nat.reduceEqDiff, if_true, if_false]
  refine awp_ret ?_
  simp only [qq, K_fin, ares, aress, ares1, aload, K_ops, apart, isAggD, Tryz.underlying29, tszs, hRl', afin, noref]
  have e : RF.take 20 = RF := List.take_of_length_le (by omega)
  rw [e]
  exact ⟨hnf, rfl⟩
theorem RqF.cost [Gv] {RQ : List AV} {op path : List UInt8} (h : RqF RQ op path) (u : Nat) : (RQ.take 19 ++ [AV.val (.float .f64 u)]).length = 20 ∧ (RQ.take 19 ++ [AV.val (.float .f64 u)]).all oneC = true ∧ norefs (RQ.take 19 ++ [AV.val (.float .f64 u)]) = true := by
  refine ⟨by simp [h.len], ?_, ?_⟩
  · have h1 : (RQ.take 19).all oneC = true := List.all_eq_true.2 fun x hx => List.all_eq_true.1 h.ones x (List.mem_of_mem_take hx)
    rw [List.all_append, h1]
    rfl
  · rw [norefs_append, norefs_take _ _ h.nor]
    rfl
theorem minted_ok [Gv] {C : List Nat → List UInt8 → List Nat} (hC : COk C) (tag : List UInt8) (ht : tag.length = 32) (id : List UInt8) (hid : id.length < 9223372036854775808) (AK RQ : List AV) (u c : Nat) (hA : AkF AK RQ u c) (op path : List UInt8) (hR : RqF RQ op path)
    (ho : op.length < 9223372036854775808) (hp : path.length < 9223372036854775808) (hu : u < 18446744073709551616) (hc : c < 18446744073709551616) :
    ACalls Tryz.prog GP 3 [.agg (Bs tag), str id, .agg AK] [] (fun r os => os = [] ∧ r = .val (.bool true)) := by
  have cA := alive_ok hC
  have cO := odd_ok hR ho hp
  have cN := service_new_ok 1 (by omega)
  have F2 := OP_F 1 0 0 c (Z 32) rfl [] 0
  have F3 := OP_F 7 1 0 0 (Z 32) rfl id 0
  have hmin : 0 + min c (18446744073709551615 - 0) = c := by omega
  have cD2 := doplain_ok 0 1 1 (KM tag u) (objOk_KM _ _) [] c 1 (KM tag u) (objOk_KM _ _) [] _ F2 (by omega) (by have h := plaintick_ok 0 1 1 (KM tag u) (objOk_KM _ _) [] (by omega) _ F2 hc; rw [hmin] at h; exact h)
  have hAt : AK.take 22 = AK := List.take_of_length_le (by rw [hA.len]; exact Nat.le_refl _)
  have htk : tag.take 32 = tag := List.take_of_length_le (by omega)
  have hd64 : List.drop 32 (Z 96) = Z 64 := by kernel_rfl
  have hl96 : (Bs tag ++ Bs (Z 64)).length = 96 := by rw [List.length_append, Bs_length, Bs_length, Z_length, ht]
  have ho96 : (Bs tag ++ Bs (Z 64)).all oneC = true := by rw [List.all_append, Bs_one, Bs_one]; rfl
  have F1 := OP_F 2 0 u 0 tag ht [] 0
  have cD1 := doplain_ok 0 1 0 (.map []) rfl [] 0 1 (KM tag u) (objOk_KM _ _) [] _ F1 (by omega) (plainroot_ok 0 1 (by omega) [] _ F1)
  have hAl := hA.len
  have hAo := hA.ones
  have hArq := hA.rq
  have hA20 := hA.f20
  have hA21 := hA.f21
  have hRn := hR.nor
  have hbl : (Bs tag).length = 32 := by rw [Bs_length, ht]
  have hbo : (Bs tag).all oneC = true := Bs_one _
  simp only [str] at *
  refine acalls_of_awp Tryz.func3 rfl rfl Tryz.ntmps3 (rts := #[4]) rfl Tryz.results3 (by simp) ?_
  simp only [argSlots, Nat.reduceAdd]
  refine awp_seq_k fun K hK => awp_region [3, 5] ?_
  simp only [qq, K_eqs, List.contains_cons, beq_self_eq_true, Nat.reduceBEq, aboxF, acells, K_ops, reduceCtorEq, hbo, abox, Nat.reduceLT, Bool.false_or, Nat.reduceEqDiff, hAo, cav, K_nil, Then]
  refine hK _ ?_
  clear hK K
  refine awp_keep [1, 3, 5] ?_
  simp only [keep_eqs, K_ops, Nat.reduceEqDiff, if_true, if_false]
  refine awp_seq_k fun K1 hK1 => ?_
  refine awp_seq_k fun K hK => awp_region [] ?_
  simp only [qq, K_call, Nat.reduceLT, Nat.reduceAdd, K_ops, K_clo, aviews]
  refine andC_eq trivial cA rfl ?_
  simp only [qq, RestC_eqs, K_eqs, aun, K_ops, Nat.reduceEqDiff, Bool.not_true, Nat.reduceLT, K_nil, Then]
  refine hK _ ?_
  clear hK K
  refine awp_condF rfl (awp_skip (hK1 _ ?_))
  clear hK1 K1
  refine awp_keep [1, 3, 5] ?_
  simp only [keep_eqs, K_ops, Nat.reduceEqDiff, if_true, if_false]
  refine awp_seq_k fun K1 hK1 => ?_
  refine awp_seq_k fun K hK => ?_
  have next : ∀ (t : Bool) (s : St), t = (decide (2000 < id.length) || oddR op path) → Weak GP s ⟨91, [(21, .val (.bool t)), (1, .val (.string ⟨id.toArray⟩)), (3, .cptr (Bs tag)), (5, .cptr AK)], []⟩ → K s := by
    intro t s ht' hw
    refine hK s (awp_weak hw ?_)
    clear hw hK K
    refine awp_cond rfl rfl (fun h => ?_) (fun h => ?_)
    · skip
      refine awp_keep [0] ?_
      simp only [keep_eqs, K_ops, Nat.reduceEqDiff, if_true, if_false]
      refine awp_seq_k fun K hK => awp_region [] ?_
      simp only [qq, K_eqs, Nat.reduceLT, K_ops, cav, K_nil, Then]
      (repeat' apply And.intro) <;> try (first | exact True.intro | omega)
      refine hK _ ?_
      clear hK K
      refine awp_keep [6] ?_
      simp only [keep_eqs, K_ops, Nat.reduceEqDiff, if_true, if_false]
      refine awp_ret ?_
      simp only [qq, Then, InBlock, K_fin, ares, aress, ares1, afin, ntok, noref, eq_self, K_ops, Nat.reduceEqDiff, List.headD_cons, List.tail_cons]
    · subst ht'
      have hno : id.length ≤ 2000 ∧ oddR op path = false := by
        simp only [Bool.or_eq_false_iff, decide_eq_false_iff_not] at h
        exact ⟨by omega, h.2⟩
      refine awp_skip (hK1 _ ?_)
      clear hK1 K1
      refine awp_seq_k fun K hK => awp_region [1000022] ?_
      simp only [qq, K_call, Nat.reduceLT, Nat.reduceAdd, List.contains_cons, beq_self_eq_true, K_ops, cav, K_clo, Nat.reduceBEq, aviews, aview, noref]
      refine andH_gen [] false [3] ⟨by decide, by simp, by simp⟩ rfl (by simp [noref]) (by simpa [GHd] using cN) ⟨by simp, by simp [SV, KO, SO, refO, refs, ref, refP, OS], by simp [SV, refs, ref], fun h => by cases h⟩ ?_
      have hB : GBack [] [] (SV 0 1 0 (.map []) []) = SV 0 1 0 (.map []) [] := rfl
      rw [hB]
      simp only [qq, ren, σn, Nat.reduceLT, Nat.reduceSub, RestH_eqs, K_eqs, K_ops, Nat.reduceEqDiff, K_nil, Then]
      refine hK _ ?_
      clear hK K hB
      refine awp_keep [1, 3, 5, 7] ?_
      simp only [keep_eqs, K_ops, Nat.reduceEqDiff, if_true, if_false]
      refine awp_seq_k fun K1 hK1 => ?_
      refine awp_seq_k fun K hK => awp_region [] ?_
      simp only [qq, K_eqs, Nat.reduceLT, K_ops, Nat.reduceEqDiff, cav, K_binC, K_int, K_nil, Then]
      (repeat' apply And.intro) <;> try (first | exact True.intro | omega)
      refine hK _ ?_
      clear hK K
      refine awp_condF rfl (awp_skip (hK1 _ ?_))
      clear hK1 K1
      refine awp_keep [1, 3, 5, 7] ?_
      simp only [keep_eqs, K_ops, Nat.reduceEqDiff, if_true, if_false]
      refine awp_seq_k fun K hK => awp_region [1000031] ?_
      simp only [qq, K_eqs, Nat.reduceLT, K_ops, Nat.reduceEqDiff, aload, apart, isAggD, Tryz.underlying23, tszs, hbl, Bs_take, htk, abuild, tzeros, Tryz.underlying42, zvs_u8, aparts, afill, spl, Nat.zero_mul, acells, Bs_drop, Bs_length, Z_length, Nat.reduceLeDiff, afieldAddr, Tryz.underlying32, ne_eq, reduceCtorEq, hAl, List.contains_cons, Nat.reduceBEq, Tryz.underlying30, Tryz.underlying46, tsfs, cav, Nat.reduceAdd, List.all_cons, oneC, Value.oneCell', List.all_nil, K_call, beq_self_eq_true, K_clo, aviews, aview, ntok, List.tail_cons, List.headD_cons, List.length_drop, Nat.reduceSub, drop_getD, hA20, hbo, hd64, hl96, ho96]
      refine andH_arg (O := OP 2 0 u 0 (Bs tag ++ Bs (Z 64)) [] 0) (by kernel_rfl) (andH_do _ F1.nor rfl rfl (objOk_KM _ _) cD1 (List.append_nil _).symm ?_)
      simp only [List.append_nil, RestH_eqs, K_nil, Then]
      refine hK _ ?_
      clear hK K
      refine awp_keep [1, 5, 7] ?_
      simp only [keep_eqs, K_ops, Nat.reduceEqDiff, if_true, if_false]
      refine awp_seq_k fun K hK => awp_region [1000036] ?_
      simp only [qq, K_eqs, Nat.reduceLT, K_ops, Nat.reduceEqDiff, afieldAddr, Tryz.underlying32, tszs, ne_eq, reduceCtorEq, hAl, Nat.reduceLeDiff, aload, List.contains_cons, Nat.reduceBEq, apart, isAggD, Tryz.underlying30, abuild, tzeros, Tryz.underlying46, tsfs, cav, aparts, afill, spl, acells, Nat.reduceAdd, List.all_cons, oneC, Value.oneCell', List.all_nil, K_call, beq_self_eq_true, K_clo, aviews, aview, ntok, List.tail_cons, List.headD_cons, List.length_drop, Nat.reduceSub, drop_getD, hA21]
      refine andH_arg (O := OP 1 0 0 c (Bs (Z 32) ++ Bs (Z 64)) [] 0) (by kernel_rfl) (andH_do _ F2.nor rfl (objOk_KM _ _) (objOk_KM _ _) cD2 (List.append_nil _).symm ?_)
      simp only [List.append_nil, RestH_eqs, K_nil, Then]
      refine hK _ ?_
      clear hK K
      refine awp_keep [1, 5, 7] ?_
      simp only [keep_eqs, K_ops, Nat.reduceEqDiff, if_true, if_false]
      by_cases hcu : u ≤ c
      · have cD3 := doroot_pan c 1 1 (KM tag u) (objOk_KM _ _) [] _ F3 (e := 5) (r := 4) (rootold_ok c 1 tag ht u (by omega) [] _ F3)
        refine awp_seq_k fun K hK => awp_region [1000040] ?_
        simp only [qq, K_eqs, Nat.reduceLT, K_ops, Nat.reduceEqDiff, abuild, tzeros, Tryz.underlying46, tsfs, cav, aparts, afill, spl, acells, Nat.reduceAdd, Nat.reduceLeDiff, List.all_cons, oneC, Value.oneCell', List.all_nil, K_call, List.contains_cons, beq_self_eq_true, K_clo, Nat.reduceBEq, aviews, aview, ntok, List.tail_cons, List.headD_cons]
        refine andH_arg (O := OP 7 1 0 0 (Bs (Z 32) ++ Bs (Z 64)) id 0) (by kernel_rfl) (andH_do _ F3.nor rfl (objOk_KM _ _) (objOk_KM _ _) cD3 (List.append_nil _).symm ?_)
        simp only [qq, SV, AN, Int.cast_ofNat_Int, RestH_eqs, K_eqs, aalloc, tzeros, Nat.reduceAdd, cav, Nat.reduceLT, K_store, astore, K_ops, Nat.reduceEqDiff, tszs, acells, List.all_cons, oneC, Value.oneCell', List.all_nil, spl, K_nil, Then, List.drop_nil]
        refine hK _ ?_
        clear hK K
        refine awp_keep [5, 8] ?_
        simp only [keep_eqs, K_ops, Nat.reduceEqDiff, if_true, if_false]
        refine awp_seq_k fun K hK => ?_
        have d1 : decide (u ≤ c) = true := decide_eq_true hcu
        refine awp_seq_k fun K hK => awp_region [] ?_
        simp only [qq, K_eqs, afieldAddr, Tryz.underlying32, tszs, K_ops, Nat.reduceEqDiff, ne_eq, reduceCtorEq, hAl, Nat.reduceLeDiff, Nat.reduceLT, aload, apart, isAggD, Tryz.underlying30, K_binC, K_nil, Then, List.length_drop, Nat.reduceSub, Nat.zero_lt_succ, drop_getD, hA20, hA21, K_int, aint, d_len, d1]
        (repeat' apply And.intro) <;> try (first | exact True.intro | omega)
        refine hK _ ?_
        clear hK K
        refine awp_condT rfl ?_
        refine awp_keep [8] ?_
        simp only [keep_eqs, K_ops, Nat.reduceEqDiff, if_true, if_false]
        refine awp_seq_k fun K hK => awp_region [] ?_
        simp only [qq, K_eqs, afieldAddr, Tryz.underlying40, tszs, K_ops, ne_eq, reduceCtorEq, Nat.reduceLT, aload, Nat.reduceEqDiff, apart, isAggD, Tryz.underlying37, cav, K_binC, Nat.reduceAdd, Nat.zero_lt_succ, K_int, aint, beq_self_eq_true, gval, gslot, Option.bind_some, gdec_eqs, K_gT, gok, Tryz.underlying38, apick, K_nil, Then, List.getD_cons_succ]
        refine hK _ ?_
        clear hK K
        refine awp_keep [6] ?_
        simp only [keep_eqs, K_ops, Nat.reduceEqDiff, if_true, if_false]
        refine awp_ret ?_
        simp only [qq, Then, K_fin, ares, aress, ares1, afin, K_ops, noref]
      · have hlive : c < u := by omega
        have d1 : decide (u ≤ c) = false := decide_eq_false hcu
        by_cases hlong : id.length ≤ 1024
        · have cD3 := doroot_ok c 1 1 (KM tag u) (objOk_KM _ _) [] c 1 (KM tag u) (objOk_KM _ _) _ _ F3 (.inl rfl) (rootmint_ok hC c 1 tag ht u hlive [] (by simp) _ F3 (by omega) (okT_mint _ _ _ hlong) (lenB_mint hC _ _ hlong))
          have hJ := hR.cost u
          have hsm := small_mintT hC tag 1 (by omega) id (by omega)
          have cQ := request_ok hA
          have cS := store2_ok c 1 1 (KM tag u) (objOk_KM _ _) [⟨encB (mintT C tag 1 id), true, false⟩] (by simp)
          have cG := sget2_ok [⟨encB (mintT C tag 1 id), true, false⟩] (by simp) 0 (by simp)
          have cJ1 := judge_ok hC c 1 tag ht u [⟨encB (mintT C tag 1 id), true, false⟩] (mintT C tag 1 id) [] hsm rfl rfl (okT_mint _ _ _ hlong) (lenB_mint hC _ _ hlong) rfl rfl (RQ.take 19 ++ [.val (.float .f64 u)]) hJ.1 hJ.2.1 hJ.2.2 (fun _ => true) (fun s hs => by simp at hs)
          have cJ2 := judge_ok hC 18446744073709551615 1 tag ht u [⟨encB (mintT C tag 1 id), true, false⟩] (mintT C tag 1 id) [] hsm rfl rfl (okT_mint _ _ _ hlong) (lenB_mint hC _ _ hlong) rfl rfl (RQ.take 19 ++ [.val (.float .f64 u)]) hJ.1 hJ.2.1 hJ.2.2 (fun _ => true) (fun s hs => by simp at hs)
          rw [if_pos hlive, if_pos (by simp)] at cJ1
          rw [if_neg (by omega)] at cJ2
          have F4 := OP_F 1 0 0 18446744073709551615 (Z 32) rfl [] 0
          have hmax : c + min 18446744073709551615 (18446744073709551615 - c) = 18446744073709551615 := by omega
          have cD4 := doplain_ok c 1 1 (KM tag u) (objOk_KM _ _) [⟨encB (mintT C tag 1 id), true, false⟩] 18446744073709551615 1 (KM tag u) (objOk_KM _ _) [⟨encB (mintT C tag 1 id), true, false⟩] _ F4 (by omega) (by have h := plaintick_ok c 1 1 (KM tag u) (objOk_KM _ _) [⟨encB (mintT C tag 1 id), true, false⟩] (by omega) _ F4 (by omega); rw [hmax] at h; exact h)
          have hrf := fun q => refs_SV q 1 1 (KM tag u) (objOk_KM _ _) [⟨encB (mintT C tag 1 id), true, false⟩]
          have hOA : OA (⟨encB (mintT C tag 1 id), true, false⟩ : OutV) = [.val (.string ⟨(encB (mintT C tag 1 id)).toArray⟩), .val (.bool true), .val (.bool false)] := rfl
          simp only [List.getElem_cons_succ, List.getElem_cons_zero, hOA] at cG
          rw [List.nil_append] at cD3
          clear hsm hOA
          generalize encB (mintT C tag 1 id) = e1 at *
          generalize RQ.take 19 ++ [AV.val (.float .f64 u)] = RF at *
          have hnB := Go.V.norefs_Bs e1
          have hvw : ∀ q rest, gviews Tryz.prog (SV q 1 1 (KM tag u) [⟨e1, true, false⟩] ++ rest) (List.range 5) [35, 54, 29] [.ptr 0 0, .sl e1.length (Bs e1) .no, .agg RF] = some (True ∧ norefs (Bs e1) = true ∧ True ∧ True, false, [.ptr 0 0, .sl e1.length (Bs e1) .no, .agg RF]) := fun q rest => by
            simp only [gviews, gview, refs_noref _ _ hJ.2.2, rens_noref _ _ hJ.2.2]
            rfl
          refine awp_seq_k fun K hK => awp_region [1000040] ?_
          simp only [qq, K_eqs, Nat.reduceLT, K_ops, Nat.reduceEqDiff, abuild, tzeros, Tryz.underlying46, tsfs, cav, aparts, afill, spl, acells, Nat.reduceAdd, Nat.reduceLeDiff, List.all_cons, oneC, Value.oneCell', List.all_nil, K_call, List.contains_cons, beq_self_eq_true, K_clo, Nat.reduceBEq, aviews, aview, ntok, List.tail_cons, List.headD_cons]
          refine andH_arg (O := OP 7 1 0 0 (Bs (Z 32) ++ Bs (Z 64)) id 0) (by kernel_rfl) (andH_do _ F3.nor rfl (objOk_KM _ _) (objOk_KM _ _) cD3 (List.append_nil _).symm ?_)
          simp only [qq, SV, AN, Int.cast_ofNat_Int, RestH_eqs, K_eqs, aalloc, tzeros, Nat.reduceAdd, cav, Nat.reduceLT, K_store, astore, K_ops, Nat.reduceEqDiff, tszs, acells, List.all_cons, oneC, Value.oneCell', List.all_nil, spl, K_nil, Then, List.drop_nil]
          refine hK _ ?_
          clear hK K
          refine awp_keep [1, 5, 7, 8] ?_
          simp only [keep_eqs, K_ops, Nat.reduceEqDiff, if_true, if_false]
          refine awp_seq_k fun K1 hK1 => ?_
          refine awp_seq_k fun K hK => awp_region [] ?_
          simp only [qq, K_eqs, afieldAddr, Tryz.underlying32, tszs, K_ops, Nat.reduceEqDiff, ne_eq, reduceCtorEq, hAl, Nat.reduceLeDiff, Nat.reduceLT, aload, apart, isAggD, Tryz.underlying30, K_binC, K_nil, Then, List.length_drop, Nat.reduceSub, Nat.zero_lt_succ, drop_getD, hA20, hA21, K_int, aint, d_len, d1]
          (repeat' apply And.intro) <;> try (first | exact True.intro | omega)
          refine hK _ ?_
          clear hK K
          refine awp_condF rfl (awp_skip (hK1 _ ?_))
          clear hK1 K1
          refine awp_keep [1, 5, 7, 8] ?_
          simp only [keep_eqs, K_ops, Nat.reduceEqDiff, if_true, if_false]
          refine awp_seq_k fun K1 hK1 => ?_
          have d2 : decide ((id.length : Int) > 1024) = false := decide_eq_false (by omega)
          refine awp_seq_k fun K hK => awp_region [] ?_
          simp only [qq, K_eqs, Nat.reduceLT, K_ops, Nat.reduceEqDiff, abuiltin, amaplen, alen, Tryz.underlying9, ba_size, cav, K_binC, K_nil, Then, K_int, aint, d2]
          (repeat' apply And.intro) <;> try (first | exact True.intro | omega)
          refine hK _ ?_
          clear hK K
          refine awp_condF rfl (awp_skip (hK1 _ ?_))
          clear hK1 K1
          refine awp_keep [5, 7, 8] ?_
          simp only [keep_eqs, K_ops, Nat.reduceEqDiff, if_true, if_false]
          refine awp_freeze 8 5 [.val (.int .i64 0), .val (.int .i64 0), .val (.int .u64 0), .val (.int .i64 0)] rfl rfl (Nat.zero_lt_succ _) rfl ?_
          simp only [List.set_cons_succ, List.set_cons_zero]
          refine awp_keep [5, 7, 8] ?_
          simp only [keep_eqs, K_ops, Nat.reduceEqDiff, if_true, if_false]
          refine awp_seq_k fun K hK => ?_
          refine awp_draw [2000062, 64, 65] (by kernel_rfl) (by kernel_rfl) ?_
          simp only [qq, K_eqs, Nat.reduceLT, K_ops, Nat.reduceEqDiff, K_call, Nat.reduceAdd, List.contains_cons, Nat.reduceBEq, K_clo, beq_self_eq_true, aviews, aview]
          refine andH_range (objs := SV c 1 1 (KM tag u) [⟨e1, true, false⟩]) (rest := [.dead]) [35] (hrf c) rfl (by simp) cS rfl (hrf c) (by simp [ref, refs, refP, refs_noref _ _ (norefs_OS _)]) ?_
          simp only [qq, SV, RestK_eqs, Nat.reduceAdd, K_eqs, afieldAddr, Tryz.underlying40, tszs, K_ops, Nat.reduceEqDiff, ne_eq, reduceCtorEq, Nat.reduceLeDiff, Nat.reduceLT, aload, List.contains_cons, Nat.reduceBEq, beq_self_eq_true, Bool.false_or, apart, isAggD, Tryz.underlying3, K_call, K_clo, aviews, aview, noref, norefs, Bool.true_and, ntok, List.tail_cons, List.headD_cons]
          refine andC_eq (by simp [norefs, noref, norefs_OS]) cG (by simp [norefs, noref]) ?_
          simp only [qq, RestC_eqs, K_eqs, Nat.reduceLT, K_ops, Nat.reduceEqDiff, aext, aalloc, tzeros, Nat.reduceAdd, cav, K_store, astore, tszs, acells, spl, K_nil, Then, List.all_cons, oneC, Value.oneCell', List.all_nil, List.drop_nil]
          refine hK _ ?_
          clear hK K
          refine awp_keep [5, 7, 9, 10] ?_
          simp only [keep_eqs, K_ops, Nat.reduceEqDiff, if_true, if_false]
          refine awp_freeze 9 6 [.val (.string ⟨e1.toArray⟩), .val (.bool true), .val (.bool false)] rfl rfl (Nat.zero_lt_succ _) rfl ?_
          simp only [List.set_cons_succ, List.set_cons_zero]
          refine awp_keep [5, 7, 9, 10] ?_
          simp only [keep_eqs, K_ops, Nat.reduceEqDiff, if_true, if_false]
          refine awp_seq_k fun K1 hK1 => ?_
          refine awp_seq_k fun K hK => ?_
          refine awp_draw [2000077, 73, 75] (by kernel_rfl) (by kernel_rfl) ?_
          simp only [qq, K_eqs, Nat.reduceLT, K_ops, Nat.reduceEqDiff, aun, Bool.not_true, gval, gslot, Option.bind_some, gdec_eqs, Bool.not_false, K_gT, gok, afieldAddr, Tryz.underlying48, tszs, ne_eq, reduceCtorEq, Nat.reduceAdd, Nat.reduceLeDiff, aload, List.contains_cons, Nat.reduceBEq, beq_self_eq_true, Bool.false_or, apart, isAggD, Tryz.underlying9, K_conv, Tryz.underlying54, abytes, Tryz.underlying5, Tryz.underlying32, hAl, hAt, K_call, K_clo, aviews, aview, ntok, List.headD_cons, noref, Nat.zero_lt_succ, ba_size]
          refine andC_eq hA.nor cQ (by simp [noref, hJ.2.2]) ?_
          simp only [qq, RestC_eqs, gval, gslot, Option.bind_some, K_ops, Nat.reduceEqDiff, gdec_eqs, Bool.not_false, K_gT, gok, Nat.reduceLT, K_call, Nat.reduceAdd, List.contains_cons, Nat.reduceBEq, K_clo, beq_self_eq_true, aviews, aview, norefs_Bs, ntok, noref]
          refine andH_range (objs := SV c 1 1 (KM tag u) [⟨e1, true, false⟩]) [35, 54, 29] (hrf c) (hvw c _) ⟨trivial, hnB, trivial, trivial⟩ cJ1 rfl (hrf c) rfl ?_
          simp only [qq, SV, RestK_eqs, Nat.reduceAdd, gval, gslot, Option.bind_some, K_ops, Nat.reduceEqDiff, gdec_eqs, Bool.not_false, K_gT, gok, Nat.reduceLT, K_eqs, cav, K_binC, K_int, aint, Int.reduceBNe, apick, K_nil, Then]
          refine hK _ ?_
          clear hK K
          refine awp_keep [5, 7, 9, 79] ?_
          simp only [keep_eqs, K_ops, Nat.reduceEqDiff, if_true, if_false]
          refine awp_condF rfl (awp_skip (hK1 _ ?_))
          clear hK1 K1
          refine awp_keep [5, 7, 9] ?_
          simp only [keep_eqs, K_ops, Nat.reduceEqDiff, if_true, if_false]
          refine awp_seq_k fun K hK => awp_region [1000082] ?_
          simp only [qq, K_eqs, Nat.reduceLT, K_ops, Nat.reduceEqDiff, abuild, tzeros, Tryz.underlying46, tsfs, cav, aparts, afill, spl, acells, Nat.reduceAdd, Nat.reduceLeDiff, List.all_cons, oneC, Value.oneCell', List.all_nil, K_call, List.contains_cons, beq_self_eq_true, K_clo, Nat.reduceBEq, aviews, aview, ntok, List.tail_cons, List.headD_cons]
          refine andH_arg (O := OP 1 0 0 18446744073709551615 (Bs (Z 32) ++ Bs (Z 64)) [] 0) (by kernel_rfl) (andH_do _ F4.nor rfl (objOk_KM _ _) (objOk_KM _ _) cD4 rfl ?_)
          simp only [SV, Int.cast_ofNat_Int, List.length_cons, List.length_nil, Nat.zero_add, List.cons_append, List.nil_append, RestH_eqs, K_nil, Then]
          refine hK _ ?_
          clear hK K
          refine awp_keep [5, 7, 9] ?_
          simp only [keep_eqs, K_ops, Nat.reduceEqDiff, if_true, if_false]
          refine awp_seq_k fun K hK => ?_
          refine awp_draw [2000089, 85, 87] (by kernel_rfl) (by kernel_rfl) ?_
          simp only [qq, K_eqs, Nat.reduceLT, K_ops, Nat.reduceEqDiff, afieldAddr, Tryz.underlying48, tszs, ne_eq, reduceCtorEq, Nat.reduceAdd, Nat.reduceLeDiff, aload, List.contains_cons, Nat.reduceBEq, beq_self_eq_true, Bool.false_or, apart, isAggD, Tryz.underlying9, K_conv, Tryz.underlying54, abytes, Tryz.underlying5, Tryz.underlying32, hAl, hAt, K_call, K_clo, aviews, aview, ntok, List.headD_cons, noref, Nat.zero_lt_succ, ba_size]
          refine andC_eq hA.nor cQ (by simp [noref, hJ.2.2]) ?_
          simp only [qq, RestC_eqs, K_call, Nat.reduceLT, Nat.reduceAdd, List.contains_cons, Nat.reduceBEq, K_ops, Nat.reduceEqDiff, K_clo, beq_self_eq_true, aviews, aview, norefs_Bs, ntok, noref]
          refine andH_range (objs := SV 18446744073709551615 1 1 (KM tag u) [⟨e1, true, false⟩]) [35, 54, 29] (hrf _) (hvw _ _) ⟨trivial, hnB, trivial, trivial⟩ cJ2 rfl (hrf _) rfl ?_
          simp only [qq, SV, Int.cast_ofNat_Int, RestK_eqs, Nat.reduceAdd, K_eqs, K_ops, Nat.reduceEqDiff, cav, K_binC, K_int, aint, beq_self_eq_true, Nat.reduceLT, K_nil, Then]
          refine hK _ ?_
          clear hK K
          refine awp_keep [6] ?_
          simp only [keep_eqs, K_ops, Nat.reduceEqDiff, if_true, if_false]
          refine awp_ret ?_
          simp only [qq, K_fin, ares, aress, ares1, afin, K_ops, noref]
        · have cD3 := doroot_pan c 1 1 (KM tag u) (objOk_KM _ _) [] _ F3 (e := 1) (r := 0) (rootlong_ok hC c 1 tag ht u hlive [] _ F3 (by omega) (by simp [okT, mintT, hlong]))
          refine awp_seq_k fun K hK => awp_region [1000040] ?_
          simp only [qq, K_eqs, Nat.reduceLT, K_ops, Nat.reduceEqDiff, abuild, tzeros, Tryz.underlying46, tsfs, cav, aparts, afill, spl, acells, Nat.reduceAdd, Nat.reduceLeDiff, List.all_cons, oneC, Value.oneCell', List.all_nil, K_call, List.contains_cons, beq_self_eq_true, K_clo, Nat.reduceBEq, aviews, aview, ntok, List.tail_cons, List.headD_cons]
          refine andH_arg (O := OP 7 1 0 0 (Bs (Z 32) ++ Bs (Z 64)) id 0) (by kernel_rfl) (andH_do _ F3.nor rfl (objOk_KM _ _) (objOk_KM _ _) cD3 (List.append_nil _).symm ?_)
          simp only [qq, SV, AN, Int.cast_ofNat_Int, RestH_eqs, K_eqs, aalloc, tzeros, Nat.reduceAdd, cav, Nat.reduceLT, K_store, astore, K_ops, Nat.reduceEqDiff, tszs, acells, List.all_cons, oneC, Value.oneCell', List.all_nil, spl, K_nil, Then, List.drop_nil]
          refine hK _ ?_
          clear hK K
          refine awp_keep [1, 5, 8] ?_
          simp only [keep_eqs, K_ops, Nat.reduceEqDiff, if_true, if_false]
          refine awp_seq_k fun K1 hK1 => ?_
          refine awp_seq_k fun K hK => awp_region [] ?_
          simp only [qq, K_eqs, afieldAddr, Tryz.underlying32, tszs, K_ops, Nat.reduceEqDiff, ne_eq, reduceCtorEq, hAl, Nat.reduceLeDiff, Nat.reduceLT, aload, apart, isAggD, Tryz.underlying30, K_binC, K_nil, Then, List.length_drop, Nat.reduceSub, Nat.zero_lt_succ, drop_getD, hA20, hA21, K_int, aint, d_len, d1]
          (repeat' apply And.intro) <;> try (first | exact True.intro | omega)
          refine hK _ ?_
          clear hK K
          refine awp_condF rfl (awp_skip (hK1 _ ?_))
          clear hK1 K1
          refine awp_keep [1, 8] ?_
          simp only [keep_eqs, K_ops, Nat.reduceEqDiff, if_true, if_false]
          refine awp_seq_k fun K1 hK1 => ?_
          have d2 : decide ((id.length : Int) > 1024) = true := decide_eq_true (by omega)
          refine awp_seq_k fun K hK => awp_region [] ?_
          simp only [qq, K_eqs, Nat.reduceLT, K_ops, Nat.reduceEqDiff, abuiltin, amaplen, alen, Tryz.underlying9, ba_size, cav, K_binC, K_nil, Then, K_int, aint, d2]
          (repeat' apply And.intro) <;> try (first | exact True.intro | omega)
          refine hK _ ?_
          clear hK K
          refine awp_condT rfl ?_
          refine awp_keep [8] ?_
          simp only [keep_eqs, K_ops, Nat.reduceEqDiff, if_true, if_false]
          refine awp_seq_k fun K hK => awp_region [] ?_
          simp only [qq, K_eqs, afieldAddr, Tryz.underlying40, tszs, K_ops, ne_eq, reduceCtorEq, Nat.reduceLT, aload, Nat.reduceEqDiff, apart, isAggD, Tryz.underlying37, cav, K_binC, K_nil, Then, Nat.reduceAdd, Nat.zero_lt_succ, K_int, aint, beq_self_eq_true]
          refine hK _ ?_
          clear hK K
          refine awp_keep [6] ?_
          simp only [keep_eqs, K_ops, Nat.reduceEqDiff, if_true, if_false]
          refine awp_ret ?_
          simp only [qq, Then, K_fin, ares, aress, ares1, afin, K_ops, noref]
  by_cases h0 : 2000 < id.length
  · have e1 : decide ((id.length : Int) > 2000) = true := decide_eq_true (by omega)
    refine awp_region [] ?_
    simp only [qq, K_eqs, Nat.reduceLT, K_ops, Nat.reduceEqDiff, abuiltin, amaplen, alen, Tryz.underlying9, ba_size, cav, K_binC, K_int, aint, e1, gval, gslot, Option.bind_some, gdec_eqs, K_gF, gok, apick, K_nil, Then]
    refine next _ _ ?_ (.of_keep [21, 1, 3, 5] (by exact rfl))
    simp [h0]
  · have e1 : decide ((id.length : Int) > 2000) = false := decide_eq_false (by omega)
    refine awp_region [] ?_
    simp only [qq, K_eqs, Nat.reduceLT, K_ops, Nat.reduceEqDiff, abuiltin, amaplen, alen, Tryz.underlying9, ba_size, cav, K_binC, K_int, aint, e1, gval, gslot, Option.bind_some, gdec_eqs, Bool.not_false, K_gT, gok, afieldAddr, Tryz.underlying32, tszs, ne_eq, reduceCtorEq, hAl, Nat.reduceLeDiff, aload, apart, isAggD, Tryz.underlying29, K_call, Nat.reduceAdd, K_clo, aviews, aview, ntok, List.headD_cons, hArq, noref]
    refine andC_eq hRn cO rfl ?_
    cases hodd : oddR op path
    · skip
      simp only [qq, RestC_eqs, gval, gslot, Option.bind_some, K_ops, Nat.reduceEqDiff, gdec_eqs, Bool.not_false, K_gT, gok, Nat.reduceLT, K_eqs, cav, K_binC, K_int, aint, Int.reduceBEq, apick, K_nil, Then]
      refine next _ _ ?_ (.of_keep [21, 1, 3, 5] (by exact rfl))
      simp [h0, hodd]
    · skip
      simp only [qq, RestC_eqs, gval, gslot, Option.bind_some, K_ops, Nat.reduceEqDiff, gdec_eqs, Bool.not_false, K_gT, gok, Nat.reduceLT, K_eqs, cav, K_binC, K_int, aint, beq_self_eq_true, apick, K_nil, Then]
      refine next _ _ ?_ (.of_keep [21, 1, 3, 5] (by exact rfl))
      simp [hodd]
end Go.Proofs.YtefdnmeopbkflaaGreatDoor
namespace Go.Proofs.YtefdnmeopbkflaaGreatDoor
open Go Go.V
set_option linter.unusedSimpArgs false
set_option linter.unusedVariables false
set_option maxRecDepth 20000
set_option maxRecDepth 100000

def plainTy (P : Program) (t : TypeId) : Bool := match P.underlying t with
  | some .string | some .bool | some (.int _) | some (.float _) => true
  | _ => false

theorem cell_plain [Gv] {P : Program} {w : World} {base : Nat} {t : TypeId} {v : Value} (ht : plainTy P t = true) (h : Cell.okWide P w .any base t v) : oneC (.val v) = true := by
  unfold plainTy at ht
  unfold Cell.okWide Cell.ok at h
  cases hu : P.underlying t with
  | none => rw [hu] at ht; cases ht
  | some d =>
    rw [hu] at ht h
    cases d <;> simp at ht <;> cases v <;> simp at h <;> rfl

theorem cell_str [Gv] {P : Program} {w : World} {base : Nat} {t : TypeId} {v : Value} (ht : P.underlying t = some .string) (h : Cell.okWide P w .any base t v) : ∃ l : List UInt8, v = .string ⟨l.toArray⟩ ∧ l.length < 9223372036854775808 := by
  unfold Cell.okWide Cell.ok at h
  rw [ht] at h
  cases v <;> simp at h
  rename_i s
  refine ⟨s.data.toList, rfl, ?_⟩
  have : ((s.data.toList.length : Nat) : Int) ≤ IntKind.i64.max := h
  have e : IntKind.i64.max = 9223372036854775807 := by decide
  omega

theorem cell_u64 [Gv] {P : Program} {w : World} {base : Nat} {t : TypeId} {v : Value} (ht : P.underlying t = some (.int .u64)) (h : Cell.okWide P w .any base t v) : ∃ n : Nat, v = .int .u64 (n : Int) ∧ n < 18446744073709551616 := by
  unfold Cell.okWide Cell.ok at h
  rw [ht] at h
  cases v <;> simp at h
  rename_i k n
  obtain ⟨rfl, h1, h2⟩ := h
  have e1 : IntKind.u64.min = 0 := by decide
  have e2 : IntKind.u64.max = 18446744073709551615 := by decide
  refine ⟨n.toNat, ?_, ?_⟩
  · rw [Int.toNat_of_nonneg (by omega)]
  · omega

theorem RepL_val [Gv] (E : Env) (l : List Value) : RepL E (l.map AV.val) l := by
  induction l with
  | nil => simp [RepL]
  | cons x l ih => simp only [List.map_cons, RepL]; exact ⟨x, l, rfl, rfl, ih⟩

theorem norefs_val [Gv] (l : List Value) : norefs (l.map AV.val) = true := by
  induction l with
  | nil => rfl
  | cons x l ih => simp only [List.map_cons, norefs, noref, ih]; rfl

theorem open_ask [Gv] {w : World} {base : Nat} {v : Value} (h : Value.okWide Tryz.prog w .any base 32 v) :
    ∃ AK op path u c, (∀ E : Env, RepV E (.agg AK) v) ∧ AkF AK (AK.take 20) u c ∧ RqF (AK.take 20) op path ∧ op.length < 9223372036854775808 ∧ path.length < 9223372036854775808 ∧ u < 18446744073709551616 ∧ c < 18446744073709551616 := by
  unfold Value.okWide at h
  rw [Tryz.underlying32] at h
  obtain ⟨cs, rfl, hsz, ts, hts, _, hall⟩ := h
  have hc : Tryz.prog.cellTypes Tryz.prog.depth 32 = some [9, 9, 4, 5, 5, 5, 5, 5, 5, 5, 5, 5, 5, 5, 5, 5, 5, 5, 5, 27, 30, 30] := by kernel_rfl
  have hn : Tryz.prog.cellsOf 32 = 22 := by kernel_rfl
  rw [hc] at hts
  injection hts with hts
  subst hts
  rw [hn] at hsz
  obtain ⟨l⟩ := cs
  simp only [List.size_toArray] at hsz
  have hcell : ∀ i, i < 22 → ∃ x t, l[i]? = some x ∧ [9, 9, 4, 5, 5, 5, 5, 5, 5, 5, 5, 5, 5, 5, 5, 5, 5, 5, 5, 27, 30, 30][i]? = some t ∧ Cell.okWide Tryz.prog w .any base t x := fun i hi => by
    obtain ⟨x, hx⟩ : ∃ x, l[i]? = some x := ⟨_, List.getElem?_eq_getElem (by omega)⟩
    obtain ⟨t, ht, hok⟩ := hall i x (by simpa using hx)
    refine ⟨x, t, hx, ?_, hok⟩
    simpa [Nat.mod_eq_of_lt hi] using ht
  have hone : (l.map AV.val).all oneC = true := by
    rw [List.all_eq_true]
    intro a ha
    obtain ⟨x, hx, rfl⟩ := List.mem_map.1 ha
    obtain ⟨i, hi, rfl⟩ := List.getElem_of_mem hx
    obtain ⟨x, t, h1, h2, h3⟩ := hcell i (by omega)
    rw [List.getElem?_eq_getElem hi] at h1
    injection h1 with h1
    rw [h1]
    refine cell_plain ?_ h3
    have hp : ([9, 9, 4, 5, 5, 5, 5, 5, 5, 5, 5, 5, 5, 5, 5, 5, 5, 5, 5, 27, 30, 30].all (plainTy Tryz.prog)) = true := by kernel_rfl
    exact List.all_eq_true.1 hp t (List.mem_of_getElem? h2)
  have u9 : Tryz.prog.underlying 9 = some .string := by kernel_rfl
  have u30 : Tryz.prog.underlying 30 = some (.int .u64) := by kernel_rfl
  obtain ⟨x0, t0, e0, f0, k0⟩ := hcell 0 (by omega)
  obtain ⟨x1, t1, e1, f1, k1⟩ := hcell 1 (by omega)
  obtain ⟨x20, t20, e20, f20, k20⟩ := hcell 20 (by omega)
  obtain ⟨x21, t21, e21, f21, k21⟩ := hcell 21 (by omega)
  obtain rfl : 9 = t0 := by simpa using f0
  obtain rfl : 9 = t1 := by simpa using f1
  obtain rfl : 30 = t20 := by simpa using f20
  obtain rfl : 30 = t21 := by simpa using f21
  obtain ⟨op, rfl, ho⟩ := cell_str u9 k0
  obtain ⟨path, rfl, hp⟩ := cell_str u9 k1
  obtain ⟨u, rfl, hu⟩ := cell_u64 u30 k20
  obtain ⟨c, rfl, hcc⟩ := cell_u64 u30 k21
  have hlen : (l.map AV.val).length = 22 := by rw [List.length_map]; exact hsz
  refine ⟨l.map AV.val, op, path, u, c, fun E => ?_, ⟨hlen, hone, norefs_val l, rfl, ?_, ?_⟩, ⟨?_, ?_, norefs_take _ _ (norefs_val l), ?_, ?_⟩, ho, hp, hu, hcc⟩
  · simp only [RepV]
    exact ⟨l, rfl, RepL_val E l⟩
  · simp [List.getD_eq_getElem?_getD, e20]
  · simp [List.getD_eq_getElem?_getD, e21]
  · rw [List.length_take, hlen]; rfl
  · exact List.all_eq_true.2 fun x hx => List.all_eq_true.1 hone x (List.mem_of_mem_take hx)
  · simp [List.getD_eq_getElem?_getD, List.getElem?_take, e0, str]
  · simp [List.getD_eq_getElem?_getD, List.getElem?_take, e1, str]
end Go.Proofs.YtefdnmeopbkflaaGreatDoor
namespace Go.Proofs.YtefdnmeopbkflaaGreatDoor
open Go
set_option linter.unusedSimpArgs false
set_option linter.unusedVariables false
set_option maxRecDepth 20000
set_option maxRecDepth 100000

abbrev listed : List (String × DataW Unit) := [("math/bits.deBruijn32tab", Rows.laid_math_bits_deBruijn32tab), ("math/bits.deBruijn64tab", Rows.laid_math_bits_deBruijn64tab), ("internal/strconv.uint64pow10", Rows.laid_internal_strconv_uint64pow10), ("unicode/utf8.acceptRanges", Rows.laid_unicode_utf8_acceptRanges), ("chitty/word.primes", Rows.laid_chitty_word_primes), ("strconv.ErrRange", Rows.laid_strconv_ErrRange), ("strconv.ErrSyntax", Rows.laid_strconv_ErrSyntax), ("unicode/utf8.first", Rows.laid_unicode_utf8_first)]

theorem laid_tail {P : Program} {x : String × DataW Unit} {l : List (String × DataW Unit)} {W : World} (h : laidMet P (x :: l) W) : laidMet P l W := by
  obtain ⟨n, d⟩ := x
  obtain ⟨ps, ⟨g, t, cs, fuel, p, q, _, _, _, _, hr, rfl⟩, hn, hall⟩ := h
  exact ⟨q, hr, (List.nodup_append.1 hn).2.1, fun b off hm => hall b off (List.mem_append_right _ hm)⟩

theorem laid_iface {P : Program} {W : World} {name nm : String} {d : DataW Unit} {rest : List (String × DataW Unit)} {g : Nat} {t : TypeId} {ms : Array (String × TypeId)}
    (hg : P.globalNamed name = some g) (hty : (P.globals[g]?).map (·.type) = some t) (ht : P.underlying t = some (.interface ms)) (h : laidMet P ((name, .iface nm d) :: rest) W) :
    ∃ u v, W.cell? ⟨g, 0, none⟩ = some (.iface u v) := by
  obtain ⟨ps, ⟨g', t', cs, fuel, p, q, hg', ht', hvar, hd, _, _⟩, _⟩ := h
  obtain rfl := Option.some.inj (hg.symm.trans hg')
  obtain rfl := Option.some.inj (hty.symm.trans ht')
  obtain ⟨f1, u, v, hcs, _⟩ := iface_of_trod ht hd
  refine ⟨u, v, ?_⟩
  rw [World.var?_cell hg hvar 0, ← Array.getElem?_toList, hcs]
  rfl

theorem GOk_of {w : World} {N : Nat} {tab : List (Nat × List V.AV)} (h : ∀ g cells, (g, cells) ∈ tab → 0 < cells.length ∧ cells.length ≤ N ∧ ∀ i c, cells[i]? = some c → ∃ v, c = .val v ∧ w.cell? ⟨g, i, none⟩ = some v) : V.GOk (V.Env.start w N) ⟨tab, []⟩ := by
  intro g cells hm
  obtain ⟨h1, h2, h3⟩ := h g cells hm
  obtain ⟨v0, _, hv0⟩ := h3 0 _ (List.getElem?_eq_getElem h1)
  refine ⟨V.cell_lt hv0, by simpa [V.Env.start] using h2, V.RepAt.of_cell fun i c hi => ?_, fun c hm => ?_⟩
  · obtain ⟨v, rfl, hv⟩ := h3 i c hi
    exact ⟨v, by rw [Nat.zero_add]; exact hv, rfl⟩
  · obtain ⟨i, hi, rfl⟩ := List.getElem_of_mem hm
    obtain ⟨v, hv, _⟩ := h3 i _ (List.getElem?_eq_getElem hi)
    exact ⟨v, hv⟩

theorem Is_cells {w : World} {g : Nat} {k : IntKind} {zs : List Int} (h : ∀ i, i < zs.length → w.cell? ⟨g, i, none⟩ = some (.int k (zs.getD i 0))) (i : Nat) (c : V.AV) (hi : (V.Is k zs)[i]? = some c) : ∃ v, c = .val v ∧ w.cell? ⟨g, i, none⟩ = some v := by
  have hi' : i < zs.length := by
    have := (List.getElem?_eq_some_iff.1 hi).1
    simpa [V.Is_length] using this
  have e : (V.Is k zs)[i]? = some (V.I k (zs.getD i 0)) := by
    simp [V.Is, List.getD_eq_getElem?_getD, List.getElem?_map, List.getElem?_eq_getElem hi']
  rw [e] at hi
  injection hi with hi
  subst hi
  exact ⟨_, rfl, h i hi'⟩

theorem int_of_shape {P : Program} {w : World} {g : Nat} {t : TypeId} {k : IntKind} {zero : Array Value} (h : w.ShapedOpen P) (hg : g < P.globals.size)
    (h0 : ((begin P (fun _ _ => 0) default).world.heap[g]?).bind Obj.row? = some (zero, t)) (hz : zero.size = 1)
    (hb : P.buildable t = true) (hc : P.cellTypes P.depth t = some [t]) (hu : P.underlying t = some (.int k)) : ∃ n, w.cell? ⟨g, 0, none⟩ = some (.int k n) := by
  obtain ⟨cs, hh, hs, hr⟩ := h.1 g zero t hg h0
  obtain ⟨ts, hts, _, hall⟩ := hr hb
  rw [hc] at hts
  cases hts
  have h1 : 0 < cs.size := by omega
  obtain ⟨u, hu', hok⟩ := hall 0 cs[0] (by simp [h1])
  have : u = t := by simpa using hu'.symm
  subst this
  have hcell : w.cell? ⟨g, 0, none⟩ = some cs[0] := by simp [World.cell?, hh, h1]
  rw [hcell]
  unfold Cell.ok at hok
  rw [hu] at hok
  cases hv : cs[0] <;> rw [hv] at hok <;> first | (obtain ⟨rfl, _⟩ := hok; exact ⟨_, rfl⟩) | simp at hok

theorem gok {W : World} (hL : laidMetH Tryz.prog listed W) (hs : W.ShapedOpen Tryz.prog) : ∃ G : Gv, ∀ n, 512 ≤ n → V.GOk (V.Env.start W n) (@GP G) := by
  have h0 : laidMet Tryz.prog listed W := by
    unfold laidMetH at hL
    rw [show (listed.filter fun x => x.2.handleName?.isSome) = [] from by kernel_rfl] at hL
    exact hL
  have h1 := laid_tail h0
  have h2 := laid_tail h1
  have h4 := laid_tail (laid_tail h2)
  have h5 := laid_tail h4
  have h6 := laid_tail h5
  have n2 : Tryz.prog.globalNamed "math/bits.deBruijn64tab" = some 2 := by kernel_rfl
  have n1 : Tryz.prog.globalNamed "internal/strconv.uint64pow10" = some 1 := by kernel_rfl
  have n9 : Tryz.prog.globalNamed "chitty/word.primes" = some 9 := by kernel_rfl
  have n4 : Tryz.prog.globalNamed "strconv.ErrRange" = some 4 := by kernel_rfl
  have n3 : Tryz.prog.globalNamed "strconv.ErrSyntax" = some 3 := by kernel_rfl
  have t2 : Lib.TabIs Tryz.prog W "math/bits.deBruijn64tab" .u8 tabB := Lib.tabIs_of_head n2 (t := 336) (e := 5) (n := 64) (by kernel_rfl) (by kernel_rfl) (by kernel_rfl) (by kernel_rfl) (by kernel_rfl) h1
  have t1 : Lib.TabIs Tryz.prog W "internal/strconv.uint64pow10" .u64 tabP := Lib.tabIs_of_head n1 (t := 330) (e := 30) (n := 20) (by kernel_rfl) (by kernel_rfl) (by kernel_rfl) (by kernel_rfl) (by kernel_rfl) h2
  have t9 : Lib.TabIs Tryz.prog W "chitty/word.primes" .u32 V.tabW := Lib.tabIs_of_head n9 (t := 371) (e := 279) (n := 64) (by kernel_rfl) (by kernel_rfl) (by kernel_rfl) (by kernel_rfl) (by kernel_rfl) h4
  obtain ⟨rT, rP, c4⟩ := laid_iface n4 (t := 206) (ms := #[("Error", 301)]) (by kernel_rfl) (by kernel_rfl) h5
  obtain ⟨sT, sP, c3⟩ := laid_iface n3 (t := 206) (ms := #[("Error", 301)]) (by kernel_rfl) (by kernel_rfl) h6
  obtain ⟨m, c5⟩ := int_of_shape (k := .i64) (t := 3) (g := 5) (zero := #[.int .i64 0]) hs (of_decide_eq_true (by kernel_rfl)) (by kernel_rfl) rfl (by kernel_rfl) (by kernel_rfl) (by kernel_rfl)
  refine ⟨⟨m, sT, sP, rT, rP⟩, fun n hn => GOk_of fun g cells hm => ?_⟩
  simp only [List.mem_cons, List.not_mem_nil, or_false, Prod.mk.injEq] at hm
  rcases hm with ⟨rfl, rfl⟩ | ⟨rfl, rfl⟩ | ⟨rfl, rfl⟩ | ⟨rfl, rfl⟩ | ⟨rfl, rfl⟩ | ⟨rfl, rfl⟩
  · have e : V.tabW.length = 64 := rfl
    exact ⟨by rw [V.Is_length, e]; omega, by rw [V.Is_length, e]; omega, Is_cells fun i hi => t9.cell n9 i hi⟩
  · refine ⟨by simp, by simp; omega, fun i c hi => ?_⟩
    rcases i with _ | i
    · injection hi with hi; subst hi; exact ⟨_, rfl, c5⟩
    · simp at hi
  · refine ⟨by simp, by simp; omega, fun i c hi => ?_⟩
    rcases i with _ | i
    · injection hi with hi; subst hi; exact ⟨_, rfl, c3⟩
    · simp at hi
  · refine ⟨by simp, by simp; omega, fun i c hi => ?_⟩
    rcases i with _ | i
    · injection hi with hi; subst hi; exact ⟨_, rfl, c4⟩
    · simp at hi
  · have e : tabP.length = 20 := rfl
    exact ⟨by rw [V.Is_length, e]; omega, by rw [V.Is_length, e]; omega, Is_cells fun i hi => t1.cell n1 i hi⟩
  · have e : tabB.length = 64 := rfl
    exact ⟨by rw [V.Is_length, e]; omega, by rw [V.Is_length, e]; omega, Is_cells fun i hi => t2.cell n2 i hi⟩
end Go.Proofs.YtefdnmeopbkflaaGreatDoor
namespace Go.Proofs.YtefdnmeopbkflaaGreatDoor
open Go
set_option linter.unusedVariables false
set_option maxRecDepth 20000
set_option maxRecDepth 1000000

def flat0 : DataW Unit → List Value
  | .lit (.int k n) => [.int k n]
  | _ => []
def flat1 : DataW Unit → List Value
  | .agg l => l.flatMap flat0
  | d => flat0 d
def flat2 : DataW Unit → List Value
  | .agg l => l.flatMap flat1
  | d => flat0 d

noncomputable def laidWorld (os : Os) : World :=
  let N := (World.settled Tryz.prog os).heap.size
  let w0 := World.holding Tryz.prog os ⟨#[.cells #[.string ⟨#[118, 97, 108, 117, 101, 32, 111, 117, 116, 32, 111, 102, 32, 114, 97, 110, 103, 101]⟩] 357, .cells #[.string ⟨#[105, 110, 118, 97, 108, 105, 100, 32, 115, 121, 110, 116, 97, 120]⟩] 357], #[], []⟩
  let put (h : Array Obj) (g : Nat) (cs : Array Value) : Array Obj := h.modify g fun
    | .cells _ t frozen => .cells cs t frozen
    | o => o
  let h0 := put (put w0.heap 4 #[.iface 355 (.pointer (some ⟨N, 0, none⟩))]) 3 #[.iface 355 (.pointer (some ⟨N + 1, 0, none⟩))]
  let h1 := put h0 6 (flat2 Rows.laid_math_bits_deBruijn32tab).toArray
  let h2 := put h1 2 (flat2 Rows.laid_math_bits_deBruijn64tab).toArray
  let h3 := put h2 1 (flat2 Rows.laid_internal_strconv_uint64pow10).toArray
  let h4 := put h3 8 (flat2 Rows.laid_unicode_utf8_acceptRanges).toArray
  let h5 := put h4 9 (flat2 Rows.laid_chitty_word_primes).toArray
  let h6 := put h5 7 (flat2 Rows.laid_unicode_utf8_first).toArray
  { w0 with heap := h6 }

noncomputable abbrev N0 : Nat := (World.settled Tryz.prog default).heap.size
theorem laid_met (os : Os) (args : Array Value) : laidMet Tryz.prog listed ((laidWorld os).forCall (fun _ _ => 0) ⟨#[], args, []⟩).memory :=
  (LaidIn.of_run (l := listed) [6, 2, 1, 8, 9, 4, N0, 3, N0 + 1, 7] 8 (by kernel_rfl) (by kernel_rfl) (by kernel_rfl) (by kernel_rfl)).met
theorem laid_metH (os : Os) (args : Array Value) : laidMetH Tryz.prog listed ((laidWorld os).forCall (fun _ _ => 0) ⟨#[], args, []⟩).memory := by
  unfold laidMetH
  rw [show (listed.filter fun x => x.2.handleName?.isSome) = [] from by kernel_rfl]
  exact laid_met os args
end Go.Proofs.YtefdnmeopbkflaaGreatDoor
