/- The examples of the document. -/
import Derived.Test.YtbhkcejjehgfcaaEi
namespace Go.Proofs.Ytbhkcejjehgfcaa
open Go.RowKit Go.Sort
set_option linter.unusedSimpArgs false
set_option linter.unusedVariables false

def exA : List (List St) := [[acSt 0 true], [acSt 1 true]]
def exB : List (List St) := [[acSt 0 true], [acSt 1 false], [acSt 2 false]]
def exC : List (List St) := [[acSt 0 false], [acSt 1 false]]
theorem exA_n : classesB exA = 2 := by decide
theorem exB_n : classesB exB = 4 := by decide
theorem exC_n : (visA exC).length = 1 := by decide
theorem exC_v : validB exC = true := by decide
set_option maxHeartbeats 4000000 in
set_option maxRecDepth 100000 in
theorem awake_ok : PureC Try.prog 9 [] (.bool true) := by
  have hm2 : 2 ≤ maxLen := by decide
  have hm3 : 3 ≤ maxLen := by decide
  have hA := classes_at exA (by decide)
  have hB := classes_at exB (by decide)
  have hC := explore_at exC (by decide)
  rw [exA_n, show ((2 : Nat) : Int) = 2 from rfl] at hA
  rw [exB_n, show ((4 : Nat) : Int) = 4 from rfl] at hB
  have hl : (rowOf pksP (exploreB (validB exC) exC)).length = 1 := by
    rw [exC_v]
    simp only [rowOf, exploreB, if_true, List.length_map]
    rw [(sort_perm _).length_eq, List.length_map]
    exact exC_n
  generalize rowOf pksP (exploreB (validB exC) exC) = rC at hC hl
  have hl2 : (rC.length : Int) = 1 := by rw [hl]; rfl
  simp only [thsP, exA, exB, exC, List.map_cons, List.map_nil] at hA hB hC
  refine PureC.of Try.func9 rfl 22 rfl (by decide) (by simp [AV.okB]) ?_
  repeat' (first | (refine T.seqK fun K hK => ?_) | (refine T.block ?_) | (refine T.reg (by kernel_rfl) fun K' hK' => ?_; simp only [startSt, frOf, List.map_cons, List.map_nil]; (repeat' (first | (with_reducible refine WL.fin ?_; refine hK' _ ?_; clear hK' K') | (with_reducible refine WD.fin ?_) | ((first | (with_reducible refine WL.step fun K2 hK2 => ?_) | (with_reducible refine WD.step fun K2 hK2 => ?_)); simp only [WS, WH, WO, WOv, WG, dstOk, hasDst, aop, ASt.ev, get_mk, put_some, put_none, lk_nil, lk_cons, cv_int, cv_bool, cv_slice, cv_string, cv_ptr, List.map_cons, List.map_nil, List.getElem?_cons_zero, List.getElem?_cons_succ, Option.getD_some, Option.getD_none, aload, aloadC, afield, aindex, abin, abinI, aun, alen, acells, Option.map_some, Option.map_none, if_true, if_false, Nat.reduceEqDiff, Nat.reduceLT, Nat.reduceLeDiff, Nat.reduceAdd, true_and, and_true, reduceIte, reduceCtorEq, Bool.not_true, Bool.not_false, Bool.true_eq_false, Bool.false_eq_true, true_implies, false_implies, implies_true, ASt.add, setHp, asplice, List.length_cons, List.length_nil, List.take_succ_cons, List.take_zero, List.drop_succ_cons, List.drop_zero, List.cons_append, List.nil_append, List.take_nil, List.drop_nil, Nat.zero_add, Nat.add_zero, Nat.le_refl, Nat.zero_le, Int.reduceEq, Int.reduceNe, Int.reduceLT, Int.reduceLE, List.append_nil, Int.reduceSub, Int.reduceAdd, abuild, afill, abuildS, pureL, chunks, List.range, List.range.loop, Nat.reduceMul, Nat.reduceMod, List.getD_cons_zero, List.getD_cons_succ, apartF, apartI, aslice, evI, Int.toNat_natCast, List.length_map, List.getElem?_map, Int.natCast_nonneg, ASt.subst, AO.sub_box, AO.sub_row, AO.sub_map, AO.sub_raw, AO.sub_lrec, AV.sub_p, AV.sub_elt, AV.sub_ptr, AV.sub_rptr, AV.sub_own, AV.sub_junk, AV.sub_cap0, AV.sub_agg, AV.sub_fn, AV.sub_tup, AV.sub_pre, AO.box, aval, pvals, ty_3, ty_4, ty_5, ty_9, ty_22, ty_25, ty_29, ty_30, ty_34, ty_40, ty_42, ty_44, ty_45, ty_46, ty_48, ty_52, ty_63, ty_65, ty_67, ty_69, ty_74, ty_80, ty_82, ty_90, ty_92, ty_96, ty_104, mapTy_69, keyed_3, hm2, hm3, hl2, beq_self_eq_true]; (repeat' (first | (with_reducible refine hK2 _ ?_; clear hK2 K2) | (with_reducible refine And.intro ?_ ?_) | (with_reducible intro hb) | ((first | (with_reducible apply callArmO) | (with_reducible apply callArm)); case h => exact CallV.plain (Ent.of Try.func22 (by kernel_rfl) rfl) (access_ok _ _) (by simp [AV.okB])) | ((first | (with_reducible apply callArmO) | (with_reducible apply callArm)); case h => exact CallV.plain (Ent.of Try.func14 (by kernel_rfl) rfl) (hA) (by simp [AV.okB])) | ((first | (with_reducible apply callArmO) | (with_reducible apply callArm)); case h => exact CallV.plain (Ent.of Try.func14 (by kernel_rfl) rfl) (hB) (by simp [AV.okB])) | ((first | (with_reducible apply callArmO) | (with_reducible apply callArm)); case h => exact CallV.plain (Ent.of Try.func13 (by kernel_rfl) rfl) (hC) (by simp [AV.okB]))))))); all_goals ((try simp only [ThenA, InBlock, reduceIte, Nat.reduceEqDiff]); (try ((repeat ((fail_if_success (refine hK _ ?_)); clear hK K)); refine hK _ ?_; clear hK K)))) | (refine T.skip ?_; (try simp only [ThenA, InBlock, reduceIte, Nat.reduceEqDiff]); (try ((repeat ((fail_if_success (refine hK _ ?_)); clear hK K)); refine hK _ ?_; clear hK K))) | (refine T.exit ?_; (try simp only [ThenA, InBlock, reduceIte, Nat.reduceEqDiff]); (try ((repeat ((fail_if_success (refine hK _ ?_)); clear hK K)); refine hK _ ?_; clear hK K))) | (refine T.condT rfl ?_) | (refine T.condF rfl ?_) | (refine T.cond rfl (fun hc => ?_) (fun hc => ?_)) | (refine T.ret ?_; (try simp only [ThenA, InBlock, reduceIte, Nat.reduceEqDiff]); (try ((repeat ((fail_if_success (refine hK _ ?_)); clear hK K)); refine hK _ ?_; clear hK K))))
  refine FinA.ret (.inr rfl) Try.results9 ?_; simp only [ares, aresL, ares1, WS, WH, WO, WOv, WG, dstOk, hasDst, aop, ASt.ev, get_mk, put_some, put_none, lk_nil, lk_cons, cv_int, cv_bool, cv_slice, cv_string, cv_ptr, List.map_cons, List.map_nil, List.getElem?_cons_zero, List.getElem?_cons_succ, Option.getD_some, Option.getD_none, aload, aloadC, afield, aindex, abin, abinI, aun, alen, acells, Option.map_some, Option.map_none, if_true, if_false, Nat.reduceEqDiff, Nat.reduceLT, Nat.reduceLeDiff, Nat.reduceAdd, true_and, and_true, reduceIte, reduceCtorEq, Bool.not_true, Bool.not_false, Bool.true_eq_false, Bool.false_eq_true, true_implies, false_implies, implies_true, ASt.add, setHp, asplice, List.length_cons, List.length_nil, List.take_succ_cons, List.take_zero, List.drop_succ_cons, List.drop_zero, List.cons_append, List.nil_append, List.take_nil, List.drop_nil, Nat.zero_add, Nat.add_zero, Nat.le_refl, Nat.zero_le, Int.reduceEq, Int.reduceNe, Int.reduceLT, Int.reduceLE, List.append_nil, Int.reduceSub, Int.reduceAdd, abuild, afill, abuildS, pureL, chunks, List.range, List.range.loop, Nat.reduceMul, Nat.reduceMod, List.getD_cons_zero, List.getD_cons_succ, apartF, apartI, aslice, evI, Int.toNat_natCast, List.length_map, List.getElem?_map, Int.natCast_nonneg, ASt.subst, AO.sub_box, AO.sub_row, AO.sub_map, AO.sub_raw, AO.sub_lrec, AV.sub_p, AV.sub_elt, AV.sub_ptr, AV.sub_rptr, AV.sub_own, AV.sub_junk, AV.sub_cap0, AV.sub_agg, AV.sub_fn, AV.sub_tup, AV.sub_pre, AO.box, aval, pvals, ty_3, ty_4, ty_5, ty_9, ty_22, ty_25, ty_29, ty_30, ty_34, ty_40, ty_42, ty_44, ty_45, ty_46, ty_48, ty_52, ty_63, ty_65, ty_67, ty_69, ty_74, ty_80, ty_82, ty_90, ty_92, ty_96, ty_104, mapTy_69, keyed_3, ]
end Go.Proofs.Ytbhkcejjehgfcaa
