/- Explore. -/
import Derived.Test.YtbhkcejjehgfcaaEg
import Derived.Test.YtbhkcejjehgfcaaDy
import Derived.Test.YtbhkcejjehgfcaaAv
import Derived.Ground.SlsfProg
namespace Go.Proofs
open Go.Shelf Go.RowKit Go.Lib Go.Sort
def Ytbhkcejjehgfcaa.sortK_ren : Go.Shelf.Ren := ⟨fun | 6 => 25 | 15 => 40 | 14 => 39 | 28 => 58 | 29 => 59 | 20 => 50 | 21 => 51 | 22 => 52 | 23 => 53 | 24 => 54 | 25 => 55 | 26 => 56 | 27 => 57 | 46 => 65 | 47 => 66 | 48 => 67 | 49 => 68 | 50 => 69 | 57 => 72 | n => n, fun | 22 => 25 | 24 => 34 | 25 => 60 | 3 => 3 | 39 => 74 | 0 => 0 | 53 => 90 | 55 => 92 | 4 => 4 | 46 => 83 | 45 => 82 | 50 => 87 | 5 => 5 | 9 => 9 | 66 => 96 | 70 => 100 | 76 => 104 | 77 => 105 | n => n, fun | n => n⟩
theorem Ytbhkcejjehgfcaa.sortK : Go.Proofs.SlLaysF.n6 Try.prog Ytbhkcejjehgfcaa.sortK_ren := {
  mixed := by kernel_rfl
  f6 := ⟨Try.f25.name, by decide, Try.func25.trans (congrArg some (by kernel_rfl))⟩
  f14 := ⟨Try.f39.name, by decide, Try.func39.trans (congrArg some (by kernel_rfl))⟩
  f15 := Try.func40.trans (congrArg some (by kernel_rfl))
  f20 := ⟨Try.f50.name, by decide, Try.func50.trans (congrArg some (by kernel_rfl))⟩
  f21 := ⟨Try.f51.name, by decide, Try.func51.trans (congrArg some (by kernel_rfl))⟩
  f22 := ⟨Try.f52.name, by decide, Try.func52.trans (congrArg some (by kernel_rfl))⟩
  f23 := ⟨Try.f53.name, by decide, Try.func53.trans (congrArg some (by kernel_rfl))⟩
  f24 := ⟨Try.f54.name, by decide, Try.func54.trans (congrArg some (by kernel_rfl))⟩
  f25 := ⟨Try.f55.name, by decide, Try.func55.trans (congrArg some (by kernel_rfl))⟩
  f26 := ⟨Try.f56.name, by decide, Try.func56.trans (congrArg some (by kernel_rfl))⟩
  f27 := ⟨Try.f57.name, by decide, Try.func57.trans (congrArg some (by kernel_rfl))⟩
  f28 := Try.func58.trans (congrArg some (by kernel_rfl))
  f29 := Try.func59.trans (congrArg some (by kernel_rfl))
  f46 := ⟨Try.f65.name, by decide, Try.func65.trans (congrArg some (by kernel_rfl))⟩
  f47 := Try.func66.trans (congrArg some (by kernel_rfl))
  f48 := Try.func67.trans (congrArg some (by kernel_rfl))
  f49 := ⟨Try.f68.name, by decide, Try.func68.trans (congrArg some (by kernel_rfl))⟩
  f50 := ⟨Try.f69.name, by decide, Try.func69.trans (congrArg some (by kernel_rfl))⟩
  f57 := ⟨Try.f72.name, by decide, Try.func72.trans (congrArg some (by kernel_rfl))⟩
  t0 := Try.underlying0
  a0 := Try.isAgg0
  z0 := Try.sizeOf0
  v0 := Try.zeroValue0
  t3 := Try.underlying3
  a3 := Try.isAgg3
  z3 := Try.sizeOf3
  v3 := Try.zeroValue3
  t4 := Try.underlying4
  a4 := Try.isAgg4
  z4 := Try.sizeOf4
  v4 := Try.zeroValue4
  t5 := Try.underlying5
  a5 := Try.isAgg5
  z5 := Try.sizeOf5
  v5 := Try.zeroValue5
  t9 := Try.underlying9
  a9 := Try.isAgg9
  z9 := Try.sizeOf9
  v9 := Try.zeroValue9
  t22 := Try.underlying25
  a22 := Try.isAgg25
  z22 := Try.sizeOf25
  v22 := Try.zeroValue25
  a24 := Try.isAgg34
  z24 := Try.sizeOf34
  t25 := Try.underlying60
  a25 := Try.isAgg60
  z25 := Try.sizeOf60
  v25 := Try.zeroValue60
  t39 := Try.underlying74
  a39 := Try.isAgg74
  z39 := Try.sizeOf74
  v39 := Try.zeroValue74
  t45 := Try.underlying82
  a45 := Try.isAgg82
  z45 := Try.sizeOf82
  v45 := Try.zeroValue82
  t46 := Try.underlying83
  a46 := Try.isAgg83
  z46 := Try.sizeOf83
  v46 := Try.zeroValue83
  t50 := Try.underlying87
  a50 := Try.isAgg87
  z50 := Try.sizeOf87
  v50 := Try.zeroValue87
  t53 := Try.underlying90
  a53 := Try.isAgg90
  z53 := Try.sizeOf90
  v53 := Try.zeroValue90
  t55 := Try.underlying92
  a55 := Try.isAgg92
  z55 := Try.sizeOf92
  v55 := Try.zeroValue92
  t66 := Try.underlying96
  a66 := Try.isAgg96
  z66 := Try.sizeOf96
  v66 := Try.zeroValue96
  t70 := Try.underlying100
  a70 := Try.isAgg100
  z70 := Try.sizeOf100
  v70 := Try.zeroValue100
  t76 := Try.underlying104
  a76 := Try.isAgg104
  z76 := Try.sizeOf104
  v76 := Try.zeroValue104
  t77 := Try.underlying105
  a77 := Try.isAgg105
  z77 := Try.sizeOf105
  v77 := Try.zeroValue105 }
end Go.Proofs
namespace Go.Proofs.Ytbhkcejjehgfcaa
open Go.RowKit Go.Sort Go.Shelf
set_option linter.unusedSimpArgs false
set_option linter.unusedVariables false

def leB (a b : List Pk) : Bool := decide (¬ cmpL b a < 0)
def sortPk (l : List (List Pk)) : List (List Pk) := l.mergeSort leB
theorem leB_trans (a b c : List Pk) (h : leB a b = true) (k : leB b c = true) : leB a c = true := by
  have := cmpL_swo.ntrans c b a
  simp [leB] at *
  exact this k h
theorem leB_total (a b : List Pk) : (leB a b || leB b a) = true := by
  simp only [leB, Bool.or_eq_true, decide_eq_true_eq]
  rcases cmpL_cases a b with h | h | h <;> omega
theorem leB_anti {a b : List Pk} (h : ¬ cmpL b a < 0) (k : ¬ cmpL a b < 0) : a = b := by
  rcases cmpL_cases a b with h1 | ⟨_, h1⟩ | h1
  · omega
  · exact h1
  · omega
theorem sorted_eq : ∀ {l1 l2 : List (List Pk)}, l1.Perm l2 → SortedL cmpL l1 → SortedL cmpL l2 → l1 = l2
  | [], l2, h, _, _ => by rw [List.nil_perm.1 h]
  | x :: r, l2, h, h1, h2 => by
    cases l2 with
    | nil => exact absurd h.length_eq (by simp)
    | cons y s =>
      obtain ⟨hx, hr⟩ := List.pairwise_cons.1 h1
      obtain ⟨hy, hs⟩ := List.pairwise_cons.1 h2
      have e : x = y := by
        have m1 : y ∈ x :: r := h.mem_iff.2 (by simp)
        have m2 : x ∈ y :: s := h.mem_iff.1 (by simp)
        rcases List.mem_cons.1 m1 with e | m1
        · exact e.symm
        · rcases List.mem_cons.1 m2 with e | m2
          · exact e
          · exact leB_anti (hx y m1) (hy x m2)
      subst e
      rw [sorted_eq (List.Perm.cons_inv h) hr hs]
theorem sort_sorted (l : List (List Pk)) : SortedL cmpL (sortPk l) := by
  have h := List.pairwise_mergeSort leB_trans leB_total l
  exact h.imp fun h => by simpa [leB] using h
theorem sort_perm (l : List (List Pk)) : (sortPk l).Perm l := List.mergeSort_perm l leB
theorem canB_rows (l : List St) : (leastB l).map pkC = (canB l).map pkR := by simp [canB, pkC, pkR, pick]

/-- What Explore has found. -/
def eY0 (bb : Nat) (acc : List (List St)) : AO := .boxP (some bb) 25 [.own 11]
def eY1 (acc : List (List St)) : AO := .row 34 1 (rowOf pksP (acc.map canB))
def eY2 (l : Nat) (sp : LSpec) (acc : List (List St)) : AO := .lrec l sp [(3, .ptr 10 0)]
theorem em0 (bb : Nat) (a : List (List St)) : Mute (eY0 bb a) := ⟨fun t y h => by
  have e : ¬ 11 = t := by omega
  simp [eY0, AO.sub_box, AV.sub_own, e], fun t m h => by
  have e : ¬ 11 = t := by omega
  simp [eY0, AO.cut_box, AV.cut_own, e], fun t t' h h' => by
  have e : ¬ 11 = t := by omega
  have e' : ¬ 11 = t' := by omega
  simp [eY0, AO.ren_box, AV.ren_own, e, e'], fun n h => by
  have e : 11 < n := by omega
  simp [eY0, AO.okB_box, AV.okB, e]⟩
theorem em1 (a : List (List St)) : Mute (eY1 a) := ⟨fun _ _ _ => rfl, fun _ _ _ => rfl, fun _ _ _ _ => rfl, fun _ _ => rfl⟩
theorem em2 (l : Nat) (sp : LSpec) (a : List (List St)) : Mute (eY2 l sp a) := ⟨fun t y h => by
  have e : ¬ 10 = t := by omega
  simp [eY2, AO.sub_lrec, AV.sub_ptr, e], fun t m h => by simp [eY2, AO.cut_lrec, AV.cut_ptr], fun t t' h h' => by
  have e : ¬ 10 = t := by omega
  have e' : ¬ 10 = t' := by omega
  simp [eY2, AO.ren_lrec, AV.ren_ptr, e, e'], fun n h => by
  have e : 10 < n := by omega
  simp [eY2, AO.okB_lrec, AV.okB, e]⟩
theorem loop_ne {rc : List Nat → List St → (Nat → Bool) → List (List St)} {ths : List (List St)} {pos : List Nat} {run : List St} : ∀ (l : List Nat), (∀ t ∈ l, ∀ s, stepOf ths pos t = some s → rc (bump pos t) (run ++ [s]) (nextZ ths pos s fun _ => false) ≠ []) → loopB rc ths pos run l (fun _ => false) ≠ [] ∨ endB ths pos l = true
  | [], _ => .inr rfl
  | t :: r, h => by
    cases hs : stepOf ths pos t with
    | none =>
      rcases loop_ne r (fun t ht => h t (List.mem_cons.2 (.inr ht))) with h1 | h1
      · left; rw [loopB, hs]; exact h1
      · right; simp only [endB, List.all_cons, hs, Option.isNone_none, Bool.true_and]; exact h1
    | some s =>
      left
      rw [loopB, hs]
      simp only [Bool.false_eq_true, if_false]
      exact fun e => h t (List.mem_cons.2 (.inl rfl)) s hs (List.append_eq_nil_iff.1 e).1
theorem nextZ_none (ths : List (List St)) (pos : List Nat) (s : St) : nextZ ths pos s (fun _ => false) = fun _ => false := by funext u; simp [nextZ]
theorem vis_ne (ths : List (List St)) : ∀ m pos run, remB ths pos ≤ m → visB ths (m + 1) pos run (fun _ => false) ≠ []
  | 0, pos, run, hr => by
    rw [visB]
    rcases loop_ne (rc := visB ths 0) (ths := ths) (pos := pos) (run := run) (List.range ths.length) (fun t ht s hs => by have := rem_bump hs; omega) with h | h
    · exact fun e => h (List.append_eq_nil_iff.1 e).1
    · rw [show endU ths pos ths.length = true from h]; simp
  | m + 1, pos, run, hr => by
    rw [visB]
    rcases loop_ne (rc := visB ths (m + 1)) (ths := ths) (pos := pos) (run := run) (List.range ths.length) (fun t ht s hs => by
      rw [nextZ_none]
      exact vis_ne ths m _ _ (by have := rem_bump hs; omega)) with h | h
    · exact fun e => h (List.append_eq_nil_iff.1 e).1
    · rw [show endU ths pos ths.length = true from h]; simp
theorem can_len (l : List St) : (canB l).length ≤ l.length := by
  unfold canB leastB
  rw [List.length_map]
  exact Nat.le_trans (List.length_filterMap_le _ _) (Nat.le_of_eq (order_len l))
theorem loop_run {rc : List Nat → List St → (Nat → Bool) → List (List St)} {ths : List (List St)} {pos : List Nat} {run : List St} {n : Nat} (h : ∀ t s Z, stepOf ths pos t = some s → ∀ r ∈ rc (bump pos t) (run ++ [s]) Z, r.length ≤ n) : ∀ (l : List Nat) Z, ∀ r ∈ loopB rc ths pos run l Z, r.length ≤ n
  | [], Z, r, hr => by cases hr
  | t :: l, Z, r, hr => by
    rw [loopB] at hr
    split at hr
    · exact loop_run h l Z r hr
    · rename_i s hs
      split at hr
      · exact loop_run h l Z r hr
      · rcases List.mem_append.1 hr with hr | hr
        · exact h t s _ hs r hr
        · exact loop_run h l _ r hr
theorem vis_run (ths : List (List St)) : ∀ m pos run Z, ∀ r ∈ visB ths m pos run Z, r.length ≤ run.length + m
  | 0, pos, run, Z, r, hr => by cases hr
  | m + 1, pos, run, Z, r, hr => by
    rw [visB] at hr
    rcases List.mem_append.1 hr with hr | hr
    · refine loop_run (n := run.length + (m + 1)) (fun t s Z hs r hr => ?_) _ _ r hr
      have := vis_run ths m _ _ _ r hr
      simp only [List.length_append, List.length_singleton] at this
      omega
    · split at hr
      · rw [List.mem_singleton.1 hr]; omega
      · cases hr
def exploreB (v : Bool) (ths : List (List St)) : List (List Pk) := if v = true then sortPk ((visB ths 13 (List.replicate ths.length 0) [] fun _ => false).map canB) else []
set_option maxHeartbeats 4000000 in
set_option maxRecDepth 100000 in
theorem explore_ok (ths : List (List St)) (hst : ∀ l ∈ ths, l.length ≤ 1000 ∧ ∀ s ∈ l, StOk s) (v : Bool) (hval : PureC Try.prog 12 [.p (thsP ths)] (.bool v)) (hv : v = true → ths.length ≤ 8 ∧ remB ths (List.replicate ths.length 0) ≤ 12 ∧ ∀ l ∈ ths, ∀ s ∈ l, StV s) :
    PureC Try.prog 13 [.p (thsP ths)] (.p (.seq 1 (rowOf pksP (exploreB v ths)))) := by
  have hm1 : 1 ≤ maxLen := by decide
  cases v with
  | false =>
    simp only [exploreB, Bool.false_eq_true, if_false, rowOf, List.map_nil]
    simp only [thsP] at hval ⊢
    refine PureC.of Try.func13 rfl 19 rfl (by decide) (by simp [AV.okB]) ?_
    repeat' (first | (refine T.seqK fun K hK => ?_) | (refine T.block ?_) | (refine T.reg (by kernel_rfl) fun K' hK' => ?_; simp only [startSt, frOf, List.map_cons, List.map_nil]; (repeat' (first | (with_reducible refine WL.fin ?_; refine hK' _ ?_; clear hK' K') | (with_reducible refine WD.fin ?_) | ((first | (with_reducible refine WL.step fun K2 hK2 => ?_) | (with_reducible refine WD.step fun K2 hK2 => ?_)); simp only [WS, WH, WO, WOv, WG, dstOk, hasDst, aop, ASt.ev, get_mk, put_some, put_none, lk_nil, lk_cons, cv_int, cv_bool, cv_slice, cv_string, cv_ptr, List.map_cons, List.map_nil, List.getElem?_cons_zero, List.getElem?_cons_succ, Option.getD_some, Option.getD_none, aload, aloadC, afield, aindex, abin, abinI, aun, alen, acells, Option.map_some, Option.map_none, if_true, if_false, Nat.reduceEqDiff, Nat.reduceLT, Nat.reduceLeDiff, Nat.reduceAdd, true_and, and_true, reduceIte, reduceCtorEq, Bool.not_true, Bool.not_false, Bool.true_eq_false, Bool.false_eq_true, true_implies, false_implies, implies_true, ASt.add, setHp, asplice, List.length_cons, List.length_nil, List.take_succ_cons, List.take_zero, List.drop_succ_cons, List.drop_zero, List.cons_append, List.nil_append, List.take_nil, List.drop_nil, Nat.zero_add, Nat.add_zero, Nat.le_refl, Nat.zero_le, Int.reduceEq, Int.reduceNe, Int.reduceLT, Int.reduceLE, List.append_nil, Int.reduceSub, Int.reduceAdd, abuild, afill, abuildS, pureL, chunks, List.range, List.range.loop, Nat.reduceMul, Nat.reduceMod, List.getD_cons_zero, List.getD_cons_succ, apartF, apartI, aslice, evI, Int.toNat_natCast, List.length_map, List.getElem?_map, Int.natCast_nonneg, ASt.subst, AO.sub_box, AO.sub_row, AO.sub_map, AO.sub_raw, AO.sub_lrec, AV.sub_p, AV.sub_elt, AV.sub_ptr, AV.sub_rptr, AV.sub_own, AV.sub_junk, AV.sub_cap0, AV.sub_agg, AV.sub_fn, AV.sub_tup, AV.sub_pre, AO.box, aval, pvals, ty_3, ty_4, ty_5, ty_9, ty_22, ty_25, ty_29, ty_30, ty_34, ty_40, ty_42, ty_44, ty_45, ty_46, ty_48, ty_52, ty_63, ty_65, ty_67, ty_69, ty_74, ty_80, ty_82, ty_90, ty_92, ty_96, ty_104, mapTy_69, keyed_3]; (repeat' (first | (with_reducible refine hK2 _ ?_; clear hK2 K2) | (with_reducible refine And.intro ?_ ?_) | (with_reducible intro hb) | ((first | (with_reducible apply callArmO) | (with_reducible apply callArm)); case h => exact CallV.plain (Ent.of Try.func12 (by kernel_rfl) rfl) (hval) (by simp [AV.okB]))))))); all_goals ((try simp only [ThenA, InBlock, reduceIte, Nat.reduceEqDiff]); (try ((repeat ((fail_if_success (refine hK _ ?_)); clear hK K)); refine hK _ ?_; clear hK K)))) | (refine T.skip ?_; (try simp only [ThenA, InBlock, reduceIte, Nat.reduceEqDiff]); (try ((repeat ((fail_if_success (refine hK _ ?_)); clear hK K)); refine hK _ ?_; clear hK K))) | (refine T.exit ?_; (try simp only [ThenA, InBlock, reduceIte, Nat.reduceEqDiff]); (try ((repeat ((fail_if_success (refine hK _ ?_)); clear hK K)); refine hK _ ?_; clear hK K))) | (refine T.condT rfl ?_) | (refine T.condF rfl ?_) | (refine T.cond rfl (fun hc => ?_) (fun hc => ?_)) | (refine T.ret ?_; (try simp only [ThenA, InBlock, reduceIte, Nat.reduceEqDiff]); (try ((repeat ((fail_if_success (refine hK _ ?_)); clear hK K)); refine hK _ ?_; clear hK K))))
    refine FinA.retW (s' := ⟨[(2, .p (.seq 1 []))], [], 19, 0⟩) (.inr rfl) Try.results13 (by refine Weak.of' rfl ?_; simp only [List.mem_cons, List.not_mem_nil, or_false, forall_eq_or_imp, forall_eq, get_mk, lk_cons, lk_nil, reduceIte, Nat.reduceEqDiff, Option.getD_some, Option.getD_none, AVle_refl, AVle_nil, AVle_int, AVle_bool, AVle_junk, ASt.okB, AV.okB, AO.okB_box, AO.okB_row, AO.okB_map, AO.okB_raw, AO.okB_lrec, AV.okB_agg, AV.okB_tup, AV.okB_fn, List.all_cons, List.all_nil, Bool.and_self, Bool.and_true, Bool.true_and, Nat.reduceLT, decide_true, true_and, and_true, false_implies, implies_true, ]) ?_
    simp only [ares, aresL, ares1, WS, WH, WO, WOv, WG, dstOk, hasDst, aop, ASt.ev, get_mk, put_some, put_none, lk_nil, lk_cons, cv_int, cv_bool, cv_slice, cv_string, cv_ptr, List.map_cons, List.map_nil, List.getElem?_cons_zero, List.getElem?_cons_succ, Option.getD_some, Option.getD_none, aload, aloadC, afield, aindex, abin, abinI, aun, alen, acells, Option.map_some, Option.map_none, if_true, if_false, Nat.reduceEqDiff, Nat.reduceLT, Nat.reduceLeDiff, Nat.reduceAdd, true_and, and_true, reduceIte, reduceCtorEq, Bool.not_true, Bool.not_false, Bool.true_eq_false, Bool.false_eq_true, true_implies, false_implies, implies_true, ASt.add, setHp, asplice, List.length_cons, List.length_nil, List.take_succ_cons, List.take_zero, List.drop_succ_cons, List.drop_zero, List.cons_append, List.nil_append, List.take_nil, List.drop_nil, Nat.zero_add, Nat.add_zero, Nat.le_refl, Nat.zero_le, Int.reduceEq, Int.reduceNe, Int.reduceLT, Int.reduceLE, List.append_nil, Int.reduceSub, Int.reduceAdd, abuild, afill, abuildS, pureL, chunks, List.range, List.range.loop, Nat.reduceMul, Nat.reduceMod, List.getD_cons_zero, List.getD_cons_succ, apartF, apartI, aslice, evI, Int.toNat_natCast, List.length_map, List.getElem?_map, Int.natCast_nonneg, ASt.subst, AO.sub_box, AO.sub_row, AO.sub_map, AO.sub_raw, AO.sub_lrec, AV.sub_p, AV.sub_elt, AV.sub_ptr, AV.sub_rptr, AV.sub_own, AV.sub_junk, AV.sub_cap0, AV.sub_agg, AV.sub_fn, AV.sub_tup, AV.sub_pre, AO.box, aval, pvals]
  | true =>
    obtain ⟨h8, h12, hsv⟩ := hv rfl
    simp only [exploreB, if_true]
    have hne := vis_ne ths 12 _ [] h12
    obtain ⟨res, hres⟩ : ∃ res, res = visB ths 13 (List.replicate ths.length 0) [] fun _ => false := ⟨_, rfl⟩
    rw [← hres] at hne ⊢
    have hM : res.length ≤ 9 ^ 13 := by
      rw [hres]
      exact Nat.le_trans (vis_len ths 13 _ _ _) (Nat.pow_le_pow_left (by omega) 13)
    have hruns := runs_ok ths
    simp only [thsP] at hval hruns ⊢
    refine PureC.of Try.func13 rfl 19 rfl (by decide) (by simp [AV.okB]) ?_
    repeat' (first | (refine T.seqK fun K hK => ?_) | (refine T.block ?_) | (refine T.reg (by kernel_rfl) fun K' hK' => ?_; simp only [startSt, frOf, List.map_cons, List.map_nil]; (repeat' (first | (with_reducible refine WL.fin ?_; refine hK' _ ?_; clear hK' K') | (with_reducible refine WD.fin ?_) | ((first | (with_reducible refine WL.step fun K2 hK2 => ?_) | (with_reducible refine WD.step fun K2 hK2 => ?_)); simp only [WS, WH, WO, WOv, WG, dstOk, hasDst, aop, ASt.ev, get_mk, put_some, put_none, lk_nil, lk_cons, cv_int, cv_bool, cv_slice, cv_string, cv_ptr, List.map_cons, List.map_nil, List.getElem?_cons_zero, List.getElem?_cons_succ, Option.getD_some, Option.getD_none, aload, aloadC, afield, aindex, abin, abinI, aun, alen, acells, Option.map_some, Option.map_none, if_true, if_false, Nat.reduceEqDiff, Nat.reduceLT, Nat.reduceLeDiff, Nat.reduceAdd, true_and, and_true, reduceIte, reduceCtorEq, Bool.not_true, Bool.not_false, Bool.true_eq_false, Bool.false_eq_true, true_implies, false_implies, implies_true, ASt.add, setHp, asplice, List.length_cons, List.length_nil, List.take_succ_cons, List.take_zero, List.drop_succ_cons, List.drop_zero, List.cons_append, List.nil_append, List.take_nil, List.drop_nil, Nat.zero_add, Nat.add_zero, Nat.le_refl, Nat.zero_le, Int.reduceEq, Int.reduceNe, Int.reduceLT, Int.reduceLE, List.append_nil, Int.reduceSub, Int.reduceAdd, abuild, afill, abuildS, pureL, chunks, List.range, List.range.loop, Nat.reduceMul, Nat.reduceMod, List.getD_cons_zero, List.getD_cons_succ, apartF, apartI, aslice, evI, Int.toNat_natCast, List.length_map, List.getElem?_map, Int.natCast_nonneg, ASt.subst, AO.sub_box, AO.sub_row, AO.sub_map, AO.sub_raw, AO.sub_lrec, AV.sub_p, AV.sub_elt, AV.sub_ptr, AV.sub_rptr, AV.sub_own, AV.sub_junk, AV.sub_cap0, AV.sub_agg, AV.sub_fn, AV.sub_tup, AV.sub_pre, AO.box, aval, pvals, ty_3, ty_4, ty_5, ty_9, ty_22, ty_25, ty_29, ty_30, ty_34, ty_40, ty_42, ty_44, ty_45, ty_46, ty_48, ty_52, ty_63, ty_65, ty_67, ty_69, ty_74, ty_80, ty_82, ty_90, ty_92, ty_96, ty_104, mapTy_69, keyed_3]; (repeat' (first | (with_reducible refine hK2 _ ?_; clear hK2 K2) | (with_reducible refine And.intro ?_ ?_) | (with_reducible intro hb) | ((first | (with_reducible apply callArmO) | (with_reducible apply callArm)); case h => exact CallV.plain (Ent.of Try.func12 (by kernel_rfl) rfl) (hval) (by simp [AV.okB])) | ((first | (with_reducible apply callArmO) | (with_reducible apply callArm)); case h => exact CallV.plain (Ent.of Try.func23 (by kernel_rfl) rfl) (hruns) (by simp [AV.okB]))))))); all_goals ((try simp only [ThenA, InBlock, reduceIte, Nat.reduceEqDiff]); (try ((repeat ((fail_if_success (refine hK _ ?_)); clear hK K)); refine hK _ ?_; clear hK K)))) | (refine T.skip ?_; (try simp only [ThenA, InBlock, reduceIte, Nat.reduceEqDiff]); (try ((repeat ((fail_if_success (refine hK _ ?_)); clear hK K)); refine hK _ ?_; clear hK K))) | (refine T.exit ?_; (try simp only [ThenA, InBlock, reduceIte, Nat.reduceEqDiff]); (try ((repeat ((fail_if_success (refine hK _ ?_)); clear hK K)); refine hK _ ?_; clear hK K))) | (refine T.condT rfl ?_) | (refine T.condF rfl ?_) | (refine T.cond rfl (fun hc => ?_) (fun hc => ?_)) | (refine T.ret ?_; (try simp only [ThenA, InBlock, reduceIte, Nat.reduceEqDiff]); (try ((repeat ((fail_if_success (refine hK _ ?_)); clear hK K)); refine hK _ ?_; clear hK K))))
    refine T.weak (Weak.newrowB _ 0 0 34 1 _ _ _ rfl rfl) ?_; simp only [setHp, List.map_cons, List.map_nil, reduceIte, Nat.reduceEqDiff, List.set_cons_succ, List.set_cons_zero, Nat.reduceAdd]
    refine T.weak (s' := ⟨[(3, .ptr 0 0), (9, .fn (.func 36) [.elt [thsP ths] 0])], [(0, .boxP none 25 [.own 1]), (1, .row 34 1 [])], 19, 12⟩) (by refine Weak.of' rfl ?_; simp only [List.mem_cons, List.not_mem_nil, or_false, forall_eq_or_imp, forall_eq, get_mk, lk_cons, lk_nil, reduceIte, Nat.reduceEqDiff, Option.getD_some, Option.getD_none, AVle_refl, AVle_nil, AVle_int, AVle_bool, AVle_junk, ASt.okB, AV.okB, AO.okB_box, AO.okB_row, AO.okB_map, AO.okB_raw, AO.okB_lrec, AV.okB_agg, AV.okB_tup, AV.okB_fn, List.all_cons, List.all_nil, Bool.and_self, Bool.and_true, Bool.true_and, Nat.reduceLT, decide_true, true_and, and_true, false_implies, implies_true, thsP]) ?_
    refine T.weak (Weak.ren _ 0 10) ?_; simp only [ASt.ren, AV.ren_own, AV.ren_ptr, AV.ren_rptr, AV.ren_pre, AV.ren_p, AV.ren_elt, AV.ren_junk, AV.ren_cap0, AV.ren_fn, AV.ren_agg, AV.ren_tup, AO.ren_box, AO.ren_row, AO.ren_map, AO.ren_raw, List.map_cons, List.map_nil, List.filter_cons, List.filter_nil, lk_cons, lk_nil, reduceIte, Nat.reduceEqDiff, Nat.reduceLT, Nat.reduceBneDiff, bne_self_eq_false, Bool.and_true, Bool.and_false, Bool.true_and, Bool.false_and, Bool.and_self, Bool.false_eq_true, ne_eq, not_false_eq_true, not_true_eq_false, and_self, and_true, true_and, and_false, bne_self_eq_false]
    refine T.weak (Weak.ren _ 1 11) ?_; simp only [ASt.ren, AV.ren_own, AV.ren_ptr, AV.ren_rptr, AV.ren_pre, AV.ren_p, AV.ren_elt, AV.ren_junk, AV.ren_cap0, AV.ren_fn, AV.ren_agg, AV.ren_tup, AO.ren_box, AO.ren_row, AO.ren_map, AO.ren_raw, List.map_cons, List.map_nil, List.filter_cons, List.filter_nil, lk_cons, lk_nil, reduceIte, Nat.reduceEqDiff, Nat.reduceLT, Nat.reduceBneDiff, bne_self_eq_false, Bool.and_true, Bool.and_false, Bool.true_and, Bool.false_and, Bool.and_self, Bool.false_eq_true, ne_eq, not_false_eq_true, not_true_eq_false, and_self, and_true, true_and, and_false, bne_self_eq_false]
    refine T.weak (s' := ⟨[(3, .ptr 10 0), (9, .fn (.func 36) [.elt [thsP ths] 0])], [(10, .boxP none 25 [.own 11]), (11, .row 34 1 [])], 19, 12⟩) (by refine Weak.of' rfl ?_; simp only [List.mem_cons, List.not_mem_nil, or_false, forall_eq_or_imp, forall_eq, get_mk, lk_cons, lk_nil, reduceIte, Nat.reduceEqDiff, Option.getD_some, Option.getD_none, AVle_refl, AVle_nil, AVle_int, AVle_bool, AVle_junk, ASt.okB, AV.okB, AO.okB_box, AO.okB_row, AO.okB_map, AO.okB_raw, AO.okB_lrec, AV.okB_agg, AV.okB_tup, AV.okB_fn, List.all_cons, List.all_nil, Bool.and_self, Bool.and_true, Bool.true_and, Nat.reduceLT, decide_true, true_and, and_true, false_implies, implies_true, thsP]) ?_
    refine T.pin 10 _ rfl fun bb => ?_; simp only [setHp, AO.pin, List.map_cons, List.map_nil, reduceIte, Nat.reduceEqDiff]
    refine T.rangeFS 36 [.elt [thsP ths] 0] [(3, .ptr 10 0)] rfl (Ent.of Try.func36 (by kernel_rfl) rfl) (by simp [get_mk, lk_cons]) fun l sp hsn hsp hsa hsb => ?_
    have hfr : ∀ p ∈ [(3, AV.ptr 10 0)], p.2.keep 13 [10] = p.2 := by simp [AV.keep_ptr]
    have hyld : ∀ b pos run acc, acc.length < res.length → PosOk ths pos → RunIn ths run → ∃ l' sp' fr', eY2 l sp acc = .lrec l' sp' fr' ∧ YldC Try.prog l' 13 (hpV b ths pos run (eY0 bb acc) (eY1 acc) (eY2 l sp acc)) [.own 2] fun hp' r => hp' = hpV b ths pos run (eY0 bb (acc ++ [run])) (eY1 (acc ++ [run])) (eY2 l sp (acc ++ [run])) ∧ r = .bool true := by
      intro b pos run acc hac hpos hrin
      refine ⟨l, sp, [(3, .ptr 10 0)], rfl, YldC.mono (YldC.of 12 [10] (fun hp3 => hp3 = [(0, .boxP (some b) 67 [.p (thsP ths), .own 2, .own 1]), (1, .row 3 1 (posR pos)), (2, .row 48 4 (run.map stC)), (10, eY0 bb (acc ++ [run])), (11, eY1 (acc ++ [run]))]) (Q := fun hp' r => hp' = (12, .lrec l sp [(3, .ptr 10 0)]) :: [(0, .boxP (some b) 67 [.p (thsP ths), .own 2, .own 1]), (1, .row 3 1 (posR pos)), (2, .row 48 4 (run.map stC)), (10, eY0 bb (acc ++ [run])), (11, eY1 (acc ++ [run]))] ∧ r = .bool true) rfl (by rw [hsp]; rfl) (by rw [hsp, hsn]; simp) hfr ?_ ?_ (by simp [AV.okB])) ?_⟩
      · rw [hsa, hsb, hsp, hsn]
        simp only [hpV, frPut, List.filter_cons, List.filter_nil, Nat.reduceBneDiff, bne_self_eq_false, reduceIte, Bool.false_eq_true, eY0, eY1]
        repeat' (first | (refine T.seqK fun K hK => ?_) | (refine T.block ?_) | (refine T.reg (by kernel_rfl) fun K' hK' => ?_; simp only [startSt, frOf, List.map_cons, List.map_nil]; (repeat' (first | (with_reducible refine WL.fin ?_; refine hK' _ ?_; clear hK' K') | (with_reducible refine WD.fin ?_) | ((first | (with_reducible refine WL.step fun K2 hK2 => ?_) | (with_reducible refine WD.step fun K2 hK2 => ?_)); simp only [WS, WH, WO, WOv, WG, dstOk, hasDst, aop, ASt.ev, get_mk, put_some, put_none, lk_nil, lk_cons, cv_int, cv_bool, cv_slice, cv_string, cv_ptr, List.map_cons, List.map_nil, List.getElem?_cons_zero, List.getElem?_cons_succ, Option.getD_some, Option.getD_none, aload, aloadC, afield, aindex, abin, abinI, aun, alen, acells, Option.map_some, Option.map_none, if_true, if_false, Nat.reduceEqDiff, Nat.reduceLT, Nat.reduceLeDiff, Nat.reduceAdd, true_and, and_true, reduceIte, reduceCtorEq, Bool.not_true, Bool.not_false, Bool.true_eq_false, Bool.false_eq_true, true_implies, false_implies, implies_true, ASt.add, setHp, asplice, List.length_cons, List.length_nil, List.take_succ_cons, List.take_zero, List.drop_succ_cons, List.drop_zero, List.cons_append, List.nil_append, List.take_nil, List.drop_nil, Nat.zero_add, Nat.add_zero, Nat.le_refl, Nat.zero_le, Int.reduceEq, Int.reduceNe, Int.reduceLT, Int.reduceLE, List.append_nil, Int.reduceSub, Int.reduceAdd, abuild, afill, abuildS, pureL, chunks, List.range, List.range.loop, Nat.reduceMul, Nat.reduceMod, List.getD_cons_zero, List.getD_cons_succ, apartF, apartI, aslice, evI, Int.toNat_natCast, List.length_map, List.getElem?_map, Int.natCast_nonneg, ASt.subst, AO.sub_box, AO.sub_row, AO.sub_map, AO.sub_raw, AO.sub_lrec, AV.sub_p, AV.sub_elt, AV.sub_ptr, AV.sub_rptr, AV.sub_own, AV.sub_junk, AV.sub_cap0, AV.sub_agg, AV.sub_fn, AV.sub_tup, AV.sub_pre, AO.box, aval, pvals, ty_3, ty_4, ty_5, ty_9, ty_22, ty_25, ty_29, ty_30, ty_34, ty_40, ty_42, ty_44, ty_45, ty_46, ty_48, ty_52, ty_63, ty_65, ty_67, ty_69, ty_74, ty_80, ty_82, ty_90, ty_92, ty_96, ty_104, mapTy_69, keyed_3]; (repeat' (first | (with_reducible refine hK2 _ ?_; clear hK2 K2) | (with_reducible refine And.intro ?_ ?_) | (with_reducible intro hb) | fail))))); all_goals ((try simp only [ThenA, InBlock, reduceIte, Nat.reduceEqDiff]); (try ((repeat ((fail_if_success (refine hK _ ?_)); clear hK K)); refine hK _ ?_; clear hK K)))) | (refine T.skip ?_; (try simp only [ThenA, InBlock, reduceIte, Nat.reduceEqDiff]); (try ((repeat ((fail_if_success (refine hK _ ?_)); clear hK K)); refine hK _ ?_; clear hK K))) | (refine T.exit ?_; (try simp only [ThenA, InBlock, reduceIte, Nat.reduceEqDiff]); (try ((repeat ((fail_if_success (refine hK _ ?_)); clear hK K)); refine hK _ ?_; clear hK K))) | (refine T.condT rfl ?_) | (refine T.condF rfl ?_) | (refine T.cond rfl (fun hc => ?_) (fun hc => ?_)) | (refine T.ret ?_; (try simp only [ThenA, InBlock, reduceIte, Nat.reduceEqDiff]); (try ((repeat ((fail_if_success (refine hK _ ?_)); clear hK K)); refine hK _ ?_; clear hK K))))
        have hca := canonical_ok run (by have := hrin.len; omega) (fun s hs => by obtain ⟨l0, g1, g2⟩ := hrin.mem s hs; exact hsv l0 g1 s g2)
        rw [canB_rows] at hca
        simp only [thP] at hca
        have ho1 : (rowOf pksP (acc.map canB)).length + 1 ≤ maxLen := by simp only [rowOf, List.length_map]; unfold maxLen; omega
        have ho2 : ((rowOf pksP (acc.map canB)).length + 1) * 24 ≤ 140737488355328 := by simp only [rowOf, List.length_map]; omega
        refine T.comm [some (0, 0), some (0, 2), some (0, 2), some (0, 0), none, none] (by kernel_rfl) (by kernel_rfl) fun K' hK' => ?_; simp only [List.map_cons, List.map_nil, List.zip_cons_cons, List.zip_nil_left]; (repeat' (first | (with_reducible refine WC.fin ?_; refine hK' _ ?_; clear hK' K') | ((first | (with_reducible refine WC.stepV fun K2 hK2 => ?_) | (with_reducible refine WC.stepW fun K2 hK2 => ?_)); simp only [WS, WH, WO, WOv, WG, dstOk, hasDst, aop, ASt.ev, get_mk, put_some, put_none, lk_nil, lk_cons, cv_int, cv_bool, cv_slice, cv_string, cv_ptr, List.map_cons, List.map_nil, List.getElem?_cons_zero, List.getElem?_cons_succ, Option.getD_some, Option.getD_none, aload, aloadC, afield, aindex, abin, abinI, aun, alen, acells, Option.map_some, Option.map_none, if_true, if_false, Nat.reduceEqDiff, Nat.reduceLT, Nat.reduceLeDiff, Nat.reduceAdd, true_and, and_true, reduceIte, reduceCtorEq, Bool.not_true, Bool.not_false, Bool.true_eq_false, Bool.false_eq_true, true_implies, false_implies, implies_true, ASt.add, setHp, asplice, List.length_cons, List.length_nil, List.take_succ_cons, List.take_zero, List.drop_succ_cons, List.drop_zero, List.cons_append, List.nil_append, List.take_nil, List.drop_nil, Nat.zero_add, Nat.add_zero, Nat.le_refl, Nat.zero_le, Int.reduceEq, Int.reduceNe, Int.reduceLT, Int.reduceLE, List.append_nil, Int.reduceSub, Int.reduceAdd, abuild, afill, abuildS, pureL, chunks, List.range, List.range.loop, Nat.reduceMul, Nat.reduceMod, List.getD_cons_zero, List.getD_cons_succ, apartF, apartI, aslice, evI, Int.toNat_natCast, List.length_map, List.getElem?_map, Int.natCast_nonneg, ASt.subst, AO.sub_box, AO.sub_row, AO.sub_map, AO.sub_raw, AO.sub_lrec, AV.sub_p, AV.sub_elt, AV.sub_ptr, AV.sub_rptr, AV.sub_own, AV.sub_junk, AV.sub_cap0, AV.sub_agg, AV.sub_fn, AV.sub_tup, AV.sub_pre, AO.box, aval, pvals, WCg, WCv, WOw, allP, dav, Chk, List.filter_cons, List.filter_nil, bne_self_eq_false, Nat.reduceBneDiff, Bool.false_eq_true, ty_3, ty_4, ty_5, ty_9, ty_22, ty_25, ty_29, ty_30, ty_34, ty_40, ty_42, ty_44, ty_45, ty_46, ty_48, ty_52, ty_63, ty_65, ty_67, ty_69, ty_74, ty_80, ty_82, ty_90, ty_92, ty_96, ty_104, mapTy_69, keyed_3, hm1, ho1, ho2]; (repeat' (first | (with_reducible refine hK2 _ _ ?_; clear hK2 K2) | (with_reducible refine hK2 _ ?_; clear hK2 K2) | (with_reducible refine And.intro ?_ ?_) | (with_reducible intro hb) | (with_reducible rfl) | ((with_reducible show @Eq ASt _ _); rfl) | ((first | (with_reducible apply callArmO) | (with_reducible apply callArm)); (case h => exact CallV.viewF _ rfl (Ent.of Try.func24 (by kernel_rfl) rfl) hca (by simp [AV.okB, AV.view, lk_cons, lk_nil])))))))); all_goals ((try simp only [ThenA, InBlock, reduceIte, Nat.reduceEqDiff]); (try ((repeat ((fail_if_success (refine hK _ ?_)); clear hK K)); refine hK _ ?_; clear hK K)))
        refine ⟨rfl, ⟨[], [(0, .boxP (some b) 67 [.p (thsP ths), .own 2, .own 1]), (1, .row 3 1 (posR pos)), (2, .row 48 4 (run.map stC)), (10, .boxP (some bb) 25 [.own 11]), (11, .row 34 1 (rowOf pksP ((acc ++ [run]).map canB)))], 19, 13⟩, (Weak.ren _ 13 11).trans (by refine Weak.of' rfl ?_; simp only [List.mem_cons, List.not_mem_nil, or_false, forall_eq_or_imp, forall_eq, get_mk, lk_cons, lk_nil, reduceIte, Nat.reduceEqDiff, Option.getD_some, Option.getD_none, AVle_refl, AVle_nil, AVle_int, AVle_bool, AVle_junk, ASt.okB, AV.okB, AO.okB_box, AO.okB_row, AO.okB_map, AO.okB_raw, AO.okB_lrec, AV.okB_agg, AV.okB_tup, AV.okB_fn, List.all_cons, List.all_nil, Bool.and_self, Bool.and_true, Bool.true_and, Nat.reduceLT, decide_true, true_and, and_true, false_implies, implies_true, ASt.ren, AV.ren_own, AV.ren_ptr, AV.ren_rptr, AV.ren_pre, AV.ren_p, AV.ren_elt, AV.ren_junk, AV.ren_cap0, AV.ren_fn, AV.ren_agg, AV.ren_tup, AO.ren_box, AO.ren_row, AO.ren_map, AO.ren_raw, List.map_cons, List.map_nil, List.filter_cons, List.filter_nil, lk_cons, lk_nil, Nat.reduceBneDiff, bne_self_eq_false, Bool.and_false, Bool.false_and, Bool.false_eq_true, ne_eq, not_false_eq_true, not_true_eq_false, and_self, and_false, rowOf, pksP, List.map_append]), rfl, rfl, rfl⟩
      · rintro hp3 rfl
        refine ⟨by simp [Kept, hpV, lk_cons, eY0, AO.handle_box], by simp [AO.sub_box, AO.sub_row, AV.sub_p, AV.sub_own, eY0, eY1], rfl, rfl⟩
      · rintro hp' r ⟨rfl, rfl⟩
        refine ⟨_, ⟨rfl, rfl⟩, fun t => ?_⟩
        simp only [hpV, eY2, lk_cons, lk_nil]
        by_cases e0 : t = 0
        · subst e0; rfl
        · by_cases e1 : t = 1
          · subst e1; rfl
          · by_cases e2 : t = 2
            · subst e2; rfl
            · by_cases e10 : t = 10
              · subst e10; rfl
              · by_cases e11 : t = 11
                · subst e11; rfl
                · simp [e0, e1, e2, e10, e11]
    have h1c := runs1_ok ths (by omega) hst (eY0 bb) eY1 (eY2 l sp) res.length (em0 bb) em1 (em2 l sp) (.func (.yield l) #[] #[]) (fun _ => rfl) hyld 12 h12 (by omega) (by rw [← hres]; exact Nat.le_refl _)
    rw [← hres] at h1c
    refine ⟨13, [(10, eY0 bb []), (11, eY1 []), (12, eY2 l sp [])], _, [10], h1c, ?_, by simp [AV.okB, AV.okB_fn], ?_⟩
    · refine ⟨Nat.le_refl _, ?_, ?_⟩ <;> simp [ASt.add, eY0, eY1, eY2, rowOf, lk_cons, AO.okB_box, AO.okB_row, AO.okB_lrec, AV.okB]
    rintro hp' r ⟨rfl, rfl⟩
    refine ⟨by simp [Kept, lk_cons, eY0, AO.handle_box], ⟨_, rfl⟩, fun ob => ?_⟩
    simp only [ASt.add, eY0, eY1, eY2]
    simp only [ASt.callM, AV.keep_own, AV.keep_ptr, AV.keep_rptr, AV.keep_pre, AV.keep_p, AV.keep_elt, AV.keep_junk, AV.keep_cap0, AV.keep_fn, AV.keep_agg, AV.keep_tup, AO.keep, List.map_cons, List.map_nil, List.filter_cons, List.filter_nil, Nat.reduceLeDiff, decide_true, decide_false, reduceIte, Bool.false_eq_true, List.cons_append, List.nil_append, List.mem_cons, List.not_mem_nil, or_false, false_or, or_true, true_or, Nat.reduceEqDiff, put_some, put_none, Nat.le_refl, setHp, List.length_nil]
    (try simp only [ThenA, InBlock, reduceIte, Nat.reduceEqDiff]); (try ((repeat ((fail_if_success (refine hK _ ?_)); clear hK K)); refine hK _ ?_; clear hK K))
    have hks : rowOf pksP (res.map canB) = rowOf pksP (res.map canB) := rfl
    have hkl : ∀ x ∈ res.map canB, x.length ≤ 1000000 := fun x hx => by
      obtain ⟨r, hr, rfl⟩ := List.mem_map.1 hx
      rw [hres] at hr
      have h1 := vis_run ths 13 _ _ _ r hr
      have h2 := can_len r
      simp only [List.length_nil] at h1
      omega
    have hS : MemC Try.prog 25 12 [(10, .boxP (some bb) 25 [.own 11]), (11, .row 34 1 (rowOf pksP (res.map canB)))] [.own 11, .fn (.func 26) []] _ :=
      sort_mem sortK pksP cmpL cmpL_swo 26 (res.map canB) (by simpa using hne) (by simp only [List.length_map]; omega) (Ent.of Try.func26 (by kernel_rfl) rfl) (fun x hx y hy => cmp_ok x y (hkl x hx) (hkl y hy)) 12 _ 11 34 rfl
    repeat' (first | (refine T.seqK fun K hK => ?_) | (refine T.block ?_) | (refine T.reg (by kernel_rfl) fun K' hK' => ?_; simp only [startSt, frOf, List.map_cons, List.map_nil]; (repeat' (first | (with_reducible refine WL.fin ?_; refine hK' _ ?_; clear hK' K') | (with_reducible refine WD.fin ?_) | ((first | (with_reducible refine WL.step fun K2 hK2 => ?_) | (with_reducible refine WD.step fun K2 hK2 => ?_)); simp only [WS, WH, WO, WOv, WG, dstOk, hasDst, aop, ASt.ev, get_mk, put_some, put_none, lk_nil, lk_cons, cv_int, cv_bool, cv_slice, cv_string, cv_ptr, List.map_cons, List.map_nil, List.getElem?_cons_zero, List.getElem?_cons_succ, Option.getD_some, Option.getD_none, aload, aloadC, afield, aindex, abin, abinI, aun, alen, acells, Option.map_some, Option.map_none, if_true, if_false, Nat.reduceEqDiff, Nat.reduceLT, Nat.reduceLeDiff, Nat.reduceAdd, true_and, and_true, reduceIte, reduceCtorEq, Bool.not_true, Bool.not_false, Bool.true_eq_false, Bool.false_eq_true, true_implies, false_implies, implies_true, ASt.add, setHp, asplice, List.length_cons, List.length_nil, List.take_succ_cons, List.take_zero, List.drop_succ_cons, List.drop_zero, List.cons_append, List.nil_append, List.take_nil, List.drop_nil, Nat.zero_add, Nat.add_zero, Nat.le_refl, Nat.zero_le, Int.reduceEq, Int.reduceNe, Int.reduceLT, Int.reduceLE, List.append_nil, Int.reduceSub, Int.reduceAdd, abuild, afill, abuildS, pureL, chunks, List.range, List.range.loop, Nat.reduceMul, Nat.reduceMod, List.getD_cons_zero, List.getD_cons_succ, apartF, apartI, aslice, evI, Int.toNat_natCast, List.length_map, List.getElem?_map, Int.natCast_nonneg, ASt.subst, AO.sub_box, AO.sub_row, AO.sub_map, AO.sub_raw, AO.sub_lrec, AV.sub_p, AV.sub_elt, AV.sub_ptr, AV.sub_rptr, AV.sub_own, AV.sub_junk, AV.sub_cap0, AV.sub_agg, AV.sub_fn, AV.sub_tup, AV.sub_pre, AO.box, aval, pvals, ty_3, ty_4, ty_5, ty_9, ty_22, ty_25, ty_29, ty_30, ty_34, ty_40, ty_42, ty_44, ty_45, ty_46, ty_48, ty_52, ty_63, ty_65, ty_67, ty_69, ty_74, ty_80, ty_82, ty_90, ty_92, ty_96, ty_104, mapTy_69, keyed_3]; (repeat' (first | (with_reducible refine hK2 _ ?_; clear hK2 K2) | (with_reducible refine And.intro ?_ ?_) | (with_reducible intro hb) | ((with_reducible refine callArmM 12 _ _ [10] (Ent.of Try.func25 (by kernel_rfl) rfl) (hS) ?_ ?_ ?_); (focus ((refine ⟨Nat.le_of_ble_eq_true rfl, ?_, ?_⟩ <;> simp only [List.mem_cons, List.not_mem_nil, or_false, forall_eq_or_imp, forall_eq, lk_cons, lk_nil, reduceIte, Nat.reduceEqDiff, AO.okB_box, AO.okB_row, AO.okB_map, AO.okB_raw, AV.okB, AV.okB_agg, AV.okB_fn, AV.okB_tup, List.all_cons, List.all_nil, Bool.and_true, Bool.and_self, Nat.reduceLT, decide_true, true_and, and_true, Option.isSome_some, true_implies, false_implies, implies_true, and_self, Nat.lt_irrefl, Option.some.injEq, ]); done)); (focus (simp [AV.okB, AV.okB_fn]; done)); rintro hp' r ⟨rfl, ks', hpm, hst', rfl⟩; (obtain rfl : ks' = sortPk (res.map canB) := sorted_eq (hpm.trans (sort_perm _).symm) hst' (sort_sorted _)); refine ⟨by simp [Kept, setHp, lk_cons, AO.handle_box], ?_⟩; simp only [ASt.callM, AV.keep_own, AV.keep_ptr, AV.keep_rptr, AV.keep_pre, AV.keep_p, AV.keep_elt, AV.keep_junk, AV.keep_cap0, AV.keep_fn, AV.keep_agg, AV.keep_tup, AO.keep, List.map_cons, List.map_nil, List.filter_cons, List.filter_nil, Nat.reduceLeDiff, decide_true, decide_false, reduceIte, Bool.false_eq_true, List.cons_append, List.nil_append, List.mem_cons, List.not_mem_nil, or_false, false_or, or_true, true_or, Nat.reduceEqDiff, put_some, put_none, Nat.le_refl, setHp])))))); all_goals ((try simp only [ThenA, InBlock, reduceIte, Nat.reduceEqDiff]); (try ((repeat ((fail_if_success (refine hK _ ?_)); clear hK K)); refine hK _ ?_; clear hK K)))) | (refine T.skip ?_; (try simp only [ThenA, InBlock, reduceIte, Nat.reduceEqDiff]); (try ((repeat ((fail_if_success (refine hK _ ?_)); clear hK K)); refine hK _ ?_; clear hK K))) | (refine T.exit ?_; (try simp only [ThenA, InBlock, reduceIte, Nat.reduceEqDiff]); (try ((repeat ((fail_if_success (refine hK _ ?_)); clear hK K)); refine hK _ ?_; clear hK K))) | (refine T.condT rfl ?_) | (refine T.condF rfl ?_) | (refine T.cond rfl (fun hc => ?_) (fun hc => ?_)) | (refine T.ret ?_; (try simp only [ThenA, InBlock, reduceIte, Nat.reduceEqDiff]); (try ((repeat ((fail_if_success (refine hK _ ?_)); clear hK K)); refine hK _ ?_; clear hK K))))
    repeat' (first | (refine T.seqK fun K hK => ?_) | (refine T.block ?_) | (refine T.reg (by kernel_rfl) fun K' hK' => ?_; simp only [startSt, frOf, List.map_cons, List.map_nil]; (repeat' (first | (with_reducible refine WL.fin ?_; refine hK' _ ?_; clear hK' K') | (with_reducible refine WD.fin ?_) | ((first | (with_reducible refine WL.step fun K2 hK2 => ?_) | (with_reducible refine WD.step fun K2 hK2 => ?_)); simp only [WS, WH, WO, WOv, WG, dstOk, hasDst, aop, ASt.ev, get_mk, put_some, put_none, lk_nil, lk_cons, cv_int, cv_bool, cv_slice, cv_string, cv_ptr, List.map_cons, List.map_nil, List.getElem?_cons_zero, List.getElem?_cons_succ, Option.getD_some, Option.getD_none, aload, aloadC, afield, aindex, abin, abinI, aun, alen, acells, Option.map_some, Option.map_none, if_true, if_false, Nat.reduceEqDiff, Nat.reduceLT, Nat.reduceLeDiff, Nat.reduceAdd, true_and, and_true, reduceIte, reduceCtorEq, Bool.not_true, Bool.not_false, Bool.true_eq_false, Bool.false_eq_true, true_implies, false_implies, implies_true, ASt.add, setHp, asplice, List.length_cons, List.length_nil, List.take_succ_cons, List.take_zero, List.drop_succ_cons, List.drop_zero, List.cons_append, List.nil_append, List.take_nil, List.drop_nil, Nat.zero_add, Nat.add_zero, Nat.le_refl, Nat.zero_le, Int.reduceEq, Int.reduceNe, Int.reduceLT, Int.reduceLE, List.append_nil, Int.reduceSub, Int.reduceAdd, abuild, afill, abuildS, pureL, chunks, List.range, List.range.loop, Nat.reduceMul, Nat.reduceMod, List.getD_cons_zero, List.getD_cons_succ, apartF, apartI, aslice, evI, Int.toNat_natCast, List.length_map, List.getElem?_map, Int.natCast_nonneg, ASt.subst, AO.sub_box, AO.sub_row, AO.sub_map, AO.sub_raw, AO.sub_lrec, AV.sub_p, AV.sub_elt, AV.sub_ptr, AV.sub_rptr, AV.sub_own, AV.sub_junk, AV.sub_cap0, AV.sub_agg, AV.sub_fn, AV.sub_tup, AV.sub_pre, AO.box, aval, pvals, ty_3, ty_4, ty_5, ty_9, ty_22, ty_25, ty_29, ty_30, ty_34, ty_40, ty_42, ty_44, ty_45, ty_46, ty_48, ty_52, ty_63, ty_65, ty_67, ty_69, ty_74, ty_80, ty_82, ty_90, ty_92, ty_96, ty_104, mapTy_69, keyed_3]; (repeat' (first | (with_reducible refine hK2 _ ?_; clear hK2 K2) | (with_reducible refine And.intro ?_ ?_) | (with_reducible intro hb) | fail))))); all_goals ((try simp only [ThenA, InBlock, reduceIte, Nat.reduceEqDiff]); (try ((repeat ((fail_if_success (refine hK _ ?_)); clear hK K)); refine hK _ ?_; clear hK K)))) | (refine T.skip ?_; (try simp only [ThenA, InBlock, reduceIte, Nat.reduceEqDiff]); (try ((repeat ((fail_if_success (refine hK _ ?_)); clear hK K)); refine hK _ ?_; clear hK K))) | (refine T.exit ?_; (try simp only [ThenA, InBlock, reduceIte, Nat.reduceEqDiff]); (try ((repeat ((fail_if_success (refine hK _ ?_)); clear hK K)); refine hK _ ?_; clear hK K))) | (refine T.condT rfl ?_) | (refine T.condF rfl ?_) | (refine T.cond rfl (fun hc => ?_) (fun hc => ?_)) | (refine T.ret ?_; (try simp only [ThenA, InBlock, reduceIte, Nat.reduceEqDiff]); (try ((repeat ((fail_if_success (refine hK _ ?_)); clear hK K)); refine hK _ ?_; clear hK K))))
    refine FinA.retW (.inr rfl) Try.results13 (Weak.frz _ 11) ?_; simp only [ares, aresL, ares1, ASt.frz, ASt.subst, AO.sub_box, AO.sub_row, AO.sub_map, AO.sub_raw, AO.sub_lrec, AV.sub_p, AV.sub_elt, AV.sub_ptr, AV.sub_rptr, AV.sub_own, AV.sub_junk, AV.sub_cap0, AV.sub_agg, AV.sub_fn, AV.sub_tup, List.filter_cons, List.filter_nil, bne_self_eq_false, Nat.reduceBneDiff, Nat.reduceEqDiff, Bool.false_eq_true, WS, WH, WO, WOv, WG, dstOk, hasDst, aop, ASt.ev, get_mk, put_some, put_none, lk_nil, lk_cons, cv_int, cv_bool, cv_slice, cv_string, cv_ptr, List.map_cons, List.map_nil, List.getElem?_cons_zero, List.getElem?_cons_succ, Option.getD_some, Option.getD_none, aload, aloadC, afield, aindex, abin, abinI, aun, alen, acells, Option.map_some, Option.map_none, if_true, if_false, Nat.reduceEqDiff, Nat.reduceLT, Nat.reduceLeDiff, Nat.reduceAdd, true_and, and_true, reduceIte, reduceCtorEq, Bool.not_true, Bool.not_false, Bool.true_eq_false, Bool.false_eq_true, true_implies, false_implies, implies_true, ASt.add, setHp, asplice, List.length_cons, List.length_nil, List.take_succ_cons, List.take_zero, List.drop_succ_cons, List.drop_zero, List.cons_append, List.nil_append, List.take_nil, List.drop_nil, Nat.zero_add, Nat.add_zero, Nat.le_refl, Nat.zero_le, Int.reduceEq, Int.reduceNe, Int.reduceLT, Int.reduceLE, List.append_nil, Int.reduceSub, Int.reduceAdd, abuild, afill, abuildS, pureL, chunks, List.range, List.range.loop, Nat.reduceMul, Nat.reduceMod, List.getD_cons_zero, List.getD_cons_succ, apartF, apartI, aslice, evI, Int.toNat_natCast, List.length_map, List.getElem?_map, Int.natCast_nonneg, ASt.subst, AO.sub_box, AO.sub_row, AO.sub_map, AO.sub_raw, AO.sub_lrec, AV.sub_p, AV.sub_elt, AV.sub_ptr, AV.sub_rptr, AV.sub_own, AV.sub_junk, AV.sub_cap0, AV.sub_agg, AV.sub_fn, AV.sub_tup, AV.sub_pre, AO.box, aval, pvals, ty_3, ty_4, ty_5, ty_9, ty_22, ty_25, ty_29, ty_30, ty_34, ty_40, ty_42, ty_44, ty_45, ty_46, ty_48, ty_52, ty_63, ty_65, ty_67, ty_69, ty_74, ty_80, ty_82, ty_90, ty_92, ty_96, ty_104, mapTy_69, keyed_3]
end Go.Proofs.Ytbhkcejjehgfcaa
