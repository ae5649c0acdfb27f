/- Texts Eh, Ei, Md, Ek, Me, Mg, Nd. -/
import Derived.Ground.SlsfProg
import Derived.Test.YtbhkcejjehgfcaaZ07
namespace Go.Proofs
open Go.Shelf Go.RowKit Go.Lib Go.Sort
def Ytbhkcejjehgfcaa.sortK_ren : Go.Shelf.Ren := ⟨fun | 6 => 25 | 15 => 40 | 14 => 39 | 28 => 58 | 29 => 59 | 20 => 50 | 21 => 51 | 22 => 52 | 23 => 53 | 24 => 54 | 25 => 55 | 26 => 56 | 27 => 57 | 46 => 65 | 47 => 66 | 48 => 67 | 49 => 68 | 50 => 69 | 57 => 72 | n => n, fun | 22 => 25 | 24 => 34 | 25 => 60 | 3 => 3 | 39 => 74 | 0 => 0 | 53 => 90 | 55 => 92 | 4 => 4 | 46 => 83 | 45 => 82 | 50 => 87 | 5 => 5 | 9 => 9 | 66 => 96 | 70 => 100 | 76 => 104 | 77 => 105 | n => n, fun | n => n⟩
theorem Ytbhkcejjehgfcaa.sortK : Go.Proofs.SlLaysF.n6 Try.prog Ytbhkcejjehgfcaa.sortK_ren := {
  mixed := by kernel_rfl
  f6 := ⟨Try.f25.name, by decide, Try.func25.trans (congrArg some (by kernel_rfl))⟩
  f14 := ⟨Try.f39.name, by decide, Try.func39.trans (congrArg some (by kernel_rfl))⟩
  f15 := Try.func40.trans (congrArg some (by kernel_rfl))
  f20 := ⟨Try.f50.name, by decide, Try.func50.trans (congrArg some (by kernel_rfl))⟩
  f21 := ⟨Try.f51.name, by decide, Try.func51.trans (congrArg some (by kernel_rfl))⟩
  f22 := ⟨Try.f52.name, by decide, Try.func52.trans (congrArg some (by kernel_rfl))⟩
  f23 := ⟨Try.f53.name, by decide, Try.func53.trans (congrArg some (by kernel_rfl))⟩
  f24 := ⟨Try.f54.name, by decide, Try.func54.trans (congrArg some (by kernel_rfl))⟩
  f25 := ⟨Try.f55.name, by decide, Try.func55.trans (congrArg some (by kernel_rfl))⟩
  f26 := ⟨Try.f56.name, by decide, Try.func56.trans (congrArg some (by kernel_rfl))⟩
  f27 := ⟨Try.f57.name, by decide, Try.func57.trans (congrArg some (by kernel_rfl))⟩
  f28 := Try.func58.trans (congrArg some (by kernel_rfl))
  f29 := Try.func59.trans (congrArg some (by kernel_rfl))
  f46 := ⟨Try.f65.name, by decide, Try.func65.trans (congrArg some (by kernel_rfl))⟩
  f47 := Try.func66.trans (congrArg some (by kernel_rfl))
  f48 := Try.func67.trans (congrArg some (by kernel_rfl))
  f49 := ⟨Try.f68.name, by decide, Try.func68.trans (congrArg some (by kernel_rfl))⟩
  f50 := ⟨Try.f69.name, by decide, Try.func69.trans (congrArg some (by kernel_rfl))⟩
  f57 := ⟨Try.f72.name, by decide, Try.func72.trans (congrArg some (by kernel_rfl))⟩
  t0 := Try.underlying0
  a0 := Try.isAgg0
  z0 := Try.sizeOf0
  v0 := Try.zeroValue0
  t3 := Try.underlying3
  a3 := Try.isAgg3
  z3 := Try.sizeOf3
  v3 := Try.zeroValue3
  t4 := Try.underlying4
  a4 := Try.isAgg4
  z4 := Try.sizeOf4
  v4 := Try.zeroValue4
  t5 := Try.underlying5
  a5 := Try.isAgg5
  z5 := Try.sizeOf5
  v5 := Try.zeroValue5
  t9 := Try.underlying9
  a9 := Try.isAgg9
  z9 := Try.sizeOf9
  v9 := Try.zeroValue9
  t22 := Try.underlying25
  a22 := Try.isAgg25
  z22 := Try.sizeOf25
  v22 := Try.zeroValue25
  a24 := Try.isAgg34
  z24 := Try.sizeOf34
  t25 := Try.underlying60
  a25 := Try.isAgg60
  z25 := Try.sizeOf60
  v25 := Try.zeroValue60
  t39 := Try.underlying74
  a39 := Try.isAgg74
  z39 := Try.sizeOf74
  v39 := Try.zeroValue74
  t45 := Try.underlying82
  a45 := Try.isAgg82
  z45 := Try.sizeOf82
  v45 := Try.zeroValue82
  t46 := Try.underlying83
  a46 := Try.isAgg83
  z46 := Try.sizeOf83
  v46 := Try.zeroValue83
  t50 := Try.underlying87
  a50 := Try.isAgg87
  z50 := Try.sizeOf87
  v50 := Try.zeroValue87
  t53 := Try.underlying90
  a53 := Try.isAgg90
  z53 := Try.sizeOf90
  v53 := Try.zeroValue90
  t55 := Try.underlying92
  a55 := Try.isAgg92
  z55 := Try.sizeOf92
  v55 := Try.zeroValue92
  t66 := Try.underlying96
  a66 := Try.isAgg96
  z66 := Try.sizeOf96
  v66 := Try.zeroValue96
  t70 := Try.underlying100
  a70 := Try.isAgg100
  z70 := Try.sizeOf100
  v70 := Try.zeroValue100
  t76 := Try.underlying104
  a76 := Try.isAgg104
  z76 := Try.sizeOf104
  v76 := Try.zeroValue104
  t77 := Try.underlying105
  a77 := Try.isAgg105
  z77 := Try.sizeOf105
  v77 := Try.zeroValue105 }
end Go.Proofs
namespace Go.Proofs.Ytbhkcejjehgfcaa
open Go.RowKit Go.Sort Go.Shelf
set_option linter.unusedSimpArgs false
set_option linter.unusedVariables false
def leB (a b : List Pk) : Bool := decide (¬ cmpL b a < 0)
def sortPk (l : List (List Pk)) : List (List Pk) := l.mergeSort leB
theorem leB_trans (a b c : List Pk) (h : leB a b = true) (k : leB b c = true) : leB a c = true := by
  have := cmpL_swo.ntrans c b a
  simp [leB] at *
  exact this k h
theorem leB_total (a b : List Pk) : (leB a b || leB b a) = true := by
  simp only [leB, Bool.or_eq_true, decide_eq_true_eq]
  rcases cmpL_cases a b with h | h | h <;> omega
theorem leB_anti {a b : List Pk} (h : ¬ cmpL b a < 0) (k : ¬ cmpL a b < 0) : a = b := by
  rcases cmpL_cases a b with h1 | ⟨_, h1⟩ | h1
  · omega
  · exact h1
  · omega
theorem sorted_eq : ∀ {l1 l2 : List (List Pk)}, l1.Perm l2 → SortedL cmpL l1 → SortedL cmpL l2 → l1 = l2
  | [], l2, h, _, _ => by rw [List.nil_perm.1 h]
  | x :: r, l2, h, h1, h2 => by
    cases l2 with
    | nil => exact absurd h.length_eq (by simp)
    | cons y s =>
      obtain ⟨hx, hr⟩ := List.pairwise_cons.1 h1
      obtain ⟨hy, hs⟩ := List.pairwise_cons.1 h2
      have e : x = y := by
        have m1 : y ∈ x :: r := h.mem_iff.2 (by simp)
        have m2 : x ∈ y :: s := h.mem_iff.1 (by simp)
        rcases List.mem_cons.1 m1 with e | m1
        · exact e.symm
        · rcases List.mem_cons.1 m2 with e | m2
          · exact e
          · exact leB_anti (hx y m1) (hy x m2)
      subst e
      rw [sorted_eq (List.Perm.cons_inv h) hr hs]
theorem sort_sorted (l : List (List Pk)) : SortedL cmpL (sortPk l) := by
  have h := List.pairwise_mergeSort leB_trans leB_total l
  exact h.imp fun h => by simpa [leB] using h
theorem sort_perm (l : List (List Pk)) : (sortPk l).Perm l := List.mergeSort_perm l leB
theorem canB_rows (l : List St) : (leastB l).map pkC = (canB l).map pkR := by simp [canB, pkC, pkR, pick]
def eY0 (bb : Nat) (acc : List (List St)) : AO := .boxP (some bb) 25 [.own 11]
def eY1 (acc : List (List St)) : AO := .row 34 1 (rowOf pksP (acc.map canB))
def eY2 (l : Nat) (sp : LSpec) (acc : List (List St)) : AO := .lrec l sp [(3, .ptr 10 0)]
theorem em0 (bb : Nat) (a : List (List St)) : Mute (eY0 bb a) := ⟨fun t y h => by
  have e : ¬ 11 = t := by omega
  simp [eY0, AO.sub_box, AV.sub_own, e], fun t m h => by
  have e : ¬ 11 = t := by omega
  simp [eY0, AO.cut_box, AV.cut_own, e], fun t t' h h' => by
  have e : ¬ 11 = t := by omega
  have e' : ¬ 11 = t' := by omega
  simp [eY0, AO.ren_box, AV.ren_own, e, e'], fun n h => by
  have e : 11 < n := by omega
  simp [eY0, AO.okB_box, AV.okB, e]⟩
theorem em1 (a : List (List St)) : Mute (eY1 a) := ⟨fun _ _ _ => rfl, fun _ _ _ => rfl, fun _ _ _ _ => rfl, fun _ _ => rfl⟩
theorem em2 (l : Nat) (sp : LSpec) (a : List (List St)) : Mute (eY2 l sp a) := ⟨fun t y h => by
  have e : ¬ 10 = t := by omega
  simp [eY2, AO.sub_lrec, AV.sub_ptr, e], fun t m h => by simp [eY2, AO.cut_lrec, AV.cut_ptr], fun t t' h h' => by
  have e : ¬ 10 = t := by omega
  have e' : ¬ 10 = t' := by omega
  simp [eY2, AO.ren_lrec, AV.ren_ptr, e, e'], fun n h => by
  have e : 10 < n := by omega
  simp [eY2, AO.okB_lrec, AV.okB, e]⟩
theorem loop_ne {rc : List Nat → List St → (Nat → Bool) → List (List St)} {ths : List (List St)} {pos : List Nat} {run : List St} : ∀ (l : List Nat), (∀ t ∈ l, ∀ s, stepOf ths pos t = some s → rc (bump pos t) (run ++ [s]) (nextZ ths pos s fun _ => false) ≠ []) → loopB rc ths pos run l (fun _ => false) ≠ [] ∨ endB ths pos l = true
  | [], _ => .inr rfl
  | t :: r, h => by
    cases hs : stepOf ths pos t with
    | none =>
      rcases loop_ne r (fun t ht => h t (List.mem_cons.2 (.inr ht))) with h1 | h1
      · left; rw [loopB, hs]; exact h1
      · right; simp only [endB, List.all_cons, hs, Option.isNone_none, Bool.true_and]; exact h1
    | some s =>
      left
      rw [loopB, hs]
      simp only [Bool.false_eq_true, if_false]
      exact fun e => h t (List.mem_cons.2 (.inl rfl)) s hs (List.append_eq_nil_iff.1 e).1
theorem nextZ_none (ths : List (List St)) (pos : List Nat) (s : St) : nextZ ths pos s (fun _ => false) = fun _ => false := by funext u; simp [nextZ]
theorem vis_ne (ths : List (List St)) : ∀ m pos run, remB ths pos ≤ m → visB ths (m + 1) pos run (fun _ => false) ≠ []
  | 0, pos, run, hr => by
    rw [visB]
    rcases loop_ne (rc := visB ths 0) (ths := ths) (pos := pos) (run := run) (List.range ths.length) (fun t ht s hs => by have := rem_bump hs; omega) with h | h
    · exact fun e => h (List.append_eq_nil_iff.1 e).1
    · rw [show endU ths pos ths.length = true from h]; simp
  | m + 1, pos, run, hr => by
    rw [visB]
    rcases loop_ne (rc := visB ths (m + 1)) (ths := ths) (pos := pos) (run := run) (List.range ths.length) (fun t ht s hs => by
      rw [nextZ_none]
      exact vis_ne ths m _ _ (by have := rem_bump hs; omega)) with h | h
    · exact fun e => h (List.append_eq_nil_iff.1 e).1
    · rw [show endU ths pos ths.length = true from h]; simp
theorem can_len (l : List St) : (canB l).length ≤ l.length := by
  unfold canB leastB
  rw [List.length_map]
  exact Nat.le_trans (List.length_filterMap_le _ _) (Nat.le_of_eq (order_len l))
theorem loop_run {rc : List Nat → List St → (Nat → Bool) → List (List St)} {ths : List (List St)} {pos : List Nat} {run : List St} {n : Nat} (h : ∀ t s Z, stepOf ths pos t = some s → ∀ r ∈ rc (bump pos t) (run ++ [s]) Z, r.length ≤ n) : ∀ (l : List Nat) Z, ∀ r ∈ loopB rc ths pos run l Z, r.length ≤ n
  | [], Z, r, hr => by cases hr
  | t :: l, Z, r, hr => by
    rw [loopB] at hr
    split at hr
    · exact loop_run h l Z r hr
    · rename_i s hs
      split at hr
      · exact loop_run h l Z r hr
      · rcases List.mem_append.1 hr with hr | hr
        · exact h t s _ hs r hr
        · exact loop_run h l _ r hr
theorem vis_run (ths : List (List St)) : ∀ m pos run Z, ∀ r ∈ visB ths m pos run Z, r.length ≤ run.length + m
  | 0, pos, run, Z, r, hr => by cases hr
  | m + 1, pos, run, Z, r, hr => by
    rw [visB] at hr
    rcases List.mem_append.1 hr with hr | hr
    · refine loop_run (n := run.length + (m + 1)) (fun t s Z hs r hr => ?_) _ _ r hr
      have := vis_run ths m _ _ _ r hr
      simp only [List.length_append, List.length_singleton] at this
      omega
    · split at hr
      · rw [List.mem_singleton.1 hr]; omega
      · cases hr
def exploreB (v : Bool) (ths : List (List St)) : List (List Pk) := if v = true then sortPk ((visB ths 13 (List.replicate ths.length 0) [] fun _ => false).map canB) else []
set_option maxHeartbeats 4000000 in
set_option maxRecDepth 100000 in
theorem explore_ok (ths : List (List St)) (hst : ∀ l ∈ ths, l.length ≤ 1000 ∧ ∀ s ∈ l, StOk s) (v : Bool) (hval : PureC Try.prog 12 [.p (thsP ths)] (.bool v)) (hv : v = true → ths.length ≤ 8 ∧ remB ths (List.replicate ths.length 0) ≤ 12 ∧ ∀ l ∈ ths, ∀ s ∈ l, StV s) :
    PureC Try.prog 13 [.p (thsP ths)] (.p (.seq 1 (rowOf pksP (exploreB v ths)))) := by
  have hm1 : 1 ≤ maxLen := by decide
  cases v with
  | false =>
    simp only [exploreB, Bool.false_eq_true, if_false, rowOf, List.map_nil]
    simp only [thsP] at hval ⊢
    refine PureC.of Try.func13 rfl 19 rfl (by decide) (by simp [AV.okB]) ?_
    repeat' (first | refine T.seqK fun K hK => ?_ | refine T.block ?_ | (refine T.reg (by kernel_rfl) fun K' hK' => ?_; simp only [startSt, frOf, List.map_cons, List.map_nil]; (repeat' (first | (with_reducible refine WL.fin ?_; refine hK' _ ?_; clear hK' K') | (with_reducible refine WD.fin ?_) | ((first | (with_reducible refine WL.step fun K2 hK2 => ?_) | (with_reducible refine WD.step fun K2 hK2 => ?_)); simp only [WS, WH, WO, WOv, WG, dstOk, hasDst, aop, ASt.ev, aload, aloadC, afield, aindex, abin, abinI, aun, alen, acells, Nat.reduceEqDiff, Nat.reduceLT, Nat.reduceLeDiff, Nat.reduceAdd, reduceIte, reduceCtorEq, implies_true, ASt.add, setHp, asplice, Int.reduceEq, Int.reduceNe, Int.reduceLT, Int.reduceLE, Int.reduceSub, Int.reduceAdd, abuild, afill, abuildS, pureL, chunks, List.range, List.range.loop, Nat.reduceMul, Nat.reduceMod, apartF, apartI, aslice, evI, ASt.subst, AO.box, aval, pvals, ams, tys, mapTy_69, keyed_3]; (repeat' (first | (with_reducible refine hK2 _ ?_; clear hK2 K2) | (with_reducible refine And.intro ?_ ?_) | (with_reducible intro hb) | ((first | (with_reducible apply callArmO) | (with_reducible apply callArm)); case h => exact CallV.plain (Ent.of Try.func12 (by kernel_rfl) rfl) (hval) (by simp [AV.okB])))))))) | refine T.skip ?_ | refine T.exit ?_ | refine T.condT rfl ?_ | refine T.condF rfl ?_ | refine T.cond rfl (fun hc => ?_) (fun hc => ?_) | refine T.ret ?_ | simp only [ThenA, InBlock, reduceIte, Nat.reduceEqDiff] | ((repeat ((fail_if_success (refine hK _ ?_)); clear hK K)); refine hK _ ?_; clear hK K))
    refine FinA.retW (s' := ⟨[(2, .p (.seq 1 []))], [], 19, 0⟩) (.inr rfl) Try.results13 (by refine Weak.of' rfl ?_; simp only [wks, reduceIte, Nat.reduceEqDiff, ASt.okB, AV.okB, Nat.reduceLT, implies_true, ]) ?_
    simp only [ares, aresL, ares1, WS, WH, WO, WOv, WG, dstOk, hasDst, aop, ASt.ev, aload, aloadC, afield, aindex, abin, abinI, aun, alen, acells, Nat.reduceEqDiff, Nat.reduceLT, Nat.reduceLeDiff, Nat.reduceAdd, reduceIte, reduceCtorEq, implies_true, ASt.add, setHp, asplice, Int.reduceEq, Int.reduceNe, Int.reduceLT, Int.reduceLE, Int.reduceSub, Int.reduceAdd, abuild, afill, abuildS, pureL, chunks, List.range, List.range.loop, Nat.reduceMul, Nat.reduceMod, apartF, apartI, aslice, evI, ASt.subst, AO.box, aval, pvals, ams]
  | true =>
    obtain ⟨h8, h12, hsv⟩ := hv rfl
    simp only [exploreB, if_true]
    have hne := vis_ne ths 12 _ [] h12
    obtain ⟨res, hres⟩ : ∃ res, res = visB ths 13 (List.replicate ths.length 0) [] fun _ => false := ⟨_, rfl⟩
    rw [← hres] at hne ⊢
    have hM : res.length ≤ 9 ^ 13 := by
      rw [hres]
      exact Nat.le_trans (vis_len ths 13 _ _ _) (Nat.pow_le_pow_left (by omega) 13)
    have hruns := runs_ok ths
    simp only [thsP] at hval hruns ⊢
    refine PureC.of Try.func13 rfl 19 rfl (by decide) (by simp [AV.okB]) ?_
    repeat' (first | refine T.seqK fun K hK => ?_ | refine T.block ?_ | (refine T.reg (by kernel_rfl) fun K' hK' => ?_; simp only [startSt, frOf, List.map_cons, List.map_nil]; (repeat' (first | (with_reducible refine WL.fin ?_; refine hK' _ ?_; clear hK' K') | (with_reducible refine WD.fin ?_) | ((first | (with_reducible refine WL.step fun K2 hK2 => ?_) | (with_reducible refine WD.step fun K2 hK2 => ?_)); simp only [WS, WH, WO, WOv, WG, dstOk, hasDst, aop, ASt.ev, aload, aloadC, afield, aindex, abin, abinI, aun, alen, acells, Nat.reduceEqDiff, Nat.reduceLT, Nat.reduceLeDiff, Nat.reduceAdd, reduceIte, reduceCtorEq, implies_true, ASt.add, setHp, asplice, Int.reduceEq, Int.reduceNe, Int.reduceLT, Int.reduceLE, Int.reduceSub, Int.reduceAdd, abuild, afill, abuildS, pureL, chunks, List.range, List.range.loop, Nat.reduceMul, Nat.reduceMod, apartF, apartI, aslice, evI, ASt.subst, AO.box, aval, pvals, ams, tys, mapTy_69, keyed_3]; (repeat' (first | (with_reducible refine hK2 _ ?_; clear hK2 K2) | (with_reducible refine And.intro ?_ ?_) | (with_reducible intro hb) | ((first | (with_reducible apply callArmO) | (with_reducible apply callArm)); case h => exact CallV.plain (Ent.of Try.func12 (by kernel_rfl) rfl) (hval) (by simp [AV.okB])) | ((first | (with_reducible apply callArmO) | (with_reducible apply callArm)); case h => exact CallV.plain (Ent.of Try.func23 (by kernel_rfl) rfl) (hruns) (by simp [AV.okB])))))))) | refine T.skip ?_ | refine T.exit ?_ | refine T.condT rfl ?_ | refine T.condF rfl ?_ | refine T.cond rfl (fun hc => ?_) (fun hc => ?_) | refine T.ret ?_ | simp only [ThenA, InBlock, reduceIte, Nat.reduceEqDiff] | ((repeat ((fail_if_success (refine hK _ ?_)); clear hK K)); refine hK _ ?_; clear hK K))
    refine T.weak (Weak.newrowB _ 0 0 34 1 _ _ _ rfl rfl) ?_; simp only [setHp, List.map_cons, List.map_nil, reduceIte, Nat.reduceEqDiff, List.set_cons_succ, List.set_cons_zero, Nat.reduceAdd]
    refine T.weak (s' := ⟨[(3, .ptr 0 0), (9, .fn (.func 36) [.elt [thsP ths] 0])], [(0, .boxP none 25 [.own 1]), (1, .row 34 1 [])], 19, 12⟩) (by refine Weak.of' rfl ?_; simp only [wks, reduceIte, Nat.reduceEqDiff, ASt.okB, AV.okB, Nat.reduceLT, implies_true, thsP]) ?_
    refine T.weak (Weak.ren _ 0 10) ?_; simp only [ASt.ren, AV.ren_own, AV.ren_ptr, AV.ren_rptr, AV.ren_pre, AV.ren_p, AV.ren_elt, AV.ren_junk, AV.ren_cap0, AV.ren_fn, AV.ren_agg, AV.ren_tup, AO.ren_box, AO.ren_row, AO.ren_map, AO.ren_raw, List.map_cons, List.map_nil, List.filter_cons, List.filter_nil, lk_cons, lk_nil, reduceIte, Nat.reduceEqDiff, Nat.reduceLT, Nat.reduceBneDiff, bne_self_eq_false, Bool.and_true, Bool.and_false, Bool.true_and, Bool.false_and, Bool.and_self, Bool.false_eq_true, ne_eq, not_false_eq_true, not_true_eq_false, and_self, and_true, true_and, and_false, bne_self_eq_false]
    refine T.weak (Weak.ren _ 1 11) ?_; simp only [ASt.ren, AV.ren_own, AV.ren_ptr, AV.ren_rptr, AV.ren_pre, AV.ren_p, AV.ren_elt, AV.ren_junk, AV.ren_cap0, AV.ren_fn, AV.ren_agg, AV.ren_tup, AO.ren_box, AO.ren_row, AO.ren_map, AO.ren_raw, List.map_cons, List.map_nil, List.filter_cons, List.filter_nil, lk_cons, lk_nil, reduceIte, Nat.reduceEqDiff, Nat.reduceLT, Nat.reduceBneDiff, bne_self_eq_false, Bool.and_true, Bool.and_false, Bool.true_and, Bool.false_and, Bool.and_self, Bool.false_eq_true, ne_eq, not_false_eq_true, not_true_eq_false, and_self, and_true, true_and, and_false, bne_self_eq_false]
    refine T.weak (s' := ⟨[(3, .ptr 10 0), (9, .fn (.func 36) [.elt [thsP ths] 0])], [(10, .boxP none 25 [.own 11]), (11, .row 34 1 [])], 19, 12⟩) (by refine Weak.of' rfl ?_; simp only [wks, reduceIte, Nat.reduceEqDiff, ASt.okB, AV.okB, Nat.reduceLT, implies_true, thsP]) ?_
    refine T.pin 10 _ rfl fun bb => ?_; simp only [setHp, AO.pin, List.map_cons, List.map_nil, reduceIte, Nat.reduceEqDiff]
    refine T.rangeFS 36 [.elt [thsP ths] 0] [(3, .ptr 10 0)] rfl (Ent.of Try.func36 (by kernel_rfl) rfl) (by simp [get_mk, lk_cons]) fun l sp hsn hsp hsa hsb => ?_
    have hfr : ∀ p ∈ [(3, AV.ptr 10 0)], p.2.keep 13 [10] = p.2 := by simp [AV.keep_ptr]
    have hyld : ∀ b pos run acc, acc.length < res.length → PosOk ths pos → RunIn ths run → ∃ l' sp' fr', eY2 l sp acc = .lrec l' sp' fr' ∧ YldC Try.prog l' 13 (hpV b ths pos run (eY0 bb acc) (eY1 acc) (eY2 l sp acc)) [.own 2] fun hp' r => hp' = hpV b ths pos run (eY0 bb (acc ++ [run])) (eY1 (acc ++ [run])) (eY2 l sp (acc ++ [run])) ∧ r = .bool true := by
      intro b pos run acc hac hpos hrin
      refine ⟨l, sp, [(3, .ptr 10 0)], rfl, YldC.mono (YldC.of 12 [10] (fun hp3 => hp3 = [(0, .boxP (some b) 67 [.p (thsP ths), .own 2, .own 1]), (1, .row 3 1 (posR pos)), (2, .row 48 4 (run.map stC)), (10, eY0 bb (acc ++ [run])), (11, eY1 (acc ++ [run]))]) (Q := fun hp' r => hp' = (12, .lrec l sp [(3, .ptr 10 0)]) :: [(0, .boxP (some b) 67 [.p (thsP ths), .own 2, .own 1]), (1, .row 3 1 (posR pos)), (2, .row 48 4 (run.map stC)), (10, eY0 bb (acc ++ [run])), (11, eY1 (acc ++ [run]))] ∧ r = .bool true) rfl (by rw [hsp]; rfl) (by rw [hsp, hsn]; simp) hfr ?_ ?_ (by simp [AV.okB])) ?_⟩
      · rw [hsa, hsb, hsp, hsn]
        simp only [hpV, frPut, List.filter_cons, List.filter_nil, Nat.reduceBneDiff, bne_self_eq_false, reduceIte, Bool.false_eq_true, eY0, eY1]
        repeat' (first | refine T.seqK fun K hK => ?_ | refine T.block ?_ | (refine T.reg (by kernel_rfl) fun K' hK' => ?_; simp only [startSt, frOf, List.map_cons, List.map_nil]; (repeat' (first | (with_reducible refine WL.fin ?_; refine hK' _ ?_; clear hK' K') | (with_reducible refine WD.fin ?_) | ((first | (with_reducible refine WL.step fun K2 hK2 => ?_) | (with_reducible refine WD.step fun K2 hK2 => ?_)); simp only [WS, WH, WO, WOv, WG, dstOk, hasDst, aop, ASt.ev, aload, aloadC, afield, aindex, abin, abinI, aun, alen, acells, Nat.reduceEqDiff, Nat.reduceLT, Nat.reduceLeDiff, Nat.reduceAdd, reduceIte, reduceCtorEq, implies_true, ASt.add, setHp, asplice, Int.reduceEq, Int.reduceNe, Int.reduceLT, Int.reduceLE, Int.reduceSub, Int.reduceAdd, abuild, afill, abuildS, pureL, chunks, List.range, List.range.loop, Nat.reduceMul, Nat.reduceMod, apartF, apartI, aslice, evI, ASt.subst, AO.box, aval, pvals, ams, tys, mapTy_69, keyed_3]; (repeat' (first | (with_reducible refine hK2 _ ?_; clear hK2 K2) | (with_reducible refine And.intro ?_ ?_) | (with_reducible intro hb) | fail)))))) | refine T.skip ?_ | refine T.exit ?_ | refine T.condT rfl ?_ | refine T.condF rfl ?_ | refine T.cond rfl (fun hc => ?_) (fun hc => ?_) | refine T.ret ?_ | simp only [ThenA, InBlock, reduceIte, Nat.reduceEqDiff] | ((repeat ((fail_if_success (refine hK _ ?_)); clear hK K)); refine hK _ ?_; clear hK K))
        have hca := canonical_ok run (by have := hrin.len; omega) (fun s hs => by obtain ⟨l0, g1, g2⟩ := hrin.mem s hs; exact hsv l0 g1 s g2)
        rw [canB_rows] at hca
        simp only [thP] at hca
        have ho1 : (rowOf pksP (acc.map canB)).length + 1 ≤ maxLen := by simp only [rowOf, List.length_map]; unfold maxLen; omega
        have ho2 : ((rowOf pksP (acc.map canB)).length + 1) * 24 ≤ 140737488355328 := by simp only [rowOf, List.length_map]; omega
        refine T.comm [some (0, 0), some (0, 2), some (0, 2), some (0, 0), none, none] (by kernel_rfl) (by kernel_rfl) fun K' hK' => ?_; simp only [List.map_cons, List.map_nil, List.zip_cons_cons, List.zip_nil_left]; (repeat' (first | (with_reducible refine WC.fin ?_; refine hK' _ ?_; clear hK' K') | ((first | (with_reducible refine WC.stepV fun K2 hK2 => ?_) | (with_reducible refine WC.stepW fun K2 hK2 => ?_)); simp only [WS, WH, WO, WOv, WG, dstOk, hasDst, aop, ASt.ev, aload, aloadC, afield, aindex, abin, abinI, aun, alen, acells, Nat.reduceEqDiff, Nat.reduceLT, Nat.reduceLeDiff, Nat.reduceAdd, reduceIte, reduceCtorEq, implies_true, ASt.add, setHp, asplice, Int.reduceEq, Int.reduceNe, Int.reduceLT, Int.reduceLE, Int.reduceSub, Int.reduceAdd, abuild, afill, abuildS, pureL, chunks, List.range, List.range.loop, Nat.reduceMul, Nat.reduceMod, apartF, apartI, aslice, evI, ASt.subst, AO.box, aval, pvals, ams, WCg, WCv, WOw, allP, dav, Chk, List.filter_cons, List.filter_nil, bne_self_eq_false, Nat.reduceBneDiff, Bool.false_eq_true, tys, mapTy_69, keyed_3, hm1, ho1, ho2]; (repeat' (first | (with_reducible refine hK2 _ _ ?_; clear hK2 K2) | (with_reducible refine hK2 _ ?_; clear hK2 K2) | (with_reducible refine And.intro ?_ ?_) | (with_reducible intro hb) | (with_reducible rfl) | ((with_reducible show @Eq ASt _ _); rfl) | ((first | (with_reducible apply callArmO) | (with_reducible apply callArm)); (case h => exact CallV.viewF _ rfl (Ent.of Try.func24 (by kernel_rfl) rfl) hca (by simp [AV.okB, AV.view, lk_cons, lk_nil])))))))); all_goals ((try simp only [ThenA, InBlock, reduceIte, Nat.reduceEqDiff]); (try ((repeat ((fail_if_success (refine hK _ ?_)); clear hK K)); refine hK _ ?_; clear hK K)))
        refine ⟨rfl, ⟨[], [(0, .boxP (some b) 67 [.p (thsP ths), .own 2, .own 1]), (1, .row 3 1 (posR pos)), (2, .row 48 4 (run.map stC)), (10, .boxP (some bb) 25 [.own 11]), (11, .row 34 1 (rowOf pksP ((acc ++ [run]).map canB)))], 19, 13⟩, (Weak.ren _ 13 11).trans (by refine Weak.of' rfl ?_; simp only [wks, reduceIte, Nat.reduceEqDiff, ASt.okB, AV.okB, Nat.reduceLT, implies_true, ASt.ren, AV.ren_own, AV.ren_ptr, AV.ren_rptr, AV.ren_pre, AV.ren_p, AV.ren_elt, AV.ren_junk, AV.ren_cap0, AV.ren_fn, AV.ren_agg, AV.ren_tup, AO.ren_box, AO.ren_row, AO.ren_map, AO.ren_raw, List.map_cons, List.map_nil, List.filter_cons, List.filter_nil, lk_cons, lk_nil, Nat.reduceBneDiff, bne_self_eq_false, Bool.and_false, Bool.false_and, Bool.false_eq_true, ne_eq, not_false_eq_true, not_true_eq_false, and_self, and_false, rowOf, pksP, List.map_append]), rfl, rfl, rfl⟩
      · rintro hp3 rfl
        refine ⟨by simp [Kept, hpV, lk_cons, eY0, AO.handle_box], by simp [AO.sub_box, AO.sub_row, AV.sub_p, AV.sub_own, eY0, eY1], rfl, rfl⟩
      · rintro hp' r ⟨rfl, rfl⟩
        refine ⟨_, ⟨rfl, rfl⟩, fun t => ?_⟩
        simp only [hpV, eY2, lk_cons, lk_nil]
        by_cases e0 : t = 0
        · subst e0; rfl
        · by_cases e1 : t = 1
          · subst e1; rfl
          · by_cases e2 : t = 2
            · subst e2; rfl
            · by_cases e10 : t = 10
              · subst e10; rfl
              · by_cases e11 : t = 11
                · subst e11; rfl
                · simp [e0, e1, e2, e10, e11]
    have h1c := runs1_ok ths (by omega) hst (eY0 bb) eY1 (eY2 l sp) res.length (em0 bb) em1 (em2 l sp) (.func (.yield l) #[] #[]) (fun _ => rfl) hyld 12 h12 (by omega) (by rw [← hres]; exact Nat.le_refl _)
    rw [← hres] at h1c
    refine ⟨13, [(10, eY0 bb []), (11, eY1 []), (12, eY2 l sp [])], _, [10], h1c, ?_, by simp [AV.okB, AV.okB_fn], ?_⟩
    · refine ⟨Nat.le_refl _, ?_, ?_⟩ <;> simp [ASt.add, eY0, eY1, eY2, rowOf, lk_cons, AO.okB_box, AO.okB_row, AO.okB_lrec, AV.okB]
    rintro hp' r ⟨rfl, rfl⟩
    refine ⟨by simp [Kept, lk_cons, eY0, AO.handle_box], ⟨_, rfl⟩, fun ob => ?_⟩
    simp only [ASt.add, eY0, eY1, eY2]
    simp only [ASt.callM, AV.keep_own, AV.keep_ptr, AV.keep_rptr, AV.keep_pre, AV.keep_p, AV.keep_elt, AV.keep_junk, AV.keep_cap0, AV.keep_fn, AV.keep_agg, AV.keep_tup, AO.keep, List.map_cons, List.map_nil, List.filter_cons, List.filter_nil, Nat.reduceLeDiff, decide_true, decide_false, reduceIte, Bool.false_eq_true, List.cons_append, List.nil_append, List.mem_cons, List.not_mem_nil, or_false, false_or, or_true, true_or, Nat.reduceEqDiff, put_some, put_none, Nat.le_refl, setHp, List.length_nil]
    (try simp only [ThenA, InBlock, reduceIte, Nat.reduceEqDiff]); (try ((repeat ((fail_if_success (refine hK _ ?_)); clear hK K)); refine hK _ ?_; clear hK K))
    have hks : rowOf pksP (res.map canB) = rowOf pksP (res.map canB) := rfl
    have hkl : ∀ x ∈ res.map canB, x.length ≤ 1000000 := fun x hx => by
      obtain ⟨r, hr, rfl⟩ := List.mem_map.1 hx
      rw [hres] at hr
      have h1 := vis_run ths 13 _ _ _ r hr
      have h2 := can_len r
      simp only [List.length_nil] at h1
      omega
    have hS : MemC Try.prog 25 12 [(10, .boxP (some bb) 25 [.own 11]), (11, .row 34 1 (rowOf pksP (res.map canB)))] [.own 11, .fn (.func 26) []] _ :=
      sort_mem sortK pksP cmpL cmpL_swo 26 (res.map canB) (by simpa using hne) (by simp only [List.length_map]; omega) (Ent.of Try.func26 (by kernel_rfl) rfl) (fun x hx y hy => cmp_ok x y (hkl x hx) (hkl y hy)) 12 _ 11 34 rfl
    repeat' (first | refine T.seqK fun K hK => ?_ | refine T.block ?_ | (refine T.reg (by kernel_rfl) fun K' hK' => ?_; simp only [startSt, frOf, List.map_cons, List.map_nil]; (repeat' (first | (with_reducible refine WL.fin ?_; refine hK' _ ?_; clear hK' K') | (with_reducible refine WD.fin ?_) | ((first | (with_reducible refine WL.step fun K2 hK2 => ?_) | (with_reducible refine WD.step fun K2 hK2 => ?_)); simp only [WS, WH, WO, WOv, WG, dstOk, hasDst, aop, ASt.ev, aload, aloadC, afield, aindex, abin, abinI, aun, alen, acells, Nat.reduceEqDiff, Nat.reduceLT, Nat.reduceLeDiff, Nat.reduceAdd, reduceIte, reduceCtorEq, implies_true, ASt.add, setHp, asplice, Int.reduceEq, Int.reduceNe, Int.reduceLT, Int.reduceLE, Int.reduceSub, Int.reduceAdd, abuild, afill, abuildS, pureL, chunks, List.range, List.range.loop, Nat.reduceMul, Nat.reduceMod, apartF, apartI, aslice, evI, ASt.subst, AO.box, aval, pvals, ams, tys, mapTy_69, keyed_3]; (repeat' (first | (with_reducible refine hK2 _ ?_; clear hK2 K2) | (with_reducible refine And.intro ?_ ?_) | (with_reducible intro hb) | ((with_reducible refine callArmM 12 _ _ [10] (Ent.of Try.func25 (by kernel_rfl) rfl) (hS) ?_ ?_ ?_); (focus ((refine ⟨Nat.le_of_ble_eq_true rfl, ?_, ?_⟩ <;> simp only [List.mem_cons, List.not_mem_nil, or_false, forall_eq_or_imp, forall_eq, lk_cons, lk_nil, reduceIte, Nat.reduceEqDiff, AO.okB_box, AO.okB_row, AO.okB_map, AO.okB_raw, AV.okB, AV.okB_agg, AV.okB_fn, AV.okB_tup, List.all_cons, List.all_nil, Bool.and_true, Bool.and_self, Nat.reduceLT, decide_true, true_and, and_true, Option.isSome_some, true_implies, false_implies, implies_true, and_self, Nat.lt_irrefl, Option.some.injEq, ]); done)); (focus (simp [AV.okB, AV.okB_fn]; done)); rintro hp' r ⟨rfl, ks', hpm, hst', rfl⟩; (obtain rfl : ks' = sortPk (res.map canB) := sorted_eq (hpm.trans (sort_perm _).symm) hst' (sort_sorted _)); refine ⟨by simp [Kept, setHp, lk_cons, AO.handle_box], ?_⟩; simp only [ASt.callM, AV.keep_own, AV.keep_ptr, AV.keep_rptr, AV.keep_pre, AV.keep_p, AV.keep_elt, AV.keep_junk, AV.keep_cap0, AV.keep_fn, AV.keep_agg, AV.keep_tup, AO.keep, List.map_cons, List.map_nil, List.filter_cons, List.filter_nil, Nat.reduceLeDiff, decide_true, decide_false, reduceIte, Bool.false_eq_true, List.cons_append, List.nil_append, List.mem_cons, List.not_mem_nil, or_false, false_or, or_true, true_or, Nat.reduceEqDiff, put_some, put_none, Nat.le_refl, setHp]))))))) | refine T.skip ?_ | refine T.exit ?_ | refine T.condT rfl ?_ | refine T.condF rfl ?_ | refine T.cond rfl (fun hc => ?_) (fun hc => ?_) | refine T.ret ?_ | simp only [ThenA, InBlock, reduceIte, Nat.reduceEqDiff] | ((repeat ((fail_if_success (refine hK _ ?_)); clear hK K)); refine hK _ ?_; clear hK K))
    repeat' (first | refine T.seqK fun K hK => ?_ | refine T.block ?_ | (refine T.reg (by kernel_rfl) fun K' hK' => ?_; simp only [startSt, frOf, List.map_cons, List.map_nil]; (repeat' (first | (with_reducible refine WL.fin ?_; refine hK' _ ?_; clear hK' K') | (with_reducible refine WD.fin ?_) | ((first | (with_reducible refine WL.step fun K2 hK2 => ?_) | (with_reducible refine WD.step fun K2 hK2 => ?_)); simp only [WS, WH, WO, WOv, WG, dstOk, hasDst, aop, ASt.ev, aload, aloadC, afield, aindex, abin, abinI, aun, alen, acells, Nat.reduceEqDiff, Nat.reduceLT, Nat.reduceLeDiff, Nat.reduceAdd, reduceIte, reduceCtorEq, implies_true, ASt.add, setHp, asplice, Int.reduceEq, Int.reduceNe, Int.reduceLT, Int.reduceLE, Int.reduceSub, Int.reduceAdd, abuild, afill, abuildS, pureL, chunks, List.range, List.range.loop, Nat.reduceMul, Nat.reduceMod, apartF, apartI, aslice, evI, ASt.subst, AO.box, aval, pvals, ams, tys, mapTy_69, keyed_3]; (repeat' (first | (with_reducible refine hK2 _ ?_; clear hK2 K2) | (with_reducible refine And.intro ?_ ?_) | (with_reducible intro hb) | fail)))))) | refine T.skip ?_ | refine T.exit ?_ | refine T.condT rfl ?_ | refine T.condF rfl ?_ | refine T.cond rfl (fun hc => ?_) (fun hc => ?_) | refine T.ret ?_ | simp only [ThenA, InBlock, reduceIte, Nat.reduceEqDiff] | ((repeat ((fail_if_success (refine hK _ ?_)); clear hK K)); refine hK _ ?_; clear hK K))
    refine FinA.retW (.inr rfl) Try.results13 (Weak.frz _ 11) ?_; simp only [ares, aresL, ares1, ASt.frz, ASt.subst, AO.sub_box, AO.sub_row, AO.sub_map, AO.sub_raw, AO.sub_lrec, AV.sub_p, AV.sub_elt, AV.sub_ptr, AV.sub_rptr, AV.sub_own, AV.sub_junk, AV.sub_cap0, AV.sub_agg, AV.sub_fn, AV.sub_tup, List.filter_cons, List.filter_nil, bne_self_eq_false, Nat.reduceBneDiff, Nat.reduceEqDiff, Bool.false_eq_true, WS, WH, WO, WOv, WG, dstOk, hasDst, aop, ASt.ev, aload, aloadC, afield, aindex, abin, abinI, aun, alen, acells, Nat.reduceEqDiff, Nat.reduceLT, Nat.reduceLeDiff, Nat.reduceAdd, reduceIte, reduceCtorEq, implies_true, ASt.add, setHp, asplice, Int.reduceEq, Int.reduceNe, Int.reduceLT, Int.reduceLE, Int.reduceSub, Int.reduceAdd, abuild, afill, abuildS, pureL, chunks, List.range, List.range.loop, Nat.reduceMul, Nat.reduceMod, apartF, apartI, aslice, evI, ASt.subst, AO.box, aval, pvals, ams, tys, mapTy_69, keyed_3]
end Go.Proofs.Ytbhkcejjehgfcaa
namespace Go.Proofs.Ytbhkcejjehgfcaa
open Go.RowKit Go.Sort
set_option linter.unusedSimpArgs false
set_option linter.unusedVariables false
theorem okRow_at {t : Nat} : ∀ {l : List St} {i : Nat}, okRow t l i = true → ∀ (j : Nat) (s : St), l[j]? = some s → s.g = (t : Int) ∧ s.c = ((i + j : Nat) : Int) ∧ s.gs = [(t : Int)]
  | [], i, _, j, s, hs => by simp at hs
  | x :: r, i, h, j, s, hs => by
    rw [okRow, Bool.and_eq_true] at h
    cases j with
    | zero =>
      simp only [List.getElem?_cons_zero, Option.some.injEq] at hs
      subst hs
      have h1 := h.1
      simp only [okSt, Bool.and_eq_true, beq_iff_eq] at h1
      obtain ⟨h2, h3, h4, h5⟩ := h1
      refine ⟨h2, h3, ?_⟩
      obtain ⟨y, hy⟩ := List.length_eq_one_iff.1 h4
      rw [hy] at h5 ⊢
      simpa using h5
    | succ j =>
      have := okRow_at h.2 j s (by simpa using hs)
      refine ⟨this.1, ?_, this.2.2⟩
      rw [this.2.1]; congr 1; omega
theorem okAll_at : ∀ {ths : List (List St)} {k : Nat}, okAll ths k = true → ∀ (j : Nat) (l : List St), ths[j]? = some l → okRow (k + j) l 0 = true
  | [], k, _, j, l, h => by simp at h
  | x :: r, k, h, j, l, hl => by
    rw [okAll, Bool.and_eq_true] at h
    cases j with
    | zero => simp at hl; subst hl; exact h.1
    | succ j =>
      have := okAll_at h.2 j l (by simpa using hl)
      rwa [show k + 1 + j = k + (j + 1) by omega] at this
theorem rem_zero (ths : List (List St)) : remB ths (List.replicate ths.length 0) = totB ths := by
  unfold remB totB
  congr 1
  apply List.ext_getElem (by simp)
  intro i h1 h2
  have hi : i < ths.length := by simpa using h1
  simp [List.getD_eq_getElem?_getD, hi]
theorem validB_ok {ths : List (List St)} (h : validB ths = true) : 1 ≤ ths.length ∧ ths.length ≤ 8 ∧ remB ths (List.replicate ths.length 0) ≤ 12 ∧ ∀ (t : Nat) (l : List St), ths[t]? = some l → ∀ (i : Nat) (s : St), l[i]? = some s → s.g = (t : Int) ∧ s.c = (i : Int) ∧ s.gs = [(t : Int)] := by
  simp only [validB, Bool.and_eq_true, decide_eq_true_eq] at h
  obtain ⟨h1, h2, h3, h4⟩ := h
  refine ⟨h1, h2, by rw [rem_zero]; exact h4, fun t l hl i s hs => ?_⟩
  have := okRow_at (okAll_at h3 t l hl) i s hs
  simpa using this
theorem fewB_ok {ths : List (List St)} (h : fewB ths = true) : ths.length ≤ 10 ∧ ∀ l ∈ ths, l.length ≤ 14 ∧ ∀ s ∈ l, s.gs.length ≤ 8 ∧ s.ts.length ≤ 8 := by
  simp only [fewB, Bool.and_eq_true, decide_eq_true_eq, List.all_eq_true] at h
  refine ⟨h.1, fun l hl => ?_⟩
  have := h.2 l hl
  simp only [fewL, fewS, Bool.and_eq_true, decide_eq_true_eq, List.all_eq_true] at this
  exact this
theorem few_st {ths : List (List St)} (h : fewB ths = true) : ∀ l ∈ ths, l.length ≤ 1000 ∧ ∀ s ∈ l, StOk s := fun l hl =>
  have h1 := (fewB_ok h).2 l hl
  ⟨by omega, fun s hs => ⟨by have := (h1.2 s hs).1; omega, by have := (h1.2 s hs).2; omega⟩⟩
theorem valid_stv {ths : List (List St)} (hf : fewB ths = true) (h : validB ths = true) : ∀ l ∈ ths, ∀ s ∈ l, StV s := fun l hl s hs => by
  obtain ⟨t, ht⟩ := List.mem_iff_getElem?.1 hl
  obtain ⟨i, hi⟩ := List.mem_iff_getElem?.1 hs
  obtain ⟨_, h8, _, h1⟩ := validB_ok h
  obtain ⟨e1, e2, e3⟩ := h1 t l ht i s hi
  have := (List.getElem?_eq_some_iff.1 ht).1
  exact ⟨(few_st hf l hl).2 s hs, by rw [e3, e1], by omega, by omega⟩
def visA (ths : List (List St)) : List (List St) := visB ths 13 (List.replicate ths.length 0) [] fun _ => false
def classesB (ths : List (List St)) : Nat := if validB ths = true then (visA ths).length else 0
theorem svalid_at (ths : List (List St)) (hf : fewB ths = true) : PureC Try.prog 12 [.p (thsP ths)] (.bool (validB ths)) :=
  valid_ok ths (by have := (fewB_ok hf).1; omega) (fun l hl => (few_st hf l hl).1)
theorem rvalid_at (ths : List (List St)) (hf : fewB ths = true) : PureC Try.prog 11 [.p (thsP ths)] (.bool (validB ths)) :=
  refValid_ok ths (by have := (fewB_ok hf).1; omega) (fun l hl => (few_st hf l hl).1)
theorem classes_at (ths : List (List St)) (hf : fewB ths = true) : PureC Try.prog 14 [.p (thsP ths)] (.int (classesB ths)) := by
  have h := classes_ok ths (few_st hf) (validB ths) (svalid_at ths hf) (fun hv => ⟨(validB_ok hv).2.1, (validB_ok hv).2.2.1⟩)
  have e : ((classesB ths : Nat) : Int) = (if validB ths = true then ((visB ths 13 (List.replicate ths.length 0) [] fun _ => false).length : Int) else 0) := by
    unfold classesB visA
    split <;> rfl
  rw [e]
  exact h
theorem explore_at (ths : List (List St)) (hf : fewB ths = true) : PureC Try.prog 13 [.p (thsP ths)] (.p (.seq 1 (rowOf pksP (exploreB (validB ths) ths)))) :=
  explore_ok ths (few_st hf) (validB ths) (svalid_at ths hf) (fun hv => ⟨(validB_ok hv).2.1, (validB_ok hv).2.2.1, valid_stv hf hv⟩)
end Go.Proofs.Ytbhkcejjehgfcaa
namespace Go.Proofs.Ytbhkcejjehgfcaa
open Go.RowKit Go.Sort
set_option linter.unusedSimpArgs false
set_option linter.unusedVariables false
def fct : Nat → Nat
  | 0 => 1
  | n + 1 => (n + 1) * fct n
theorem fct_pos : ∀ n, 0 < fct n
  | 0 => Nat.one_pos
  | n + 1 => Nat.mul_pos (Nat.succ_pos n) (fct_pos n)
def lenOf (ths : List (List St)) (t : Nat) : Nat := (ths.getD t []).length
def leftB (ths : List (List St)) (pos : List Nat) (t : Nat) : Nat := lenOf ths t - pos.getD t 0
def facB (ths : List (List St)) (pos : List Nat) : Nat := ((List.range ths.length).map fun t => fct (leftB ths pos t)).prod
def cntB (ths : List (List St)) : Nat → List Nat → Nat
  | 0, _ => 0
  | n + 1, pos => ((List.range ths.length).map fun t => if (stepOf ths pos t).isSome then cntB ths n (bump pos t) else 0).sum + (if endU ths pos ths.length = true then 1 else 0)
theorem left_bump {ths : List (List St)} {pos : List Nat} {t : Nat} {s : St} (h : stepOf ths pos t = some s) : leftB ths pos t = leftB ths (bump pos t) t + 1 ∧ ∀ u, u ≠ t → leftB ths (bump pos t) u = leftB ths pos u := by
  obtain ⟨l, k, h1, h2, h3⟩ := stepOf_some.1 h
  have hp := (List.getElem?_eq_some_iff.1 h2).1
  have hk := (List.getElem?_eq_some_iff.1 h3).1
  refine ⟨?_, fun u hu => ?_⟩
  · simp only [leftB, lenOf, bump, List.getD_eq_getElem?_getD, List.getElem?_set_self hp, h1, h2, Option.getD_some]
    omega
  · simp only [leftB, bump, List.getD_eq_getElem?_getD, List.getElem?_set_ne (Ne.symm hu)]
theorem left_none {ths : List (List St)} {pos : List Nat} (hp : PosOk ths pos) {t : Nat} (ht : t < ths.length) (h : stepOf ths pos t = none) : leftB ths pos t = 0 := by
  obtain ⟨l, hl⟩ := at_lt ht
  obtain ⟨k, hk⟩ := at_lt (l := pos) (k := t) (by rw [hp.len]; exact ht)
  have h1 := hp.le t l k hl hk
  have h2 : l[k]? = none := by simpa [stepOf, hl, hk] using h
  have h3 := List.getElem?_eq_none_iff.1 h2
  simp only [leftB, lenOf, List.getD_eq_getElem?_getD, hl, hk, Option.getD_some]
  omega
theorem prod_set (l : List Nat) (f g : Nat → Nat) (t c : Nat) (hn : l.Nodup) (ht : t ∈ l) (h : ∀ u, u ≠ t → f u = g u) (h1 : g t = c * f t) : (l.map g).prod = c * (l.map f).prod := by
  induction l with
  | nil => cases ht
  | cons x r ih =>
    obtain ⟨hx, hr⟩ := List.nodup_cons.1 hn
    simp only [List.map_cons, List.prod_cons]
    rcases List.mem_cons.1 ht with rfl | ht
    · have : r.map f = r.map g := List.map_congr_left fun u hu => h u (fun e => hx (e ▸ hu))
      rw [this, h1, Nat.mul_assoc]
    · rw [ih hr ht, h x (fun e => hx (e ▸ ht))]
      rw [← Nat.mul_assoc, Nat.mul_comm (g x) c, Nat.mul_assoc]
theorem fac_bump {ths : List (List St)} {pos : List Nat} {t : Nat} {s : St} (h : stepOf ths pos t = some s) : facB ths pos = leftB ths pos t * facB ths (bump pos t) := by
  obtain ⟨l, k, h1, _⟩ := stepOf_some.1 h
  obtain ⟨e1, e2⟩ := left_bump h
  refine prod_set _ (fun u => fct (leftB ths (bump pos t) u)) (fun u => fct (leftB ths pos u)) t _ List.nodup_range (List.mem_range.2 (List.getElem?_eq_some_iff.1 h1).1) (fun u hu => by rw [e2 u hu]) ?_
  rw [e1, fct]
theorem rem_left (ths : List (List St)) (pos : List Nat) : remB ths pos = ((List.range ths.length).map (leftB ths pos)).sum := rfl
theorem cnt_fac {ths : List (List St)} : ∀ n pos, PosOk ths pos → remB ths pos < n → cntB ths n pos * facB ths pos = fct (remB ths pos)
  | 0, _, _, h => by omega
  | n + 1, pos, hp, hn => by
    rw [cntB]
    by_cases he : endU ths pos ths.length = true
    · have hnone := end_iff.1 he
      have hl0 : ∀ t ∈ List.range ths.length, leftB ths pos t = 0 := fun t ht => left_none hp (List.mem_range.1 ht) (hnone t)
      have h1 : ((List.range ths.length).map fun t => if (stepOf ths pos t).isSome then cntB ths n (bump pos t) else 0).sum = 0 := by
        rw [List.map_congr_left (g := fun _ => 0) (fun t _ => by rw [hnone t]; rfl)]
        induction List.range ths.length <;> simp_all
      have h2 : facB ths pos = 1 := by
        unfold facB
        rw [List.map_congr_left (g := fun _ => 1) (fun t ht => by rw [hl0 t ht]; rfl)]
        induction List.range ths.length <;> simp_all
      have h3 : remB ths pos = 0 := by
        rw [rem_left, List.map_congr_left (g := fun _ => 0) hl0]
        induction List.range ths.length <;> simp_all
      rw [h1, h2, h3, if_pos he]
      rfl
    · rw [if_neg he, Nat.add_zero]
      have key : ∀ l : List Nat, (∀ t ∈ l, t < ths.length) → (l.map fun t => if (stepOf ths pos t).isSome then cntB ths n (bump pos t) else 0).sum * facB ths pos = fct (remB ths pos - 1) * (l.map (leftB ths pos)).sum := by
        intro l
        induction l with
        | nil => intro _; simp
        | cons t r ih =>
          intro hl
          simp only [List.map_cons, List.sum_cons, Nat.add_mul, Nat.mul_add]
          rw [ih fun u hu => hl u (List.mem_cons_of_mem _ hu)]
          congr 1
          cases hs : stepOf ths pos t with
          | none => rw [left_none hp (hl t (by simp)) hs]; simp
          | some s =>
            have hr := rem_bump hs
            have := cnt_fac n (bump pos t) (pos_bump hp hs) (by omega)
            simp only [Option.isSome_some, if_true]
            rw [fac_bump hs, Nat.mul_left_comm, this, show remB ths pos - 1 = remB ths (bump pos t) by omega, Nat.mul_comm]
      rw [key _ fun t ht => List.mem_range.1 ht, ← rem_left]
      have hpos : 0 < remB ths pos := by
        rcases Nat.eq_zero_or_pos (remB ths pos) with h0 | h0
        · exfalso
          apply he
          refine end_iff.2 fun t => ?_
          cases hs : stepOf ths pos t with
          | none => rfl
          | some s => have := rem_bump hs; omega
        · exact h0
      obtain ⟨m, hm⟩ : ∃ m, remB ths pos = m + 1 := ⟨remB ths pos - 1, by omega⟩
      rw [hm, fct, Nat.add_sub_cancel, Nat.mul_comm]
theorem nextZ_all {ths : List (List St)} (hD : ∀ a ∈ stepsOf ths, ∀ b ∈ stepsOf ths, dpB a b = true) {pos : List Nat} {t : Nat} {s : St} {Z : Nat → Bool} (hs : stepOf ths pos t = some s) (hZ : ∀ u, Z u = true → (stepOf ths pos u).isSome = true) : nextZ ths pos s Z = fun _ => false := by
  funext u
  unfold nextZ
  cases hx : stepOf ths pos u with
  | none =>
    cases hu : Z u with
    | false => rfl
    | true => have := hZ u hu; rw [hx] at this; cases this
  | some x => simp [hD s (step_mem hs) x (step_mem hx)]
theorem all_loop {ths : List (List St)} (hD : ∀ a ∈ stepsOf ths, ∀ b ∈ stepsOf ths, dpB a b = true) {pos : List Nat} {rc : List Nat → (Nat → Bool) → List (List St)} :
    ∀ (l : List Nat) (Z : Nat → Bool), l.Nodup → (∀ t ∈ l, Z t = false) → (∀ u, Z u = true → (stepOf ths pos u).isSome = true) → (loopR rc ths pos l Z).length = (l.map fun t => if (stepOf ths pos t).isSome then (rc (bump pos t) fun _ => false).length else 0).sum
  | [], Z, _, _, _ => rfl
  | t :: l, Z, hn, hl, hZ => by
    obtain ⟨h1, h2⟩ := List.nodup_cons.1 hn
    rw [loopR]
    cases hs : stepOf ths pos t with
    | none =>
      simp only [List.map_cons, List.sum_cons, hs, Option.isSome_none, Bool.false_eq_true, if_false, Nat.zero_add]
      exact all_loop hD l Z h2 (fun u hu => hl u (List.mem_cons_of_mem _ hu)) hZ
    | some s =>
      simp only [hl t (by simp), Bool.false_eq_true, if_false, List.length_append, List.length_map, List.map_cons, List.sum_cons, hs, Option.isSome_some, if_true]
      rw [nextZ_all hD hs hZ]
      congr 1
      refine all_loop hD l _ h2 (fun u hu => ?_) fun u hu => ?_
      · simp only [Bool.or_eq_false_iff, decide_eq_false_iff_not]
        exact ⟨fun e => h1 (e ▸ hu), hl u (List.mem_cons_of_mem _ hu)⟩
      · simp only [Bool.or_eq_true, decide_eq_true_eq] at hu
        rcases hu with rfl | hu
        · rw [hs]; rfl
        · exact hZ u hu
theorem all_cnt {ths : List (List St)} (hD : ∀ a ∈ stepsOf ths, ∀ b ∈ stepsOf ths, dpB a b = true) : ∀ n pos, (visR ths n pos fun _ => false).length = cntB ths n pos
  | 0, _ => rfl
  | n + 1, pos => by
    rw [visR, cntB, List.length_append, all_loop hD _ _ List.nodup_range (fun _ _ => rfl) (fun u hu => by cases hu)]
    congr 1
    · congr 1
      apply List.map_congr_left
      intro t _
      rw [all_cnt hD n]
    · split <;> rfl
def synT (lens : List Nat) : List (List St) := lens.map fun n => List.replicate n ⟨0, 0, [], []⟩
def mulN (lens : List Nat) : Nat := cntB (synT lens) (lens.sum + 1) (List.replicate lens.length 0)
theorem cnt_zero (ths : List (List St)) {n : Nat} (hn : remB ths (List.replicate ths.length 0) < n) : cntB ths n (List.replicate ths.length 0) * ((ths.map List.length).map fct).prod = fct (ths.map List.length).sum := by
  have hp : PosOk ths (List.replicate ths.length 0) := ⟨by simp, fun t l k h1 h2 => by
    rw [List.getElem?_replicate] at h2
    split at h2
    · cases h2; exact Nat.zero_le _
    · cases h2⟩
  have h := cnt_fac n _ hp hn
  have e : ∀ t, leftB ths (List.replicate ths.length 0) t = lenOf ths t := fun t => by simp [leftB, List.getD_eq_getElem?_getD, List.getElem?_replicate]; split <;> simp
  have e1 : (List.range ths.length).map (lenOf ths) = ths.map List.length := by
    apply List.ext_getElem (by simp)
    intro i h1 h2
    have hi : i < ths.length := by simpa using h1
    simp [lenOf, List.getD_eq_getElem?_getD, hi]
  have e2 : facB ths (List.replicate ths.length 0) = ((ths.map List.length).map fct).prod := by
    unfold facB
    rw [← e1, List.map_map]
    congr 1
    exact List.map_congr_left fun t _ => by rw [e]; rfl
  have e3 : remB ths (List.replicate ths.length 0) = (ths.map List.length).sum := by
    rw [rem_left, ← e1]
    congr 1
    exact List.map_congr_left fun t _ => e t
  rwa [e2, e3] at h
theorem mul_spec (lens : List Nat) : mulN lens * (lens.map fct).prod = fct lens.sum := by
  have hl : (synT lens).map List.length = lens := by simp [synT, Function.comp_def]
  have h := cnt_zero (synT lens) (n := lens.sum + 1) (by
    have := rem_left (synT lens) (List.replicate (synT lens).length 0)
    have e1 : (List.range (synT lens).length).map (leftB (synT lens) (List.replicate (synT lens).length 0)) = (synT lens).map List.length := by
      apply List.ext_getElem (by simp)
      intro i h1 h2
      have hi : i < (synT lens).length := by simpa using h1
      simp [leftB, lenOf, List.getD_eq_getElem?_getD, hi]
    rw [this, e1, hl]; omega)
  rw [hl, show (synT lens).length = lens.length by simp [synT]] at h
  exact h
theorem prod_pos (lens : List Nat) : 0 < (lens.map fct).prod := by
  induction lens with
  | nil => exact Nat.one_pos
  | cons x r ih => simp only [List.map_cons, List.prod_cons]; exact Nat.mul_pos (fct_pos x) ih
theorem mul_zero_end (a : List Nat) : mulN (a ++ [0]) = mulN a := by
  have h1 := mul_spec (a ++ [0])
  have h2 := mul_spec a
  simp only [List.map_append, List.map_cons, List.map_nil, List.prod_append, List.prod_cons, List.prod_nil, fct, Nat.mul_one, List.sum_append, List.sum_cons, List.sum_nil, Nat.add_zero] at h1
  exact Nat.eq_of_mul_eq_mul_right (prod_pos a) (h1.trans h2.symm)
theorem mul_step (a : List Nat) (k : Nat) : mulN (a ++ [k]) * ((a ++ [k]).sum + 1) = mulN (a ++ [k + 1]) * (k + 1) := by
  have h1 := mul_spec (a ++ [k])
  have h2 := mul_spec (a ++ [k + 1])
  simp only [List.map_append, List.map_cons, List.map_nil, List.prod_append, List.prod_cons, List.prod_nil, Nat.mul_one, List.sum_append, List.sum_cons, List.sum_nil, Nat.add_zero] at h1 h2 ⊢
  have hP := Nat.mul_pos (prod_pos a) (fct_pos k)
  refine Nat.eq_of_mul_eq_mul_right hP ?_
  rw [fct, show a.sum + (k + 1) = (a.sum + k) + 1 by omega, fct, ← h1] at h2
  calc mulN (a ++ [k]) * (a.sum + k + 1) * ((a.map fct).prod * fct k) = (a.sum + k + 1) * (mulN (a ++ [k]) * ((a.map fct).prod * fct k)) := by rw [Nat.mul_comm (mulN _) (a.sum + k + 1), Nat.mul_assoc]
    _ = mulN (a ++ [k + 1]) * ((a.map fct).prod * ((k + 1) * fct k)) := h2.symm
    _ = mulN (a ++ [k + 1]) * (k + 1) * ((a.map fct).prod * fct k) := by rw [Nat.mul_left_comm (a.map fct).prod, Nat.mul_assoc]
theorem mul_div (a : List Nat) (k : Nat) : mulN (a ++ [k]) * ((a ++ [k]).sum + 1) / (k + 1) = mulN (a ++ [k + 1]) := by
  rw [mul_step]; exact Nat.mul_div_cancel _ (Nat.succ_pos k)
theorem mul_le (lens : List Nat) : mulN lens ≤ fct lens.sum := by
  rw [← mul_spec]; exact Nat.le_mul_of_pos_right _ (prod_pos lens)
theorem fct_mono : ∀ {a b : Nat}, a ≤ b → fct a ≤ fct b := by
  intro a b h
  induction h with
  | refl => exact Nat.le_refl _
  | step _ ih => exact Nat.le_trans ih (Nat.le_mul_of_pos_left _ (Nat.succ_pos _))
theorem mul_small {lens : List Nat} (h : lens.sum ≤ 12) : mulN lens ≤ 479001600 := Nat.le_trans (mul_le lens) (Nat.le_trans (fct_mono h) (by decide))
theorem mul_nil : mulN [] = 1 := by
  have := mul_spec []
  simpa [fct] using this
theorem cnt_mul (ths : List (List St)) {n : Nat} (hn : remB ths (List.replicate ths.length 0) < n) : cntB ths n (List.replicate ths.length 0) = mulN (ths.map List.length) :=
  Nat.eq_of_mul_eq_mul_right (prod_pos _) ((cnt_zero ths hn).trans (mul_spec _).symm)
end Go.Proofs.Ytbhkcejjehgfcaa
namespace Go.Proofs.Ytbhkcejjehgfcaa
open Go.RowKit Go.Sort
set_option linter.unusedSimpArgs false
set_option linter.unusedVariables false
def lensB (ths : List (List St)) : List Nat := ths.map List.length
def smallB (ths : List (List St)) : Bool := !validB ths || decide (mulN (lensB ths) ≤ 400)
theorem tot_lens (ths : List (List St)) : totB ths = (lensB ths).sum := rfl
theorem tot_take {ths : List (List St)} (h : totB ths ≤ 12) (t : Nat) : totB (ths.take t) ≤ 12 := by
  have e : totB ths = totB (ths.take t) + totB (ths.drop t) := by
    unfold totB
    rw [← List.sum_append, ← List.map_append, List.take_append_drop]
  omega
theorem tot_at {ths : List (List St)} (h : totB ths ≤ 12) {t : Nat} {l : List St} (hl : ths[t]? = some l) : totB (ths.take t) + l.length ≤ 12 := by
  have := tot_take h (t + 1)
  rw [tot_drop hl] at this
  exact this
theorem lens_take {ths : List (List St)} {t : Nat} {l : List St} (hl : ths[t]? = some l) : lensB (ths.take (t + 1)) = lensB (ths.take t) ++ [l.length] := by
  unfold lensB
  rw [List.take_add_one, hl, List.map_append]
  rfl
theorem mul_round {a : List Nat} {k n : Nat} (hn : a.sum = n) (h12 : n + k + 1 ≤ 12) : IntKind.i64.wrap (((mulN (a ++ [k]) : Nat) : Int) * ((n + k + 1 : Nat) : Int)) = ((mulN (a ++ [k]) * (n + k + 1) : Nat) : Int) ∧
    IntKind.i64.wrap (((mulN (a ++ [k]) * (n + k + 1) : Nat) : Int).tdiv ((k + 1 : Nat) : Int)) = ((mulN (a ++ [k + 1]) : Nat) : Int) ∧ (((k + 1 : Nat) : Int) = 0) = False ∧ IntKind.i64.wrap (((n + k : Nat) : Int) + 1) = ((n + k + 1 : Nat) : Int) ∧ IntKind.i64.wrap (((k + 1 : Nat) : Int) + 1) = ((k + 1 + 1 : Nat) : Int) ∧ IntKind.i64.wrap (((k : Nat) : Int) + 1) = ((k + 1 : Nat) : Int) := by
  have hs : (a ++ [k]).sum = n + k := by simp [hn]
  have h1 : mulN (a ++ [k]) ≤ 479001600 := mul_small (by omega)
  have h2 : mulN (a ++ [k + 1]) ≤ 479001600 := mul_small (by simp [hn]; omega)
  have hd := mul_div a k
  rw [hs] at hd
  have h3 : mulN (a ++ [k]) * (n + k + 1) ≤ 479001600 * 12 := Nat.mul_le_mul h1 (by omega)
  refine ⟨?_, ?_, eq_false (by omega), wrap_succ (by omega), wrap_succ (by omega), wrap_succ (by omega)⟩
  · rw [← Int.natCast_mul]
    exact wrap_ok (by omega) (by omega)
  · rw [show ((mulN (a ++ [k]) * (n + k + 1) : Nat) : Int).tdiv ((k + 1 : Nat) : Int) = ((mulN (a ++ [k]) * (n + k + 1) / (k + 1) : Nat) : Int) from rfl, hd]
    exact wrap_ok (by omega) (by omega)
set_option maxHeartbeats 4000000 in
set_option maxRecDepth 100000 in
theorem small_ok (ths : List (List St)) (hf : fewB ths = true) : PureC Try.prog 15 [.p (thsP ths)] (.bool (smallB ths)) := by
  have hrv := rvalid_at ths hf
  have hfl := (fewB_ok hf).1
  cases hv : validB ths with
  | false =>
    rw [hv] at hrv
    simp only [thsP, smallB, hv, Bool.not_false, Bool.true_or] at hrv ⊢
    refine PureC.of Try.func15 rfl 40 rfl (by decide) (by simp [AV.okB]) ?_
    repeat' (first | refine T.seqK fun K hK => ?_ | refine T.block ?_ | (refine T.reg (by kernel_rfl) fun K' hK' => ?_; simp only [startSt, frOf, List.map_cons, List.map_nil]; (repeat' (first | (with_reducible refine WL.fin ?_; refine hK' _ ?_; clear hK' K') | (with_reducible refine WD.fin ?_) | ((first | (with_reducible refine WL.step fun K2 hK2 => ?_) | (with_reducible refine WD.step fun K2 hK2 => ?_)); simp only [WS, WH, WO, WOv, WG, dstOk, hasDst, aop, ASt.ev, aload, aloadC, afield, aindex, abin, abinI, aun, alen, acells, Nat.reduceEqDiff, Nat.reduceLT, Nat.reduceLeDiff, Nat.reduceAdd, reduceIte, reduceCtorEq, implies_true, ASt.add, setHp, asplice, Int.reduceEq, Int.reduceNe, Int.reduceLT, Int.reduceLE, Int.reduceSub, Int.reduceAdd, abuild, afill, abuildS, pureL, chunks, List.range, List.range.loop, Nat.reduceMul, Nat.reduceMod, apartF, apartI, aslice, evI, ASt.subst, AO.box, aval, pvals, ams, tys, mapTy_69, keyed_3]; (repeat' (first | (with_reducible refine hK2 _ ?_; clear hK2 K2) | (with_reducible refine And.intro ?_ ?_) | (with_reducible intro hb) | ((first | (with_reducible apply callArmO) | (with_reducible apply callArm)); case h => exact CallV.plain (Ent.of Try.func11 (by kernel_rfl) rfl) (hrv) (by simp [AV.okB])))))))) | refine T.skip ?_ | refine T.exit ?_ | refine T.condT rfl ?_ | refine T.condF rfl ?_ | refine T.cond rfl (fun hc => ?_) (fun hc => ?_) | refine T.ret ?_ | simp only [ThenA, InBlock, reduceIte, Nat.reduceEqDiff] | ((repeat ((fail_if_success (refine hK _ ?_)); clear hK K)); refine hK _ ?_; clear hK K))
    refine FinA.ret (.inr rfl) Try.results15 ?_; simp only [ares, aresL, ares1, WS, WH, WO, WOv, WG, dstOk, hasDst, aop, ASt.ev, aload, aloadC, afield, aindex, abin, abinI, aun, alen, acells, Nat.reduceEqDiff, Nat.reduceLT, Nat.reduceLeDiff, Nat.reduceAdd, reduceIte, reduceCtorEq, implies_true, ASt.add, setHp, asplice, Int.reduceEq, Int.reduceNe, Int.reduceLT, Int.reduceLE, Int.reduceSub, Int.reduceAdd, abuild, afill, abuildS, pureL, chunks, List.range, List.range.loop, Nat.reduceMul, Nat.reduceMod, apartF, apartI, aslice, evI, ASt.subst, AO.box, aval, pvals, ams, tys, mapTy_69, keyed_3, ]
  | true =>
    rw [hv] at hrv
    have h12 : totB ths ≤ 12 := by have := (validB_ok hv).2.2.1; rwa [rem_zero] at this
    simp only [thsP, smallB, hv, Bool.not_true, Bool.false_or] at hrv ⊢
    refine PureC.of Try.func15 rfl 40 rfl (by decide) (by simp [AV.okB]) ?_
    repeat' (first | refine T.seqK fun K hK => ?_ | refine T.block ?_ | (refine T.reg (by kernel_rfl) fun K' hK' => ?_; simp only [startSt, frOf, List.map_cons, List.map_nil]; (repeat' (first | (with_reducible refine WL.fin ?_; refine hK' _ ?_; clear hK' K') | (with_reducible refine WD.fin ?_) | ((first | (with_reducible refine WL.step fun K2 hK2 => ?_) | (with_reducible refine WD.step fun K2 hK2 => ?_)); simp only [WS, WH, WO, WOv, WG, dstOk, hasDst, aop, ASt.ev, aload, aloadC, afield, aindex, abin, abinI, aun, alen, acells, Nat.reduceEqDiff, Nat.reduceLT, Nat.reduceLeDiff, Nat.reduceAdd, reduceIte, reduceCtorEq, implies_true, ASt.add, setHp, asplice, Int.reduceEq, Int.reduceNe, Int.reduceLT, Int.reduceLE, Int.reduceSub, Int.reduceAdd, abuild, afill, abuildS, pureL, chunks, List.range, List.range.loop, Nat.reduceMul, Nat.reduceMod, apartF, apartI, aslice, evI, ASt.subst, AO.box, aval, pvals, ams, tys, mapTy_69, keyed_3]; (repeat' (first | (with_reducible refine hK2 _ ?_; clear hK2 K2) | (with_reducible refine And.intro ?_ ?_) | (with_reducible intro hb) | ((first | (with_reducible apply callArmO) | (with_reducible apply callArm)); case h => exact CallV.plain (Ent.of Try.func11 (by kernel_rfl) rfl) (hrv) (by simp [AV.okB])))))))) | refine T.skip ?_ | refine T.exit ?_ | refine T.condT rfl ?_ | refine T.condF rfl ?_ | refine T.cond rfl (fun hc => ?_) (fun hc => ?_) | refine T.ret ?_ | simp only [ThenA, InBlock, reduceIte, Nat.reduceEqDiff] | ((repeat ((fail_if_success (refine hK _ ?_)); clear hK K)); refine hK _ ?_; clear hK K))
    refine T.loopK (fun t : Nat => ⟨[(0, .p (thsP ths)), (3, .int (totB (ths.take t))), (4, .int (mulN (lensB (ths.take t)))), (5, .int t)], [], 40, 0⟩) (fun t => t ≤ ths.length) (fun t => ths.length - t) 0 (Nat.zero_le _) (by refine Weak.of' rfl ?_; simp only [wks, reduceIte, Nat.reduceEqDiff, ASt.okB, AV.okB, Nat.reduceLT, implies_true, Int.natCast_zero, totB, lensB, List.take_zero, List.map_nil, List.sum_nil, thsP, mul_nil, show ((1 : Nat) : Int) = 1 from rfl]) ?_
    rintro t ht KL hKL
    simp only [thsP]
    by_cases hlt : t < ths.length
    · obtain ⟨l, hx⟩ := at_lt hlt
      have hd : decide ((t : Int) < (ths.length : Int)) = true := by simpa using hlt
      have hta := tot_at h12 hx
      have g1 : decide ((12 : Int) < (l.length : Int)) = false := by simp; omega
      repeat' (first | refine T.seqK fun K hK => ?_ | refine T.block ?_ | (refine T.reg (by kernel_rfl) fun K' hK' => ?_; simp only [startSt, frOf, List.map_cons, List.map_nil]; (repeat' (first | (with_reducible refine WL.fin ?_; refine hK' _ ?_; clear hK' K') | (with_reducible refine WD.fin ?_) | ((first | (with_reducible refine WL.step fun K2 hK2 => ?_) | (with_reducible refine WD.step fun K2 hK2 => ?_)); simp only [WS, WH, WO, WOv, WG, dstOk, hasDst, aop, ASt.ev, aload, aloadC, afield, aindex, abin, abinI, aun, alen, acells, Nat.reduceEqDiff, Nat.reduceLT, Nat.reduceLeDiff, Nat.reduceAdd, reduceIte, reduceCtorEq, implies_true, ASt.add, setHp, asplice, Int.reduceEq, Int.reduceNe, Int.reduceLT, Int.reduceLE, Int.reduceSub, Int.reduceAdd, abuild, afill, abuildS, pureL, chunks, List.range, List.range.loop, Nat.reduceMul, Nat.reduceMod, apartF, apartI, aslice, evI, ASt.subst, AO.box, aval, pvals, ams, tys, mapTy_69, keyed_3, hx, hd, thP, g1]; (repeat' (first | (with_reducible refine hK2 _ ?_; clear hK2 K2) | (with_reducible refine And.intro ?_ ?_) | (with_reducible intro hb) | fail)))))) | refine T.skip ?_ | refine T.exit ?_ | refine T.condT rfl ?_ | refine T.condF rfl ?_ | refine T.cond rfl (fun hc => ?_) (fun hc => ?_) | refine T.ret ?_ | simp only [ThenA, InBlock, reduceIte, Nat.reduceEqDiff] | ((repeat ((fail_if_success (refine hK _ ?_)); clear hK K)); refine hK _ ?_; clear hK K))
      refine T.loopK (fun k : Nat => ⟨[(0, .p (thsP ths)), (3, .int ((totB (ths.take t) + k : Nat) : Int)), (4, .int (mulN (lensB (ths.take t) ++ [k]))), (5, .int t), (6, .int ((k + 1 : Nat) : Int))], [], 40, 0⟩) (fun k => k ≤ l.length) (fun k => l.length - k) 0 (Nat.zero_le _) (by refine Weak.of' rfl ?_; simp only [wks, reduceIte, Nat.reduceEqDiff, ASt.okB, AV.okB, Nat.reduceLT, implies_true, Nat.add_zero, Nat.zero_add, mul_zero_end, thsP, thP, show ((1 : Nat) : Int) = 1 from rfl]) ?_
      rintro k hk KJ hKJ
      simp only [thsP]
      by_cases hkl : k < l.length
      · have hd2 : decide (((k + 1 : Nat) : Int) ≤ (l.length : Int)) = true := by simp; omega
        obtain ⟨m1, m2, m3, m4, m5, _⟩ := mul_round (a := lensB (ths.take t)) (k := k) (n := totB (ths.take t)) rfl (by omega)
        repeat' (first | refine T.seqK fun K hK => ?_ | refine T.block ?_ | (refine T.reg (by kernel_rfl) fun K' hK' => ?_; simp only [startSt, frOf, List.map_cons, List.map_nil]; (repeat' (first | (with_reducible refine WL.fin ?_; refine hK' _ ?_; clear hK' K') | (with_reducible refine WD.fin ?_) | ((first | (with_reducible refine WL.step fun K2 hK2 => ?_) | (with_reducible refine WD.step fun K2 hK2 => ?_)); simp only [WS, WH, WO, WOv, WG, dstOk, hasDst, aop, ASt.ev, aload, aloadC, afield, aindex, abin, abinI, aun, alen, acells, Nat.reduceEqDiff, Nat.reduceLT, Nat.reduceLeDiff, Nat.reduceAdd, reduceIte, reduceCtorEq, implies_true, ASt.add, setHp, asplice, Int.reduceEq, Int.reduceNe, Int.reduceLT, Int.reduceLE, Int.reduceSub, Int.reduceAdd, abuild, afill, abuildS, pureL, chunks, List.range, List.range.loop, Nat.reduceMul, Nat.reduceMod, apartF, apartI, aslice, evI, ASt.subst, AO.box, aval, pvals, ams, tys, mapTy_69, keyed_3, hx, hd2, thP, m1, m2, m3, m4, m5]; (repeat' (first | (with_reducible refine hK2 _ ?_; clear hK2 K2) | (with_reducible refine And.intro ?_ ?_) | (with_reducible intro hb) | fail)))))) | refine T.skip ?_ | refine T.exit ?_ | refine T.condT rfl ?_ | refine T.condF rfl ?_ | refine T.cond rfl (fun hc => ?_) (fun hc => ?_) | refine T.ret ?_ | simp only [ThenA, InBlock, reduceIte, Nat.reduceEqDiff] | ((repeat ((fail_if_success (refine hK _ ?_)); clear hK K)); refine hK _ ?_; clear hK K))
        exact hKJ _ (k + 1) (by refine Weak.of' rfl ?_; simp only [wks, reduceIte, Nat.reduceEqDiff, ASt.okB, AV.okB, Nat.reduceLT, implies_true, thsP, thP, Nat.add_assoc]) (by omega) (by omega)
      · have hd2 : decide (((k + 1 : Nat) : Int) ≤ (l.length : Int)) = false := by simp; omega
        obtain rfl : k = l.length := by omega
        clear hKJ
        repeat' (first | refine T.seqK fun K hK => ?_ | refine T.block ?_ | (refine T.reg (by kernel_rfl) fun K' hK' => ?_; simp only [startSt, frOf, List.map_cons, List.map_nil]; (repeat' (first | (with_reducible refine WL.fin ?_; refine hK' _ ?_; clear hK' K') | (with_reducible refine WD.fin ?_) | ((first | (with_reducible refine WL.step fun K2 hK2 => ?_) | (with_reducible refine WD.step fun K2 hK2 => ?_)); simp only [WS, WH, WO, WOv, WG, dstOk, hasDst, aop, ASt.ev, aload, aloadC, afield, aindex, abin, abinI, aun, alen, acells, Nat.reduceEqDiff, Nat.reduceLT, Nat.reduceLeDiff, Nat.reduceAdd, reduceIte, reduceCtorEq, implies_true, ASt.add, setHp, asplice, Int.reduceEq, Int.reduceNe, Int.reduceLT, Int.reduceLE, Int.reduceSub, Int.reduceAdd, abuild, afill, abuildS, pureL, chunks, List.range, List.range.loop, Nat.reduceMul, Nat.reduceMod, apartF, apartI, aslice, evI, ASt.subst, AO.box, aval, pvals, ams, tys, mapTy_69, keyed_3, hx, hd2, thP]; (repeat' (first | (with_reducible refine hK2 _ ?_; clear hK2 K2) | (with_reducible refine And.intro ?_ ?_) | (with_reducible intro hb) | fail)))))) | refine T.skip ?_ | refine T.exit ?_ | refine T.condT rfl ?_ | refine T.condF rfl ?_ | refine T.cond rfl (fun hc => ?_) (fun hc => ?_) | refine T.ret ?_ | simp only [ThenA, InBlock, reduceIte, Nat.reduceEqDiff] | ((repeat ((fail_if_success (refine hK _ ?_)); clear hK K)); refine hK _ ?_; clear hK K))
        refine hKL _ (t + 1) ?_ (by omega) (by omega)
        rw [tot_drop hx, lens_take hx]
        refine Weak.of' rfl ?_; simp only [wks, reduceIte, Nat.reduceEqDiff, ASt.okB, AV.okB, Nat.reduceLT, implies_true, wrap_succ (show t < 1152921504606846976 by omega), thsP, thP]
    · have hd : decide ((t : Int) < (ths.length : Int)) = false := by simpa using hlt
      obtain rfl : t = ths.length := by omega
      rw [List.take_length]
      have hle : decide (((mulN (lensB ths) : Nat) : Int) ≤ 400) = decide (mulN (lensB ths) ≤ 400) := by simp; omega
      clear hKL
      repeat' (first | refine T.seqK fun K hK => ?_ | refine T.block ?_ | (refine T.reg (by kernel_rfl) fun K' hK' => ?_; simp only [startSt, frOf, List.map_cons, List.map_nil]; (repeat' (first | (with_reducible refine WL.fin ?_; refine hK' _ ?_; clear hK' K') | (with_reducible refine WD.fin ?_) | ((first | (with_reducible refine WL.step fun K2 hK2 => ?_) | (with_reducible refine WD.step fun K2 hK2 => ?_)); simp only [WS, WH, WO, WOv, WG, dstOk, hasDst, aop, ASt.ev, aload, aloadC, afield, aindex, abin, abinI, aun, alen, acells, Nat.reduceEqDiff, Nat.reduceLT, Nat.reduceLeDiff, Nat.reduceAdd, reduceIte, reduceCtorEq, implies_true, ASt.add, setHp, asplice, Int.reduceEq, Int.reduceNe, Int.reduceLT, Int.reduceLE, Int.reduceSub, Int.reduceAdd, abuild, afill, abuildS, pureL, chunks, List.range, List.range.loop, Nat.reduceMul, Nat.reduceMod, apartF, apartI, aslice, evI, ASt.subst, AO.box, aval, pvals, ams, tys, mapTy_69, keyed_3, hd, hle]; (repeat' (first | (with_reducible refine hK2 _ ?_; clear hK2 K2) | (with_reducible refine And.intro ?_ ?_) | (with_reducible intro hb) | fail)))))) | refine T.skip ?_ | refine T.exit ?_ | refine T.condT rfl ?_ | refine T.condF rfl ?_ | refine T.cond rfl (fun hc => ?_) (fun hc => ?_) | refine T.ret ?_ | simp only [ThenA, InBlock, reduceIte, Nat.reduceEqDiff] | ((repeat ((fail_if_success (refine hK _ ?_)); clear hK K)); refine hK _ ?_; clear hK K))
      refine FinA.ret (.inr rfl) Try.results15 ?_; simp only [ares, aresL, ares1, WS, WH, WO, WOv, WG, dstOk, hasDst, aop, ASt.ev, aload, aloadC, afield, aindex, abin, abinI, aun, alen, acells, Nat.reduceEqDiff, Nat.reduceLT, Nat.reduceLeDiff, Nat.reduceAdd, reduceIte, reduceCtorEq, implies_true, ASt.add, setHp, asplice, Int.reduceEq, Int.reduceNe, Int.reduceLT, Int.reduceLE, Int.reduceSub, Int.reduceAdd, abuild, afill, abuildS, pureL, chunks, List.range, List.range.loop, Nat.reduceMul, Nat.reduceMod, apartF, apartI, aslice, evI, ASt.subst, AO.box, aval, pvals, ams, tys, mapTy_69, keyed_3, ]
end Go.Proofs.Ytbhkcejjehgfcaa
namespace Go.Proofs.Ytbhkcejjehgfcaa
open Go.RowKit Go.Sort
set_option linter.unusedSimpArgs false
set_option linter.unusedVariables false
theorem valid_thok {ths : List (List St)} (h : validB ths = true) : ThOk ths := ⟨fun t l hl i s hs => (validB_ok h).2.2.2 t l hl i s hs⟩
def stepAt (ths : List (List St)) (x : St) : St := ((ths[x.g.toNat]?).bind fun l => l[x.c.toNat]?).getD x
theorem step_at {ths : List (List St)} (ho : ThOk ths) {s x : St} (hs : s ∈ stepsOf ths) (hg : x.g = s.g) (hc : x.c = s.c) : stepAt ths x = s := by
  obtain ⟨l, hl, hsl⟩ := List.mem_flatten.1 hs
  obtain ⟨t, ht⟩ := List.mem_iff_getElem?.1 hl
  obtain ⟨i, hi⟩ := List.mem_iff_getElem?.1 hsl
  obtain ⟨e1, e2, _⟩ := ho.at' t l ht i s hi
  unfold stepAt
  rw [hg, hc, e1, e2, Int.toNat_natCast, Int.toNat_natCast, ht]
  simp [hi]
structure Keeps (φ : St → St) : Prop where
  g : ∀ s, (φ s).g = s.g
  c : ∀ s, (φ s).c = s.c
  gs : ∀ s, (φ s).gs = s.gs
def mapT (φ : St → St) (ths : List (List St)) : List (List St) := ths.map (List.map φ)
section
variable {φ : St → St} {ths : List (List St)}
theorem Keeps.sim : Sim ths (mapT φ ths) id id φ := ⟨fun _ => rfl, fun _ => rfl, by simp [mapT], fun t => by simp [mapT]⟩
theorem Keeps.thok (h : Keeps φ) (ho : ThOk ths) : ThOk (mapT φ ths) := ⟨fun t l hl i s hs => by
  simp only [mapT, List.getElem?_map, Option.map_eq_some_iff] at hl
  obtain ⟨l', hl', rfl⟩ := hl
  simp only [List.getElem?_map, Option.map_eq_some_iff] at hs
  obtain ⟨s', hs', rfl⟩ := hs
  rw [h.g, h.c, h.gs]
  exact ho.at' t l' hl' i s' hs'⟩
theorem Keeps.lens : lensB (mapT φ ths) = lensB ths := by simp [lensB, mapT, Function.comp_def]
theorem Keeps.okRow (h : Keeps φ) (t : Nat) : ∀ (l : List St) (i : Nat), okRow t (l.map φ) i = okRow t l i
  | [], _ => rfl
  | s :: r, i => by simp only [List.map_cons, Go.Proofs.Ytbhkcejjehgfcaa.okRow, okSt, h.g, h.c, h.gs, Keeps.okRow h t r]
theorem Keeps.okAll (h : Keeps φ) : ∀ (ths : List (List St)) (t : Nat), okAll (mapT φ ths) t = okAll ths t
  | [], _ => rfl
  | l :: r, t => by
    have := Keeps.okAll h r (t + 1)
    simp only [mapT] at this
    simp only [mapT, List.map_cons, Go.Proofs.Ytbhkcejjehgfcaa.okAll, h.okRow, this]
theorem Keeps.valid (h : Keeps φ) : validB (mapT φ ths) = validB ths := by
  unfold validB
  rw [h.okAll, tot_lens, tot_lens, Keeps.lens, show (mapT φ ths).length = ths.length by simp [mapT]]
theorem Keeps.mem {s : St} (hs : s ∈ stepsOf (mapT φ ths)) : ∃ s' ∈ stepsOf ths, s = φ s' := by
  obtain ⟨l, hl, hsl⟩ := List.mem_flatten.1 hs
  obtain ⟨l', hl', rfl⟩ := List.mem_map.1 hl
  obtain ⟨s', hs', rfl⟩ := List.mem_map.1 hsl
  exact ⟨s', List.mem_flatten.2 ⟨l', hl', hs'⟩, rfl⟩
end
theorem visA_eq (ths : List (List St)) : visA ths = visR ths 13 (List.replicate ths.length 0) fun _ => false := visA_R ths
theorem classes_le {ths : List (List St)} {φ : St → St} (h : Keeps φ) (hv : validB ths = true) (hD : ∀ a ∈ stepsOf ths, ∀ b ∈ stepsOf ths, dpB (φ a) (φ b) = false → dpB a b = false) : classesB ths ≤ classesB (mapT φ ths) := by
  have hv' : validB (mapT φ ths) = true := by rw [h.valid]; exact hv
  have ho := valid_thok hv
  unfold classesB
  rw [if_pos hv, if_pos hv', visA_eq, visA_eq]
  exact cls_le Keeps.sim ho (h.thok ho) (validB_ok hv).2.2.1 (validB_ok hv').2.2.1 (stepAt ths) (fun s hs => step_at ho hs (h.g s) (h.c s)) hD
def freeS (s : St) : St := { s with ts := [] }
def outT : Tc := ⟨4, 0, 0, true⟩
def boundS (s : St) : St := { s with ts := [outT] }
def moreS (T I : Int) (X : Tc) (s : St) : St := if s.g = T ∧ s.c = I then { s with ts := s.ts ++ [X] } else s
theorem freeS_k : Keeps freeS := ⟨fun _ => rfl, fun _ => rfl, fun _ => rfl⟩
theorem boundS_k : Keeps boundS := ⟨fun _ => rfl, fun _ => rfl, fun _ => rfl⟩
theorem moreS_k (T I : Int) (X : Tc) : Keeps (moreS T I X) := ⟨fun s => by unfold moreS; split <;> rfl, fun s => by unfold moreS; split <;> rfl, fun s => by unfold moreS; split <;> rfl⟩
theorem step_gs {ths : List (List St)} (ho : ThOk ths) {s : St} (hs : s ∈ stepsOf ths) : s.gs = [s.g] := by
  obtain ⟨l, hl, hsl⟩ := List.mem_flatten.1 hs
  obtain ⟨t, ht⟩ := List.mem_iff_getElem?.1 hl
  obtain ⟨i, hi⟩ := List.mem_iff_getElem?.1 hsl
  obtain ⟨e1, _, e3⟩ := ho.at' t l ht i s hi
  rw [e3, e1]
theorem classes_free {ths : List (List St)} (hv : validB ths = true) : classesB (mapT freeS ths) = 1 := by
  have hv' : validB (mapT freeS ths) = true := by rw [freeS_k.valid]; exact hv
  have ho := freeS_k.thok (valid_thok hv)
  have h12 := (validB_ok hv').2.2.1
  unfold classesB
  rw [if_pos hv', visA_eq]
  refine free_one ho (fun a ha b hb hab => ?_) h12 ?_
  · have ea := step_gs ho ha
    have eb := step_gs ho hb
    obtain ⟨a', _, rfl⟩ := Keeps.mem ha
    obtain ⟨b', _, rfl⟩ := Keeps.mem hb
    unfold dpB
    rw [ea, eb]
    simp [freeS] at hab ⊢
    exact hab
  · rw [← visA_eq]
    exact vis_ne _ 12 _ [] h12
theorem classes_bound {ths : List (List St)} (hv : validB ths = true) : classesB (mapT boundS ths) = mulN (lensB ths) := by
  have hv' : validB (mapT boundS ths) = true := by rw [boundS_k.valid]; exact hv
  have h12 := (validB_ok hv').2.2.1
  unfold classesB
  rw [if_pos hv', visA_eq, all_cnt (fun a ha b hb => ?_), cnt_mul _ (by omega)]
  · exact congrArg mulN Keeps.lens
  · obtain ⟨a', _, rfl⟩ := Keeps.mem ha
    obtain ⟨b', _, rfl⟩ := Keeps.mem hb
    simp [dpB, boundS, outT, tcB]
theorem classes_total {ths : List (List St)} (hv : validB ths = true) : classesB ths ≤ mulN (lensB ths) := by
  rw [← classes_bound hv]
  refine classes_le boundS_k hv fun a _ b _ h => ?_
  simp [dpB, boundS, outT, tcB] at h
theorem moreS_ts (T I : Int) (X : Tc) (s : St) : ∀ x ∈ s.ts, x ∈ (moreS T I X s).ts := fun x hx => by
  unfold moreS
  split
  · exact List.mem_append.2 (.inl hx)
  · exact hx
theorem classes_more {ths : List (List St)} (hv : validB ths = true) (T I : Int) (X : Tc) : classesB ths ≤ classesB (mapT (moreS T I X) ths) := by
  refine classes_le (moreS_k T I X) hv fun a _ b _ h => ?_
  cases hd : dpB a b with
  | false => rfl
  | true =>
    exfalso
    have : dpB (moreS T I X a) (moreS T I X b) = true := by
      unfold dpB at hd ⊢
      rw [(moreS_k T I X).gs, (moreS_k T I X).gs]
      rw [Bool.or_eq_true] at hd ⊢
      refine hd.imp (fun h => h) fun h => ?_
      simp only [List.any_eq_true] at h ⊢
      obtain ⟨x, hx, y, hy, hxy⟩ := h
      exact ⟨x, moreS_ts T I X a x hx, y, moreS_ts T I X b y hy, hxy⟩
    rw [h] at this
    cases this
end Go.Proofs.Ytbhkcejjehgfcaa
namespace Go.Proofs.Ytbhkcejjehgfcaa
open Go.RowKit Go.Sort
set_option linter.unusedSimpArgs false
set_option linter.unusedVariables false
def putR : List (List Pk) → List Pk → List (List Pk)
  | [], x => [x]
  | y :: r, x => if lessL y x = true then y :: putR r x else if y = x then y :: r else x :: y :: r
theorem put_R : ∀ (l : List (List Pk)) (x : List Pk), putB l x = putR l x
  | [], x => by simp [putB, putR, cntLess]
  | y :: r, x => by
    have ih := put_R r x
    unfold putB at ih ⊢
    unfold putR cntLess
    by_cases h : lessL y x = true
    · rw [if_pos h, if_pos h, ← ih]
      simp only [List.getElem?_cons_succ, List.take_succ_cons, List.drop_succ_cons, List.cons_append]
      split <;> rfl
    · rw [if_neg h, if_neg h]
      simp only [List.getElem?_cons_zero, Option.some.injEq, List.take_zero, List.drop_zero, List.nil_append, List.singleton_append]
def SS (l : List (List Pk)) : Prop := l.Pairwise fun a b => cmpL a b < 0
theorem putR_mem {y x : List Pk} : ∀ {l : List (List Pk)}, y ∈ putR l x ↔ y = x ∨ y ∈ l
  | [] => by simp [putR]
  | z :: r => by
    unfold putR
    split
    · rw [List.mem_cons, putR_mem, List.mem_cons]; constructor
      · rintro (h | h | h)
        · exact .inr (.inl h)
        · exact .inl h
        · exact .inr (.inr h)
      · rintro (h | h | h)
        · exact .inr (.inl h)
        · exact .inl h
        · exact .inr (.inr h)
    · split
      · rename_i e; subst e; simp
      · simp
theorem putR_ss {x : List Pk} : ∀ {l : List (List Pk)}, SS l → SS (putR l x)
  | [], _ => by simp [putR, SS]
  | z :: r, h => by
    obtain ⟨h1, h2⟩ := List.pairwise_cons.1 h
    unfold putR
    split
    · rename_i hz
      refine List.pairwise_cons.2 ⟨fun y hy => ?_, putR_ss h2⟩
      rcases putR_mem.1 hy with rfl | hy
      · simpa [lessL] using hz
      · exact h1 y hy
    · rename_i hz
      split
      · exact h
      · rename_i hne
        have hxz : cmpL x z < 0 := by
          rcases cmpL_cases z x with ⟨h1, _⟩ | ⟨_, h1⟩ | ⟨_, h1⟩
          · exact absurd (by simp [lessL, h1]) hz
          · exact absurd h1 hne
          · omega
        refine List.pairwise_cons.2 ⟨fun y hy => ?_, h⟩
        rcases List.mem_cons.1 hy with rfl | hy
        · exact hxz
        · exact cmpL_trans _ _ _ hxz (h1 y hy)
theorem ss_eq : ∀ {l m : List (List Pk)}, SS l → SS m → (∀ x, x ∈ l ↔ x ∈ m) → l = m
  | [], [], _, _, _ => rfl
  | [], y :: m, _, _, h => by have := (h y).2 (by simp); cases this
  | x :: l, [], _, _, h => by have := (h x).1 (by simp); cases this
  | x :: l, y :: m, h1, h2, h => by
    obtain ⟨hx, hl⟩ := List.pairwise_cons.1 h1
    obtain ⟨hy, hm⟩ := List.pairwise_cons.1 h2
    have irr : ∀ a, ¬ cmpL a a < 0 := fun a h => by have := (cmpL_zero (a := a) (b := a)).2 rfl; omega
    have asy : ∀ a b, cmpL a b < 0 → cmpL b a < 0 → False := fun a b h k => irr a (cmpL_trans _ _ _ h k)
    have e : x = y := by
      rcases List.mem_cons.1 ((h x).1 (by simp)) with e | e
      · exact e
      · rcases List.mem_cons.1 ((h y).2 (by simp)) with e' | e'
        · exact e'.symm
        · exact (asy _ _ (hx y e') (hy x e)).elim
    subst e
    rw [ss_eq hl hm fun z => ?_]
    constructor
    · intro hz
      rcases List.mem_cons.1 ((h z).1 (List.mem_cons_of_mem _ hz)) with rfl | h'
      · exact (irr _ (hx _ hz)).elim
      · exact h'
    · intro hz
      rcases List.mem_cons.1 ((h z).2 (List.mem_cons_of_mem _ hz)) with rfl | h'
      · exact (irr _ (hy _ hz)).elim
      · exact h'
def stepR (rc : List Nat → List St → List (List Pk) → List (List Pk)) (ths : List (List St)) (pos : List Nat) (run : List St) (l : List (List Pk)) (t : Nat) : List (List Pk) := match stepOf ths pos t with
  | none => l
  | some s => rc (bump pos t) (run ++ [s]) l
def runsB (ths : List (List St)) : Nat → List Nat → List St → List (List Pk) → List (List Pk)
  | 0, _, _, l => l
  | n + 1, pos, run, l => if endU ths pos ths.length = true then putB ((List.range ths.length).foldl (stepR (runsB ths n) ths pos run) l) (canB run) else (List.range ths.length).foldl (stepR (runsB ths n) ths pos run) l
theorem fold_ss {rc : List Nat → List St → List (List Pk) → List (List Pk)} {ths : List (List St)} {pos : List Nat} {run : List St} (h : ∀ p r l, SS l → SS (rc p r l)) : ∀ (ts : List Nat) (l : List (List Pk)), SS l → SS (ts.foldl (stepR rc ths pos run) l)
  | [], l, hl => hl
  | t :: ts, l, hl => by
    rw [List.foldl_cons]
    refine fold_ss h ts _ ?_
    unfold stepR
    split
    · exact hl
    · exact h _ _ _ hl
theorem runs_ss (ths : List (List St)) : ∀ n pos run l, SS l → SS (runsB ths n pos run l)
  | 0, _, _, l, h => h
  | n + 1, pos, run, l, h => by
    rw [runsB]
    have := fold_ss (ths := ths) (pos := pos) (run := run) (runs_ss ths n) (List.range ths.length) l h
    split
    · rw [put_R]; exact putR_ss this
    · exact this
theorem fold_mem {rc : List Nat → List St → List (List Pk) → List (List Pk)} {ths : List (List St)} {pos : List Nat} {run : List St} {C : List Nat → List St → Prop} {x : List Pk} (h : ∀ t s l, stepOf ths pos t = some s → (x ∈ rc (bump pos t) (run ++ [s]) l ↔ x ∈ l ∨ ∃ r, C (bump pos t) r ∧ x = canB (run ++ [s] ++ r))) :
    ∀ (ts : List Nat) (l : List (List Pk)), x ∈ ts.foldl (stepR rc ths pos run) l ↔ x ∈ l ∨ ∃ t s r, t ∈ ts ∧ stepOf ths pos t = some s ∧ C (bump pos t) r ∧ x = canB (run ++ s :: r)
  | [], l => by simp
  | t :: ts, l => by
    rw [List.foldl_cons, fold_mem h ts]
    cases hs : stepOf ths pos t with
    | none =>
      have e : stepR rc ths pos run l t = l := by unfold stepR; rw [hs]
      rw [e]
      refine or_congr_right ⟨fun ⟨t', s, r, h1, h2⟩ => ⟨t', s, r, List.mem_cons_of_mem _ h1, h2⟩, fun ⟨t', s, r, h1, h2, h3⟩ => ?_⟩
      rcases List.mem_cons.1 h1 with rfl | h1
      · rw [hs] at h2; cases h2
      · exact ⟨t', s, r, h1, h2, h3⟩
    | some s =>
      have e : stepR rc ths pos run l t = rc (bump pos t) (run ++ [s]) l := by unfold stepR; rw [hs]
      rw [e, h t s l hs, or_assoc]
      refine or_congr_right ⟨?_, ?_⟩
      · rintro (⟨r, h1, h2⟩ | ⟨t', s', r, h1, h2⟩)
        · exact ⟨t, s, r, by simp, hs, h1, by rw [h2]; simp⟩
        · exact ⟨t', s', r, List.mem_cons_of_mem _ h1, h2⟩
      · rintro ⟨t', s', r, h1, h2, h3, h4⟩
        rcases List.mem_cons.1 h1 with rfl | h1
        · rw [hs] at h2; cases h2
          exact .inl ⟨r, h3, by rw [h4]; simp⟩
        · exact .inr ⟨t', s', r, h1, h2, h3, h4⟩
theorem runs_mem (ths : List (List St)) (x : List Pk) : ∀ n pos run l, remB ths pos < n → (x ∈ runsB ths n pos run l ↔ x ∈ l ∨ ∃ r, CompB ths pos r ∧ x = canB (run ++ r))
  | 0, _, _, _, h => by omega
  | n + 1, pos, run, l, hn => by
    have hf := fold_mem (rc := runsB ths n) (ths := ths) (pos := pos) (run := run) (C := CompB ths) (x := x) (fun t s l hs => runs_mem ths x n _ _ l (by have := rem_bump hs; omega)) (List.range ths.length) l
    rw [runsB]
    by_cases he : endU ths pos ths.length = true
    · rw [if_pos he, put_R, putR_mem, hf]
      constructor
      · rintro (h | h | ⟨t, s, r, h1, h2, h3, h4⟩)
        · exact .inr ⟨[], he, by simpa using h⟩
        · exact .inl h
        · rw [end_iff.1 he t] at h2; cases h2
      · rintro (h | ⟨r, h1, h2⟩)
        · exact .inr (.inl h)
        · rw [(comp_nil h1).2 he] at h2
          exact .inl (by simpa using h2)
    · rw [if_neg he, hf]
      refine or_congr_right ⟨fun ⟨t, s, r, h1, h2, h3, h4⟩ => ⟨s :: r, ⟨t, h2, h3⟩, h4⟩, fun ⟨r, h1, h2⟩ => ?_⟩
      cases r with
      | nil => exact absurd h1 he
      | cons s r =>
        obtain ⟨t, h3, h4⟩ := h1
        obtain ⟨_, _, g1, _⟩ := stepOf_some.1 h3
        exact ⟨t, s, r, List.mem_range.2 (List.getElem?_eq_some_iff.1 g1).1, h3, h4, h2⟩
theorem put_len (l : List (List Pk)) (x : List Pk) : (putB l x).length ≤ l.length + 1 := by
  have := cntLess_le l x
  unfold putB
  split
  · omega
  · simp only [List.length_append, List.length_take, List.length_drop, List.length_singleton]; omega
theorem fold_len {rc : List Nat → List St → List (List Pk) → List (List Pk)} {ths : List (List St)} {pos : List Nat} {run : List St} {c : List Nat → Nat} (h : ∀ t s l, stepOf ths pos t = some s → (rc (bump pos t) (run ++ [s]) l).length ≤ l.length + c (bump pos t)) :
    ∀ (ts : List Nat) (l : List (List Pk)), (ts.foldl (stepR rc ths pos run) l).length ≤ l.length + (ts.map fun t => if (stepOf ths pos t).isSome then c (bump pos t) else 0).sum
  | [], l => by simp
  | t :: ts, l => by
    rw [List.foldl_cons]
    refine Nat.le_trans (fold_len h ts _) ?_
    rw [List.map_cons, List.sum_cons]
    cases hs : stepOf ths pos t with
    | none =>
      have e : stepR rc ths pos run l t = l := by unfold stepR; rw [hs]
      rw [e]; simp
    | some s =>
      have e : stepR rc ths pos run l t = rc (bump pos t) (run ++ [s]) l := by unfold stepR; rw [hs]
      rw [e]
      have := h t s l hs
      simp only [Option.isSome_some, if_true]
      omega
theorem runs_len (ths : List (List St)) : ∀ n pos run l, (runsB ths n pos run l).length ≤ l.length + cntB ths n pos
  | 0, _, _, l => by simp [runsB]
  | n + 1, pos, run, l => by
    have hf := fold_len (rc := runsB ths n) (ths := ths) (pos := pos) (run := run) (c := cntB ths n) (fun t s l hs => runs_len ths n _ _ l) (List.range ths.length) l
    rw [runsB, cntB]
    split
    · have := put_len ((List.range ths.length).foldl (stepR (runsB ths n) ths pos run) l) (canB run)
      omega
    · omega
theorem fold_all {rc : List Nat → List St → List (List Pk) → List (List Pk)} {ths : List (List St)} {pos : List Nat} {run : List St} {B : Nat} (h : ∀ t s l, stepOf ths pos t = some s → (∀ y ∈ l, y.length ≤ B) → ∀ y ∈ rc (bump pos t) (run ++ [s]) l, y.length ≤ B) :
    ∀ (ts : List Nat) (l : List (List Pk)), (∀ y ∈ l, y.length ≤ B) → ∀ y ∈ ts.foldl (stepR rc ths pos run) l, y.length ≤ B
  | [], l, hl => hl
  | t :: ts, l, hl => by
    rw [List.foldl_cons]
    refine fold_all h ts _ ?_
    unfold stepR
    split
    · exact hl
    · rename_i s hs; exact h t s l hs hl
theorem runs_all (ths : List (List St)) (B : Nat) : ∀ n pos run l, run.length + n ≤ B → (∀ y ∈ l, y.length ≤ B) → ∀ y ∈ runsB ths n pos run l, y.length ≤ B
  | 0, _, _, l, _, h => h
  | n + 1, pos, run, l, hb, h => by
    have hf := fold_all (rc := runsB ths n) (ths := ths) (pos := pos) (run := run) (B := B) (fun t s l hs => runs_all ths B n _ _ l (by simp; omega)) (List.range ths.length) l h
    rw [runsB]
    split
    · intro y hy
      rw [put_R] at hy
      rcases putR_mem.1 hy with rfl | hy
      · have := can_len run; omega
      · exact hf y hy
    · exact hf
def rexB (ths : List (List St)) : List (List Pk) := runsB ths 13 (List.replicate ths.length 0) [] []
theorem visA_told {ths : List (List St)} (hv : validB ths = true) : (∀ r ∈ visA ths, CompB ths (List.replicate ths.length 0) r) ∧ (∀ r, CompB ths (List.replicate ths.length 0) r → ∃ r' ∈ visA ths, Sw dpB r r') ∧ (visA ths).Pairwise fun a b => ¬ Sw dpB a b := by
  obtain ⟨h1, h2, h3⟩ := visA_vis (valid_thok hv) (validB_ok hv).2.2.1
  have e : visA ths = visR ths 13 (List.replicate ths.length 0) fun _ => false := visA_R ths
  rw [e]
  exact ⟨fun r hr => (h1 r hr).1, fun r hr => h2 r hr noz_none trivial, h3⟩
theorem sort_ss {ths : List (List St)} (hv : validB ths = true) : SS (sortPk ((visA ths).map canB)) := by
  obtain ⟨h1, h2, h3⟩ := visA_told hv
  have ho := valid_thok hv
  have hT := thok_told ho
  have hnd : ((visA ths).map canB).Nodup := List.pairwise_map.2 (List.Pairwise.imp_of_mem (fun {a b} ha hb hn he => hn ((can_iff hT (comp_mem (h1 a ha)) (comp_mem (h1 b hb))).1 he)) h3)
  have hnd2 : (sortPk ((visA ths).map canB)).Nodup := (sort_perm _).nodup_iff.2 hnd
  refine (List.pairwise_and_iff.2 ⟨sort_sorted _, hnd2⟩).imp fun {a b} ⟨h, hne⟩ => ?_
  rcases cmpL_cases a b with ⟨h1, _⟩ | ⟨_, h1⟩ | ⟨h1, h2⟩
  · omega
  · exact absurd h1 hne
  · omega
theorem explore_eq {ths : List (List St)} (hv : validB ths = true) : exploreB true ths = rexB ths := by
  obtain ⟨h1, h2, h3⟩ := visA_told hv
  have ho := valid_thok hv
  have hT := thok_told ho
  have hr := (validB_ok hv).2.2.1
  have e : exploreB true ths = sortPk ((visA ths).map canB) := by simp [exploreB, visA]
  rw [e]
  refine ss_eq (sort_ss hv) (runs_ss ths 13 _ _ _ .nil) fun x => ?_
  rw [(sort_perm _).mem_iff, List.mem_map, rexB, runs_mem ths x 13 _ _ _ (by omega)]
  constructor
  · rintro ⟨r, hr, rfl⟩
    exact .inr ⟨r, h1 r hr, rfl⟩
  · rintro (h | ⟨r, h, rfl⟩)
    · cases h
    · obtain ⟨r', hr', hsw⟩ := h2 r h
      exact ⟨r', hr', (can_iff hT (comp_mem (h1 r' hr')) (comp_mem h)).2 hsw.symm⟩
theorem rex_len {ths : List (List St)} (hv : validB ths = true) : (rexB ths).length = classesB ths := by
  rw [← explore_eq hv]
  simp [exploreB, classesB, hv, visA, (sort_perm _).length_eq]
end Go.Proofs.Ytbhkcejjehgfcaa
namespace Go.Proofs.Ytbhkcejjehgfcaa
open Go.RowKit Go.Sort
set_option linter.unusedSimpArgs false
set_option linter.unusedVariables false
theorem stepOf_none {ths : List (List St)} {pos : List Nat} {t : Nat} {l : List St} {k : Nat} (hp : PosOk ths pos) (hl : ths[t]? = some l) (hk : pos[t]? = some k) : stepOf ths pos t = none ↔ k = l.length := by
  have := hp.le t l k hl hk
  simp only [stepOf, hl, hk, Option.bind_some, List.getElem?_eq_none_iff]
  omega
set_option maxHeartbeats 8000000 in
set_option maxRecDepth 100000 in
theorem rruns_ok (ths : List (List St)) (h8 : ths.length ≤ 8) (hst : ∀ l ∈ ths, l.length ≤ 1000 ∧ ∀ s ∈ l, StV s) : ∀ (n : Nat) (pos : List Nat) (run : List St) (l : List (List Pk)), PosOk ths pos → remB ths pos < n → (∀ s ∈ run, StV s) → run.length + n ≤ 1000 → l.length + cntB ths n pos ≤ 100000 → (∀ y ∈ l, y.length ≤ 1000) →
    PureC Try.prog 32 [.p (thsP ths), .p (.seq 1 (posR pos)), .p (thP run), .p (.seq 1 (rowOf pksP l))] (.p (.seq 1 (rowOf pksP (runsB ths n pos run l))))
  | 0, _, _, _, _, h, _, _, _, _ => by omega
  | n + 1, pos, run, l, hp, hrem, hrun, hrl, hcl, hy => by
    have hm1 : 1 ≤ maxLen := by decide
    simp only [thsP, thP, posR, rowOf]
    refine PureC.of Try.func32 rfl 62 rfl (by decide) (by simp [AV.okB]) ?_
    repeat' (first | refine T.seqK fun K hK => ?_ | refine T.block ?_ | (refine T.reg (by kernel_rfl) fun K' hK' => ?_; simp only [startSt, frOf, List.map_cons, List.map_nil]; (repeat' (first | (with_reducible refine WL.fin ?_; refine hK' _ ?_; clear hK' K') | (with_reducible refine WD.fin ?_) | ((first | (with_reducible refine WL.step fun K2 hK2 => ?_) | (with_reducible refine WD.step fun K2 hK2 => ?_)); simp only [WS, WH, WO, WOv, WG, dstOk, hasDst, aop, ASt.ev, aload, aloadC, afield, aindex, abin, abinI, aun, alen, acells, Nat.reduceEqDiff, Nat.reduceLT, Nat.reduceLeDiff, Nat.reduceAdd, reduceIte, reduceCtorEq, implies_true, ASt.add, setHp, asplice, Int.reduceEq, Int.reduceNe, Int.reduceLT, Int.reduceLE, Int.reduceSub, Int.reduceAdd, abuild, afill, abuildS, pureL, chunks, List.range, List.range.loop, Nat.reduceMul, Nat.reduceMod, apartF, apartI, aslice, evI, ASt.subst, AO.box, aval, pvals, ams, tys, mapTy_69, keyed_3]; (repeat' (first | (with_reducible refine hK2 _ ?_; clear hK2 K2) | (with_reducible refine And.intro ?_ ?_) | (with_reducible intro hb) | fail)))))) | refine T.skip ?_ | refine T.exit ?_ | refine T.condT rfl ?_ | refine T.condF rfl ?_ | refine T.cond rfl (fun hc => ?_) (fun hc => ?_) | refine T.ret ?_ | simp only [ThenA, InBlock, reduceIte, Nat.reduceEqDiff] | ((repeat ((fail_if_success (refine hK _ ?_)); clear hK K)); refine hK _ ?_; clear hK K))
    obtain ⟨F, hF⟩ : ∃ F : Nat → List (List Pk), F = fun t => (List.range t).foldl (stepR (runsB ths n) ths pos run) l := ⟨_, rfl⟩
    have hF0 : F 0 = l := by rw [hF]; rfl
    have hFs : ∀ t, F (t + 1) = stepR (runsB ths n) ths pos run (F t) t := fun t => by rw [hF]; simp only [List.range_succ, List.foldl_append, List.foldl_cons, List.foldl_nil]
    have hFl : ∀ t, t ≤ ths.length → (F t).length + (if t < ths.length ∧ (stepOf ths pos t).isSome = true then cntB ths n (bump pos t) else 0) ≤ 100000 := fun t ht => by
      have h1 := fold_len (rc := runsB ths n) (ths := ths) (pos := pos) (run := run) (c := cntB ths n) (fun t s l hs => runs_len ths n _ _ l) (List.range t) l
      rw [cntB] at hcl
      have e : List.range ths.length = List.range t ++ (List.range' t (ths.length - t)) := by
        have := List.range'_append_1 (s := 0) (m := t) (n := ths.length - t)
        rw [Nat.zero_add, show t + (ths.length - t) = ths.length by omega] at this
        rw [List.range_eq_range', List.range_eq_range', this]
      rw [e, List.map_append, List.sum_append] at hcl
      rw [hF]
      dsimp only
      by_cases hlt : t < ths.length
      · rw [show ths.length - t = (ths.length - t - 1) + 1 by omega, List.range'_succ, List.map_cons, List.sum_cons] at hcl
        cases hso : (stepOf ths pos t).isSome with
        | true => rw [if_pos ⟨hlt, rfl⟩]; rw [hso, if_pos rfl] at hcl; omega
        | false => rw [if_neg (by simp)]; omega
      · rw [if_neg (by omega)]; omega
    have hFa : ∀ t, ∀ y ∈ F t, y.length ≤ 1000 := fun t => by
      rw [hF]
      exact fold_all (B := 1000) (fun t s l hs hy => runs_all ths 1000 n _ _ l (by simp; omega) hy) (List.range t) l hy
    refine T.loopK (fun t : Nat => ⟨[(0, .p (thsP ths)), (1, .p (.seq 1 (posR pos))), (2, .p (thP run)), (3, .p (.seq 1 (rowOf pksP (F t)))), (9, .bool (endU ths pos t)), (10, .int t)], [], 62, 0⟩) (fun t => t ≤ ths.length) (fun t => ths.length - t) 0 (Nat.zero_le _) (by rw [hF0]; refine Weak.of' rfl ?_; simp only [wks, reduceIte, Nat.reduceEqDiff, ASt.okB, AV.okB, Nat.reduceLT, implies_true, Int.natCast_zero, thsP, thP, posR, rowOf, endU_zero]) ?_
    rintro t ht KL hKL
    simp only [thsP, thP, posR, rowOf]
    by_cases hlt : t < ths.length
    · have hd : decide ((t : Int) < (ths.length : Int)) = true := by simpa using hlt
      obtain ⟨th, hth⟩ := at_lt hlt
      obtain ⟨k, hk⟩ := at_lt (l := pos) (k := t) (by rw [hp.len]; exact hlt)
      have hkl := hp.le t th k hth hk
      have hes := endU_succ ths pos t
      cases hs : stepOf ths pos t with
      | none =>
        have hke := (stepOf_none hp hth hk).1 hs
        have h1 : ((k : Int) == (th.length : Int)) = true := by simp [hke]
        rw [hs] at hes
        have hf1 := hFs t
        rw [stepR, hs] at hf1
        repeat' (first | refine T.seqK fun K hK => ?_ | refine T.block ?_ | (refine T.reg (by kernel_rfl) fun K' hK' => ?_; simp only [startSt, frOf, List.map_cons, List.map_nil]; (repeat' (first | (with_reducible refine WL.fin ?_; refine hK' _ ?_; clear hK' K') | (with_reducible refine WD.fin ?_) | ((first | (with_reducible refine WL.step fun K2 hK2 => ?_) | (with_reducible refine WD.step fun K2 hK2 => ?_)); simp only [WS, WH, WO, WOv, WG, dstOk, hasDst, aop, ASt.ev, aload, aloadC, afield, aindex, abin, abinI, aun, alen, acells, Nat.reduceEqDiff, Nat.reduceLT, Nat.reduceLeDiff, Nat.reduceAdd, reduceIte, reduceCtorEq, implies_true, ASt.add, setHp, asplice, Int.reduceEq, Int.reduceNe, Int.reduceLT, Int.reduceLE, Int.reduceSub, Int.reduceAdd, abuild, afill, abuildS, pureL, chunks, List.range, List.range.loop, Nat.reduceMul, Nat.reduceMod, apartF, apartI, aslice, evI, ASt.subst, AO.box, aval, pvals, ams, tys, mapTy_69, keyed_3, hd]; (repeat' (first | (with_reducible refine hK2 _ ?_; clear hK2 K2) | (with_reducible refine And.intro ?_ ?_) | (with_reducible intro hb) | fail)))))) | refine T.skip ?_ | refine T.exit ?_ | refine T.condT rfl ?_ | refine T.condF rfl ?_ | refine T.cond rfl (fun hc => ?_) (fun hc => ?_) | refine T.ret ?_ | simp only [ThenA, InBlock, reduceIte, Nat.reduceEqDiff] | ((repeat ((fail_if_success (refine hK _ ?_)); clear hK K)); refine hK _ ?_; clear hK K))
        refine T.drw 9 (by kernel_rfl) (by kernel_rfl) fun K' hK' => ?_; simp only [List.map_cons, List.map_nil]; (repeat' (first | (with_reducible refine WL.fin ?_; refine hK' _ ?_; clear hK' K') | (with_reducible refine WD.fin ?_) | ((first | (with_reducible refine WL.step fun K2 hK2 => ?_) | (with_reducible refine WD.step fun K2 hK2 => ?_)); simp only [WS, WH, WO, WOv, WG, dstOk, hasDst, aop, ASt.ev, aload, aloadC, afield, aindex, abin, abinI, aun, alen, acells, Nat.reduceEqDiff, Nat.reduceLT, Nat.reduceLeDiff, Nat.reduceAdd, reduceIte, reduceCtorEq, implies_true, ASt.add, setHp, asplice, Int.reduceEq, Int.reduceNe, Int.reduceLT, Int.reduceLE, Int.reduceSub, Int.reduceAdd, abuild, afill, abuildS, pureL, chunks, List.range, List.range.loop, Nat.reduceMul, Nat.reduceMod, apartF, apartI, aslice, evI, ASt.subst, AO.box, aval, pvals, ams, tys, mapTy_69, keyed_3, hth, hk, h1, thP]; (repeat' (first | (with_reducible refine hK2 _ ?_; clear hK2 K2) | (with_reducible refine And.intro ?_ ?_) | (with_reducible intro hb) | fail))))); all_goals ((try simp only [ThenA, InBlock, reduceIte, Nat.reduceEqDiff]); (try ((repeat ((fail_if_success (refine hK _ ?_)); clear hK K)); refine hK _ ?_; clear hK K)))
        all_goals (repeat' (first | refine T.seqK fun K hK => ?_ | refine T.block ?_ | (refine T.reg (by kernel_rfl) fun K' hK' => ?_; simp only [startSt, frOf, List.map_cons, List.map_nil]; (repeat' (first | (with_reducible refine WL.fin ?_; refine hK' _ ?_; clear hK' K') | (with_reducible refine WD.fin ?_) | ((first | (with_reducible refine WL.step fun K2 hK2 => ?_) | (with_reducible refine WD.step fun K2 hK2 => ?_)); simp only [WS, WH, WO, WOv, WG, dstOk, hasDst, aop, ASt.ev, aload, aloadC, afield, aindex, abin, abinI, aun, alen, acells, Nat.reduceEqDiff, Nat.reduceLT, Nat.reduceLeDiff, Nat.reduceAdd, reduceIte, reduceCtorEq, implies_true, ASt.add, setHp, asplice, Int.reduceEq, Int.reduceNe, Int.reduceLT, Int.reduceLE, Int.reduceSub, Int.reduceAdd, abuild, afill, abuildS, pureL, chunks, List.range, List.range.loop, Nat.reduceMul, Nat.reduceMod, apartF, apartI, aslice, evI, ASt.subst, AO.box, aval, pvals, ams, tys, mapTy_69, keyed_3]; (repeat' (first | (with_reducible refine hK2 _ ?_; clear hK2 K2) | (with_reducible refine And.intro ?_ ?_) | (with_reducible intro hb) | fail)))))) | refine T.skip ?_ | refine T.exit ?_ | refine T.condT rfl ?_ | refine T.condF rfl ?_ | refine T.cond rfl (fun hc => ?_) (fun hc => ?_) | refine T.ret ?_ | simp only [ThenA, InBlock, reduceIte, Nat.reduceEqDiff] | ((repeat ((fail_if_success (refine hK _ ?_)); clear hK K)); refine hK _ ?_; clear hK K)))
        refine hKL _ (t + 1) ?_ (by omega) (by omega)
        rw [hf1, hes]
        refine Weak.of' rfl ?_; simp only [wks, reduceIte, Nat.reduceEqDiff, ASt.okB, AV.okB, Nat.reduceLT, implies_true, wrap_succ (show t < 1152921504606846976 by omega), thsP, thP, posR, rowOf, Option.isNone_none, Bool.and_true]
      | some s =>
        have hke : ¬ k = th.length := fun e => by rw [(stepOf_none hp hth hk).2 e] at hs; cases hs
        have h1 : ((k : Int) == (th.length : Int)) = false := by simp; omega
        rw [hs] at hes
        have hf1 := hFs t
        rw [stepR, hs] at hf1
        dsimp only at hf1
        have hFl1 := hFl t ht
        rw [hs, if_pos ⟨hlt, rfl⟩] at hFl1
        have hsv : StV s := by
          obtain ⟨l0, k0, g1, g2, g3⟩ := stepOf_some.1 hs
          exact (hst l0 (List.mem_of_getElem? g1)).2 s (List.mem_of_getElem? g3)
        have hih := rruns_ok ths h8 hst n (bump pos t) (run ++ [s]) (F t) (pos_bump hp hs) (by have := rem_bump hs; omega) (fun x hx => by
          rcases List.mem_append.1 hx with hx | hx
          · exact hrun x hx
          · rw [List.mem_singleton.1 hx]; exact hsv) (by simp; omega) hFl1 (hFa t)
        rw [← hf1] at hih
        obtain ⟨F1, hF1⟩ : ∃ F1, F1 = F (t + 1) := ⟨_, rfl⟩
        rw [← hF1] at hih
        have hthk : th[k]? = some s := by
          obtain ⟨l0, k0, g1, g2, g3⟩ := stepOf_some.1 hs
          rw [hth] at g1; cases g1
          rw [hk] at g2; cases g2
          exact g3
        have hbu : (posR pos).set t [.val (.int .i64 ((k + 1 : Nat) : Int))] = posR (bump pos t) := by
          simp only [posR, bump, List.getD_eq_getElem?_getD, hk, Option.getD_some, List.map_set]
        simp only [posR] at hbu
        have hpl : pos.length ≤ maxLen := by rw [hp.len]; unfold maxLen; omega
        have hpl2 : pos.length * 8 ≤ 140737488355328 := by rw [hp.len]; omega
        have htp : t < pos.length := by rw [hp.len]; exact hlt
        have hw1 : IntKind.i64.wrap ((k : Int) + 1) = ((k + 1 : Nat) : Int) := wrap_succ (by have := (hst th (List.mem_of_getElem? hth)).1; omega)
        have ho1 : run.length ≤ maxLen := by unfold maxLen; omega
        have ho2 : run.length * 64 ≤ 140737488355328 := by omega
        have ho3 : run.length + 1 ≤ maxLen := by unfold maxLen; omega
        have ho4 : (run.length + 1) * 64 ≤ 140737488355328 := by omega
        simp only [thsP, thP, posR, rowOf, List.map_append, List.map_cons, List.map_nil] at hih
        repeat' (first | refine T.seqK fun K hK => ?_ | refine T.block ?_ | (refine T.reg (by kernel_rfl) fun K' hK' => ?_; simp only [startSt, frOf, List.map_cons, List.map_nil]; (repeat' (first | (with_reducible refine WL.fin ?_; refine hK' _ ?_; clear hK' K') | (with_reducible refine WD.fin ?_) | ((first | (with_reducible refine WL.step fun K2 hK2 => ?_) | (with_reducible refine WD.step fun K2 hK2 => ?_)); simp only [WS, WH, WO, WOv, WG, dstOk, hasDst, aop, ASt.ev, aload, aloadC, afield, aindex, abin, abinI, aun, alen, acells, Nat.reduceEqDiff, Nat.reduceLT, Nat.reduceLeDiff, Nat.reduceAdd, reduceIte, reduceCtorEq, implies_true, ASt.add, setHp, asplice, Int.reduceEq, Int.reduceNe, Int.reduceLT, Int.reduceLE, Int.reduceSub, Int.reduceAdd, abuild, afill, abuildS, pureL, chunks, List.range, List.range.loop, Nat.reduceMul, Nat.reduceMod, apartF, apartI, aslice, evI, ASt.subst, AO.box, aval, pvals, ams, tys, mapTy_69, keyed_3, hd]; (repeat' (first | (with_reducible refine hK2 _ ?_; clear hK2 K2) | (with_reducible refine And.intro ?_ ?_) | (with_reducible intro hb) | fail)))))) | refine T.skip ?_ | refine T.exit ?_ | refine T.condT rfl ?_ | refine T.condF rfl ?_ | refine T.cond rfl (fun hc => ?_) (fun hc => ?_) | refine T.ret ?_ | simp only [ThenA, InBlock, reduceIte, Nat.reduceEqDiff] | ((repeat ((fail_if_success (refine hK _ ?_)); clear hK K)); refine hK _ ?_; clear hK K))
        refine T.drw 9 (by kernel_rfl) (by kernel_rfl) fun K' hK' => ?_; simp only [List.map_cons, List.map_nil]; (repeat' (first | (with_reducible refine WL.fin ?_; refine hK' _ ?_; clear hK' K') | (with_reducible refine WD.fin ?_) | ((first | (with_reducible refine WL.step fun K2 hK2 => ?_) | (with_reducible refine WD.step fun K2 hK2 => ?_)); simp only [WS, WH, WO, WOv, WG, dstOk, hasDst, aop, ASt.ev, aload, aloadC, afield, aindex, abin, abinI, aun, alen, acells, Nat.reduceEqDiff, Nat.reduceLT, Nat.reduceLeDiff, Nat.reduceAdd, reduceIte, reduceCtorEq, implies_true, ASt.add, setHp, asplice, Int.reduceEq, Int.reduceNe, Int.reduceLT, Int.reduceLE, Int.reduceSub, Int.reduceAdd, abuild, afill, abuildS, pureL, chunks, List.range, List.range.loop, Nat.reduceMul, Nat.reduceMod, apartF, apartI, aslice, evI, ASt.subst, AO.box, aval, pvals, ams, tys, mapTy_69, keyed_3, hth, hk, h1, thP]; (repeat' (first | (with_reducible refine hK2 _ ?_; clear hK2 K2) | (with_reducible refine And.intro ?_ ?_) | (with_reducible intro hb) | fail))))); all_goals ((try simp only [ThenA, InBlock, reduceIte, Nat.reduceEqDiff]); (try ((repeat ((fail_if_success (refine hK _ ?_)); clear hK K)); refine hK _ ?_; clear hK K)))
        all_goals (repeat' (first | refine T.seqK fun K hK => ?_ | refine T.block ?_ | (refine T.reg (by kernel_rfl) fun K' hK' => ?_; simp only [startSt, frOf, List.map_cons, List.map_nil]; (repeat' (first | (with_reducible refine WL.fin ?_; refine hK' _ ?_; clear hK' K') | (with_reducible refine WD.fin ?_) | ((first | (with_reducible refine WL.step fun K2 hK2 => ?_) | (with_reducible refine WD.step fun K2 hK2 => ?_)); simp only [WS, WH, WO, WOv, WG, dstOk, hasDst, aop, ASt.ev, aload, aloadC, afield, aindex, abin, abinI, aun, alen, acells, Nat.reduceEqDiff, Nat.reduceLT, Nat.reduceLeDiff, Nat.reduceAdd, reduceIte, reduceCtorEq, implies_true, ASt.add, setHp, asplice, Int.reduceEq, Int.reduceNe, Int.reduceLT, Int.reduceLE, Int.reduceSub, Int.reduceAdd, abuild, afill, abuildS, pureL, chunks, List.range, List.range.loop, Nat.reduceMul, Nat.reduceMod, apartF, apartI, aslice, evI, ASt.subst, AO.box, aval, pvals, ams, tys, mapTy_69, keyed_3, hpl, hpl2, htp, hk, hw1, hbu]; (repeat' (first | (with_reducible refine hK2 _ ?_; clear hK2 K2) | (with_reducible refine And.intro ?_ ?_) | (with_reducible intro hb) | fail)))))) | refine T.skip ?_ | refine T.exit ?_ | refine T.condT rfl ?_ | refine T.condF rfl ?_ | refine T.cond rfl (fun hc => ?_) (fun hc => ?_) | refine T.ret ?_ | simp only [ThenA, InBlock, reduceIte, Nat.reduceEqDiff] | ((repeat ((fail_if_success (refine hK _ ?_)); clear hK K)); refine hK _ ?_; clear hK K)))
        refine T.weak (Weak.frz _ 0) ?_; simp only [ASt.frz, List.filter_cons, List.filter_nil, bne_self_eq_false, Nat.reduceBneDiff, Bool.false_eq_true, WS, WH, WO, WOv, WG, dstOk, hasDst, aop, ASt.ev, aload, aloadC, afield, aindex, abin, abinI, aun, alen, acells, Nat.reduceEqDiff, Nat.reduceLT, Nat.reduceLeDiff, Nat.reduceAdd, reduceIte, reduceCtorEq, implies_true, ASt.add, setHp, asplice, Int.reduceEq, Int.reduceNe, Int.reduceLT, Int.reduceLE, Int.reduceSub, Int.reduceAdd, abuild, afill, abuildS, pureL, chunks, List.range, List.range.loop, Nat.reduceMul, Nat.reduceMod, apartF, apartI, aslice, evI, ASt.subst, AO.box, aval, pvals, ams, ]
        refine T.commT 18 [some (0, 3), some (0, 3), none, some (0, 1), none, some (0, 3), some (0, 3), some (0, 3), some (0, 3), some (0, 3), some (0, 3), some (0, 3), some (0, 3), some (0, 3), some (0, 3), some (0, 2), none, some (0, 3)] (by kernel_rfl) (by kernel_rfl) fun K' hK' => ?_; simp only [List.map_cons, List.map_nil, List.take_succ_cons, List.take_zero, List.zip_cons_cons, List.zip_nil_left, List.drop_succ_cons, List.drop_zero] at hK' ⊢; (repeat' (first | (with_reducible refine WC.fin ?_; refine hK' _ ?_; clear hK' K') | ((first | (with_reducible refine WC.stepV fun K2 hK2 => ?_) | (with_reducible refine WC.stepW fun K2 hK2 => ?_)); simp only [WS, WH, WO, WOv, WG, dstOk, hasDst, aop, ASt.ev, aload, aloadC, afield, aindex, abin, abinI, aun, alen, acells, Nat.reduceEqDiff, Nat.reduceLT, Nat.reduceLeDiff, Nat.reduceAdd, reduceIte, reduceCtorEq, implies_true, ASt.add, setHp, asplice, Int.reduceEq, Int.reduceNe, Int.reduceLT, Int.reduceLE, Int.reduceSub, Int.reduceAdd, abuild, afill, abuildS, pureL, chunks, List.range, List.range.loop, Nat.reduceMul, Nat.reduceMod, apartF, apartI, aslice, evI, ASt.subst, AO.box, aval, pvals, ams, WCg, WCv, WOw, allP, dav, Chk, List.filter_cons, List.filter_nil, bne_self_eq_false, Nat.reduceBneDiff, Bool.false_eq_true, tys, mapTy_69, keyed_3, hth, hk, hthk, thP, stC, ho1, ho2, ho3, ho4, hm1]; (repeat' (first | (with_reducible refine hK2 _ _ ?_; clear hK2 K2) | (with_reducible refine hK2 _ ?_; clear hK2 K2) | (with_reducible refine And.intro ?_ ?_) | (with_reducible intro hb) | (with_reducible rfl) | ((with_reducible show @Eq ASt _ _); rfl) | fail)))))
        refine WLW.weak (Weak.frz _ 3) ?_; simp only [ASt.frz, List.filter_cons, List.filter_nil, bne_self_eq_false, Nat.reduceBneDiff, Bool.false_eq_true, WS, WH, WO, WOv, WG, dstOk, hasDst, aop, ASt.ev, aload, aloadC, afield, aindex, abin, abinI, aun, alen, acells, Nat.reduceEqDiff, Nat.reduceLT, Nat.reduceLeDiff, Nat.reduceAdd, reduceIte, reduceCtorEq, implies_true, ASt.add, setHp, asplice, Int.reduceEq, Int.reduceNe, Int.reduceLT, Int.reduceLE, Int.reduceSub, Int.reduceAdd, abuild, afill, abuildS, pureL, chunks, List.range, List.range.loop, Nat.reduceMul, Nat.reduceMod, apartF, apartI, aslice, evI, ASt.subst, AO.box, aval, pvals, ams, ]
        (repeat' (first | (with_reducible refine WLW.fin ?_) | ((with_reducible refine WLW.step fun K2 hK2 => ?_); simp only [WS, WH, WO, WOv, WG, dstOk, hasDst, aop, ASt.ev, aload, aloadC, afield, aindex, abin, abinI, aun, alen, acells, Nat.reduceEqDiff, Nat.reduceLT, Nat.reduceLeDiff, Nat.reduceAdd, reduceIte, reduceCtorEq, implies_true, ASt.add, setHp, asplice, Int.reduceEq, Int.reduceNe, Int.reduceLT, Int.reduceLE, Int.reduceSub, Int.reduceAdd, abuild, afill, abuildS, pureL, chunks, List.range, List.range.loop, Nat.reduceMul, Nat.reduceMod, apartF, apartI, aslice, evI, ASt.subst, AO.box, aval, pvals, ams, tys, mapTy_69, keyed_3]; (repeat' (first | (with_reducible refine hK2 _ ?_; clear hK2 K2) | (with_reducible refine And.intro ?_ ?_) | (with_reducible intro hb) | ((first | (with_reducible apply callArmO) | (with_reducible apply callArm)); case h => exact CallV.plain (Ent.of Try.func32 (by kernel_rfl) rfl) (hih) (by simp [AV.okB])))))))
        all_goals ((try simp only [ThenA, InBlock, reduceIte, Nat.reduceEqDiff]); (try ((repeat ((fail_if_success (refine hK _ ?_)); clear hK K)); refine hK _ ?_; clear hK K)))
        all_goals (repeat' (first | refine T.seqK fun K hK => ?_ | refine T.block ?_ | (refine T.reg (by kernel_rfl) fun K' hK' => ?_; simp only [startSt, frOf, List.map_cons, List.map_nil]; (repeat' (first | (with_reducible refine WL.fin ?_; refine hK' _ ?_; clear hK' K') | (with_reducible refine WD.fin ?_) | ((first | (with_reducible refine WL.step fun K2 hK2 => ?_) | (with_reducible refine WD.step fun K2 hK2 => ?_)); simp only [WS, WH, WO, WOv, WG, dstOk, hasDst, aop, ASt.ev, aload, aloadC, afield, aindex, abin, abinI, aun, alen, acells, Nat.reduceEqDiff, Nat.reduceLT, Nat.reduceLeDiff, Nat.reduceAdd, reduceIte, reduceCtorEq, implies_true, ASt.add, setHp, asplice, Int.reduceEq, Int.reduceNe, Int.reduceLT, Int.reduceLE, Int.reduceSub, Int.reduceAdd, abuild, afill, abuildS, pureL, chunks, List.range, List.range.loop, Nat.reduceMul, Nat.reduceMod, apartF, apartI, aslice, evI, ASt.subst, AO.box, aval, pvals, ams, tys, mapTy_69, keyed_3]; (repeat' (first | (with_reducible refine hK2 _ ?_; clear hK2 K2) | (with_reducible refine And.intro ?_ ?_) | (with_reducible intro hb) | fail)))))) | refine T.skip ?_ | refine T.exit ?_ | refine T.condT rfl ?_ | refine T.condF rfl ?_ | refine T.cond rfl (fun hc => ?_) (fun hc => ?_) | refine T.ret ?_ | simp only [ThenA, InBlock, reduceIte, Nat.reduceEqDiff] | ((repeat ((fail_if_success (refine hK _ ?_)); clear hK K)); refine hK _ ?_; clear hK K)))
        refine hKL _ (t + 1) ?_ (by omega) (by omega)
        rw [hes, ← hF1]
        refine Weak.of' rfl ?_; simp only [wks, reduceIte, Nat.reduceEqDiff, ASt.okB, AV.okB, Nat.reduceLT, implies_true, wrap_succ (show t < 1152921504606846976 by omega), thsP, thP, posR, rowOf, Option.isNone_some, Bool.and_false]
    · have hd : decide ((t : Int) < (ths.length : Int)) = false := by simpa using hlt
      obtain rfl : t = ths.length := by omega
      clear hKL
      have hFe : F ths.length = (List.range ths.length).foldl (stepR (runsB ths n) ths pos run) l := by rw [hF]
      have hre : runsB ths (n + 1) pos run l = if endU ths pos ths.length = true then putB (F ths.length) (canB run) else F ths.length := by rw [runsB, ← hFe]
      have hFl1 := hFl ths.length (Nat.le_refl _)
      have hFa1 := hFa ths.length
      obtain ⟨F1, hF1⟩ : ∃ F1, F1 = F ths.length := ⟨_, rfl⟩
      rw [← hF1] at hFl1 hFa1 hre ⊢
      cases he : endU ths pos ths.length with
      | false =>
        rw [he, if_neg (by simp)] at hre
        repeat' (first | refine T.seqK fun K hK => ?_ | refine T.block ?_ | (refine T.reg (by kernel_rfl) fun K' hK' => ?_; simp only [startSt, frOf, List.map_cons, List.map_nil]; (repeat' (first | (with_reducible refine WL.fin ?_; refine hK' _ ?_; clear hK' K') | (with_reducible refine WD.fin ?_) | ((first | (with_reducible refine WL.step fun K2 hK2 => ?_) | (with_reducible refine WD.step fun K2 hK2 => ?_)); simp only [WS, WH, WO, WOv, WG, dstOk, hasDst, aop, ASt.ev, aload, aloadC, afield, aindex, abin, abinI, aun, alen, acells, Nat.reduceEqDiff, Nat.reduceLT, Nat.reduceLeDiff, Nat.reduceAdd, reduceIte, reduceCtorEq, implies_true, ASt.add, setHp, asplice, Int.reduceEq, Int.reduceNe, Int.reduceLT, Int.reduceLE, Int.reduceSub, Int.reduceAdd, abuild, afill, abuildS, pureL, chunks, List.range, List.range.loop, Nat.reduceMul, Nat.reduceMod, apartF, apartI, aslice, evI, ASt.subst, AO.box, aval, pvals, ams, tys, mapTy_69, keyed_3, hd]; (repeat' (first | (with_reducible refine hK2 _ ?_; clear hK2 K2) | (with_reducible refine And.intro ?_ ?_) | (with_reducible intro hb) | fail)))))) | refine T.skip ?_ | refine T.exit ?_ | refine T.condT rfl ?_ | refine T.condF rfl ?_ | refine T.cond rfl (fun hc => ?_) (fun hc => ?_) | refine T.ret ?_ | simp only [ThenA, InBlock, reduceIte, Nat.reduceEqDiff] | ((repeat ((fail_if_success (refine hK _ ?_)); clear hK K)); refine hK _ ?_; clear hK K))
        refine FinA.ret (.inr rfl) Try.results32 ?_; simp only [ares, aresL, ares1, WS, WH, WO, WOv, WG, dstOk, hasDst, aop, ASt.ev, aload, aloadC, afield, aindex, abin, abinI, aun, alen, acells, Nat.reduceEqDiff, Nat.reduceLT, Nat.reduceLeDiff, Nat.reduceAdd, reduceIte, reduceCtorEq, implies_true, ASt.add, setHp, asplice, Int.reduceEq, Int.reduceNe, Int.reduceLT, Int.reduceLE, Int.reduceSub, Int.reduceAdd, abuild, afill, abuildS, pureL, chunks, List.range, List.range.loop, Nat.reduceMul, Nat.reduceMod, apartF, apartI, aslice, evI, ASt.subst, AO.box, aval, pvals, ams, tys, mapTy_69, keyed_3, rowOf]
        rw [hre]
      | true =>
        rw [he, if_pos rfl] at hre
        have hca := rcanonical_ok run (by omega) hrun
        have hpu := put_ok F1 (canB run) (by omega) (by have := can_len run; omega) (fun y hy => by have := hFa1 y hy; omega)
        simp only [thP, rowOf] at hca hpu
        repeat' (first | refine T.seqK fun K hK => ?_ | refine T.block ?_ | (refine T.reg (by kernel_rfl) fun K' hK' => ?_; simp only [startSt, frOf, List.map_cons, List.map_nil]; (repeat' (first | (with_reducible refine WL.fin ?_; refine hK' _ ?_; clear hK' K') | (with_reducible refine WD.fin ?_) | ((first | (with_reducible refine WL.step fun K2 hK2 => ?_) | (with_reducible refine WD.step fun K2 hK2 => ?_)); simp only [WS, WH, WO, WOv, WG, dstOk, hasDst, aop, ASt.ev, aload, aloadC, afield, aindex, abin, abinI, aun, alen, acells, Nat.reduceEqDiff, Nat.reduceLT, Nat.reduceLeDiff, Nat.reduceAdd, reduceIte, reduceCtorEq, implies_true, ASt.add, setHp, asplice, Int.reduceEq, Int.reduceNe, Int.reduceLT, Int.reduceLE, Int.reduceSub, Int.reduceAdd, abuild, afill, abuildS, pureL, chunks, List.range, List.range.loop, Nat.reduceMul, Nat.reduceMod, apartF, apartI, aslice, evI, ASt.subst, AO.box, aval, pvals, ams, tys, mapTy_69, keyed_3, hd]; (repeat' (first | (with_reducible refine hK2 _ ?_; clear hK2 K2) | (with_reducible refine And.intro ?_ ?_) | (with_reducible intro hb) | ((first | (with_reducible apply callArmO) | (with_reducible apply callArm)); case h => exact CallV.plain (Ent.of Try.func43 (by kernel_rfl) rfl) (hca) (by simp [AV.okB])) | ((first | (with_reducible apply callArmO) | (with_reducible apply callArm)); case h => exact CallV.plain (Ent.of Try.func42 (by kernel_rfl) rfl) (hpu) (by simp [AV.okB])))))))) | refine T.skip ?_ | refine T.exit ?_ | refine T.condT rfl ?_ | refine T.condF rfl ?_ | refine T.cond rfl (fun hc => ?_) (fun hc => ?_) | refine T.ret ?_ | simp only [ThenA, InBlock, reduceIte, Nat.reduceEqDiff] | ((repeat ((fail_if_success (refine hK _ ?_)); clear hK K)); refine hK _ ?_; clear hK K))
        refine FinA.ret (.inr rfl) Try.results32 ?_; simp only [ares, aresL, ares1, WS, WH, WO, WOv, WG, dstOk, hasDst, aop, ASt.ev, aload, aloadC, afield, aindex, abin, abinI, aun, alen, acells, Nat.reduceEqDiff, Nat.reduceLT, Nat.reduceLeDiff, Nat.reduceAdd, reduceIte, reduceCtorEq, implies_true, ASt.add, setHp, asplice, Int.reduceEq, Int.reduceNe, Int.reduceLT, Int.reduceLE, Int.reduceSub, Int.reduceAdd, abuild, afill, abuildS, pureL, chunks, List.range, List.range.loop, Nat.reduceMul, Nat.reduceMod, apartF, apartI, aslice, evI, ASt.subst, AO.box, aval, pvals, ams, tys, mapTy_69, keyed_3, rowOf]
        rw [hre]
theorem pos_zero (ths : List (List St)) : PosOk ths (List.replicate ths.length 0) := ⟨by simp, fun t l k h1 h2 => by
    rw [List.getElem?_replicate] at h2
    split at h2
    · cases h2; exact Nat.zero_le _
    · cases h2⟩
theorem small_cnt {ths : List (List St)} (hv : validB ths = true) (hs : smallB ths = true) : cntB ths 13 (List.replicate ths.length 0) ≤ 400 := by
  have h12 := (validB_ok hv).2.2.1
  rw [cnt_mul ths (n := 13) (by omega)]
  simp only [smallB, hv, Bool.not_true, Bool.false_or, decide_eq_true_eq] at hs
  exact hs
set_option maxHeartbeats 8000000 in
set_option maxRecDepth 100000 in
theorem rexplore_ok (ths : List (List St)) (hf : fewB ths = true) (hs : smallB ths = true) : PureC Try.prog 17 [.p (thsP ths)] (.p (.seq 1 (rowOf pksP (exploreB (validB ths) ths)))) := by
  have hrv := rvalid_at ths hf
  cases hv : validB ths with
  | false =>
    rw [hv] at hrv
    have he : exploreB false ths = [] := by simp [exploreB]
    rw [he]
    simp only [thsP, rowOf, List.map_nil] at hrv ⊢
    refine PureC.of Try.func17 rfl 11 rfl (by decide) (by simp [AV.okB]) ?_
    repeat' (first | refine T.seqK fun K hK => ?_ | refine T.block ?_ | (refine T.reg (by kernel_rfl) fun K' hK' => ?_; simp only [startSt, frOf, List.map_cons, List.map_nil]; (repeat' (first | (with_reducible refine WL.fin ?_; refine hK' _ ?_; clear hK' K') | (with_reducible refine WD.fin ?_) | ((first | (with_reducible refine WL.step fun K2 hK2 => ?_) | (with_reducible refine WD.step fun K2 hK2 => ?_)); simp only [WS, WH, WO, WOv, WG, dstOk, hasDst, aop, ASt.ev, aload, aloadC, afield, aindex, abin, abinI, aun, alen, acells, Nat.reduceEqDiff, Nat.reduceLT, Nat.reduceLeDiff, Nat.reduceAdd, reduceIte, reduceCtorEq, implies_true, ASt.add, setHp, asplice, Int.reduceEq, Int.reduceNe, Int.reduceLT, Int.reduceLE, Int.reduceSub, Int.reduceAdd, abuild, afill, abuildS, pureL, chunks, List.range, List.range.loop, Nat.reduceMul, Nat.reduceMod, apartF, apartI, aslice, evI, ASt.subst, AO.box, aval, pvals, ams, tys, mapTy_69, keyed_3]; (repeat' (first | (with_reducible refine hK2 _ ?_; clear hK2 K2) | (with_reducible refine And.intro ?_ ?_) | (with_reducible intro hb) | ((first | (with_reducible apply callArmO) | (with_reducible apply callArm)); case h => exact CallV.plain (Ent.of Try.func11 (by kernel_rfl) rfl) (hrv) (by simp [AV.okB])))))))) | refine T.skip ?_ | refine T.exit ?_ | refine T.condT rfl ?_ | refine T.condF rfl ?_ | refine T.cond rfl (fun hc => ?_) (fun hc => ?_) | refine T.ret ?_ | simp only [ThenA, InBlock, reduceIte, Nat.reduceEqDiff] | ((repeat ((fail_if_success (refine hK _ ?_)); clear hK K)); refine hK _ ?_; clear hK K))
    refine FinA.retW (s' := ⟨[(2, .p (.seq 1 []))], [], 11, 0⟩) (.inr rfl) Try.results17 (by refine Weak.of' rfl ?_; simp only [wks, reduceIte, Nat.reduceEqDiff, ASt.okB, AV.okB, Nat.reduceLT, implies_true, ]) ?_
    simp only [ares, aresL, ares1, WS, WH, WO, WOv, WG, dstOk, hasDst, aop, ASt.ev, aload, aloadC, afield, aindex, abin, abinI, aun, alen, acells, Nat.reduceEqDiff, Nat.reduceLT, Nat.reduceLeDiff, Nat.reduceAdd, reduceIte, reduceCtorEq, implies_true, ASt.add, setHp, asplice, Int.reduceEq, Int.reduceNe, Int.reduceLT, Int.reduceLE, Int.reduceSub, Int.reduceAdd, abuild, afill, abuildS, pureL, chunks, List.range, List.range.loop, Nat.reduceMul, Nat.reduceMod, apartF, apartI, aslice, evI, ASt.subst, AO.box, aval, pvals, ams]
  | true =>
    rw [hv] at hrv
    rw [explore_eq hv]
    obtain ⟨h1, h8, h12, _⟩ := validB_ok hv
    have hml : ths.length ≤ maxLen := by unfold maxLen; omega
    have hmb : 8 * ths.length ≤ 140737488355328 := by omega
    have hst : ∀ l ∈ ths, l.length ≤ 1000 ∧ ∀ s ∈ l, StV s := fun l hl => ⟨(few_st hf l hl).1, valid_stv hf hv l hl⟩
    have hru := rruns_ok ths h8 hst 13 (List.replicate ths.length 0) [] [] (pos_zero ths) (by omega) (fun s hs => by cases hs) (by simp) (by have := small_cnt hv hs; simp; omega) (fun y hy => by cases hy)
    change PureC _ _ _ (.p (.seq 1 (rowOf pksP (rexB ths)))) at hru
    have hrep : posR (List.replicate ths.length 0) = List.replicate ths.length [.val (.int .i64 0)] := by simp [posR]
    rw [hrep] at hru
    simp only [thsP, thP, List.map_nil, rowOf] at hrv hru ⊢
    refine PureC.of Try.func17 rfl 11 rfl (by decide) (by simp [AV.okB]) ?_
    repeat' (first | refine T.seqK fun K hK => ?_ | refine T.block ?_ | refine T.skip ?_ | refine T.exit ?_ | refine T.condT rfl ?_ | refine T.condF rfl ?_ | refine T.cond rfl (fun hc => ?_) (fun hc => ?_) | refine T.ret ?_ | simp only [ThenA, InBlock, reduceIte, Nat.reduceEqDiff] | ((repeat ((fail_if_success (refine hK _ ?_)); clear hK K)); refine hK _ ?_; clear hK K))
    (refine T.reg (by kernel_rfl) fun K' hK' => ?_; simp only [startSt, frOf, List.map_cons, List.map_nil]; (repeat' (first | (with_reducible refine WL.fin ?_; refine hK' _ ?_; clear hK' K') | (with_reducible refine WD.fin ?_) | ((first | (with_reducible refine WL.step fun K2 hK2 => ?_) | (with_reducible refine WD.step fun K2 hK2 => ?_)); simp only [WS, WH, WO, WOv, WG, dstOk, hasDst, aop, ASt.ev, aload, aloadC, afield, aindex, abin, abinI, aun, alen, acells, Nat.reduceEqDiff, Nat.reduceLT, Nat.reduceLeDiff, Nat.reduceAdd, reduceIte, reduceCtorEq, implies_true, ASt.add, setHp, asplice, Int.reduceEq, Int.reduceNe, Int.reduceLT, Int.reduceLE, Int.reduceSub, Int.reduceAdd, abuild, afill, abuildS, pureL, chunks, List.range, List.range.loop, Nat.reduceMul, Nat.reduceMod, apartF, apartI, aslice, evI, ASt.subst, AO.box, aval, pvals, ams, tys, mapTy_69, keyed_3]; (repeat' (first | (with_reducible refine hK2 _ ?_; clear hK2 K2) | (with_reducible refine And.intro ?_ ?_) | (with_reducible intro hb) | fail))))); all_goals ((try simp only [ThenA, InBlock, reduceIte, Nat.reduceEqDiff]); (try ((repeat ((fail_if_success (refine hK _ ?_)); clear hK K)); refine hK _ ?_; clear hK K))))
    repeat' (first | refine T.seqK fun K hK => ?_ | refine T.block ?_ | refine T.skip ?_ | refine T.exit ?_ | refine T.condT rfl ?_ | refine T.condF rfl ?_ | refine T.cond rfl (fun hc => ?_) (fun hc => ?_) | refine T.ret ?_ | simp only [ThenA, InBlock, reduceIte, Nat.reduceEqDiff] | ((repeat ((fail_if_success (refine hK _ ?_)); clear hK K)); refine hK _ ?_; clear hK K))
    (refine T.reg (by kernel_rfl) fun K' hK' => ?_; simp only [startSt, frOf, List.map_cons, List.map_nil]; (repeat' (first | (with_reducible refine WL.fin ?_; refine hK' _ ?_; clear hK' K') | (with_reducible refine WD.fin ?_) | ((first | (with_reducible refine WL.step fun K2 hK2 => ?_) | (with_reducible refine WD.step fun K2 hK2 => ?_)); simp only [WS, WH, WO, WOv, WG, dstOk, hasDst, aop, ASt.ev, aload, aloadC, afield, aindex, abin, abinI, aun, alen, acells, Nat.reduceEqDiff, Nat.reduceLT, Nat.reduceLeDiff, Nat.reduceAdd, reduceIte, reduceCtorEq, implies_true, ASt.add, setHp, asplice, Int.reduceEq, Int.reduceNe, Int.reduceLT, Int.reduceLE, Int.reduceSub, Int.reduceAdd, abuild, afill, abuildS, pureL, chunks, List.range, List.range.loop, Nat.reduceMul, Nat.reduceMod, apartF, apartI, aslice, evI, ASt.subst, AO.box, aval, pvals, ams, tys, mapTy_69, keyed_3]; (repeat' (first | (with_reducible refine hK2 _ ?_; clear hK2 K2) | (with_reducible refine And.intro ?_ ?_) | (with_reducible intro hb) | ((first | (with_reducible apply callArmO) | (with_reducible apply callArm)); case h => exact CallV.plain (Ent.of Try.func11 (by kernel_rfl) rfl) (hrv) (by simp [AV.okB]))))))); all_goals ((try simp only [ThenA, InBlock, reduceIte, Nat.reduceEqDiff]); (try ((repeat ((fail_if_success (refine hK _ ?_)); clear hK K)); refine hK _ ?_; clear hK K))))
    repeat' (first | refine T.seqK fun K hK => ?_ | refine T.block ?_ | refine T.skip ?_ | refine T.exit ?_ | refine T.condT rfl ?_ | refine T.condF rfl ?_ | refine T.cond rfl (fun hc => ?_) (fun hc => ?_) | refine T.ret ?_ | simp only [ThenA, InBlock, reduceIte, Nat.reduceEqDiff] | ((repeat ((fail_if_success (refine hK _ ?_)); clear hK K)); refine hK _ ?_; clear hK K))
    have hru2 := hru.args (.cons (AVle.refl _) (.cons (AVle.refl _) (.cons (AVle.nil 4) (.cons (AVle.nil 1) .nil))))
    refine T.regW (by kernel_rfl) fun K' hK' => ?_; simp only [startSt, frOf, List.map_cons, List.map_nil]
    iterate 4 ((with_reducible refine WLW.step fun K2 hK2 => ?_); simp only [WS, WH, WO, WOv, WG, dstOk, hasDst, aop, ASt.ev, aload, aloadC, afield, aindex, abin, abinI, aun, alen, acells, Nat.reduceEqDiff, Nat.reduceLT, Nat.reduceLeDiff, Nat.reduceAdd, reduceIte, reduceCtorEq, implies_true, ASt.add, setHp, asplice, Int.reduceEq, Int.reduceNe, Int.reduceLT, Int.reduceLE, Int.reduceSub, Int.reduceAdd, abuild, afill, abuildS, pureL, chunks, List.range, List.range.loop, Nat.reduceMul, Nat.reduceMod, apartF, apartI, aslice, evI, ASt.subst, AO.box, aval, pvals, ams, tys, mapTy_69, keyed_3, hml, hmb]; (repeat' (first | (with_reducible refine hK2 _ ?_; clear hK2 K2) | (with_reducible refine And.intro ?_ ?_) | (with_reducible intro hb))))
    refine WLW.weak (Weak.frz _ 0) ?_; simp only [ASt.frz, List.filter_cons, List.filter_nil, bne_self_eq_false, Nat.reduceBneDiff, Bool.false_eq_true, WS, WH, WO, WOv, WG, dstOk, hasDst, aop, ASt.ev, aload, aloadC, afield, aindex, abin, abinI, aun, alen, acells, Nat.reduceEqDiff, Nat.reduceLT, Nat.reduceLeDiff, Nat.reduceAdd, reduceIte, reduceCtorEq, implies_true, ASt.add, setHp, asplice, Int.reduceEq, Int.reduceNe, Int.reduceLT, Int.reduceLE, Int.reduceSub, Int.reduceAdd, abuild, afill, abuildS, pureL, chunks, List.range, List.range.loop, Nat.reduceMul, Nat.reduceMod, apartF, apartI, aslice, evI, ASt.subst, AO.box, aval, pvals, ams, ]
    (repeat' (first | (with_reducible refine WLW.fin ?_) | ((with_reducible refine WLW.step fun K2 hK2 => ?_); simp only [WS, WH, WO, WOv, WG, dstOk, hasDst, aop, ASt.ev, aload, aloadC, afield, aindex, abin, abinI, aun, alen, acells, Nat.reduceEqDiff, Nat.reduceLT, Nat.reduceLeDiff, Nat.reduceAdd, reduceIte, reduceCtorEq, implies_true, ASt.add, setHp, asplice, Int.reduceEq, Int.reduceNe, Int.reduceLT, Int.reduceLE, Int.reduceSub, Int.reduceAdd, abuild, afill, abuildS, pureL, chunks, List.range, List.range.loop, Nat.reduceMul, Nat.reduceMod, apartF, apartI, aslice, evI, ASt.subst, AO.box, aval, pvals, ams, tys, mapTy_69, keyed_3]; (repeat' (first | (with_reducible refine hK2 _ ?_; clear hK2 K2) | (with_reducible refine And.intro ?_ ?_) | (with_reducible intro hb) | ((first | (with_reducible apply callArmO) | (with_reducible apply callArm)); case h => exact CallV.plain (Ent.of Try.func32 (by kernel_rfl) rfl) (hru2) (by simp [AV.okB])))))))
    all_goals (refine hK' _ ?_; clear hK' K'; (try simp only [ThenA, InBlock, reduceIte, Nat.reduceEqDiff]); (try ((repeat ((fail_if_success (refine hK _ ?_)); clear hK K)); refine hK _ ?_; clear hK K)))
    all_goals (repeat' (first | refine T.seqK fun K hK => ?_ | refine T.block ?_ | (refine T.reg (by kernel_rfl) fun K' hK' => ?_; simp only [startSt, frOf, List.map_cons, List.map_nil]; (repeat' (first | (with_reducible refine WL.fin ?_; refine hK' _ ?_; clear hK' K') | (with_reducible refine WD.fin ?_) | ((first | (with_reducible refine WL.step fun K2 hK2 => ?_) | (with_reducible refine WD.step fun K2 hK2 => ?_)); simp only [WS, WH, WO, WOv, WG, dstOk, hasDst, aop, ASt.ev, aload, aloadC, afield, aindex, abin, abinI, aun, alen, acells, Nat.reduceEqDiff, Nat.reduceLT, Nat.reduceLeDiff, Nat.reduceAdd, reduceIte, reduceCtorEq, implies_true, ASt.add, setHp, asplice, Int.reduceEq, Int.reduceNe, Int.reduceLT, Int.reduceLE, Int.reduceSub, Int.reduceAdd, abuild, afill, abuildS, pureL, chunks, List.range, List.range.loop, Nat.reduceMul, Nat.reduceMod, apartF, apartI, aslice, evI, ASt.subst, AO.box, aval, pvals, ams, tys, mapTy_69, keyed_3]; (repeat' (first | (with_reducible refine hK2 _ ?_; clear hK2 K2) | (with_reducible refine And.intro ?_ ?_) | (with_reducible intro hb) | fail)))))) | refine T.skip ?_ | refine T.exit ?_ | refine T.condT rfl ?_ | refine T.condF rfl ?_ | refine T.cond rfl (fun hc => ?_) (fun hc => ?_) | refine T.ret ?_ | simp only [ThenA, InBlock, reduceIte, Nat.reduceEqDiff] | ((repeat ((fail_if_success (refine hK _ ?_)); clear hK K)); refine hK _ ?_; clear hK K)))
    refine FinA.ret (.inr rfl) Try.results17 ?_; simp only [ares, aresL, ares1, WS, WH, WO, WOv, WG, dstOk, hasDst, aop, ASt.ev, aload, aloadC, afield, aindex, abin, abinI, aun, alen, acells, Nat.reduceEqDiff, Nat.reduceLT, Nat.reduceLeDiff, Nat.reduceAdd, reduceIte, reduceCtorEq, implies_true, ASt.add, setHp, asplice, Int.reduceEq, Int.reduceNe, Int.reduceLT, Int.reduceLE, Int.reduceSub, Int.reduceAdd, abuild, afill, abuildS, pureL, chunks, List.range, List.range.loop, Nat.reduceMul, Nat.reduceMod, apartF, apartI, aslice, evI, ASt.subst, AO.box, aval, pvals, ams, tys, mapTy_69, keyed_3, rowOf]
set_option maxHeartbeats 8000000 in
set_option maxRecDepth 100000 in
theorem sameRuns_ok (a : List (List Pk)) (ha : a.length ≤ 1000000000000000) (hm : ∀ y ∈ a, y.length ≤ 1000000) : PureC Try.prog 16 [.p (.seq 1 (rowOf pksP a)), .p (.seq 1 (rowOf pksP a))] (.bool true) := by
  simp only [rowOf]
  have h1 : ((a.length : Int) != (a.length : Int)) = false := by simp
  refine PureC.of Try.func16 rfl 27 rfl (by decide) (by simp [AV.okB]) ?_
  repeat' (first | refine T.seqK fun K hK => ?_ | refine T.block ?_ | (refine T.reg (by kernel_rfl) fun K' hK' => ?_; simp only [startSt, frOf, List.map_cons, List.map_nil]; (repeat' (first | (with_reducible refine WL.fin ?_; refine hK' _ ?_; clear hK' K') | (with_reducible refine WD.fin ?_) | ((first | (with_reducible refine WL.step fun K2 hK2 => ?_) | (with_reducible refine WD.step fun K2 hK2 => ?_)); simp only [WS, WH, WO, WOv, WG, dstOk, hasDst, aop, ASt.ev, aload, aloadC, afield, aindex, abin, abinI, aun, alen, acells, Nat.reduceEqDiff, Nat.reduceLT, Nat.reduceLeDiff, Nat.reduceAdd, reduceIte, reduceCtorEq, implies_true, ASt.add, setHp, asplice, Int.reduceEq, Int.reduceNe, Int.reduceLT, Int.reduceLE, Int.reduceSub, Int.reduceAdd, abuild, afill, abuildS, pureL, chunks, List.range, List.range.loop, Nat.reduceMul, Nat.reduceMod, apartF, apartI, aslice, evI, ASt.subst, AO.box, aval, pvals, ams, tys, mapTy_69, keyed_3, h1]; (repeat' (first | (with_reducible refine hK2 _ ?_; clear hK2 K2) | (with_reducible refine And.intro ?_ ?_) | (with_reducible intro hb) | fail)))))) | refine T.skip ?_ | refine T.exit ?_ | refine T.condT rfl ?_ | refine T.condF rfl ?_ | refine T.cond rfl (fun hc => ?_) (fun hc => ?_) | refine T.ret ?_ | simp only [ThenA, InBlock, reduceIte, Nat.reduceEqDiff] | ((repeat ((fail_if_success (refine hK _ ?_)); clear hK K)); refine hK _ ?_; clear hK K))
  refine T.loopK (fun k : Nat => ⟨[(0, .p (.seq 1 (rowOf pksP a))), (1, .p (.seq 1 (rowOf pksP a))), (5, .int k)], [], 27, 0⟩) (fun k => k ≤ a.length) (fun k => a.length - k) 0 (Nat.zero_le _) (by refine Weak.of' rfl ?_; simp only [wks, reduceIte, Nat.reduceEqDiff, ASt.okB, AV.okB, Nat.reduceLT, implies_true, Int.natCast_zero, rowOf]) ?_
  rintro k hk KL hKL
  simp only [rowOf]
  by_cases hlt : k < a.length
  · have hd : decide ((k : Int) < (a.length : Int)) = true := by simpa using hlt
    obtain ⟨x, hx⟩ := at_lt hlt
    have hsp := samePicks_ok x x (hm x (List.mem_of_getElem? hx)) (hm x (List.mem_of_getElem? hx))
    rw [decide_eq_true (rfl : x = x)] at hsp
    repeat' (first | refine T.seqK fun K hK => ?_ | refine T.block ?_ | (refine T.reg (by kernel_rfl) fun K' hK' => ?_; simp only [startSt, frOf, List.map_cons, List.map_nil]; (repeat' (first | (with_reducible refine WL.fin ?_; refine hK' _ ?_; clear hK' K') | (with_reducible refine WD.fin ?_) | ((first | (with_reducible refine WL.step fun K2 hK2 => ?_) | (with_reducible refine WD.step fun K2 hK2 => ?_)); simp only [WS, WH, WO, WOv, WG, dstOk, hasDst, aop, ASt.ev, aload, aloadC, afield, aindex, abin, abinI, aun, alen, acells, Nat.reduceEqDiff, Nat.reduceLT, Nat.reduceLeDiff, Nat.reduceAdd, reduceIte, reduceCtorEq, implies_true, ASt.add, setHp, asplice, Int.reduceEq, Int.reduceNe, Int.reduceLT, Int.reduceLE, Int.reduceSub, Int.reduceAdd, abuild, afill, abuildS, pureL, chunks, List.range, List.range.loop, Nat.reduceMul, Nat.reduceMod, apartF, apartI, aslice, evI, ASt.subst, AO.box, aval, pvals, ams, tys, mapTy_69, keyed_3, hd]; (repeat' (first | (with_reducible refine hK2 _ ?_; clear hK2 K2) | (with_reducible refine And.intro ?_ ?_) | (with_reducible intro hb) | fail)))))) | refine T.skip ?_ | refine T.exit ?_ | refine T.condT rfl ?_ | refine T.condF rfl ?_ | refine T.cond rfl (fun hc => ?_) (fun hc => ?_) | refine T.ret ?_ | simp only [ThenA, InBlock, reduceIte, Nat.reduceEqDiff] | ((repeat ((fail_if_success (refine hK _ ?_)); clear hK K)); refine hK _ ?_; clear hK K))
    refine T.drw 8 (by kernel_rfl) (by kernel_rfl) fun K' hK' => ?_; simp only [List.map_cons, List.map_nil]; (repeat' (first | (with_reducible refine WL.fin ?_; refine hK' _ ?_; clear hK' K') | (with_reducible refine WD.fin ?_) | ((first | (with_reducible refine WL.step fun K2 hK2 => ?_) | (with_reducible refine WD.step fun K2 hK2 => ?_)); simp only [WS, WH, WO, WOv, WG, dstOk, hasDst, aop, ASt.ev, aload, aloadC, afield, aindex, abin, abinI, aun, alen, acells, Nat.reduceEqDiff, Nat.reduceLT, Nat.reduceLeDiff, Nat.reduceAdd, reduceIte, reduceCtorEq, implies_true, ASt.add, setHp, asplice, Int.reduceEq, Int.reduceNe, Int.reduceLT, Int.reduceLE, Int.reduceSub, Int.reduceAdd, abuild, afill, abuildS, pureL, chunks, List.range, List.range.loop, Nat.reduceMul, Nat.reduceMod, apartF, apartI, aslice, evI, ASt.subst, AO.box, aval, pvals, ams, tys, mapTy_69, keyed_3, hx]; (repeat' (first | (with_reducible refine hK2 _ ?_; clear hK2 K2) | (with_reducible refine And.intro ?_ ?_) | (with_reducible intro hb) | ((first | (with_reducible apply callArmO) | (with_reducible apply callArm)); case h => exact CallV.plain (Ent.of Try.func31 (by kernel_rfl) rfl) (hsp) (by simp [AV.okB]))))))); all_goals ((try simp only [ThenA, InBlock, reduceIte, Nat.reduceEqDiff]); (try ((repeat ((fail_if_success (refine hK _ ?_)); clear hK K)); refine hK _ ?_; clear hK K)))
    all_goals (repeat' (first | refine T.seqK fun K hK => ?_ | refine T.block ?_ | (refine T.reg (by kernel_rfl) fun K' hK' => ?_; simp only [startSt, frOf, List.map_cons, List.map_nil]; (repeat' (first | (with_reducible refine WL.fin ?_; refine hK' _ ?_; clear hK' K') | (with_reducible refine WD.fin ?_) | ((first | (with_reducible refine WL.step fun K2 hK2 => ?_) | (with_reducible refine WD.step fun K2 hK2 => ?_)); simp only [WS, WH, WO, WOv, WG, dstOk, hasDst, aop, ASt.ev, aload, aloadC, afield, aindex, abin, abinI, aun, alen, acells, Nat.reduceEqDiff, Nat.reduceLT, Nat.reduceLeDiff, Nat.reduceAdd, reduceIte, reduceCtorEq, implies_true, ASt.add, setHp, asplice, Int.reduceEq, Int.reduceNe, Int.reduceLT, Int.reduceLE, Int.reduceSub, Int.reduceAdd, abuild, afill, abuildS, pureL, chunks, List.range, List.range.loop, Nat.reduceMul, Nat.reduceMod, apartF, apartI, aslice, evI, ASt.subst, AO.box, aval, pvals, ams, tys, mapTy_69, keyed_3]; (repeat' (first | (with_reducible refine hK2 _ ?_; clear hK2 K2) | (with_reducible refine And.intro ?_ ?_) | (with_reducible intro hb) | fail)))))) | refine T.skip ?_ | refine T.exit ?_ | refine T.condT rfl ?_ | refine T.condF rfl ?_ | refine T.cond rfl (fun hc => ?_) (fun hc => ?_) | refine T.ret ?_ | simp only [ThenA, InBlock, reduceIte, Nat.reduceEqDiff] | ((repeat ((fail_if_success (refine hK _ ?_)); clear hK K)); refine hK _ ?_; clear hK K)))
    exact hKL _ (k + 1) (by refine Weak.of' rfl ?_; simp only [wks, reduceIte, Nat.reduceEqDiff, ASt.okB, AV.okB, Nat.reduceLT, implies_true, wrap_succ (show k < 1152921504606846976 by omega), rowOf]) (by omega) (by omega)
  · have hd : decide ((k : Int) < (a.length : Int)) = false := by simpa using hlt
    repeat' (first | refine T.seqK fun K hK => ?_ | refine T.block ?_ | (refine T.reg (by kernel_rfl) fun K' hK' => ?_; simp only [startSt, frOf, List.map_cons, List.map_nil]; (repeat' (first | (with_reducible refine WL.fin ?_; refine hK' _ ?_; clear hK' K') | (with_reducible refine WD.fin ?_) | ((first | (with_reducible refine WL.step fun K2 hK2 => ?_) | (with_reducible refine WD.step fun K2 hK2 => ?_)); simp only [WS, WH, WO, WOv, WG, dstOk, hasDst, aop, ASt.ev, aload, aloadC, afield, aindex, abin, abinI, aun, alen, acells, Nat.reduceEqDiff, Nat.reduceLT, Nat.reduceLeDiff, Nat.reduceAdd, reduceIte, reduceCtorEq, implies_true, ASt.add, setHp, asplice, Int.reduceEq, Int.reduceNe, Int.reduceLT, Int.reduceLE, Int.reduceSub, Int.reduceAdd, abuild, afill, abuildS, pureL, chunks, List.range, List.range.loop, Nat.reduceMul, Nat.reduceMod, apartF, apartI, aslice, evI, ASt.subst, AO.box, aval, pvals, ams, tys, mapTy_69, keyed_3, hd]; (repeat' (first | (with_reducible refine hK2 _ ?_; clear hK2 K2) | (with_reducible refine And.intro ?_ ?_) | (with_reducible intro hb) | fail)))))) | refine T.skip ?_ | refine T.exit ?_ | refine T.condT rfl ?_ | refine T.condF rfl ?_ | refine T.cond rfl (fun hc => ?_) (fun hc => ?_) | refine T.ret ?_ | simp only [ThenA, InBlock, reduceIte, Nat.reduceEqDiff] | ((repeat ((fail_if_success (refine hK _ ?_)); clear hK K)); refine hK _ ?_; clear hK K))
    refine FinA.ret (.inr rfl) Try.results16 ?_; simp only [ares, aresL, ares1, WS, WH, WO, WOv, WG, dstOk, hasDst, aop, ASt.ev, aload, aloadC, afield, aindex, abin, abinI, aun, alen, acells, Nat.reduceEqDiff, Nat.reduceLT, Nat.reduceLeDiff, Nat.reduceAdd, reduceIte, reduceCtorEq, implies_true, ASt.add, setHp, asplice, Int.reduceEq, Int.reduceNe, Int.reduceLT, Int.reduceLE, Int.reduceSub, Int.reduceAdd, abuild, afill, abuildS, pureL, chunks, List.range, List.range.loop, Nat.reduceMul, Nat.reduceMod, apartF, apartI, aslice, evI, ASt.subst, AO.box, aval, pvals, ams, tys, mapTy_69, keyed_3, ]
end Go.Proofs.Ytbhkcejjehgfcaa
