/- 'Classes returns the number of classes' -/
import Derived.ProofKit
import Derived.HandedShaped
import Derived.OpenShut
import Derived.Test.YtbhkcejjehgfcaaZ09
/- The reference of layer 49: Explore. -/
namespace Go.Proofs.Ytbhkcejjehgfcaa
open Go.RowKit Go.Sort
set_option linter.unusedSimpArgs false
set_option linter.unusedVariables false

theorem stepOf_none {ths : List (List St)} {pos : List Nat} {t : Nat} {l : List St} {k : Nat} (hp : PosOk ths pos) (hl : ths[t]? = some l) (hk : pos[t]? = some k) : stepOf ths pos t = none ↔ k = l.length := by
  have := hp.le t l k hl hk
  simp only [stepOf, hl, hk, Option.bind_some, List.getElem?_eq_none_iff]
  omega
set_option maxHeartbeats 8000000 in
set_option maxRecDepth 100000 in
theorem rruns_ok (ths : List (List St)) (h8 : ths.length ≤ 8) (hst : ∀ l ∈ ths, l.length ≤ 1000 ∧ ∀ s ∈ l, StV s) : ∀ (n : Nat) (pos : List Nat) (run : List St) (l : List (List Pk)), PosOk ths pos → remB ths pos < n → (∀ s ∈ run, StV s) → run.length + n ≤ 1000 → l.length + cntB ths n pos ≤ 100000 → (∀ y ∈ l, y.length ≤ 1000) →
    PureC Try.prog 32 [.p (thsP ths), .p (.seq 1 (posR pos)), .p (thP run), .p (.seq 1 (rowOf pksP l))] (.p (.seq 1 (rowOf pksP (runsB ths n pos run l))))
  | 0, _, _, _, _, h, _, _, _, _ => by omega
  | n + 1, pos, run, l, hp, hrem, hrun, hrl, hcl, hy => by
    have hm1 : 1 ≤ maxLen := by decide
    simp only [thsP, thP, posR, rowOf]
    refine PureC.of Try.func32 rfl 62 rfl (by decide) (by simp [AV.okB]) ?_
    repeat' (first | (refine T.seqK fun K hK => ?_) | (refine T.block ?_) | (refine T.reg (by kernel_rfl) fun K' hK' => ?_; simp only [startSt, frOf, List.map_cons, List.map_nil]; (repeat' (first | (with_reducible refine WL.fin ?_; refine hK' _ ?_; clear hK' K') | (with_reducible refine WD.fin ?_) | ((first | (with_reducible refine WL.step fun K2 hK2 => ?_) | (with_reducible refine WD.step fun K2 hK2 => ?_)); simp only [WS, WH, WO, WOv, WG, dstOk, hasDst, aop, ASt.ev, aload, aloadC, afield, aindex, abin, abinI, aun, alen, acells, Nat.reduceEqDiff, Nat.reduceLT, Nat.reduceLeDiff, Nat.reduceAdd, reduceIte, reduceCtorEq, implies_true, ASt.add, setHp, asplice, Int.reduceEq, Int.reduceNe, Int.reduceLT, Int.reduceLE, Int.reduceSub, Int.reduceAdd, abuild, afill, abuildS, pureL, chunks, List.range, List.range.loop, Nat.reduceMul, Nat.reduceMod, apartF, apartI, aslice, evI, ASt.subst, AO.box, aval, pvals, ams, Int.toNat_zero, tys, mapTy_69, keyed_3]; (repeat' (first | (with_reducible refine hK2 _ ?_; clear hK2 K2) | (with_reducible refine And.intro ?_ ?_) | (with_reducible intro hb) | fail))))); all_goals ((try simp only [ThenA, InBlock, reduceIte, Nat.reduceEqDiff]); (try ((repeat ((fail_if_success (refine hK _ ?_)); clear hK K)); refine hK _ ?_; clear hK K)))) | (refine T.skip ?_; (try simp only [ThenA, InBlock, reduceIte, Nat.reduceEqDiff]); (try ((repeat ((fail_if_success (refine hK _ ?_)); clear hK K)); refine hK _ ?_; clear hK K))) | (refine T.exit ?_; (try simp only [ThenA, InBlock, reduceIte, Nat.reduceEqDiff]); (try ((repeat ((fail_if_success (refine hK _ ?_)); clear hK K)); refine hK _ ?_; clear hK K))) | (refine T.condT rfl ?_) | (refine T.condF rfl ?_) | (refine T.cond rfl (fun hc => ?_) (fun hc => ?_)) | (refine T.ret ?_; (try simp only [ThenA, InBlock, reduceIte, Nat.reduceEqDiff]); (try ((repeat ((fail_if_success (refine hK _ ?_)); clear hK K)); refine hK _ ?_; clear hK K))))
    obtain ⟨F, hF⟩ : ∃ F : Nat → List (List Pk), F = fun t => (List.range t).foldl (stepR (runsB ths n) ths pos run) l := ⟨_, rfl⟩
    have hF0 : F 0 = l := by rw [hF]; rfl
    have hFs : ∀ t, F (t + 1) = stepR (runsB ths n) ths pos run (F t) t := fun t => by rw [hF]; simp only [List.range_succ, List.foldl_append, List.foldl_cons, List.foldl_nil]
    have hFl : ∀ t, t ≤ ths.length → (F t).length + (if t < ths.length ∧ (stepOf ths pos t).isSome = true then cntB ths n (bump pos t) else 0) ≤ 100000 := fun t ht => by
      have h1 := fold_len (rc := runsB ths n) (ths := ths) (pos := pos) (run := run) (c := cntB ths n) (fun t s l hs => runs_len ths n _ _ l) (List.range t) l
      rw [cntB] at hcl
      have e : List.range ths.length = List.range t ++ (List.range' t (ths.length - t)) := by
        have := List.range'_append_1 (s := 0) (m := t) (n := ths.length - t)
        rw [Nat.zero_add, show t + (ths.length - t) = ths.length by omega] at this
        rw [List.range_eq_range', List.range_eq_range', this]
      rw [e, List.map_append, List.sum_append] at hcl
      rw [hF]
      dsimp only
      by_cases hlt : t < ths.length
      · rw [show ths.length - t = (ths.length - t - 1) + 1 by omega, List.range'_succ, List.map_cons, List.sum_cons] at hcl
        cases hso : (stepOf ths pos t).isSome with
        | true => rw [if_pos ⟨hlt, rfl⟩]; rw [hso, if_pos rfl] at hcl; omega
        | false => rw [if_neg (by simp)]; omega
      · rw [if_neg (by omega)]; omega
    have hFa : ∀ t, ∀ y ∈ F t, y.length ≤ 1000 := fun t => by
      rw [hF]
      exact fold_all (B := 1000) (fun t s l hs hy => runs_all ths 1000 n _ _ l (by simp; omega) hy) (List.range t) l hy
    refine T.loopK (fun t : Nat => ⟨[(0, .p (thsP ths)), (1, .p (.seq 1 (posR pos))), (2, .p (thP run)), (3, .p (.seq 1 (rowOf pksP (F t)))), (9, .bool (endU ths pos t)), (10, .int t)], [], 62, 0⟩) (fun t => t ≤ ths.length) (fun t => ths.length - t) 0 (Nat.zero_le _) (by rw [hF0]; refine Weak.of' rfl ?_; simp only [List.mem_cons, List.not_mem_nil, or_false, forall_eq_or_imp, forall_eq, get_mk, lk_cons, lk_nil, reduceIte, Nat.reduceEqDiff, Option.getD_some, Option.getD_none, AVle_refl, AVle_nil, AVle_int, AVle_bool, AVle_junk, ASt.okB, AV.okB, AO.okB_box, AO.okB_row, AO.okB_map, AO.okB_raw, AO.okB_lrec, AV.okB_agg, AV.okB_tup, AV.okB_fn, List.all_cons, List.all_nil, Bool.and_self, Bool.and_true, Bool.true_and, Nat.reduceLT, decide_true, true_and, and_true, false_implies, implies_true, Int.natCast_zero, thsP, thP, posR, rowOf, endU_zero]) ?_
    rintro t ht KL hKL
    simp only [thsP, thP, posR, rowOf]
    by_cases hlt : t < ths.length
    · have hd : decide ((t : Int) < (ths.length : Int)) = true := by simpa using hlt
      obtain ⟨th, hth⟩ := at_lt hlt
      obtain ⟨k, hk⟩ := at_lt (l := pos) (k := t) (by rw [hp.len]; exact hlt)
      have hkl := hp.le t th k hth hk
      have hes := endU_succ ths pos t
      cases hs : stepOf ths pos t with
      | none =>
        have hke := (stepOf_none hp hth hk).1 hs
        have h1 : ((k : Int) == (th.length : Int)) = true := by simp [hke]
        rw [hs] at hes
        have hf1 := hFs t
        rw [stepR, hs] at hf1
        repeat' (first | (refine T.seqK fun K hK => ?_) | (refine T.block ?_) | (refine T.reg (by kernel_rfl) fun K' hK' => ?_; simp only [startSt, frOf, List.map_cons, List.map_nil]; (repeat' (first | (with_reducible refine WL.fin ?_; refine hK' _ ?_; clear hK' K') | (with_reducible refine WD.fin ?_) | ((first | (with_reducible refine WL.step fun K2 hK2 => ?_) | (with_reducible refine WD.step fun K2 hK2 => ?_)); simp only [WS, WH, WO, WOv, WG, dstOk, hasDst, aop, ASt.ev, aload, aloadC, afield, aindex, abin, abinI, aun, alen, acells, Nat.reduceEqDiff, Nat.reduceLT, Nat.reduceLeDiff, Nat.reduceAdd, reduceIte, reduceCtorEq, implies_true, ASt.add, setHp, asplice, Int.reduceEq, Int.reduceNe, Int.reduceLT, Int.reduceLE, Int.reduceSub, Int.reduceAdd, abuild, afill, abuildS, pureL, chunks, List.range, List.range.loop, Nat.reduceMul, Nat.reduceMod, apartF, apartI, aslice, evI, ASt.subst, AO.box, aval, pvals, ams, Int.toNat_zero, tys, mapTy_69, keyed_3, hd]; (repeat' (first | (with_reducible refine hK2 _ ?_; clear hK2 K2) | (with_reducible refine And.intro ?_ ?_) | (with_reducible intro hb) | fail))))); all_goals ((try simp only [ThenA, InBlock, reduceIte, Nat.reduceEqDiff]); (try ((repeat ((fail_if_success (refine hK _ ?_)); clear hK K)); refine hK _ ?_; clear hK K)))) | (refine T.skip ?_; (try simp only [ThenA, InBlock, reduceIte, Nat.reduceEqDiff]); (try ((repeat ((fail_if_success (refine hK _ ?_)); clear hK K)); refine hK _ ?_; clear hK K))) | (refine T.exit ?_; (try simp only [ThenA, InBlock, reduceIte, Nat.reduceEqDiff]); (try ((repeat ((fail_if_success (refine hK _ ?_)); clear hK K)); refine hK _ ?_; clear hK K))) | (refine T.condT rfl ?_) | (refine T.condF rfl ?_) | (refine T.cond rfl (fun hc => ?_) (fun hc => ?_)) | (refine T.ret ?_; (try simp only [ThenA, InBlock, reduceIte, Nat.reduceEqDiff]); (try ((repeat ((fail_if_success (refine hK _ ?_)); clear hK K)); refine hK _ ?_; clear hK K))))
        refine T.drw 9 (by kernel_rfl) (by kernel_rfl) fun K' hK' => ?_; simp only [List.map_cons, List.map_nil]; (repeat' (first | (with_reducible refine WL.fin ?_; refine hK' _ ?_; clear hK' K') | (with_reducible refine WD.fin ?_) | ((first | (with_reducible refine WL.step fun K2 hK2 => ?_) | (with_reducible refine WD.step fun K2 hK2 => ?_)); simp only [WS, WH, WO, WOv, WG, dstOk, hasDst, aop, ASt.ev, aload, aloadC, afield, aindex, abin, abinI, aun, alen, acells, Nat.reduceEqDiff, Nat.reduceLT, Nat.reduceLeDiff, Nat.reduceAdd, reduceIte, reduceCtorEq, implies_true, ASt.add, setHp, asplice, Int.reduceEq, Int.reduceNe, Int.reduceLT, Int.reduceLE, Int.reduceSub, Int.reduceAdd, abuild, afill, abuildS, pureL, chunks, List.range, List.range.loop, Nat.reduceMul, Nat.reduceMod, apartF, apartI, aslice, evI, ASt.subst, AO.box, aval, pvals, ams, Int.toNat_zero, tys, mapTy_69, keyed_3, hth, hk, h1, thP]; (repeat' (first | (with_reducible refine hK2 _ ?_; clear hK2 K2) | (with_reducible refine And.intro ?_ ?_) | (with_reducible intro hb) | fail))))); all_goals ((try simp only [ThenA, InBlock, reduceIte, Nat.reduceEqDiff]); (try ((repeat ((fail_if_success (refine hK _ ?_)); clear hK K)); refine hK _ ?_; clear hK K)))
        all_goals (repeat' (first | (refine T.seqK fun K hK => ?_) | (refine T.block ?_) | (refine T.reg (by kernel_rfl) fun K' hK' => ?_; simp only [startSt, frOf, List.map_cons, List.map_nil]; (repeat' (first | (with_reducible refine WL.fin ?_; refine hK' _ ?_; clear hK' K') | (with_reducible refine WD.fin ?_) | ((first | (with_reducible refine WL.step fun K2 hK2 => ?_) | (with_reducible refine WD.step fun K2 hK2 => ?_)); simp only [WS, WH, WO, WOv, WG, dstOk, hasDst, aop, ASt.ev, aload, aloadC, afield, aindex, abin, abinI, aun, alen, acells, Nat.reduceEqDiff, Nat.reduceLT, Nat.reduceLeDiff, Nat.reduceAdd, reduceIte, reduceCtorEq, implies_true, ASt.add, setHp, asplice, Int.reduceEq, Int.reduceNe, Int.reduceLT, Int.reduceLE, Int.reduceSub, Int.reduceAdd, abuild, afill, abuildS, pureL, chunks, List.range, List.range.loop, Nat.reduceMul, Nat.reduceMod, apartF, apartI, aslice, evI, ASt.subst, AO.box, aval, pvals, ams, Int.toNat_zero, tys, mapTy_69, keyed_3]; (repeat' (first | (with_reducible refine hK2 _ ?_; clear hK2 K2) | (with_reducible refine And.intro ?_ ?_) | (with_reducible intro hb) | fail))))); all_goals ((try simp only [ThenA, InBlock, reduceIte, Nat.reduceEqDiff]); (try ((repeat ((fail_if_success (refine hK _ ?_)); clear hK K)); refine hK _ ?_; clear hK K)))) | (refine T.skip ?_; (try simp only [ThenA, InBlock, reduceIte, Nat.reduceEqDiff]); (try ((repeat ((fail_if_success (refine hK _ ?_)); clear hK K)); refine hK _ ?_; clear hK K))) | (refine T.exit ?_; (try simp only [ThenA, InBlock, reduceIte, Nat.reduceEqDiff]); (try ((repeat ((fail_if_success (refine hK _ ?_)); clear hK K)); refine hK _ ?_; clear hK K))) | (refine T.condT rfl ?_) | (refine T.condF rfl ?_) | (refine T.cond rfl (fun hc => ?_) (fun hc => ?_)) | (refine T.ret ?_; (try simp only [ThenA, InBlock, reduceIte, Nat.reduceEqDiff]); (try ((repeat ((fail_if_success (refine hK _ ?_)); clear hK K)); refine hK _ ?_; clear hK K)))))
        refine hKL _ (t + 1) ?_ (by omega) (by omega)
        rw [hf1, hes]
        refine Weak.of' rfl ?_; simp only [List.mem_cons, List.not_mem_nil, or_false, forall_eq_or_imp, forall_eq, get_mk, lk_cons, lk_nil, reduceIte, Nat.reduceEqDiff, Option.getD_some, Option.getD_none, AVle_refl, AVle_nil, AVle_int, AVle_bool, AVle_junk, ASt.okB, AV.okB, AO.okB_box, AO.okB_row, AO.okB_map, AO.okB_raw, AO.okB_lrec, AV.okB_agg, AV.okB_tup, AV.okB_fn, List.all_cons, List.all_nil, Bool.and_self, Bool.and_true, Bool.true_and, Nat.reduceLT, decide_true, true_and, and_true, false_implies, implies_true, wrap_succ (show t < 1152921504606846976 by omega), thsP, thP, posR, rowOf, Option.isNone_none, Bool.and_true]
      | some s =>
        have hke : ¬ k = th.length := fun e => by rw [(stepOf_none hp hth hk).2 e] at hs; cases hs
        have h1 : ((k : Int) == (th.length : Int)) = false := by simp; omega
        rw [hs] at hes
        have hf1 := hFs t
        rw [stepR, hs] at hf1
        dsimp only at hf1
        have hFl1 := hFl t ht
        rw [hs, if_pos ⟨hlt, rfl⟩] at hFl1
        have hsv : StV s := by
          obtain ⟨l0, k0, g1, g2, g3⟩ := stepOf_some.1 hs
          exact (hst l0 (List.mem_of_getElem? g1)).2 s (List.mem_of_getElem? g3)
        have hih := rruns_ok ths h8 hst n (bump pos t) (run ++ [s]) (F t) (pos_bump hp hs) (by have := rem_bump hs; omega) (fun x hx => by
          rcases List.mem_append.1 hx with hx | hx
          · exact hrun x hx
          · rw [List.mem_singleton.1 hx]; exact hsv) (by simp; omega) hFl1 (hFa t)
        rw [← hf1] at hih
        obtain ⟨F1, hF1⟩ : ∃ F1, F1 = F (t + 1) := ⟨_, rfl⟩
        rw [← hF1] at hih
        have hthk : th[k]? = some s := by
          obtain ⟨l0, k0, g1, g2, g3⟩ := stepOf_some.1 hs
          rw [hth] at g1; cases g1
          rw [hk] at g2; cases g2
          exact g3
        have hbu : (posR pos).set t [.val (.int .i64 ((k + 1 : Nat) : Int))] = posR (bump pos t) := by
          simp only [posR, bump, List.getD_eq_getElem?_getD, hk, Option.getD_some, List.map_set]
        simp only [posR] at hbu
        have hpl : pos.length ≤ maxLen := by rw [hp.len]; unfold maxLen; omega
        have hpl2 : pos.length * 8 ≤ 140737488355328 := by rw [hp.len]; omega
        have htp : t < pos.length := by rw [hp.len]; exact hlt
        have hw1 : IntKind.i64.wrap ((k : Int) + 1) = ((k + 1 : Nat) : Int) := wrap_succ (by have := (hst th (List.mem_of_getElem? hth)).1; omega)
        have ho1 : run.length ≤ maxLen := by unfold maxLen; omega
        have ho2 : run.length * 64 ≤ 140737488355328 := by omega
        have ho3 : run.length + 1 ≤ maxLen := by unfold maxLen; omega
        have ho4 : (run.length + 1) * 64 ≤ 140737488355328 := by omega
        simp only [thsP, thP, posR, rowOf, List.map_append, List.map_cons, List.map_nil] at hih
        repeat' (first | (refine T.seqK fun K hK => ?_) | (refine T.block ?_) | (refine T.reg (by kernel_rfl) fun K' hK' => ?_; simp only [startSt, frOf, List.map_cons, List.map_nil]; (repeat' (first | (with_reducible refine WL.fin ?_; refine hK' _ ?_; clear hK' K') | (with_reducible refine WD.fin ?_) | ((first | (with_reducible refine WL.step fun K2 hK2 => ?_) | (with_reducible refine WD.step fun K2 hK2 => ?_)); simp only [WS, WH, WO, WOv, WG, dstOk, hasDst, aop, ASt.ev, aload, aloadC, afield, aindex, abin, abinI, aun, alen, acells, Nat.reduceEqDiff, Nat.reduceLT, Nat.reduceLeDiff, Nat.reduceAdd, reduceIte, reduceCtorEq, implies_true, ASt.add, setHp, asplice, Int.reduceEq, Int.reduceNe, Int.reduceLT, Int.reduceLE, Int.reduceSub, Int.reduceAdd, abuild, afill, abuildS, pureL, chunks, List.range, List.range.loop, Nat.reduceMul, Nat.reduceMod, apartF, apartI, aslice, evI, ASt.subst, AO.box, aval, pvals, ams, Int.toNat_zero, tys, mapTy_69, keyed_3, hd]; (repeat' (first | (with_reducible refine hK2 _ ?_; clear hK2 K2) | (with_reducible refine And.intro ?_ ?_) | (with_reducible intro hb) | fail))))); all_goals ((try simp only [ThenA, InBlock, reduceIte, Nat.reduceEqDiff]); (try ((repeat ((fail_if_success (refine hK _ ?_)); clear hK K)); refine hK _ ?_; clear hK K)))) | (refine T.skip ?_; (try simp only [ThenA, InBlock, reduceIte, Nat.reduceEqDiff]); (try ((repeat ((fail_if_success (refine hK _ ?_)); clear hK K)); refine hK _ ?_; clear hK K))) | (refine T.exit ?_; (try simp only [ThenA, InBlock, reduceIte, Nat.reduceEqDiff]); (try ((repeat ((fail_if_success (refine hK _ ?_)); clear hK K)); refine hK _ ?_; clear hK K))) | (refine T.condT rfl ?_) | (refine T.condF rfl ?_) | (refine T.cond rfl (fun hc => ?_) (fun hc => ?_)) | (refine T.ret ?_; (try simp only [ThenA, InBlock, reduceIte, Nat.reduceEqDiff]); (try ((repeat ((fail_if_success (refine hK _ ?_)); clear hK K)); refine hK _ ?_; clear hK K))))
        refine T.drw 9 (by kernel_rfl) (by kernel_rfl) fun K' hK' => ?_; simp only [List.map_cons, List.map_nil]; (repeat' (first | (with_reducible refine WL.fin ?_; refine hK' _ ?_; clear hK' K') | (with_reducible refine WD.fin ?_) | ((first | (with_reducible refine WL.step fun K2 hK2 => ?_) | (with_reducible refine WD.step fun K2 hK2 => ?_)); simp only [WS, WH, WO, WOv, WG, dstOk, hasDst, aop, ASt.ev, aload, aloadC, afield, aindex, abin, abinI, aun, alen, acells, Nat.reduceEqDiff, Nat.reduceLT, Nat.reduceLeDiff, Nat.reduceAdd, reduceIte, reduceCtorEq, implies_true, ASt.add, setHp, asplice, Int.reduceEq, Int.reduceNe, Int.reduceLT, Int.reduceLE, Int.reduceSub, Int.reduceAdd, abuild, afill, abuildS, pureL, chunks, List.range, List.range.loop, Nat.reduceMul, Nat.reduceMod, apartF, apartI, aslice, evI, ASt.subst, AO.box, aval, pvals, ams, Int.toNat_zero, tys, mapTy_69, keyed_3, hth, hk, h1, thP]; (repeat' (first | (with_reducible refine hK2 _ ?_; clear hK2 K2) | (with_reducible refine And.intro ?_ ?_) | (with_reducible intro hb) | fail))))); all_goals ((try simp only [ThenA, InBlock, reduceIte, Nat.reduceEqDiff]); (try ((repeat ((fail_if_success (refine hK _ ?_)); clear hK K)); refine hK _ ?_; clear hK K)))
        all_goals (repeat' (first | (refine T.seqK fun K hK => ?_) | (refine T.block ?_) | (refine T.reg (by kernel_rfl) fun K' hK' => ?_; simp only [startSt, frOf, List.map_cons, List.map_nil]; (repeat' (first | (with_reducible refine WL.fin ?_; refine hK' _ ?_; clear hK' K') | (with_reducible refine WD.fin ?_) | ((first | (with_reducible refine WL.step fun K2 hK2 => ?_) | (with_reducible refine WD.step fun K2 hK2 => ?_)); simp only [WS, WH, WO, WOv, WG, dstOk, hasDst, aop, ASt.ev, aload, aloadC, afield, aindex, abin, abinI, aun, alen, acells, Nat.reduceEqDiff, Nat.reduceLT, Nat.reduceLeDiff, Nat.reduceAdd, reduceIte, reduceCtorEq, implies_true, ASt.add, setHp, asplice, Int.reduceEq, Int.reduceNe, Int.reduceLT, Int.reduceLE, Int.reduceSub, Int.reduceAdd, abuild, afill, abuildS, pureL, chunks, List.range, List.range.loop, Nat.reduceMul, Nat.reduceMod, apartF, apartI, aslice, evI, ASt.subst, AO.box, aval, pvals, ams, Int.toNat_zero, tys, mapTy_69, keyed_3, hpl, hpl2, htp, hk, hw1, hbu]; (repeat' (first | (with_reducible refine hK2 _ ?_; clear hK2 K2) | (with_reducible refine And.intro ?_ ?_) | (with_reducible intro hb) | fail))))); all_goals ((try simp only [ThenA, InBlock, reduceIte, Nat.reduceEqDiff]); (try ((repeat ((fail_if_success (refine hK _ ?_)); clear hK K)); refine hK _ ?_; clear hK K)))) | (refine T.skip ?_; (try simp only [ThenA, InBlock, reduceIte, Nat.reduceEqDiff]); (try ((repeat ((fail_if_success (refine hK _ ?_)); clear hK K)); refine hK _ ?_; clear hK K))) | (refine T.exit ?_; (try simp only [ThenA, InBlock, reduceIte, Nat.reduceEqDiff]); (try ((repeat ((fail_if_success (refine hK _ ?_)); clear hK K)); refine hK _ ?_; clear hK K))) | (refine T.condT rfl ?_) | (refine T.condF rfl ?_) | (refine T.cond rfl (fun hc => ?_) (fun hc => ?_)) | (refine T.ret ?_; (try simp only [ThenA, InBlock, reduceIte, Nat.reduceEqDiff]); (try ((repeat ((fail_if_success (refine hK _ ?_)); clear hK K)); refine hK _ ?_; clear hK K)))))
        refine T.weak (Weak.frz _ 0) ?_; simp only [ASt.frz, List.filter_cons, List.filter_nil, bne_self_eq_false, Nat.reduceBneDiff, Bool.false_eq_true, WS, WH, WO, WOv, WG, dstOk, hasDst, aop, ASt.ev, aload, aloadC, afield, aindex, abin, abinI, aun, alen, acells, Nat.reduceEqDiff, Nat.reduceLT, Nat.reduceLeDiff, Nat.reduceAdd, reduceIte, reduceCtorEq, implies_true, ASt.add, setHp, asplice, Int.reduceEq, Int.reduceNe, Int.reduceLT, Int.reduceLE, Int.reduceSub, Int.reduceAdd, abuild, afill, abuildS, pureL, chunks, List.range, List.range.loop, Nat.reduceMul, Nat.reduceMod, apartF, apartI, aslice, evI, ASt.subst, AO.box, aval, pvals, ams, ]
        refine T.commT 18 [some (0, 3), some (0, 3), none, some (0, 1), none, some (0, 3), some (0, 3), some (0, 3), some (0, 3), some (0, 3), some (0, 3), some (0, 3), some (0, 3), some (0, 3), some (0, 3), some (0, 2), none, some (0, 3)] (by kernel_rfl) (by kernel_rfl) fun K' hK' => ?_; simp only [List.map_cons, List.map_nil, List.take_succ_cons, List.take_zero, List.zip_cons_cons, List.zip_nil_left, List.drop_succ_cons, List.drop_zero] at hK' ⊢; (repeat' (first | (with_reducible refine WC.fin ?_; refine hK' _ ?_; clear hK' K') | ((first | (with_reducible refine WC.stepV fun K2 hK2 => ?_) | (with_reducible refine WC.stepW fun K2 hK2 => ?_)); simp only [WS, WH, WO, WOv, WG, dstOk, hasDst, aop, ASt.ev, aload, aloadC, afield, aindex, abin, abinI, aun, alen, acells, Nat.reduceEqDiff, Nat.reduceLT, Nat.reduceLeDiff, Nat.reduceAdd, reduceIte, reduceCtorEq, implies_true, ASt.add, setHp, asplice, Int.reduceEq, Int.reduceNe, Int.reduceLT, Int.reduceLE, Int.reduceSub, Int.reduceAdd, abuild, afill, abuildS, pureL, chunks, List.range, List.range.loop, Nat.reduceMul, Nat.reduceMod, apartF, apartI, aslice, evI, ASt.subst, AO.box, aval, pvals, ams, Int.toNat_zero, WCg, WCv, WOw, allP, dav, Chk, List.filter_cons, List.filter_nil, bne_self_eq_false, Nat.reduceBneDiff, Bool.false_eq_true, tys, mapTy_69, keyed_3, hth, hk, hthk, thP, stC, ho1, ho2, ho3, ho4, hm1]; (repeat' (first | (with_reducible refine hK2 _ _ ?_; clear hK2 K2) | (with_reducible refine hK2 _ ?_; clear hK2 K2) | (with_reducible refine And.intro ?_ ?_) | (with_reducible intro hb) | (with_reducible rfl) | ((with_reducible show @Eq ASt _ _); rfl) | fail)))))
        refine WLW.weak (Weak.frz _ 3) ?_; simp only [ASt.frz, List.filter_cons, List.filter_nil, bne_self_eq_false, Nat.reduceBneDiff, Bool.false_eq_true, WS, WH, WO, WOv, WG, dstOk, hasDst, aop, ASt.ev, aload, aloadC, afield, aindex, abin, abinI, aun, alen, acells, Nat.reduceEqDiff, Nat.reduceLT, Nat.reduceLeDiff, Nat.reduceAdd, reduceIte, reduceCtorEq, implies_true, ASt.add, setHp, asplice, Int.reduceEq, Int.reduceNe, Int.reduceLT, Int.reduceLE, Int.reduceSub, Int.reduceAdd, abuild, afill, abuildS, pureL, chunks, List.range, List.range.loop, Nat.reduceMul, Nat.reduceMod, apartF, apartI, aslice, evI, ASt.subst, AO.box, aval, pvals, ams, ]
        (repeat' (first | (with_reducible refine WLW.fin ?_) | ((with_reducible refine WLW.step fun K2 hK2 => ?_); simp only [WS, WH, WO, WOv, WG, dstOk, hasDst, aop, ASt.ev, aload, aloadC, afield, aindex, abin, abinI, aun, alen, acells, Nat.reduceEqDiff, Nat.reduceLT, Nat.reduceLeDiff, Nat.reduceAdd, reduceIte, reduceCtorEq, implies_true, ASt.add, setHp, asplice, Int.reduceEq, Int.reduceNe, Int.reduceLT, Int.reduceLE, Int.reduceSub, Int.reduceAdd, abuild, afill, abuildS, pureL, chunks, List.range, List.range.loop, Nat.reduceMul, Nat.reduceMod, apartF, apartI, aslice, evI, ASt.subst, AO.box, aval, pvals, ams, Int.toNat_zero, tys, mapTy_69, keyed_3]; (repeat' (first | (with_reducible refine hK2 _ ?_; clear hK2 K2) | (with_reducible refine And.intro ?_ ?_) | (with_reducible intro hb) | ((first | (with_reducible apply callArmO) | (with_reducible apply callArm)); case h => exact CallV.plain (Ent.of Try.func32 (by kernel_rfl) rfl) (hih) (by simp [AV.okB])))))))
        all_goals ((try simp only [ThenA, InBlock, reduceIte, Nat.reduceEqDiff]); (try ((repeat ((fail_if_success (refine hK _ ?_)); clear hK K)); refine hK _ ?_; clear hK K)))
        all_goals (repeat' (first | (refine T.seqK fun K hK => ?_) | (refine T.block ?_) | (refine T.reg (by kernel_rfl) fun K' hK' => ?_; simp only [startSt, frOf, List.map_cons, List.map_nil]; (repeat' (first | (with_reducible refine WL.fin ?_; refine hK' _ ?_; clear hK' K') | (with_reducible refine WD.fin ?_) | ((first | (with_reducible refine WL.step fun K2 hK2 => ?_) | (with_reducible refine WD.step fun K2 hK2 => ?_)); simp only [WS, WH, WO, WOv, WG, dstOk, hasDst, aop, ASt.ev, aload, aloadC, afield, aindex, abin, abinI, aun, alen, acells, Nat.reduceEqDiff, Nat.reduceLT, Nat.reduceLeDiff, Nat.reduceAdd, reduceIte, reduceCtorEq, implies_true, ASt.add, setHp, asplice, Int.reduceEq, Int.reduceNe, Int.reduceLT, Int.reduceLE, Int.reduceSub, Int.reduceAdd, abuild, afill, abuildS, pureL, chunks, List.range, List.range.loop, Nat.reduceMul, Nat.reduceMod, apartF, apartI, aslice, evI, ASt.subst, AO.box, aval, pvals, ams, Int.toNat_zero, tys, mapTy_69, keyed_3]; (repeat' (first | (with_reducible refine hK2 _ ?_; clear hK2 K2) | (with_reducible refine And.intro ?_ ?_) | (with_reducible intro hb) | fail))))); all_goals ((try simp only [ThenA, InBlock, reduceIte, Nat.reduceEqDiff]); (try ((repeat ((fail_if_success (refine hK _ ?_)); clear hK K)); refine hK _ ?_; clear hK K)))) | (refine T.skip ?_; (try simp only [ThenA, InBlock, reduceIte, Nat.reduceEqDiff]); (try ((repeat ((fail_if_success (refine hK _ ?_)); clear hK K)); refine hK _ ?_; clear hK K))) | (refine T.exit ?_; (try simp only [ThenA, InBlock, reduceIte, Nat.reduceEqDiff]); (try ((repeat ((fail_if_success (refine hK _ ?_)); clear hK K)); refine hK _ ?_; clear hK K))) | (refine T.condT rfl ?_) | (refine T.condF rfl ?_) | (refine T.cond rfl (fun hc => ?_) (fun hc => ?_)) | (refine T.ret ?_; (try simp only [ThenA, InBlock, reduceIte, Nat.reduceEqDiff]); (try ((repeat ((fail_if_success (refine hK _ ?_)); clear hK K)); refine hK _ ?_; clear hK K)))))
        refine hKL _ (t + 1) ?_ (by omega) (by omega)
        rw [hes, ← hF1]
        refine Weak.of' rfl ?_; simp only [List.mem_cons, List.not_mem_nil, or_false, forall_eq_or_imp, forall_eq, get_mk, lk_cons, lk_nil, reduceIte, Nat.reduceEqDiff, Option.getD_some, Option.getD_none, AVle_refl, AVle_nil, AVle_int, AVle_bool, AVle_junk, ASt.okB, AV.okB, AO.okB_box, AO.okB_row, AO.okB_map, AO.okB_raw, AO.okB_lrec, AV.okB_agg, AV.okB_tup, AV.okB_fn, List.all_cons, List.all_nil, Bool.and_self, Bool.and_true, Bool.true_and, Nat.reduceLT, decide_true, true_and, and_true, false_implies, implies_true, wrap_succ (show t < 1152921504606846976 by omega), thsP, thP, posR, rowOf, Option.isNone_some, Bool.and_false]
    · have hd : decide ((t : Int) < (ths.length : Int)) = false := by simpa using hlt
      obtain rfl : t = ths.length := by omega
      clear hKL
      have hFe : F ths.length = (List.range ths.length).foldl (stepR (runsB ths n) ths pos run) l := by rw [hF]
      have hre : runsB ths (n + 1) pos run l = if endU ths pos ths.length = true then putB (F ths.length) (canB run) else F ths.length := by rw [runsB, ← hFe]
      have hFl1 := hFl ths.length (Nat.le_refl _)
      have hFa1 := hFa ths.length
      obtain ⟨F1, hF1⟩ : ∃ F1, F1 = F ths.length := ⟨_, rfl⟩
      rw [← hF1] at hFl1 hFa1 hre ⊢
      cases he : endU ths pos ths.length with
      | false =>
        rw [he, if_neg (by simp)] at hre
        repeat' (first | (refine T.seqK fun K hK => ?_) | (refine T.block ?_) | (refine T.reg (by kernel_rfl) fun K' hK' => ?_; simp only [startSt, frOf, List.map_cons, List.map_nil]; (repeat' (first | (with_reducible refine WL.fin ?_; refine hK' _ ?_; clear hK' K') | (with_reducible refine WD.fin ?_) | ((first | (with_reducible refine WL.step fun K2 hK2 => ?_) | (with_reducible refine WD.step fun K2 hK2 => ?_)); simp only [WS, WH, WO, WOv, WG, dstOk, hasDst, aop, ASt.ev, aload, aloadC, afield, aindex, abin, abinI, aun, alen, acells, Nat.reduceEqDiff, Nat.reduceLT, Nat.reduceLeDiff, Nat.reduceAdd, reduceIte, reduceCtorEq, implies_true, ASt.add, setHp, asplice, Int.reduceEq, Int.reduceNe, Int.reduceLT, Int.reduceLE, Int.reduceSub, Int.reduceAdd, abuild, afill, abuildS, pureL, chunks, List.range, List.range.loop, Nat.reduceMul, Nat.reduceMod, apartF, apartI, aslice, evI, ASt.subst, AO.box, aval, pvals, ams, Int.toNat_zero, tys, mapTy_69, keyed_3, hd]; (repeat' (first | (with_reducible refine hK2 _ ?_; clear hK2 K2) | (with_reducible refine And.intro ?_ ?_) | (with_reducible intro hb) | fail))))); all_goals ((try simp only [ThenA, InBlock, reduceIte, Nat.reduceEqDiff]); (try ((repeat ((fail_if_success (refine hK _ ?_)); clear hK K)); refine hK _ ?_; clear hK K)))) | (refine T.skip ?_; (try simp only [ThenA, InBlock, reduceIte, Nat.reduceEqDiff]); (try ((repeat ((fail_if_success (refine hK _ ?_)); clear hK K)); refine hK _ ?_; clear hK K))) | (refine T.exit ?_; (try simp only [ThenA, InBlock, reduceIte, Nat.reduceEqDiff]); (try ((repeat ((fail_if_success (refine hK _ ?_)); clear hK K)); refine hK _ ?_; clear hK K))) | (refine T.condT rfl ?_) | (refine T.condF rfl ?_) | (refine T.cond rfl (fun hc => ?_) (fun hc => ?_)) | (refine T.ret ?_; (try simp only [ThenA, InBlock, reduceIte, Nat.reduceEqDiff]); (try ((repeat ((fail_if_success (refine hK _ ?_)); clear hK K)); refine hK _ ?_; clear hK K))))
        refine FinA.ret (.inr rfl) Try.results32 ?_; simp only [ares, aresL, ares1, WS, WH, WO, WOv, WG, dstOk, hasDst, aop, ASt.ev, aload, aloadC, afield, aindex, abin, abinI, aun, alen, acells, Nat.reduceEqDiff, Nat.reduceLT, Nat.reduceLeDiff, Nat.reduceAdd, reduceIte, reduceCtorEq, implies_true, ASt.add, setHp, asplice, Int.reduceEq, Int.reduceNe, Int.reduceLT, Int.reduceLE, Int.reduceSub, Int.reduceAdd, abuild, afill, abuildS, pureL, chunks, List.range, List.range.loop, Nat.reduceMul, Nat.reduceMod, apartF, apartI, aslice, evI, ASt.subst, AO.box, aval, pvals, ams, tys, mapTy_69, keyed_3, rowOf]
        rw [hre]
      | true =>
        rw [he, if_pos rfl] at hre
        have hca := rcanonical_ok run (by omega) hrun
        have hpu := put_ok F1 (canB run) (by omega) (by have := can_len run; omega) (fun y hy => by have := hFa1 y hy; omega)
        simp only [thP, rowOf] at hca hpu
        repeat' (first | (refine T.seqK fun K hK => ?_) | (refine T.block ?_) | (refine T.reg (by kernel_rfl) fun K' hK' => ?_; simp only [startSt, frOf, List.map_cons, List.map_nil]; (repeat' (first | (with_reducible refine WL.fin ?_; refine hK' _ ?_; clear hK' K') | (with_reducible refine WD.fin ?_) | ((first | (with_reducible refine WL.step fun K2 hK2 => ?_) | (with_reducible refine WD.step fun K2 hK2 => ?_)); simp only [WS, WH, WO, WOv, WG, dstOk, hasDst, aop, ASt.ev, aload, aloadC, afield, aindex, abin, abinI, aun, alen, acells, Nat.reduceEqDiff, Nat.reduceLT, Nat.reduceLeDiff, Nat.reduceAdd, reduceIte, reduceCtorEq, implies_true, ASt.add, setHp, asplice, Int.reduceEq, Int.reduceNe, Int.reduceLT, Int.reduceLE, Int.reduceSub, Int.reduceAdd, abuild, afill, abuildS, pureL, chunks, List.range, List.range.loop, Nat.reduceMul, Nat.reduceMod, apartF, apartI, aslice, evI, ASt.subst, AO.box, aval, pvals, ams, Int.toNat_zero, tys, mapTy_69, keyed_3, hd]; (repeat' (first | (with_reducible refine hK2 _ ?_; clear hK2 K2) | (with_reducible refine And.intro ?_ ?_) | (with_reducible intro hb) | ((first | (with_reducible apply callArmO) | (with_reducible apply callArm)); case h => exact CallV.plain (Ent.of Try.func43 (by kernel_rfl) rfl) (hca) (by simp [AV.okB])) | ((first | (with_reducible apply callArmO) | (with_reducible apply callArm)); case h => exact CallV.plain (Ent.of Try.func42 (by kernel_rfl) rfl) (hpu) (by simp [AV.okB]))))))); all_goals ((try simp only [ThenA, InBlock, reduceIte, Nat.reduceEqDiff]); (try ((repeat ((fail_if_success (refine hK _ ?_)); clear hK K)); refine hK _ ?_; clear hK K)))) | (refine T.skip ?_; (try simp only [ThenA, InBlock, reduceIte, Nat.reduceEqDiff]); (try ((repeat ((fail_if_success (refine hK _ ?_)); clear hK K)); refine hK _ ?_; clear hK K))) | (refine T.exit ?_; (try simp only [ThenA, InBlock, reduceIte, Nat.reduceEqDiff]); (try ((repeat ((fail_if_success (refine hK _ ?_)); clear hK K)); refine hK _ ?_; clear hK K))) | (refine T.condT rfl ?_) | (refine T.condF rfl ?_) | (refine T.cond rfl (fun hc => ?_) (fun hc => ?_)) | (refine T.ret ?_; (try simp only [ThenA, InBlock, reduceIte, Nat.reduceEqDiff]); (try ((repeat ((fail_if_success (refine hK _ ?_)); clear hK K)); refine hK _ ?_; clear hK K))))
        refine FinA.ret (.inr rfl) Try.results32 ?_; simp only [ares, aresL, ares1, WS, WH, WO, WOv, WG, dstOk, hasDst, aop, ASt.ev, aload, aloadC, afield, aindex, abin, abinI, aun, alen, acells, Nat.reduceEqDiff, Nat.reduceLT, Nat.reduceLeDiff, Nat.reduceAdd, reduceIte, reduceCtorEq, implies_true, ASt.add, setHp, asplice, Int.reduceEq, Int.reduceNe, Int.reduceLT, Int.reduceLE, Int.reduceSub, Int.reduceAdd, abuild, afill, abuildS, pureL, chunks, List.range, List.range.loop, Nat.reduceMul, Nat.reduceMod, apartF, apartI, aslice, evI, ASt.subst, AO.box, aval, pvals, ams, tys, mapTy_69, keyed_3, rowOf]
        rw [hre]
theorem pos_zero (ths : List (List St)) : PosOk ths (List.replicate ths.length 0) := ⟨by simp, fun t l k h1 h2 => by
    rw [List.getElem?_replicate] at h2
    split at h2
    · cases h2; exact Nat.zero_le _
    · cases h2⟩
theorem small_cnt {ths : List (List St)} (hv : validB ths = true) (hs : smallB ths = true) : cntB ths 13 (List.replicate ths.length 0) ≤ 400 := by
  have h12 := (validB_ok hv).2.2.1
  rw [cnt_mul ths (n := 13) (by omega)]
  simp only [smallB, hv, Bool.not_true, Bool.false_or, decide_eq_true_eq] at hs
  exact hs
set_option maxHeartbeats 8000000 in
set_option maxRecDepth 100000 in
theorem rexplore_ok (ths : List (List St)) (hf : fewB ths = true) (hs : smallB ths = true) : PureC Try.prog 17 [.p (thsP ths)] (.p (.seq 1 (rowOf pksP (exploreB (validB ths) ths)))) := by
  have hrv := rvalid_at ths hf
  cases hv : validB ths with
  | false =>
    rw [hv] at hrv
    have he : exploreB false ths = [] := by simp [exploreB]
    rw [he]
    simp only [thsP, rowOf, List.map_nil] at hrv ⊢
    refine PureC.of Try.func17 rfl 11 rfl (by decide) (by simp [AV.okB]) ?_
    repeat' (first | (refine T.seqK fun K hK => ?_) | (refine T.block ?_) | (refine T.reg (by kernel_rfl) fun K' hK' => ?_; simp only [startSt, frOf, List.map_cons, List.map_nil]; (repeat' (first | (with_reducible refine WL.fin ?_; refine hK' _ ?_; clear hK' K') | (with_reducible refine WD.fin ?_) | ((first | (with_reducible refine WL.step fun K2 hK2 => ?_) | (with_reducible refine WD.step fun K2 hK2 => ?_)); simp only [WS, WH, WO, WOv, WG, dstOk, hasDst, aop, ASt.ev, aload, aloadC, afield, aindex, abin, abinI, aun, alen, acells, Nat.reduceEqDiff, Nat.reduceLT, Nat.reduceLeDiff, Nat.reduceAdd, reduceIte, reduceCtorEq, implies_true, ASt.add, setHp, asplice, Int.reduceEq, Int.reduceNe, Int.reduceLT, Int.reduceLE, Int.reduceSub, Int.reduceAdd, abuild, afill, abuildS, pureL, chunks, List.range, List.range.loop, Nat.reduceMul, Nat.reduceMod, apartF, apartI, aslice, evI, ASt.subst, AO.box, aval, pvals, ams, Int.toNat_zero, tys, mapTy_69, keyed_3]; (repeat' (first | (with_reducible refine hK2 _ ?_; clear hK2 K2) | (with_reducible refine And.intro ?_ ?_) | (with_reducible intro hb) | ((first | (with_reducible apply callArmO) | (with_reducible apply callArm)); case h => exact CallV.plain (Ent.of Try.func11 (by kernel_rfl) rfl) (hrv) (by simp [AV.okB]))))))); all_goals ((try simp only [ThenA, InBlock, reduceIte, Nat.reduceEqDiff]); (try ((repeat ((fail_if_success (refine hK _ ?_)); clear hK K)); refine hK _ ?_; clear hK K)))) | (refine T.skip ?_; (try simp only [ThenA, InBlock, reduceIte, Nat.reduceEqDiff]); (try ((repeat ((fail_if_success (refine hK _ ?_)); clear hK K)); refine hK _ ?_; clear hK K))) | (refine T.exit ?_; (try simp only [ThenA, InBlock, reduceIte, Nat.reduceEqDiff]); (try ((repeat ((fail_if_success (refine hK _ ?_)); clear hK K)); refine hK _ ?_; clear hK K))) | (refine T.condT rfl ?_) | (refine T.condF rfl ?_) | (refine T.cond rfl (fun hc => ?_) (fun hc => ?_)) | (refine T.ret ?_; (try simp only [ThenA, InBlock, reduceIte, Nat.reduceEqDiff]); (try ((repeat ((fail_if_success (refine hK _ ?_)); clear hK K)); refine hK _ ?_; clear hK K))))
    refine FinA.retW (s' := ⟨[(2, .p (.seq 1 []))], [], 11, 0⟩) (.inr rfl) Try.results17 (by refine Weak.of' rfl ?_; simp only [List.mem_cons, List.not_mem_nil, or_false, forall_eq_or_imp, forall_eq, get_mk, lk_cons, lk_nil, reduceIte, Nat.reduceEqDiff, Option.getD_some, Option.getD_none, AVle_refl, AVle_nil, AVle_int, AVle_bool, AVle_junk, ASt.okB, AV.okB, AO.okB_box, AO.okB_row, AO.okB_map, AO.okB_raw, AO.okB_lrec, AV.okB_agg, AV.okB_tup, AV.okB_fn, List.all_cons, List.all_nil, Bool.and_self, Bool.and_true, Bool.true_and, Nat.reduceLT, decide_true, true_and, and_true, false_implies, implies_true, ]) ?_
    simp only [ares, aresL, ares1, WS, WH, WO, WOv, WG, dstOk, hasDst, aop, ASt.ev, aload, aloadC, afield, aindex, abin, abinI, aun, alen, acells, Nat.reduceEqDiff, Nat.reduceLT, Nat.reduceLeDiff, Nat.reduceAdd, reduceIte, reduceCtorEq, implies_true, ASt.add, setHp, asplice, Int.reduceEq, Int.reduceNe, Int.reduceLT, Int.reduceLE, Int.reduceSub, Int.reduceAdd, abuild, afill, abuildS, pureL, chunks, List.range, List.range.loop, Nat.reduceMul, Nat.reduceMod, apartF, apartI, aslice, evI, ASt.subst, AO.box, aval, pvals, ams]
  | true =>
    rw [hv] at hrv
    rw [explore_eq hv]
    obtain ⟨h1, h8, h12, _⟩ := validB_ok hv
    have hml : ths.length ≤ maxLen := by unfold maxLen; omega
    have hmb : 8 * ths.length ≤ 140737488355328 := by omega
    have hst : ∀ l ∈ ths, l.length ≤ 1000 ∧ ∀ s ∈ l, StV s := fun l hl => ⟨(few_st hf l hl).1, valid_stv hf hv l hl⟩
    have hru := rruns_ok ths h8 hst 13 (List.replicate ths.length 0) [] [] (pos_zero ths) (by omega) (fun s hs => by cases hs) (by simp) (by have := small_cnt hv hs; simp; omega) (fun y hy => by cases hy)
    change PureC _ _ _ (.p (.seq 1 (rowOf pksP (rexB ths)))) at hru
    have hrep : posR (List.replicate ths.length 0) = List.replicate ths.length [.val (.int .i64 0)] := by simp [posR]
    rw [hrep] at hru
    simp only [thsP, thP, List.map_nil, rowOf] at hrv hru ⊢
    refine PureC.of Try.func17 rfl 11 rfl (by decide) (by simp [AV.okB]) ?_
    repeat' (first | (refine T.seqK fun K hK => ?_) | (refine T.block ?_) | (refine T.skip ?_; (try simp only [ThenA, InBlock, reduceIte, Nat.reduceEqDiff]); (try ((repeat ((fail_if_success (refine hK _ ?_)); clear hK K)); refine hK _ ?_; clear hK K))) | (refine T.exit ?_; (try simp only [ThenA, InBlock, reduceIte, Nat.reduceEqDiff]); (try ((repeat ((fail_if_success (refine hK _ ?_)); clear hK K)); refine hK _ ?_; clear hK K))) | (refine T.condT rfl ?_) | (refine T.condF rfl ?_) | (refine T.cond rfl (fun hc => ?_) (fun hc => ?_)) | (refine T.ret ?_; (try simp only [ThenA, InBlock, reduceIte, Nat.reduceEqDiff]); (try ((repeat ((fail_if_success (refine hK _ ?_)); clear hK K)); refine hK _ ?_; clear hK K))))
    (refine T.reg (by kernel_rfl) fun K' hK' => ?_; simp only [startSt, frOf, List.map_cons, List.map_nil]; (repeat' (first | (with_reducible refine WL.fin ?_; refine hK' _ ?_; clear hK' K') | (with_reducible refine WD.fin ?_) | ((first | (with_reducible refine WL.step fun K2 hK2 => ?_) | (with_reducible refine WD.step fun K2 hK2 => ?_)); simp only [WS, WH, WO, WOv, WG, dstOk, hasDst, aop, ASt.ev, aload, aloadC, afield, aindex, abin, abinI, aun, alen, acells, Nat.reduceEqDiff, Nat.reduceLT, Nat.reduceLeDiff, Nat.reduceAdd, reduceIte, reduceCtorEq, implies_true, ASt.add, setHp, asplice, Int.reduceEq, Int.reduceNe, Int.reduceLT, Int.reduceLE, Int.reduceSub, Int.reduceAdd, abuild, afill, abuildS, pureL, chunks, List.range, List.range.loop, Nat.reduceMul, Nat.reduceMod, apartF, apartI, aslice, evI, ASt.subst, AO.box, aval, pvals, ams, Int.toNat_zero, tys, mapTy_69, keyed_3]; (repeat' (first | (with_reducible refine hK2 _ ?_; clear hK2 K2) | (with_reducible refine And.intro ?_ ?_) | (with_reducible intro hb) | fail))))); all_goals ((try simp only [ThenA, InBlock, reduceIte, Nat.reduceEqDiff]); (try ((repeat ((fail_if_success (refine hK _ ?_)); clear hK K)); refine hK _ ?_; clear hK K))))
    repeat' (first | (refine T.seqK fun K hK => ?_) | (refine T.block ?_) | (refine T.skip ?_; (try simp only [ThenA, InBlock, reduceIte, Nat.reduceEqDiff]); (try ((repeat ((fail_if_success (refine hK _ ?_)); clear hK K)); refine hK _ ?_; clear hK K))) | (refine T.exit ?_; (try simp only [ThenA, InBlock, reduceIte, Nat.reduceEqDiff]); (try ((repeat ((fail_if_success (refine hK _ ?_)); clear hK K)); refine hK _ ?_; clear hK K))) | (refine T.condT rfl ?_) | (refine T.condF rfl ?_) | (refine T.cond rfl (fun hc => ?_) (fun hc => ?_)) | (refine T.ret ?_; (try simp only [ThenA, InBlock, reduceIte, Nat.reduceEqDiff]); (try ((repeat ((fail_if_success (refine hK _ ?_)); clear hK K)); refine hK _ ?_; clear hK K))))
    (refine T.reg (by kernel_rfl) fun K' hK' => ?_; simp only [startSt, frOf, List.map_cons, List.map_nil]; (repeat' (first | (with_reducible refine WL.fin ?_; refine hK' _ ?_; clear hK' K') | (with_reducible refine WD.fin ?_) | ((first | (with_reducible refine WL.step fun K2 hK2 => ?_) | (with_reducible refine WD.step fun K2 hK2 => ?_)); simp only [WS, WH, WO, WOv, WG, dstOk, hasDst, aop, ASt.ev, aload, aloadC, afield, aindex, abin, abinI, aun, alen, acells, Nat.reduceEqDiff, Nat.reduceLT, Nat.reduceLeDiff, Nat.reduceAdd, reduceIte, reduceCtorEq, implies_true, ASt.add, setHp, asplice, Int.reduceEq, Int.reduceNe, Int.reduceLT, Int.reduceLE, Int.reduceSub, Int.reduceAdd, abuild, afill, abuildS, pureL, chunks, List.range, List.range.loop, Nat.reduceMul, Nat.reduceMod, apartF, apartI, aslice, evI, ASt.subst, AO.box, aval, pvals, ams, Int.toNat_zero, tys, mapTy_69, keyed_3]; (repeat' (first | (with_reducible refine hK2 _ ?_; clear hK2 K2) | (with_reducible refine And.intro ?_ ?_) | (with_reducible intro hb) | ((first | (with_reducible apply callArmO) | (with_reducible apply callArm)); case h => exact CallV.plain (Ent.of Try.func11 (by kernel_rfl) rfl) (hrv) (by simp [AV.okB]))))))); all_goals ((try simp only [ThenA, InBlock, reduceIte, Nat.reduceEqDiff]); (try ((repeat ((fail_if_success (refine hK _ ?_)); clear hK K)); refine hK _ ?_; clear hK K))))
    repeat' (first | (refine T.seqK fun K hK => ?_) | (refine T.block ?_) | (refine T.skip ?_; (try simp only [ThenA, InBlock, reduceIte, Nat.reduceEqDiff]); (try ((repeat ((fail_if_success (refine hK _ ?_)); clear hK K)); refine hK _ ?_; clear hK K))) | (refine T.exit ?_; (try simp only [ThenA, InBlock, reduceIte, Nat.reduceEqDiff]); (try ((repeat ((fail_if_success (refine hK _ ?_)); clear hK K)); refine hK _ ?_; clear hK K))) | (refine T.condT rfl ?_) | (refine T.condF rfl ?_) | (refine T.cond rfl (fun hc => ?_) (fun hc => ?_)) | (refine T.ret ?_; (try simp only [ThenA, InBlock, reduceIte, Nat.reduceEqDiff]); (try ((repeat ((fail_if_success (refine hK _ ?_)); clear hK K)); refine hK _ ?_; clear hK K))))
    have hru2 := hru.le (.cons (AVle.refl _) (.cons (AVle.refl _) (.cons (AVle.nil 4) (.cons (AVle.nil 1) .nil))))
    refine T.regW (by kernel_rfl) fun K' hK' => ?_; simp only [startSt, frOf, List.map_cons, List.map_nil]
    iterate 4 ((with_reducible refine WLW.step fun K2 hK2 => ?_); simp only [WS, WH, WO, WOv, WG, dstOk, hasDst, aop, ASt.ev, aload, aloadC, afield, aindex, abin, abinI, aun, alen, acells, Nat.reduceEqDiff, Nat.reduceLT, Nat.reduceLeDiff, Nat.reduceAdd, reduceIte, reduceCtorEq, implies_true, ASt.add, setHp, asplice, Int.reduceEq, Int.reduceNe, Int.reduceLT, Int.reduceLE, Int.reduceSub, Int.reduceAdd, abuild, afill, abuildS, pureL, chunks, List.range, List.range.loop, Nat.reduceMul, Nat.reduceMod, apartF, apartI, aslice, evI, ASt.subst, AO.box, aval, pvals, ams, Int.toNat_zero, tys, mapTy_69, keyed_3, hml, hmb]; (repeat' (first | (with_reducible refine hK2 _ ?_; clear hK2 K2) | (with_reducible refine And.intro ?_ ?_) | (with_reducible intro hb))))
    refine WLW.weak (Weak.frz _ 0) ?_; simp only [ASt.frz, List.filter_cons, List.filter_nil, bne_self_eq_false, Nat.reduceBneDiff, Bool.false_eq_true, WS, WH, WO, WOv, WG, dstOk, hasDst, aop, ASt.ev, aload, aloadC, afield, aindex, abin, abinI, aun, alen, acells, Nat.reduceEqDiff, Nat.reduceLT, Nat.reduceLeDiff, Nat.reduceAdd, reduceIte, reduceCtorEq, implies_true, ASt.add, setHp, asplice, Int.reduceEq, Int.reduceNe, Int.reduceLT, Int.reduceLE, Int.reduceSub, Int.reduceAdd, abuild, afill, abuildS, pureL, chunks, List.range, List.range.loop, Nat.reduceMul, Nat.reduceMod, apartF, apartI, aslice, evI, ASt.subst, AO.box, aval, pvals, ams, ]
    (repeat' (first | (with_reducible refine WLW.fin ?_) | ((with_reducible refine WLW.step fun K2 hK2 => ?_); simp only [WS, WH, WO, WOv, WG, dstOk, hasDst, aop, ASt.ev, aload, aloadC, afield, aindex, abin, abinI, aun, alen, acells, Nat.reduceEqDiff, Nat.reduceLT, Nat.reduceLeDiff, Nat.reduceAdd, reduceIte, reduceCtorEq, implies_true, ASt.add, setHp, asplice, Int.reduceEq, Int.reduceNe, Int.reduceLT, Int.reduceLE, Int.reduceSub, Int.reduceAdd, abuild, afill, abuildS, pureL, chunks, List.range, List.range.loop, Nat.reduceMul, Nat.reduceMod, apartF, apartI, aslice, evI, ASt.subst, AO.box, aval, pvals, ams, Int.toNat_zero, tys, mapTy_69, keyed_3]; (repeat' (first | (with_reducible refine hK2 _ ?_; clear hK2 K2) | (with_reducible refine And.intro ?_ ?_) | (with_reducible intro hb) | ((first | (with_reducible apply callArmO) | (with_reducible apply callArm)); case h => exact CallV.plain (Ent.of Try.func32 (by kernel_rfl) rfl) (hru2) (by simp [AV.okB])))))))
    all_goals (refine hK' _ ?_; clear hK' K'; (try simp only [ThenA, InBlock, reduceIte, Nat.reduceEqDiff]); (try ((repeat ((fail_if_success (refine hK _ ?_)); clear hK K)); refine hK _ ?_; clear hK K)))
    all_goals (repeat' (first | (refine T.seqK fun K hK => ?_) | (refine T.block ?_) | (refine T.reg (by kernel_rfl) fun K' hK' => ?_; simp only [startSt, frOf, List.map_cons, List.map_nil]; (repeat' (first | (with_reducible refine WL.fin ?_; refine hK' _ ?_; clear hK' K') | (with_reducible refine WD.fin ?_) | ((first | (with_reducible refine WL.step fun K2 hK2 => ?_) | (with_reducible refine WD.step fun K2 hK2 => ?_)); simp only [WS, WH, WO, WOv, WG, dstOk, hasDst, aop, ASt.ev, aload, aloadC, afield, aindex, abin, abinI, aun, alen, acells, Nat.reduceEqDiff, Nat.reduceLT, Nat.reduceLeDiff, Nat.reduceAdd, reduceIte, reduceCtorEq, implies_true, ASt.add, setHp, asplice, Int.reduceEq, Int.reduceNe, Int.reduceLT, Int.reduceLE, Int.reduceSub, Int.reduceAdd, abuild, afill, abuildS, pureL, chunks, List.range, List.range.loop, Nat.reduceMul, Nat.reduceMod, apartF, apartI, aslice, evI, ASt.subst, AO.box, aval, pvals, ams, Int.toNat_zero, tys, mapTy_69, keyed_3]; (repeat' (first | (with_reducible refine hK2 _ ?_; clear hK2 K2) | (with_reducible refine And.intro ?_ ?_) | (with_reducible intro hb) | fail))))); all_goals ((try simp only [ThenA, InBlock, reduceIte, Nat.reduceEqDiff]); (try ((repeat ((fail_if_success (refine hK _ ?_)); clear hK K)); refine hK _ ?_; clear hK K)))) | (refine T.skip ?_; (try simp only [ThenA, InBlock, reduceIte, Nat.reduceEqDiff]); (try ((repeat ((fail_if_success (refine hK _ ?_)); clear hK K)); refine hK _ ?_; clear hK K))) | (refine T.exit ?_; (try simp only [ThenA, InBlock, reduceIte, Nat.reduceEqDiff]); (try ((repeat ((fail_if_success (refine hK _ ?_)); clear hK K)); refine hK _ ?_; clear hK K))) | (refine T.condT rfl ?_) | (refine T.condF rfl ?_) | (refine T.cond rfl (fun hc => ?_) (fun hc => ?_)) | (refine T.ret ?_; (try simp only [ThenA, InBlock, reduceIte, Nat.reduceEqDiff]); (try ((repeat ((fail_if_success (refine hK _ ?_)); clear hK K)); refine hK _ ?_; clear hK K)))))
    refine FinA.ret (.inr rfl) Try.results17 ?_; simp only [ares, aresL, ares1, WS, WH, WO, WOv, WG, dstOk, hasDst, aop, ASt.ev, aload, aloadC, afield, aindex, abin, abinI, aun, alen, acells, Nat.reduceEqDiff, Nat.reduceLT, Nat.reduceLeDiff, Nat.reduceAdd, reduceIte, reduceCtorEq, implies_true, ASt.add, setHp, asplice, Int.reduceEq, Int.reduceNe, Int.reduceLT, Int.reduceLE, Int.reduceSub, Int.reduceAdd, abuild, afill, abuildS, pureL, chunks, List.range, List.range.loop, Nat.reduceMul, Nat.reduceMod, apartF, apartI, aslice, evI, ASt.subst, AO.box, aval, pvals, ams, tys, mapTy_69, keyed_3, rowOf]
set_option maxHeartbeats 8000000 in
set_option maxRecDepth 100000 in
theorem sameRuns_ok (a : List (List Pk)) (ha : a.length ≤ 1000000000000000) (hm : ∀ y ∈ a, y.length ≤ 1000000) : PureC Try.prog 16 [.p (.seq 1 (rowOf pksP a)), .p (.seq 1 (rowOf pksP a))] (.bool true) := by
  simp only [rowOf]
  have h1 : ((a.length : Int) != (a.length : Int)) = false := by simp
  refine PureC.of Try.func16 rfl 27 rfl (by decide) (by simp [AV.okB]) ?_
  repeat' (first | (refine T.seqK fun K hK => ?_) | (refine T.block ?_) | (refine T.reg (by kernel_rfl) fun K' hK' => ?_; simp only [startSt, frOf, List.map_cons, List.map_nil]; (repeat' (first | (with_reducible refine WL.fin ?_; refine hK' _ ?_; clear hK' K') | (with_reducible refine WD.fin ?_) | ((first | (with_reducible refine WL.step fun K2 hK2 => ?_) | (with_reducible refine WD.step fun K2 hK2 => ?_)); simp only [WS, WH, WO, WOv, WG, dstOk, hasDst, aop, ASt.ev, aload, aloadC, afield, aindex, abin, abinI, aun, alen, acells, Nat.reduceEqDiff, Nat.reduceLT, Nat.reduceLeDiff, Nat.reduceAdd, reduceIte, reduceCtorEq, implies_true, ASt.add, setHp, asplice, Int.reduceEq, Int.reduceNe, Int.reduceLT, Int.reduceLE, Int.reduceSub, Int.reduceAdd, abuild, afill, abuildS, pureL, chunks, List.range, List.range.loop, Nat.reduceMul, Nat.reduceMod, apartF, apartI, aslice, evI, ASt.subst, AO.box, aval, pvals, ams, Int.toNat_zero, tys, mapTy_69, keyed_3, h1]; (repeat' (first | (with_reducible refine hK2 _ ?_; clear hK2 K2) | (with_reducible refine And.intro ?_ ?_) | (with_reducible intro hb) | fail))))); all_goals ((try simp only [ThenA, InBlock, reduceIte, Nat.reduceEqDiff]); (try ((repeat ((fail_if_success (refine hK _ ?_)); clear hK K)); refine hK _ ?_; clear hK K)))) | (refine T.skip ?_; (try simp only [ThenA, InBlock, reduceIte, Nat.reduceEqDiff]); (try ((repeat ((fail_if_success (refine hK _ ?_)); clear hK K)); refine hK _ ?_; clear hK K))) | (refine T.exit ?_; (try simp only [ThenA, InBlock, reduceIte, Nat.reduceEqDiff]); (try ((repeat ((fail_if_success (refine hK _ ?_)); clear hK K)); refine hK _ ?_; clear hK K))) | (refine T.condT rfl ?_) | (refine T.condF rfl ?_) | (refine T.cond rfl (fun hc => ?_) (fun hc => ?_)) | (refine T.ret ?_; (try simp only [ThenA, InBlock, reduceIte, Nat.reduceEqDiff]); (try ((repeat ((fail_if_success (refine hK _ ?_)); clear hK K)); refine hK _ ?_; clear hK K))))
  refine T.loopK (fun k : Nat => ⟨[(0, .p (.seq 1 (rowOf pksP a))), (1, .p (.seq 1 (rowOf pksP a))), (5, .int k)], [], 27, 0⟩) (fun k => k ≤ a.length) (fun k => a.length - k) 0 (Nat.zero_le _) (by refine Weak.of' rfl ?_; simp only [List.mem_cons, List.not_mem_nil, or_false, forall_eq_or_imp, forall_eq, get_mk, lk_cons, lk_nil, reduceIte, Nat.reduceEqDiff, Option.getD_some, Option.getD_none, AVle_refl, AVle_nil, AVle_int, AVle_bool, AVle_junk, ASt.okB, AV.okB, AO.okB_box, AO.okB_row, AO.okB_map, AO.okB_raw, AO.okB_lrec, AV.okB_agg, AV.okB_tup, AV.okB_fn, List.all_cons, List.all_nil, Bool.and_self, Bool.and_true, Bool.true_and, Nat.reduceLT, decide_true, true_and, and_true, false_implies, implies_true, Int.natCast_zero, rowOf]) ?_
  rintro k hk KL hKL
  simp only [rowOf]
  by_cases hlt : k < a.length
  · have hd : decide ((k : Int) < (a.length : Int)) = true := by simpa using hlt
    obtain ⟨x, hx⟩ := at_lt hlt
    have hsp := samePicks_ok x x (hm x (List.mem_of_getElem? hx)) (hm x (List.mem_of_getElem? hx))
    rw [decide_eq_true (rfl : x = x)] at hsp
    repeat' (first | (refine T.seqK fun K hK => ?_) | (refine T.block ?_) | (refine T.reg (by kernel_rfl) fun K' hK' => ?_; simp only [startSt, frOf, List.map_cons, List.map_nil]; (repeat' (first | (with_reducible refine WL.fin ?_; refine hK' _ ?_; clear hK' K') | (with_reducible refine WD.fin ?_) | ((first | (with_reducible refine WL.step fun K2 hK2 => ?_) | (with_reducible refine WD.step fun K2 hK2 => ?_)); simp only [WS, WH, WO, WOv, WG, dstOk, hasDst, aop, ASt.ev, aload, aloadC, afield, aindex, abin, abinI, aun, alen, acells, Nat.reduceEqDiff, Nat.reduceLT, Nat.reduceLeDiff, Nat.reduceAdd, reduceIte, reduceCtorEq, implies_true, ASt.add, setHp, asplice, Int.reduceEq, Int.reduceNe, Int.reduceLT, Int.reduceLE, Int.reduceSub, Int.reduceAdd, abuild, afill, abuildS, pureL, chunks, List.range, List.range.loop, Nat.reduceMul, Nat.reduceMod, apartF, apartI, aslice, evI, ASt.subst, AO.box, aval, pvals, ams, Int.toNat_zero, tys, mapTy_69, keyed_3, hd]; (repeat' (first | (with_reducible refine hK2 _ ?_; clear hK2 K2) | (with_reducible refine And.intro ?_ ?_) | (with_reducible intro hb) | fail))))); all_goals ((try simp only [ThenA, InBlock, reduceIte, Nat.reduceEqDiff]); (try ((repeat ((fail_if_success (refine hK _ ?_)); clear hK K)); refine hK _ ?_; clear hK K)))) | (refine T.skip ?_; (try simp only [ThenA, InBlock, reduceIte, Nat.reduceEqDiff]); (try ((repeat ((fail_if_success (refine hK _ ?_)); clear hK K)); refine hK _ ?_; clear hK K))) | (refine T.exit ?_; (try simp only [ThenA, InBlock, reduceIte, Nat.reduceEqDiff]); (try ((repeat ((fail_if_success (refine hK _ ?_)); clear hK K)); refine hK _ ?_; clear hK K))) | (refine T.condT rfl ?_) | (refine T.condF rfl ?_) | (refine T.cond rfl (fun hc => ?_) (fun hc => ?_)) | (refine T.ret ?_; (try simp only [ThenA, InBlock, reduceIte, Nat.reduceEqDiff]); (try ((repeat ((fail_if_success (refine hK _ ?_)); clear hK K)); refine hK _ ?_; clear hK K))))
    refine T.drw 8 (by kernel_rfl) (by kernel_rfl) fun K' hK' => ?_; simp only [List.map_cons, List.map_nil]; (repeat' (first | (with_reducible refine WL.fin ?_; refine hK' _ ?_; clear hK' K') | (with_reducible refine WD.fin ?_) | ((first | (with_reducible refine WL.step fun K2 hK2 => ?_) | (with_reducible refine WD.step fun K2 hK2 => ?_)); simp only [WS, WH, WO, WOv, WG, dstOk, hasDst, aop, ASt.ev, aload, aloadC, afield, aindex, abin, abinI, aun, alen, acells, Nat.reduceEqDiff, Nat.reduceLT, Nat.reduceLeDiff, Nat.reduceAdd, reduceIte, reduceCtorEq, implies_true, ASt.add, setHp, asplice, Int.reduceEq, Int.reduceNe, Int.reduceLT, Int.reduceLE, Int.reduceSub, Int.reduceAdd, abuild, afill, abuildS, pureL, chunks, List.range, List.range.loop, Nat.reduceMul, Nat.reduceMod, apartF, apartI, aslice, evI, ASt.subst, AO.box, aval, pvals, ams, Int.toNat_zero, tys, mapTy_69, keyed_3, hx]; (repeat' (first | (with_reducible refine hK2 _ ?_; clear hK2 K2) | (with_reducible refine And.intro ?_ ?_) | (with_reducible intro hb) | ((first | (with_reducible apply callArmO) | (with_reducible apply callArm)); case h => exact CallV.plain (Ent.of Try.func31 (by kernel_rfl) rfl) (hsp) (by simp [AV.okB]))))))); all_goals ((try simp only [ThenA, InBlock, reduceIte, Nat.reduceEqDiff]); (try ((repeat ((fail_if_success (refine hK _ ?_)); clear hK K)); refine hK _ ?_; clear hK K)))
    all_goals (repeat' (first | (refine T.seqK fun K hK => ?_) | (refine T.block ?_) | (refine T.reg (by kernel_rfl) fun K' hK' => ?_; simp only [startSt, frOf, List.map_cons, List.map_nil]; (repeat' (first | (with_reducible refine WL.fin ?_; refine hK' _ ?_; clear hK' K') | (with_reducible refine WD.fin ?_) | ((first | (with_reducible refine WL.step fun K2 hK2 => ?_) | (with_reducible refine WD.step fun K2 hK2 => ?_)); simp only [WS, WH, WO, WOv, WG, dstOk, hasDst, aop, ASt.ev, aload, aloadC, afield, aindex, abin, abinI, aun, alen, acells, Nat.reduceEqDiff, Nat.reduceLT, Nat.reduceLeDiff, Nat.reduceAdd, reduceIte, reduceCtorEq, implies_true, ASt.add, setHp, asplice, Int.reduceEq, Int.reduceNe, Int.reduceLT, Int.reduceLE, Int.reduceSub, Int.reduceAdd, abuild, afill, abuildS, pureL, chunks, List.range, List.range.loop, Nat.reduceMul, Nat.reduceMod, apartF, apartI, aslice, evI, ASt.subst, AO.box, aval, pvals, ams, Int.toNat_zero, tys, mapTy_69, keyed_3]; (repeat' (first | (with_reducible refine hK2 _ ?_; clear hK2 K2) | (with_reducible refine And.intro ?_ ?_) | (with_reducible intro hb) | fail))))); all_goals ((try simp only [ThenA, InBlock, reduceIte, Nat.reduceEqDiff]); (try ((repeat ((fail_if_success (refine hK _ ?_)); clear hK K)); refine hK _ ?_; clear hK K)))) | (refine T.skip ?_; (try simp only [ThenA, InBlock, reduceIte, Nat.reduceEqDiff]); (try ((repeat ((fail_if_success (refine hK _ ?_)); clear hK K)); refine hK _ ?_; clear hK K))) | (refine T.exit ?_; (try simp only [ThenA, InBlock, reduceIte, Nat.reduceEqDiff]); (try ((repeat ((fail_if_success (refine hK _ ?_)); clear hK K)); refine hK _ ?_; clear hK K))) | (refine T.condT rfl ?_) | (refine T.condF rfl ?_) | (refine T.cond rfl (fun hc => ?_) (fun hc => ?_)) | (refine T.ret ?_; (try simp only [ThenA, InBlock, reduceIte, Nat.reduceEqDiff]); (try ((repeat ((fail_if_success (refine hK _ ?_)); clear hK K)); refine hK _ ?_; clear hK K)))))
    exact hKL _ (k + 1) (by refine Weak.of' rfl ?_; simp only [List.mem_cons, List.not_mem_nil, or_false, forall_eq_or_imp, forall_eq, get_mk, lk_cons, lk_nil, reduceIte, Nat.reduceEqDiff, Option.getD_some, Option.getD_none, AVle_refl, AVle_nil, AVle_int, AVle_bool, AVle_junk, ASt.okB, AV.okB, AO.okB_box, AO.okB_row, AO.okB_map, AO.okB_raw, AO.okB_lrec, AV.okB_agg, AV.okB_tup, AV.okB_fn, List.all_cons, List.all_nil, Bool.and_self, Bool.and_true, Bool.true_and, Nat.reduceLT, decide_true, true_and, and_true, false_implies, implies_true, wrap_succ (show k < 1152921504606846976 by omega), rowOf]) (by omega) (by omega)
  · have hd : decide ((k : Int) < (a.length : Int)) = false := by simpa using hlt
    repeat' (first | (refine T.seqK fun K hK => ?_) | (refine T.block ?_) | (refine T.reg (by kernel_rfl) fun K' hK' => ?_; simp only [startSt, frOf, List.map_cons, List.map_nil]; (repeat' (first | (with_reducible refine WL.fin ?_; refine hK' _ ?_; clear hK' K') | (with_reducible refine WD.fin ?_) | ((first | (with_reducible refine WL.step fun K2 hK2 => ?_) | (with_reducible refine WD.step fun K2 hK2 => ?_)); simp only [WS, WH, WO, WOv, WG, dstOk, hasDst, aop, ASt.ev, aload, aloadC, afield, aindex, abin, abinI, aun, alen, acells, Nat.reduceEqDiff, Nat.reduceLT, Nat.reduceLeDiff, Nat.reduceAdd, reduceIte, reduceCtorEq, implies_true, ASt.add, setHp, asplice, Int.reduceEq, Int.reduceNe, Int.reduceLT, Int.reduceLE, Int.reduceSub, Int.reduceAdd, abuild, afill, abuildS, pureL, chunks, List.range, List.range.loop, Nat.reduceMul, Nat.reduceMod, apartF, apartI, aslice, evI, ASt.subst, AO.box, aval, pvals, ams, Int.toNat_zero, tys, mapTy_69, keyed_3, hd]; (repeat' (first | (with_reducible refine hK2 _ ?_; clear hK2 K2) | (with_reducible refine And.intro ?_ ?_) | (with_reducible intro hb) | fail))))); all_goals ((try simp only [ThenA, InBlock, reduceIte, Nat.reduceEqDiff]); (try ((repeat ((fail_if_success (refine hK _ ?_)); clear hK K)); refine hK _ ?_; clear hK K)))) | (refine T.skip ?_; (try simp only [ThenA, InBlock, reduceIte, Nat.reduceEqDiff]); (try ((repeat ((fail_if_success (refine hK _ ?_)); clear hK K)); refine hK _ ?_; clear hK K))) | (refine T.exit ?_; (try simp only [ThenA, InBlock, reduceIte, Nat.reduceEqDiff]); (try ((repeat ((fail_if_success (refine hK _ ?_)); clear hK K)); refine hK _ ?_; clear hK K))) | (refine T.condT rfl ?_) | (refine T.condF rfl ?_) | (refine T.cond rfl (fun hc => ?_) (fun hc => ?_)) | (refine T.ret ?_; (try simp only [ThenA, InBlock, reduceIte, Nat.reduceEqDiff]); (try ((repeat ((fail_if_success (refine hK _ ?_)); clear hK K)); refine hK _ ?_; clear hK K))))
    refine FinA.ret (.inr rfl) Try.results16 ?_; simp only [ares, aresL, ares1, WS, WH, WO, WOv, WG, dstOk, hasDst, aop, ASt.ev, aload, aloadC, afield, aindex, abin, abinI, aun, alen, acells, Nat.reduceEqDiff, Nat.reduceLT, Nat.reduceLeDiff, Nat.reduceAdd, reduceIte, reduceCtorEq, implies_true, ASt.add, setHp, asplice, Int.reduceEq, Int.reduceNe, Int.reduceLT, Int.reduceLE, Int.reduceSub, Int.reduceAdd, abuild, afill, abuildS, pureL, chunks, List.range, List.range.loop, Nat.reduceMul, Nat.reduceMod, apartF, apartI, aslice, evI, ASt.subst, AO.box, aval, pvals, ams, tys, mapTy_69, keyed_3, ]
end Go.Proofs.Ytbhkcejjehgfcaa
/- The examples of the document. -/
namespace Go.Proofs.Ytbhkcejjehgfcaa
open Go.RowKit Go.Sort
set_option linter.unusedSimpArgs false
set_option linter.unusedVariables false

def exA : List (List St) := [[acSt 0 true], [acSt 1 true]]
def exB : List (List St) := [[acSt 0 true], [acSt 1 false], [acSt 2 false]]
def exC : List (List St) := [[acSt 0 false], [acSt 1 false]]
theorem exA_n : classesB exA = 2 := by decide
theorem exB_n : classesB exB = 4 := by decide
theorem exC_n : (visA exC).length = 1 := by decide
theorem exC_v : validB exC = true := by decide
set_option maxHeartbeats 4000000 in
set_option maxRecDepth 100000 in
theorem awake_ok : PureC Try.prog 9 [] (.bool true) := by
  have hm2 : 2 ≤ maxLen := by decide
  have hm3 : 3 ≤ maxLen := by decide
  have hA := classes_at exA (by decide)
  have hB := classes_at exB (by decide)
  have hC := explore_at exC (by decide)
  rw [exA_n, show ((2 : Nat) : Int) = 2 from rfl] at hA
  rw [exB_n, show ((4 : Nat) : Int) = 4 from rfl] at hB
  have hl : (rowOf pksP (exploreB (validB exC) exC)).length = 1 := by
    rw [exC_v]
    simp only [rowOf, exploreB, if_true, List.length_map]
    rw [(sort_perm _).length_eq, List.length_map]
    exact exC_n
  generalize rowOf pksP (exploreB (validB exC) exC) = rC at hC hl
  have hl2 : (rC.length : Int) = 1 := by rw [hl]; rfl
  simp only [thsP, exA, exB, exC, List.map_cons, List.map_nil] at hA hB hC
  refine PureC.of Try.func9 rfl 22 rfl (by decide) (by simp [AV.okB]) ?_
  repeat' (first | (refine T.seqK fun K hK => ?_) | (refine T.block ?_) | (refine T.reg (by kernel_rfl) fun K' hK' => ?_; simp only [startSt, frOf, List.map_cons, List.map_nil]; (repeat' (first | (with_reducible refine WL.fin ?_; refine hK' _ ?_; clear hK' K') | (with_reducible refine WD.fin ?_) | ((first | (with_reducible refine WL.step fun K2 hK2 => ?_) | (with_reducible refine WD.step fun K2 hK2 => ?_)); simp only [WS, WH, WO, WOv, WG, dstOk, hasDst, aop, ASt.ev, aload, aloadC, afield, aindex, abin, abinI, aun, alen, acells, Nat.reduceEqDiff, Nat.reduceLT, Nat.reduceLeDiff, Nat.reduceAdd, reduceIte, reduceCtorEq, implies_true, ASt.add, setHp, asplice, Int.reduceEq, Int.reduceNe, Int.reduceLT, Int.reduceLE, Int.reduceSub, Int.reduceAdd, abuild, afill, abuildS, pureL, chunks, List.range, List.range.loop, Nat.reduceMul, Nat.reduceMod, apartF, apartI, aslice, evI, ASt.subst, AO.box, aval, pvals, ams, tys, mapTy_69, keyed_3, hm2, hm3, hl2, beq_self_eq_true]; (repeat' (first | (with_reducible refine hK2 _ ?_; clear hK2 K2) | (with_reducible refine And.intro ?_ ?_) | (with_reducible intro hb) | ((first | (with_reducible apply callArmO) | (with_reducible apply callArm)); case h => exact CallV.plain (Ent.of Try.func22 (by kernel_rfl) rfl) (access_ok _ _) (by simp [AV.okB])) | ((first | (with_reducible apply callArmO) | (with_reducible apply callArm)); case h => exact CallV.plain (Ent.of Try.func14 (by kernel_rfl) rfl) (hA) (by simp [AV.okB])) | ((first | (with_reducible apply callArmO) | (with_reducible apply callArm)); case h => exact CallV.plain (Ent.of Try.func14 (by kernel_rfl) rfl) (hB) (by simp [AV.okB])) | ((first | (with_reducible apply callArmO) | (with_reducible apply callArm)); case h => exact CallV.plain (Ent.of Try.func13 (by kernel_rfl) rfl) (hC) (by simp [AV.okB]))))))); all_goals ((try simp only [ThenA, InBlock, reduceIte, Nat.reduceEqDiff]); (try ((repeat ((fail_if_success (refine hK _ ?_)); clear hK K)); refine hK _ ?_; clear hK K)))) | (refine T.skip ?_; (try simp only [ThenA, InBlock, reduceIte, Nat.reduceEqDiff]); (try ((repeat ((fail_if_success (refine hK _ ?_)); clear hK K)); refine hK _ ?_; clear hK K))) | (refine T.exit ?_; (try simp only [ThenA, InBlock, reduceIte, Nat.reduceEqDiff]); (try ((repeat ((fail_if_success (refine hK _ ?_)); clear hK K)); refine hK _ ?_; clear hK K))) | (refine T.condT rfl ?_) | (refine T.condF rfl ?_) | (refine T.cond rfl (fun hc => ?_) (fun hc => ?_)) | (refine T.ret ?_; (try simp only [ThenA, InBlock, reduceIte, Nat.reduceEqDiff]); (try ((repeat ((fail_if_success (refine hK _ ?_)); clear hK K)); refine hK _ ?_; clear hK K))))
  refine FinA.ret (.inr rfl) Try.results9 ?_; simp only [ares, aresL, ares1, WS, WH, WO, WOv, WG, dstOk, hasDst, aop, ASt.ev, aload, aloadC, afield, aindex, abin, abinI, aun, alen, acells, Nat.reduceEqDiff, Nat.reduceLT, Nat.reduceLeDiff, Nat.reduceAdd, reduceIte, reduceCtorEq, implies_true, ASt.add, setHp, asplice, Int.reduceEq, Int.reduceNe, Int.reduceLT, Int.reduceLE, Int.reduceSub, Int.reduceAdd, abuild, afill, abuildS, pureL, chunks, List.range, List.range.loop, Nat.reduceMul, Nat.reduceMod, apartF, apartI, aslice, evI, ASt.subst, AO.box, aval, pvals, ams, tys, mapTy_69, keyed_3, ]
end Go.Proofs.Ytbhkcejjehgfcaa
/- SleepMatchesReference, SleepCounts. -/
namespace Go.Proofs.Ytbhkcejjehgfcaa
open Go.RowKit Go.Sort
set_option linter.unusedSimpArgs false
set_option linter.unusedVariables false
theorem explore_small {ths : List (List St)} (hv : validB ths = true) (hs : smallB ths = true) : (exploreB (validB ths) ths).length ≤ 400 ∧ ∀ y ∈ exploreB (validB ths) ths, y.length ≤ 1000 := by
  rw [hv, explore_eq hv]
  refine ⟨?_, runs_all ths 1000 13 _ _ _ (by simp) fun y hy => by cases hy⟩
  have h1 := runs_len ths 13 (List.replicate ths.length 0) [] []
  have h2 := small_cnt hv hs
  simp only [List.length_nil] at h1
  exact Nat.le_trans h1 (by omega)
theorem explore_none {ths : List (List St)} (hv : validB ths = false) : exploreB (validB ths) ths = [] := by simp [exploreB, hv]
set_option maxHeartbeats 4000000 in
set_option maxRecDepth 100000 in
theorem sleepMatch_ok (ths : List (List St)) : PureC Try.prog 4 [.p (thsP ths)] (.bool true) := by
  have haw := awake_ok
  have hfw := few_ok ths
  cases hf : fewB ths with
  | false =>
    rw [hf] at hfw
    simp only [thsP] at hfw ⊢
    refine PureC.of Try.func4 rfl 18 rfl (by decide) (by simp [AV.okB]) ?_
    repeat' (first | (refine T.seqK fun K hK => ?_) | (refine T.block ?_) | (refine T.reg (by kernel_rfl) fun K' hK' => ?_; simp only [startSt, frOf, List.map_cons, List.map_nil]; (repeat' (first | (with_reducible refine WL.fin ?_; refine hK' _ ?_; clear hK' K') | (with_reducible refine WD.fin ?_) | ((first | (with_reducible refine WL.step fun K2 hK2 => ?_) | (with_reducible refine WD.step fun K2 hK2 => ?_)); simp only [WS, WH, WO, WOv, WG, dstOk, hasDst, aop, ASt.ev, aload, aloadC, afield, aindex, abin, abinI, aun, alen, acells, Nat.reduceEqDiff, Nat.reduceLT, Nat.reduceLeDiff, Nat.reduceAdd, reduceIte, reduceCtorEq, implies_true, ASt.add, setHp, asplice, Int.reduceEq, Int.reduceNe, Int.reduceLT, Int.reduceLE, Int.reduceSub, Int.reduceAdd, abuild, afill, abuildS, pureL, chunks, List.range, List.range.loop, Nat.reduceMul, Nat.reduceMod, apartF, apartI, aslice, evI, ASt.subst, AO.box, aval, pvals, ams, Int.toNat_zero, tys, mapTy_69, keyed_3]; (repeat' (first | (with_reducible refine hK2 _ ?_; clear hK2 K2) | (with_reducible refine And.intro ?_ ?_) | (with_reducible intro hb) | ((first | (with_reducible apply callArmO) | (with_reducible apply callArm)); case h => exact CallV.plain (Ent.of Try.func9 (by kernel_rfl) rfl) (haw) (by simp [AV.okB])) | ((first | (with_reducible apply callArmO) | (with_reducible apply callArm)); case h => exact CallV.plain (Ent.of Try.func10 (by kernel_rfl) rfl) (hfw) (by simp [AV.okB]))))))); all_goals ((try simp only [ThenA, InBlock, reduceIte, Nat.reduceEqDiff]); (try ((repeat ((fail_if_success (refine hK _ ?_)); clear hK K)); refine hK _ ?_; clear hK K)))) | (refine T.skip ?_; (try simp only [ThenA, InBlock, reduceIte, Nat.reduceEqDiff]); (try ((repeat ((fail_if_success (refine hK _ ?_)); clear hK K)); refine hK _ ?_; clear hK K))) | (refine T.exit ?_; (try simp only [ThenA, InBlock, reduceIte, Nat.reduceEqDiff]); (try ((repeat ((fail_if_success (refine hK _ ?_)); clear hK K)); refine hK _ ?_; clear hK K))) | (refine T.condT rfl ?_) | (refine T.condF rfl ?_) | (refine T.cond rfl (fun hc => ?_) (fun hc => ?_)) | (refine T.ret ?_; (try simp only [ThenA, InBlock, reduceIte, Nat.reduceEqDiff]); (try ((repeat ((fail_if_success (refine hK _ ?_)); clear hK K)); refine hK _ ?_; clear hK K))))
    refine FinA.ret (.inr rfl) Try.results4 ?_; simp only [ares, aresL, ares1, WS, WH, WO, WOv, WG, dstOk, hasDst, aop, ASt.ev, aload, aloadC, afield, aindex, abin, abinI, aun, alen, acells, Nat.reduceEqDiff, Nat.reduceLT, Nat.reduceLeDiff, Nat.reduceAdd, reduceIte, reduceCtorEq, implies_true, ASt.add, setHp, asplice, Int.reduceEq, Int.reduceNe, Int.reduceLT, Int.reduceLE, Int.reduceSub, Int.reduceAdd, abuild, afill, abuildS, pureL, chunks, List.range, List.range.loop, Nat.reduceMul, Nat.reduceMod, apartF, apartI, aslice, evI, ASt.subst, AO.box, aval, pvals, ams, tys, mapTy_69, keyed_3, ]
  | true =>
    rw [hf] at hfw
    have hsm := small_ok ths hf
    cases hs : smallB ths with
    | false =>
      rw [hs] at hsm
      simp only [thsP] at hfw hsm ⊢
      refine PureC.of Try.func4 rfl 18 rfl (by decide) (by simp [AV.okB]) ?_
      repeat' (first | (refine T.seqK fun K hK => ?_) | (refine T.block ?_) | (refine T.reg (by kernel_rfl) fun K' hK' => ?_; simp only [startSt, frOf, List.map_cons, List.map_nil]; (repeat' (first | (with_reducible refine WL.fin ?_; refine hK' _ ?_; clear hK' K') | (with_reducible refine WD.fin ?_) | ((first | (with_reducible refine WL.step fun K2 hK2 => ?_) | (with_reducible refine WD.step fun K2 hK2 => ?_)); simp only [WS, WH, WO, WOv, WG, dstOk, hasDst, aop, ASt.ev, aload, aloadC, afield, aindex, abin, abinI, aun, alen, acells, Nat.reduceEqDiff, Nat.reduceLT, Nat.reduceLeDiff, Nat.reduceAdd, reduceIte, reduceCtorEq, implies_true, ASt.add, setHp, asplice, Int.reduceEq, Int.reduceNe, Int.reduceLT, Int.reduceLE, Int.reduceSub, Int.reduceAdd, abuild, afill, abuildS, pureL, chunks, List.range, List.range.loop, Nat.reduceMul, Nat.reduceMod, apartF, apartI, aslice, evI, ASt.subst, AO.box, aval, pvals, ams, Int.toNat_zero, tys, mapTy_69, keyed_3]; (repeat' (first | (with_reducible refine hK2 _ ?_; clear hK2 K2) | (with_reducible refine And.intro ?_ ?_) | (with_reducible intro hb) | ((first | (with_reducible apply callArmO) | (with_reducible apply callArm)); case h => exact CallV.plain (Ent.of Try.func9 (by kernel_rfl) rfl) (haw) (by simp [AV.okB])) | ((first | (with_reducible apply callArmO) | (with_reducible apply callArm)); case h => exact CallV.plain (Ent.of Try.func10 (by kernel_rfl) rfl) (hfw) (by simp [AV.okB])) | ((first | (with_reducible apply callArmO) | (with_reducible apply callArm)); case h => exact CallV.plain (Ent.of Try.func15 (by kernel_rfl) rfl) (hsm) (by simp [AV.okB]))))))); all_goals ((try simp only [ThenA, InBlock, reduceIte, Nat.reduceEqDiff]); (try ((repeat ((fail_if_success (refine hK _ ?_)); clear hK K)); refine hK _ ?_; clear hK K)))) | (refine T.skip ?_; (try simp only [ThenA, InBlock, reduceIte, Nat.reduceEqDiff]); (try ((repeat ((fail_if_success (refine hK _ ?_)); clear hK K)); refine hK _ ?_; clear hK K))) | (refine T.exit ?_; (try simp only [ThenA, InBlock, reduceIte, Nat.reduceEqDiff]); (try ((repeat ((fail_if_success (refine hK _ ?_)); clear hK K)); refine hK _ ?_; clear hK K))) | (refine T.condT rfl ?_) | (refine T.condF rfl ?_) | (refine T.cond rfl (fun hc => ?_) (fun hc => ?_)) | (refine T.ret ?_; (try simp only [ThenA, InBlock, reduceIte, Nat.reduceEqDiff]); (try ((repeat ((fail_if_success (refine hK _ ?_)); clear hK K)); refine hK _ ?_; clear hK K))))
      refine FinA.ret (.inr rfl) Try.results4 ?_; simp only [ares, aresL, ares1, WS, WH, WO, WOv, WG, dstOk, hasDst, aop, ASt.ev, aload, aloadC, afield, aindex, abin, abinI, aun, alen, acells, Nat.reduceEqDiff, Nat.reduceLT, Nat.reduceLeDiff, Nat.reduceAdd, reduceIte, reduceCtorEq, implies_true, ASt.add, setHp, asplice, Int.reduceEq, Int.reduceNe, Int.reduceLT, Int.reduceLE, Int.reduceSub, Int.reduceAdd, abuild, afill, abuildS, pureL, chunks, List.range, List.range.loop, Nat.reduceMul, Nat.reduceMod, apartF, apartI, aslice, evI, ASt.subst, AO.box, aval, pvals, ams, tys, mapTy_69, keyed_3, ]
    | true =>
      rw [hs] at hsm
      have hex := explore_at ths hf
      have hre := rexplore_ok ths hf hs
      have hsr := sameRuns_ok (exploreB (validB ths) ths) (by
        cases hv : validB ths with
        | true => have := (explore_small hv hs).1; rw [hv] at this; omega
        | false => simp [exploreB]) (by
        cases hv : validB ths with
        | true => intro y hy; have := (explore_small hv hs).2 y (by rw [hv]; exact hy); omega
        | false => simp [exploreB])
      simp only [thsP] at hfw hsm hex hre ⊢
      refine PureC.of Try.func4 rfl 18 rfl (by decide) (by simp [AV.okB]) ?_
      repeat' (first | (refine T.seqK fun K hK => ?_) | (refine T.block ?_) | (refine T.reg (by kernel_rfl) fun K' hK' => ?_; simp only [startSt, frOf, List.map_cons, List.map_nil]; (repeat' (first | (with_reducible refine WL.fin ?_; refine hK' _ ?_; clear hK' K') | (with_reducible refine WD.fin ?_) | ((first | (with_reducible refine WL.step fun K2 hK2 => ?_) | (with_reducible refine WD.step fun K2 hK2 => ?_)); simp only [WS, WH, WO, WOv, WG, dstOk, hasDst, aop, ASt.ev, aload, aloadC, afield, aindex, abin, abinI, aun, alen, acells, Nat.reduceEqDiff, Nat.reduceLT, Nat.reduceLeDiff, Nat.reduceAdd, reduceIte, reduceCtorEq, implies_true, ASt.add, setHp, asplice, Int.reduceEq, Int.reduceNe, Int.reduceLT, Int.reduceLE, Int.reduceSub, Int.reduceAdd, abuild, afill, abuildS, pureL, chunks, List.range, List.range.loop, Nat.reduceMul, Nat.reduceMod, apartF, apartI, aslice, evI, ASt.subst, AO.box, aval, pvals, ams, Int.toNat_zero, tys, mapTy_69, keyed_3]; (repeat' (first | (with_reducible refine hK2 _ ?_; clear hK2 K2) | (with_reducible refine And.intro ?_ ?_) | (with_reducible intro hb) | ((first | (with_reducible apply callArmO) | (with_reducible apply callArm)); case h => exact CallV.plain (Ent.of Try.func9 (by kernel_rfl) rfl) (haw) (by simp [AV.okB])) | ((first | (with_reducible apply callArmO) | (with_reducible apply callArm)); case h => exact CallV.plain (Ent.of Try.func10 (by kernel_rfl) rfl) (hfw) (by simp [AV.okB])) | ((first | (with_reducible apply callArmO) | (with_reducible apply callArm)); case h => exact CallV.plain (Ent.of Try.func15 (by kernel_rfl) rfl) (hsm) (by simp [AV.okB])) | ((first | (with_reducible apply callArmO) | (with_reducible apply callArm)); case h => exact CallV.plain (Ent.of Try.func13 (by kernel_rfl) rfl) (hex) (by simp [AV.okB])) | ((first | (with_reducible apply callArmO) | (with_reducible apply callArm)); case h => exact CallV.plain (Ent.of Try.func17 (by kernel_rfl) rfl) (hre) (by simp [AV.okB])) | ((first | (with_reducible apply callArmO) | (with_reducible apply callArm)); case h => exact CallV.plain (Ent.of Try.func16 (by kernel_rfl) rfl) (hsr) (by simp [AV.okB]))))))); all_goals ((try simp only [ThenA, InBlock, reduceIte, Nat.reduceEqDiff]); (try ((repeat ((fail_if_success (refine hK _ ?_)); clear hK K)); refine hK _ ?_; clear hK K)))) | (refine T.skip ?_; (try simp only [ThenA, InBlock, reduceIte, Nat.reduceEqDiff]); (try ((repeat ((fail_if_success (refine hK _ ?_)); clear hK K)); refine hK _ ?_; clear hK K))) | (refine T.exit ?_; (try simp only [ThenA, InBlock, reduceIte, Nat.reduceEqDiff]); (try ((repeat ((fail_if_success (refine hK _ ?_)); clear hK K)); refine hK _ ?_; clear hK K))) | (refine T.condT rfl ?_) | (refine T.condF rfl ?_) | (refine T.cond rfl (fun hc => ?_) (fun hc => ?_)) | (refine T.ret ?_; (try simp only [ThenA, InBlock, reduceIte, Nat.reduceEqDiff]); (try ((repeat ((fail_if_success (refine hK _ ?_)); clear hK K)); refine hK _ ?_; clear hK K))))
      refine FinA.ret (.inr rfl) Try.results4 ?_; simp only [ares, aresL, ares1, WS, WH, WO, WOv, WG, dstOk, hasDst, aop, ASt.ev, aload, aloadC, afield, aindex, abin, abinI, aun, alen, acells, Nat.reduceEqDiff, Nat.reduceLT, Nat.reduceLeDiff, Nat.reduceAdd, reduceIte, reduceCtorEq, implies_true, ASt.add, setHp, asplice, Int.reduceEq, Int.reduceNe, Int.reduceLT, Int.reduceLE, Int.reduceSub, Int.reduceAdd, abuild, afill, abuildS, pureL, chunks, List.range, List.range.loop, Nat.reduceMul, Nat.reduceMod, apartF, apartI, aslice, evI, ASt.subst, AO.box, aval, pvals, ams, tys, mapTy_69, keyed_3, ]
theorem explore_cnt (ths : List (List St)) : (exploreB (validB ths) ths).length = classesB ths := by
  cases hv : validB ths with
  | true => simp [exploreB, classesB, hv, visA, (sort_perm _).length_eq]
  | false => simp [exploreB, classesB, hv]
set_option maxHeartbeats 4000000 in
set_option maxRecDepth 100000 in
theorem sleepCounts_ok (ths : List (List St)) : PureC Try.prog 5 [.p (thsP ths)] (.bool true) := by
  have haw := awake_ok
  have hfw := few_ok ths
  cases hf : fewB ths with
  | false =>
    rw [hf] at hfw
    simp only [thsP] at hfw ⊢
    refine PureC.of Try.func5 rfl 19 rfl (by decide) (by simp [AV.okB]) ?_
    repeat' (first | (refine T.seqK fun K hK => ?_) | (refine T.block ?_) | (refine T.reg (by kernel_rfl) fun K' hK' => ?_; simp only [startSt, frOf, List.map_cons, List.map_nil]; (repeat' (first | (with_reducible refine WL.fin ?_; refine hK' _ ?_; clear hK' K') | (with_reducible refine WD.fin ?_) | ((first | (with_reducible refine WL.step fun K2 hK2 => ?_) | (with_reducible refine WD.step fun K2 hK2 => ?_)); simp only [WS, WH, WO, WOv, WG, dstOk, hasDst, aop, ASt.ev, aload, aloadC, afield, aindex, abin, abinI, aun, alen, acells, Nat.reduceEqDiff, Nat.reduceLT, Nat.reduceLeDiff, Nat.reduceAdd, reduceIte, reduceCtorEq, implies_true, ASt.add, setHp, asplice, Int.reduceEq, Int.reduceNe, Int.reduceLT, Int.reduceLE, Int.reduceSub, Int.reduceAdd, abuild, afill, abuildS, pureL, chunks, List.range, List.range.loop, Nat.reduceMul, Nat.reduceMod, apartF, apartI, aslice, evI, ASt.subst, AO.box, aval, pvals, ams, Int.toNat_zero, tys, mapTy_69, keyed_3]; (repeat' (first | (with_reducible refine hK2 _ ?_; clear hK2 K2) | (with_reducible refine And.intro ?_ ?_) | (with_reducible intro hb) | ((first | (with_reducible apply callArmO) | (with_reducible apply callArm)); case h => exact CallV.plain (Ent.of Try.func9 (by kernel_rfl) rfl) (haw) (by simp [AV.okB])) | ((first | (with_reducible apply callArmO) | (with_reducible apply callArm)); case h => exact CallV.plain (Ent.of Try.func10 (by kernel_rfl) rfl) (hfw) (by simp [AV.okB]))))))); all_goals ((try simp only [ThenA, InBlock, reduceIte, Nat.reduceEqDiff]); (try ((repeat ((fail_if_success (refine hK _ ?_)); clear hK K)); refine hK _ ?_; clear hK K)))) | (refine T.skip ?_; (try simp only [ThenA, InBlock, reduceIte, Nat.reduceEqDiff]); (try ((repeat ((fail_if_success (refine hK _ ?_)); clear hK K)); refine hK _ ?_; clear hK K))) | (refine T.exit ?_; (try simp only [ThenA, InBlock, reduceIte, Nat.reduceEqDiff]); (try ((repeat ((fail_if_success (refine hK _ ?_)); clear hK K)); refine hK _ ?_; clear hK K))) | (refine T.condT rfl ?_) | (refine T.condF rfl ?_) | (refine T.cond rfl (fun hc => ?_) (fun hc => ?_)) | (refine T.ret ?_; (try simp only [ThenA, InBlock, reduceIte, Nat.reduceEqDiff]); (try ((repeat ((fail_if_success (refine hK _ ?_)); clear hK K)); refine hK _ ?_; clear hK K))))
    refine FinA.ret (.inr rfl) Try.results5 ?_; simp only [ares, aresL, ares1, WS, WH, WO, WOv, WG, dstOk, hasDst, aop, ASt.ev, aload, aloadC, afield, aindex, abin, abinI, aun, alen, acells, Nat.reduceEqDiff, Nat.reduceLT, Nat.reduceLeDiff, Nat.reduceAdd, reduceIte, reduceCtorEq, implies_true, ASt.add, setHp, asplice, Int.reduceEq, Int.reduceNe, Int.reduceLT, Int.reduceLE, Int.reduceSub, Int.reduceAdd, abuild, afill, abuildS, pureL, chunks, List.range, List.range.loop, Nat.reduceMul, Nat.reduceMod, apartF, apartI, aslice, evI, ASt.subst, AO.box, aval, pvals, ams, tys, mapTy_69, keyed_3, ]
  | true =>
    rw [hf] at hfw
    have hsm := small_ok ths hf
    cases hs : smallB ths with
    | false =>
      rw [hs] at hsm
      simp only [thsP] at hfw hsm ⊢
      refine PureC.of Try.func5 rfl 19 rfl (by decide) (by simp [AV.okB]) ?_
      repeat' (first | (refine T.seqK fun K hK => ?_) | (refine T.block ?_) | (refine T.reg (by kernel_rfl) fun K' hK' => ?_; simp only [startSt, frOf, List.map_cons, List.map_nil]; (repeat' (first | (with_reducible refine WL.fin ?_; refine hK' _ ?_; clear hK' K') | (with_reducible refine WD.fin ?_) | ((first | (with_reducible refine WL.step fun K2 hK2 => ?_) | (with_reducible refine WD.step fun K2 hK2 => ?_)); simp only [WS, WH, WO, WOv, WG, dstOk, hasDst, aop, ASt.ev, aload, aloadC, afield, aindex, abin, abinI, aun, alen, acells, Nat.reduceEqDiff, Nat.reduceLT, Nat.reduceLeDiff, Nat.reduceAdd, reduceIte, reduceCtorEq, implies_true, ASt.add, setHp, asplice, Int.reduceEq, Int.reduceNe, Int.reduceLT, Int.reduceLE, Int.reduceSub, Int.reduceAdd, abuild, afill, abuildS, pureL, chunks, List.range, List.range.loop, Nat.reduceMul, Nat.reduceMod, apartF, apartI, aslice, evI, ASt.subst, AO.box, aval, pvals, ams, Int.toNat_zero, tys, mapTy_69, keyed_3]; (repeat' (first | (with_reducible refine hK2 _ ?_; clear hK2 K2) | (with_reducible refine And.intro ?_ ?_) | (with_reducible intro hb) | ((first | (with_reducible apply callArmO) | (with_reducible apply callArm)); case h => exact CallV.plain (Ent.of Try.func9 (by kernel_rfl) rfl) (haw) (by simp [AV.okB])) | ((first | (with_reducible apply callArmO) | (with_reducible apply callArm)); case h => exact CallV.plain (Ent.of Try.func10 (by kernel_rfl) rfl) (hfw) (by simp [AV.okB])) | ((first | (with_reducible apply callArmO) | (with_reducible apply callArm)); case h => exact CallV.plain (Ent.of Try.func15 (by kernel_rfl) rfl) (hsm) (by simp [AV.okB]))))))); all_goals ((try simp only [ThenA, InBlock, reduceIte, Nat.reduceEqDiff]); (try ((repeat ((fail_if_success (refine hK _ ?_)); clear hK K)); refine hK _ ?_; clear hK K)))) | (refine T.skip ?_; (try simp only [ThenA, InBlock, reduceIte, Nat.reduceEqDiff]); (try ((repeat ((fail_if_success (refine hK _ ?_)); clear hK K)); refine hK _ ?_; clear hK K))) | (refine T.exit ?_; (try simp only [ThenA, InBlock, reduceIte, Nat.reduceEqDiff]); (try ((repeat ((fail_if_success (refine hK _ ?_)); clear hK K)); refine hK _ ?_; clear hK K))) | (refine T.condT rfl ?_) | (refine T.condF rfl ?_) | (refine T.cond rfl (fun hc => ?_) (fun hc => ?_)) | (refine T.ret ?_; (try simp only [ThenA, InBlock, reduceIte, Nat.reduceEqDiff]); (try ((repeat ((fail_if_success (refine hK _ ?_)); clear hK K)); refine hK _ ?_; clear hK K))))
      refine FinA.ret (.inr rfl) Try.results5 ?_; simp only [ares, aresL, ares1, WS, WH, WO, WOv, WG, dstOk, hasDst, aop, ASt.ev, aload, aloadC, afield, aindex, abin, abinI, aun, alen, acells, Nat.reduceEqDiff, Nat.reduceLT, Nat.reduceLeDiff, Nat.reduceAdd, reduceIte, reduceCtorEq, implies_true, ASt.add, setHp, asplice, Int.reduceEq, Int.reduceNe, Int.reduceLT, Int.reduceLE, Int.reduceSub, Int.reduceAdd, abuild, afill, abuildS, pureL, chunks, List.range, List.range.loop, Nat.reduceMul, Nat.reduceMod, apartF, apartI, aslice, evI, ASt.subst, AO.box, aval, pvals, ams, tys, mapTy_69, keyed_3, ]
    | true =>
      rw [hs] at hsm
      have hcl := classes_at ths hf
      have hre := rexplore_ok ths hf hs
      have hle : ((rowOf pksP (exploreB (validB ths) ths)).length : Int) = ((classesB ths : Nat) : Int) := by
        rw [← explore_cnt ths]; simp [rowOf]
      simp only [thsP] at hfw hsm hcl hre ⊢
      refine PureC.of Try.func5 rfl 19 rfl (by decide) (by simp [AV.okB]) ?_
      repeat' (first | (refine T.seqK fun K hK => ?_) | (refine T.block ?_) | (refine T.reg (by kernel_rfl) fun K' hK' => ?_; simp only [startSt, frOf, List.map_cons, List.map_nil]; (repeat' (first | (with_reducible refine WL.fin ?_; refine hK' _ ?_; clear hK' K') | (with_reducible refine WD.fin ?_) | ((first | (with_reducible refine WL.step fun K2 hK2 => ?_) | (with_reducible refine WD.step fun K2 hK2 => ?_)); simp only [WS, WH, WO, WOv, WG, dstOk, hasDst, aop, ASt.ev, aload, aloadC, afield, aindex, abin, abinI, aun, alen, acells, Nat.reduceEqDiff, Nat.reduceLT, Nat.reduceLeDiff, Nat.reduceAdd, reduceIte, reduceCtorEq, implies_true, ASt.add, setHp, asplice, Int.reduceEq, Int.reduceNe, Int.reduceLT, Int.reduceLE, Int.reduceSub, Int.reduceAdd, abuild, afill, abuildS, pureL, chunks, List.range, List.range.loop, Nat.reduceMul, Nat.reduceMod, apartF, apartI, aslice, evI, ASt.subst, AO.box, aval, pvals, ams, Int.toNat_zero, tys, mapTy_69, keyed_3, hle, beq_self_eq_true]; (repeat' (first | (with_reducible refine hK2 _ ?_; clear hK2 K2) | (with_reducible refine And.intro ?_ ?_) | (with_reducible intro hb) | ((first | (with_reducible apply callArmO) | (with_reducible apply callArm)); case h => exact CallV.plain (Ent.of Try.func9 (by kernel_rfl) rfl) (haw) (by simp [AV.okB])) | ((first | (with_reducible apply callArmO) | (with_reducible apply callArm)); case h => exact CallV.plain (Ent.of Try.func10 (by kernel_rfl) rfl) (hfw) (by simp [AV.okB])) | ((first | (with_reducible apply callArmO) | (with_reducible apply callArm)); case h => exact CallV.plain (Ent.of Try.func15 (by kernel_rfl) rfl) (hsm) (by simp [AV.okB])) | ((first | (with_reducible apply callArmO) | (with_reducible apply callArm)); case h => exact CallV.plain (Ent.of Try.func14 (by kernel_rfl) rfl) (hcl) (by simp [AV.okB])) | ((first | (with_reducible apply callArmO) | (with_reducible apply callArm)); case h => exact CallV.plain (Ent.of Try.func17 (by kernel_rfl) rfl) (hre) (by simp [AV.okB]))))))); all_goals ((try simp only [ThenA, InBlock, reduceIte, Nat.reduceEqDiff]); (try ((repeat ((fail_if_success (refine hK _ ?_)); clear hK K)); refine hK _ ?_; clear hK K)))) | (refine T.skip ?_; (try simp only [ThenA, InBlock, reduceIte, Nat.reduceEqDiff]); (try ((repeat ((fail_if_success (refine hK _ ?_)); clear hK K)); refine hK _ ?_; clear hK K))) | (refine T.exit ?_; (try simp only [ThenA, InBlock, reduceIte, Nat.reduceEqDiff]); (try ((repeat ((fail_if_success (refine hK _ ?_)); clear hK K)); refine hK _ ?_; clear hK K))) | (refine T.condT rfl ?_) | (refine T.condF rfl ?_) | (refine T.cond rfl (fun hc => ?_) (fun hc => ?_)) | (refine T.ret ?_; (try simp only [ThenA, InBlock, reduceIte, Nat.reduceEqDiff]); (try ((repeat ((fail_if_success (refine hK _ ?_)); clear hK K)); refine hK _ ?_; clear hK K))))
      refine FinA.ret (.inr rfl) Try.results5 ?_; simp only [ares, aresL, ares1, WS, WH, WO, WOv, WG, dstOk, hasDst, aop, ASt.ev, aload, aloadC, afield, aindex, abin, abinI, aun, alen, acells, Nat.reduceEqDiff, Nat.reduceLT, Nat.reduceLeDiff, Nat.reduceAdd, reduceIte, reduceCtorEq, implies_true, ASt.add, setHp, asplice, Int.reduceEq, Int.reduceNe, Int.reduceLT, Int.reduceLE, Int.reduceSub, Int.reduceAdd, abuild, afill, abuildS, pureL, chunks, List.range, List.range.loop, Nat.reduceMul, Nat.reduceMod, apartF, apartI, aslice, evI, ASt.subst, AO.box, aval, pvals, ams, tys, mapTy_69, keyed_3, ]
end Go.Proofs.Ytbhkcejjehgfcaa
/- From the contract of a law's Go function to the law's statement. -/
namespace Go.Proofs.Ytbhkcejjehgfcaa
open Go.RowKit Go.Sort Go.ChangeShapes Go.WideShapes Go.ChangeAt

theorem trodAll_length {H : Type} {enc : TypeId × Value → H} {P : Program} {w : World} {base : Nat} {spare : Nat → Bool} {held : Bool} : ∀ {ts : List TypeId} {vs : List Value} {ds : List (DataW H)} {ps : List MemPlace}, DataW.TrodAll enc P w base spare held ts vs ds ps → ds.length = ts.length
  | [], [], [], _, _ => rfl
  | _ :: _, _ :: _, _ :: _, _, ⟨_, _, _, h, _⟩ => by simp [trodAll_length h]
theorem trodAll_below {H : Type} {enc : TypeId × Value → H} {P : Program} {W W' : World} (hl : laidOutB P = true) (hb : Below W.heap.size W W') : ∀ {ts : List TypeId} {vs : List Value} {ds : List (DataW H)} {ps : List MemPlace}, (∀ t ∈ ts, P.readableRec t = true ∧ t < P.types.size) →
    DataW.TrodAll enc P W 0 (fun _ => true) true ts vs ds ps → (∀ x ∈ ps, x.block < W.heap.size) → DataW.TrodAll enc P W' 0 (fun b => decide (b < W.heap.size)) true ts vs ds ps
  | [], [], [], _, _, h, _ => h
  | t :: _, _ :: _, _ :: _, _, hT, ⟨p, q, h1, h2, e⟩, hs =>
    ⟨p, q, Below.trod hl (hT t (List.mem_cons.2 (.inl rfl))).1 (hT t (List.mem_cons.2 (.inl rfl))).2 h1 hb (fun x hx => hs x (by rw [e]; exact List.mem_append_left _ hx)),
      trodAll_below hl hb (fun t ht => hT t (List.mem_cons.2 (.inr ht))) h2 (fun x hx => hs x (by rw [e]; exact List.mem_append_right _ hx)), e⟩

theorem law_post {H : Type} {enc : TypeId × Value → H} {P : Program} {f : Func} {s : ChangeSpec} {B : TypeId} (hl : laidOutB P = true) (hps : ∀ t ∈ f.params.toList, P.readableRec t = true ∧ t < P.types.size) (hres : f.resultTypes = #[B]) (hB : P.underlying B = some .bool)
    {W W' : World} (hb : Below W.heap.size W W') {args : Array Value} {ds gs : List (DataW H)} {before : List MemPlace} (hv : s.vars = []) (hW : DataW.Whole enc P f.params.toList s.vars false W args.toList ds gs before)
    (hspec : ∀ ds : List (DataW H), ds.length = f.params.size → s.fn H ds = { results := [.lit (.bool true)], args := ds }) :
    s.post enc P f false true false false W args (.bool true) W' := by
  have hW' := hW
  have hlt := hW.lt
  rw [hv] at hW
  obtain ⟨p, q, hA, hV, rfl, hfz, hnd⟩ := hW
  obtain ⟨rfl, rfl⟩ := trodVars_none hV
  have hsp := hspec ds (by rw [trodAll_length hA]; simp)
  have hlt' : ∀ x ∈ p, x.block < W.heap.size := fun x hx => hlt x (List.mem_append_left _ hx)
  refine ⟨ds, [], _, [], p, [], hW', ?_, ?_, ?_, hb.frame _, fun h => by cases h⟩
  · rw [List.append_nil, hsp, hres]
    exact trodAll_mk1 (shut_bool hB true)
  · rw [List.append_nil, hsp]
    exact trodAll_below hl hb hps hA hlt'
  · rw [List.append_nil, hsp, hv]; rfl

theorem law_lifted {H : Type} {enc : TypeId × Value → H} {C : Checked} {os : Os} {f : FuncId} {fn : Func} {s : ChangeSpec} {B : TypeId} (own : ownKnob C.prog.godebug = none) (started : os.Started) (noInit : C.prog.inits.idxOf? f = none) (hfn : C.prog.funcs[f]? = some fn)
    (witness : ∃ (w : World) (tape : Tape) (i : Input), w.os = os ∧ (w.forCall tape i).Shaped C.prog ∧ i.vars = [] ∧ Input.okWide C.prog (w.forCall tape i) .any w.heap.size f i ∧
      s.pre6 enc C.prog fn [] false (w.forCall tape i).memory i.args ∧ ({} : Assume).holds C.prog (lone (Frame.enter C.prog f i.args .normal) [] (w.forCall tape i)))
    (hl : laidOutB C.prog = true) (hps : (fn.params.toList.all fun t => C.prog.readableRec t && decide (t < C.prog.types.size)) = true) (hres : fn.resultTypes = #[B]) (hB : C.prog.underlying B = some .bool) (hv : s.vars = [])
    (hspec : ∀ ds : List (DataW H), ds.length = fn.params.size → s.fn H ds = { results := [.lit (.bool true)], args := ds })
    (contract : ∀ (W : World) (base : Nat) (args : Array Value) (ds : List (DataW H)) (p : List MemPlace),
      (∀ (j : Nat) t v, fn.params[j]? = some t → args[j]? = some v → Value.okWide C.prog W .any base t v) →
      DataW.TrodAll enc C.prog W 0 (fun _ => true) true fn.params.toList args.toList ds p → (∀ x ∈ p, x.block < W.heap.size) → W.noneFrozen p →
      (DataW.weightsEach C.prog fn.params.toList ds).all (· ≤ reachBytes) = true → W.ShapedOpen C.prog →
      Calls C.prog f args W (Gives (.bool true) W)) :
    ReturnsInHanded {} C os f .any (s.pre6 enc C.prog fn [] false) (s.post enc C.prog fn false true false false) := by
  refine returnsInHanded_of_change_shaped own started noInit hfn witness ?_
  intro W base args ds gs before hval hW _ hw hsh _
  have hW' := hW
  have hlt := hW.lt
  rw [hv] at hW
  obtain ⟨p, q, hA, hV, rfl, hfz, _⟩ := hW
  obtain ⟨rfl, rfl⟩ := trodVars_none hV
  have hnf : W.noneFrozen p := fun b off h => hfz b off (List.mem_append_left _ h)
  have hT : ∀ t ∈ fn.params.toList, C.prog.readableRec t = true ∧ t < C.prog.types.size := fun t ht => by
    have := List.all_eq_true.1 hps t ht
    simpa using this
  refine (contract W base args ds p hval hA (fun x hx => hlt x (List.mem_append_left _ hx)) hnf ?_ hsh).mono fun e W' h => ?_
  · simpa [ChangeSpec.plain, DataSpec.varTypes, hv] using hw
  · obtain ⟨rfl, q, rfl⟩ := h
    exact ⟨_, rfl, law_post hl hT hres hB (gw_below _ _) hv hW' hspec⟩

/-! ### Arguments by value -/
theorem cell_int {P : Program} {w : World} {r : Reach} {base : Nat} {u : TypeId} {v : Value} {k : IntKind} (hu : P.underlying u = some (.int k)) (h : Cell.okWide P w r base u v) : ∃ n, v = .int k n ∧ k.has n := by
  cases v <;> simp [Cell.okWide, Cell.ok, hu] at h
  obtain ⟨rfl, h2⟩ := h
  exact ⟨_, rfl, h2⟩
theorem cell_bool {P : Program} {w : World} {r : Reach} {base : Nat} {u : TypeId} {v : Value} (hu : P.underlying u = some .bool) (h : Cell.okWide P w r base u v) : ∃ b, v = .bool b := by
  cases v <;> simp [Cell.okWide, Cell.ok, hu] at h
  exact ⟨_, rfl⟩
theorem has_i64 {n : Int} (h : IntKind.i64.has n) : -9223372036854775808 ≤ n ∧ n ≤ 9223372036854775807 := by
  simp only [IntKind.has, IntKind.min, IntKind.max, IntKind.bits, IntKind.signed] at h
  simpa using h
theorem okWide_row {P : Program} {w : World} {r : Reach} {base : Nat} {t : TypeId} {v : Value} {ts : List TypeId} {n : Nat} (hu : (match P.underlying t with | some (.struct _) | some (.array _ _) => true | _ => false) = true) (hts : P.cellTypes P.depth t = some ts) (hn : P.cellsOf t = n) (hl : ts.length = n)
    (h : Value.okWide P w r base t v) : ∃ cs, v = .agg cs ∧ cs.size = n ∧ ∀ (i : Nat) x u, cs[i]? = some x → ts[i]? = some u → Cell.okWide P w r base u x := by
  unfold Value.okWide at h
  have h' : ∃ cs, v = .agg cs ∧ cs.size = P.cellsOf t ∧ Row.okWide P w r base t cs := by
    revert h hu
    cases P.underlying t with
    | none => intro hu; simp at hu
    | some d => cases d <;> intro hu <;> first | (simp at hu; done) | exact fun h => h
  obtain ⟨cs, rfl, hs, ts', hts', _, hc⟩ := h'
  rw [hts] at hts'
  obtain rfl : ts = ts' := Option.some.inj hts'
  refine ⟨cs, rfl, hs.trans hn, fun i x u hx hi => ?_⟩
  obtain ⟨u', hu', hok⟩ := hc i x hx
  have hlt : i < n := by
    have := (List.getElem?_eq_some_iff.1 hi).1
    omega
  rw [Nat.mod_eq_of_lt (by omega), hi] at hu'
  obtain rfl : u = u' := Option.some.inj hu'
  exact hok

end Go.Proofs.Ytbhkcejjehgfcaa
/- Threads as they come in. -/
namespace Go.Proofs.Ytbhkcejjehgfcaa
open Go.RowKit Go.Sort Go.ChangeShapes Go.WideShapes Go.ChangeAt

set_option maxRecDepth 100000
variable {H : Type} {enc : TypeId × Value → H} {W : World} {base : Nat} {spare : Nat → Bool} {held : Bool}
def PRs (W : World) (ps : List PV) (cs : List Value) : Prop := cs.length = ps.length ∧ ∀ (j : Nat) p v, ps[j]? = some p → cs[j]? = some v → PR (fun _ => False) W p v
theorem PRs.nil : PRs W [] [] := ⟨rfl, fun j p v h => by simp at h⟩
theorem PRs.cons {p : PV} {v : Value} {ps : List PV} {cs : List Value} (h : PR (fun _ => False) W p v) (k : PRs W ps cs) : PRs W (p :: ps) (v :: cs) := ⟨by simp [k.1], fun j p' v' h1 h2 => by
  cases j with
  | zero => simp at h1 h2; subst h1; subst h2; exact h
  | succ j => exact k.2 j p' v' (by simpa using h1) (by simpa using h2)⟩
theorem PRs.app {ps ps' : List PV} {cs cs' : List Value} (h : PRs W ps cs) (k : PRs W ps' cs') : PRs W (ps ++ ps') (cs ++ cs') := by
  induction ps generalizing cs with
  | nil =>
    have : cs = [] := List.eq_nil_of_length_eq_zero h.1
    subst this; exact k
  | cons p r ih =>
    cases cs with
    | nil => have := h.1; simp at this
    | cons v c => exact .cons (h.2 0 p v rfl rfl) (ih ⟨by have := h.1; simpa using this, fun j p' v' h1 h2 => h.2 (j + 1) p' v' (by simpa using h1) (by simpa using h2)⟩)
theorem split2 {α : Type} (cs : List α) {a b : Nat} (h : cs.length = a + b) : cs = (cs.drop 0).take a ++ (cs.drop a).take b := by
  rw [List.drop_zero, List.take_of_length_le (l := cs.drop a) (by simp; omega), List.take_append_drop]
theorem split3 {α : Type} (cs : List α) {a b c : Nat} (h : cs.length = a + b + c) : cs = (cs.drop 0).take a ++ (cs.drop a).take b ++ (cs.drop (a + b)).take c := by
  rw [List.drop_zero, List.take_of_length_le (l := cs.drop (a + b)) (by simp; omega)]
  rw [List.append_assoc, ← List.drop_drop, List.take_append_drop, List.take_append_drop]
theorem split4 {α : Type} (cs : List α) (h : cs.length = 4) : cs = (cs.drop 0).take 1 ++ (cs.drop 1).take 1 ++ (cs.drop 2).take 1 ++ (cs.drop 3).take 1 := by
  match cs, h with
  | [a, b, c, d], _ => rfl
theorem one_int {n : Nat} {cs : List Value} {y : DataW H × List MemPlace} (h : DataW.trod enc Try.prog W base spare held n 3 cs = some y) : ∃ x : Int, cs = [.int .i64 x] := by
  obtain ⟨x, hx, _, wx⟩ := DataW.trod_int (by kernel_rfl : Try.prog.underlying 3 = some (.int .i64)) h
  exact ⟨x, hx⟩
theorem one_bool {n : Nat} {cs : List Value} {y : DataW H × List MemPlace} (h : DataW.trod enc Try.prog W base spare held n 4 cs = some y) : ∃ x, cs = [.bool x] := by
  obtain ⟨x, hx, _⟩ := DataW.trod_bool (by kernel_rfl : Try.prog.underlying 4 = some .bool) h
  exact ⟨x, hx⟩
theorem pick_of {n : Nat} {cs : List Value} {y : DataW H × List MemPlace} (h : DataW.trod enc Try.prog W base spare held n 44 cs = some y) : ∃ o f : Int, cs = [.int .i64 o, .int .i64 f] := by
  obtain ⟨xs, m, _, _, hl, hx, hf⟩ := DataW.trod_struct (P := Try.prog) (t := 44) rfl h
  have hx' : xs.length = 2 := hx
  have f0 := hf 0 _ rfl
  have f1 := hf 1 _ rfl
  rw [List.getElem?_eq_getElem (by omega)] at f0 f1
  obtain ⟨o, e0⟩ := one_int f0
  obtain ⟨f, e1⟩ := one_int f1
  have hc : Try.prog.cellsOf 3 = 1 := by kernel_rfl
  have hcl : Try.prog.cellsOf 44 = 2 := by kernel_rfl
  rw [hcl] at hl
  have hs := split2 cs (a := 1) (b := 1) hl
  refine ⟨o, f, ?_⟩
  rw [hs]
  change (cs.drop 0).take (Try.prog.cellsOf 3) = _ at e0
  rw [hc] at e0
  change (cs.drop 1).take (Try.prog.cellsOf 3) = _ at e1
  rw [hc] at e1
  rw [e0, e1]; rfl
theorem touch_of {n : Nat} {cs : List Value} {y : DataW H × List MemPlace} (h : DataW.trod enc Try.prog W base spare held n 40 cs = some y) : ∃ x : Tc, PRs W (tcC x) cs := by
  obtain ⟨xs, m, _, _, hl, hx, hf⟩ := DataW.trod_struct (P := Try.prog) (t := 40) rfl h
  have hx' : xs.length = 4 := hx
  have f0 := hf 0 _ rfl
  have f1 := hf 1 _ rfl
  have f2 := hf 2 _ rfl
  have f3 := hf 3 _ rfl
  rw [List.getElem?_eq_getElem (by omega)] at f0 f1 f2 f3
  obtain ⟨a, e0⟩ := one_int f0
  obtain ⟨b, e1⟩ := one_int f1
  obtain ⟨c, e2⟩ := one_int f2
  obtain ⟨d, e3⟩ := one_bool f3
  have hc : Try.prog.cellsOf 3 = 1 := by kernel_rfl
  have hb : Try.prog.cellsOf 4 = 1 := by kernel_rfl
  have hcl : Try.prog.cellsOf 40 = 4 := by kernel_rfl
  rw [hcl] at hl
  have hs := split4 cs hl
  refine ⟨⟨a, b, c, d⟩, ?_⟩
  rw [hs]
  change (cs.drop 0).take (Try.prog.cellsOf 3) = _ at e0
  rw [hc] at e0
  change (cs.drop 1).take (Try.prog.cellsOf 3) = _ at e1
  rw [hc] at e1
  change (cs.drop 2).take (Try.prog.cellsOf 3) = _ at e2
  rw [hc] at e2
  change (cs.drop 3).take (Try.prog.cellsOf 4) = _ at e3
  rw [hb] at e3
  rw [e0, e1, e2, e3]
  exact .cons (.val _ rfl) (.cons (.val _ rfl) (.cons (.val _ rfl) (.cons (.val _ rfl) .nil)))

/-- A slice, whose elements are known. -/
theorem sl_pr {α : Type} {n : Nat} {g : α → List PV} {e t : TypeId} (hu : Try.prog.underlying t = some (.slice e)) (hc : Try.prog.cellsOf e = n) (hg : ∀ x, (g x).length = n) (hn : 0 < n)
    (hel : ∀ m cs y, DataW.trod enc Try.prog W base spare held m e cs = some y → ∃ x, PRs W (g x) cs) {m : Nat} {cs : List Value} {y : DataW H × List MemPlace} (h : DataW.trod enc Try.prog W base spare held m t cs = some y) :
    ∃ (L : List α) (v : Value), cs = [v] ∧ PR (fun _ => False) W (.seq n (L.map g)) v := by
  rcases DataW.trod_slice hu h with ⟨h0, _⟩ | ⟨a, len, cap, elems, rest, k, _, hcs, _, _, hlc, hmax, hlen, hel', _⟩
  · exact ⟨[], _, h0, .nil n none 0 fun _ => rfl⟩
  · have hall : ∀ i, i < len → ∃ (x : α) (c : List Value), PRs W (g x) c ∧ ∀ j, j < n → W.cell? ((a.add (i * n)).add j) = c[j]? := fun i hi => by
      have hE := hel' i hi
      rw [List.getElem?_eq_getElem (by omega), Option.bind_eq_some_iff, hc] at hE
      obtain ⟨cs, hcs, hy⟩ := hE
      obtain ⟨_, hl, hat⟩ := World.cells?_some hcs
      obtain ⟨x, hx⟩ := hel _ _ _ hy
      exact ⟨x, cs, hx, fun j hj => hat j hj⟩
    by_cases h0 : 0 < len
    · obtain ⟨e0, c0, hp0, hc0⟩ := hall 0 h0
      have hl0 : c0.length = n := by rw [hp0.1, hg]
      have hc00 := hc0 0 hn
      obtain ⟨b, off, spot⟩ := a
      rw [List.getElem?_eq_getElem (by omega)] at hc00
      have hspot : spot = none := by
        have := World.cell?_spot hc00
        simpa [Addr.add] using this
      subst hspot
      have hall2 : ∀ i, i < len → ∃ (x : α) (c : List Value), PRs W (g x) c ∧ ∀ j, j < n → W.cell? ⟨b, off + i * n + j, none⟩ = c[j]? := fun i hi => by
        obtain ⟨x, c, h1, h2⟩ := hall i hi
        refine ⟨x, c, h1, fun j hj => ?_⟩
        have := h2 j hj
        rw [Go.WideShapes.add_plain, Go.WideShapes.add_plain] at this
        exact this
      have hOld : Old b W := by
        obtain ⟨x, c, h1, h2⟩ := hall2 0 h0
        have h3 := h2 0 hn
        have hl1 : c.length = n := by rw [h1.1, hg]
        rw [List.getElem?_eq_getElem (by omega)] at h3
        exact Old.of_cell h3
      let X : Fin len → α := fun i => (hall2 i.1 i.2).choose
      have hX : ∀ i : Fin len, ∃ c : List Value, PRs W (g (X i)) c ∧ ∀ j, j < n → W.cell? ⟨b, off + i.1 * n + j, none⟩ = c[j]? := fun i => (hall2 i.1 i.2).choose_spec
      have hlen2 : (((List.finRange len).map X).map g).length = len := by simp
      refine ⟨(List.finRange len).map X, .slice (some ⟨b, off, none⟩) (((List.finRange len).map X).map g).length cap, by rw [hcs, hlen2], ?_⟩
      have key : ∀ k r j x, (((List.finRange len).map X).map g)[k]? = some r → r[j]? = some x → ∃ v, W.cell? ⟨b, off + k * n + j, none⟩ = some v ∧ PR (fun _ => False) W x v := fun k r j x hk hx => by
        simp only [List.getElem?_map, Option.map_eq_some_iff] at hk
        obtain ⟨y, ⟨i, hi, rfl⟩, rfl⟩ := hk
        have hki : i.1 = k := by
          obtain ⟨h1, h2⟩ := List.getElem?_eq_some_iff.1 hi
          rw [← h2]; simp
        obtain ⟨c, h1, h2⟩ := hX i
        have hjn : j < n := by rw [← hg (X i)]; exact (List.getElem?_eq_some_iff.1 hx).1
        have hcl : c.length = n := by rw [h1.1, hg]
        have h3 := h2 j hjn
        rw [hki, List.getElem?_eq_getElem (by omega)] at h3
        exact ⟨_, h3, h1.2 j x _ hx (List.getElem?_eq_getElem (by omega))⟩
      refine .seq n b off cap _ (fun k j => (W.cell? ⟨b, off + k * n + j, none⟩).getD undef) hOld id (by rw [hlen2]; exact hlc) hmax (fun r hr => ?_) (fun k r j x hk hx => ?_) (fun k r j x hk hx => ?_)
      · obtain ⟨y, _, rfl⟩ := List.mem_map.1 hr; exact hg y
      · obtain ⟨v, h1, _⟩ := key k r j x hk hx
        rw [h1]; rfl
      · obtain ⟨v, h1, h2⟩ := key k r j x hk hx
        rw [h1]; exact h2
    · obtain rfl : len = 0 := by omega
      exact ⟨[], _, hcs, .nil n (some a) cap fun e => by cases e⟩
theorem step_of {n : Nat} {cs : List Value} {y : DataW H × List MemPlace} (h : DataW.trod enc Try.prog W base spare held n 48 cs = some y) : ∃ s : St, PRs W (stC s) cs := by
  obtain ⟨xs, m, _, _, hl, hx, hf⟩ := DataW.trod_struct (P := Try.prog) (t := 48) rfl h
  have hx' : xs.length = 3 := hx
  have f0 := hf 0 _ rfl
  have f1 := hf 1 _ rfl
  have f2 := hf 2 _ rfl
  rw [List.getElem?_eq_getElem (by omega)] at f0 f1 f2
  obtain ⟨g, c, e0⟩ := pick_of f0
  obtain ⟨gs, gv, e1, r1⟩ := sl_pr (e := 3) (n := 1) (g := inC) (by kernel_rfl) (by kernel_rfl) (fun _ => rfl) (by omega) (fun m cs y h => by obtain ⟨x, hx⟩ := one_int h; subst hx; exact ⟨x, .cons (.val _ rfl) .nil⟩) f1
  obtain ⟨ts, tv, e2, r2⟩ := sl_pr (e := 40) (n := 4) (g := tcC) (by kernel_rfl) (by kernel_rfl) (fun _ => rfl) (by omega) (fun m cs y h => touch_of h) f2
  have h0 : Try.prog.cellsOf 44 = 2 := by kernel_rfl
  have h1 : Try.prog.cellsOf 45 = 1 := by kernel_rfl
  have h2 : Try.prog.cellsOf 46 = 1 := by kernel_rfl
  have hcl : Try.prog.cellsOf 48 = 4 := by kernel_rfl
  rw [hcl] at hl
  have hs := split3 cs (a := 2) (b := 1) (c := 1) hl
  refine ⟨⟨g, c, gs, ts⟩, ?_⟩
  rw [hs]
  change (cs.drop 0).take (Try.prog.cellsOf 44) = _ at e0
  rw [h0] at e0
  change (cs.drop 2).take (Try.prog.cellsOf 45) = _ at e1
  rw [h1] at e1
  change (cs.drop (2 + 1)).take (Try.prog.cellsOf 46) = _ at e2
  rw [h2] at e2
  rw [e0, e1, e2]
  exact .cons (.val _ rfl) (.cons (.val _ rfl) (.cons r1 (.cons r2 .nil)))
theorem thread_of {n : Nat} {cs : List Value} {y : DataW H × List MemPlace} (h : DataW.trod enc Try.prog W base spare held n 30 cs = some y) : ∃ l : List St, PRs W [thP l] cs := by
  obtain ⟨l, v, rfl, hp⟩ := sl_pr (e := 48) (n := 4) (g := stC) (by kernel_rfl) (by kernel_rfl) (fun _ => rfl) (by omega) (fun m cs y h => step_of h) h
  exact ⟨l, .cons hp .nil⟩
theorem slice_of_cells {P : Program} {w : World} {r : Reach} {base : Nat} {t e : TypeId} {v x : Value} (hu : P.underlying t = some (.slice e)) (hok : Value.okWide P w r base t v) (h : v.cells.toList = [x]) : v = x := by
  unfold Value.okWide at hok
  rw [hu] at hok
  cases v <;> simp [Value.cells] at h <;> first | exact h | (simp [Cell.okWide, Cell.ok, hu] at hok)
theorem open_threads {r : Reach} {v : Value} {d : DataW H} {p : List MemPlace} (hval : Value.okWide Try.prog W r base 22 v)
    (h : DataW.Trod enc Try.prog W 0 (fun _ => true) true 22 v d p) : ∃ ths : List (List St), PR (fun _ => False) W (thsP ths) v := by
  obtain ⟨fuel, h⟩ := h
  obtain ⟨ths, x, e, hp⟩ := sl_pr (e := 30) (n := 1) (g := fun l => [thP l]) (by kernel_rfl) (by kernel_rfl) (fun _ => rfl) (by omega) (fun m cs y h => thread_of h) h
  rw [slice_of_cells (e := 30) (by kernel_rfl) hval e]
  exact ⟨ths, hp⟩
theorem Try.own : ownKnob Try.prog.godebug = none := by kernel_rfl
/-- The contract of a law's function, met at its arguments. -/
theorem PureC.gives {P : Program} {f : FuncId} {xs : List AV} {b : Bool} {vs : Array Value} (h : PureC P f xs (.bool b)) (hx : ARs 0 (fun _ => False) noLoc W xs vs.toList) : Calls P f vs W (Gives (.bool b) W) := by
  have := h (fun _ => False) W vs.toList (fun _ h => h.elim) hx
  refine Calls.mono this fun e w' ⟨v, h1, h2, h3⟩ => ?_
  subst h1
  exact ⟨by rw [h3.val], gw_of_below h2.toBelow⟩
end Go.Proofs.Ytbhkcejjehgfcaa
/- The program is laid out. -/
namespace Go.Proofs.Ytbhkcejjehgfcaa
open Go.RowKit Go.Sort Go.ChangeShapes Go.WideShapes Go.ChangeAt
theorem Try.laidOut : laidOutB Try.prog = true := by kernel_rfl
end Go.Proofs.Ytbhkcejjehgfcaa
/- 'Classes returns the number of classes' -/
namespace Go.Proofs.Ytbhkcejjehgfcaa
open Go.RowKit Go.Sort Go.ChangeShapes Go.WideShapes Go.ChangeAt

set_option maxRecDepth 100000 in
theorem SleepCounts_lifted (os : Os) (started : os.Started) (H : Type) (enc : TypeId × Value → H) :
    ReturnsInHanded {} Try.checked os 5 .any (Rows.sleepCountsSpec.pre6 enc Try.prog Try.f5 Rows.sleepCountsRow.domain false) (Rows.sleepCountsSpec.post enc Try.prog Try.f5 false true false false) := by
  refine law_lifted (C := Try.checked) (B := 4) Try.own started (by kernel_rfl) Try.func5
    (ChangeSpec.witness6 (enc := enc) (C := Try.checked) false ⟨#[], #[.slice none 0 0], []⟩ 8 (by kernel_rfl) (by kernel_rfl) (by kernel_rfl) (by kernel_rfl)) Try.laidOut (by kernel_rfl) (by kernel_rfl) (by kernel_rfl) rfl
    (fun ds h => by match ds, h with | [_], _ => rfl) ?_
  intro W base args ds p hval0 hA0 hlt hnf hw hsh
  have hval : ∀ (j : Nat) t v, Try.f5.params[j]? = some t → args[j]? = some v → Value.okWide Try.prog W .any base t v := hval0
  have hA : DataW.TrodAll enc Try.prog W 0 (fun _ => true) true Try.f5.params.toList args.toList ds p := hA0
  clear hval0 hA0
  rw [Try.params5] at hA hval
  obtain ⟨v0, d0, rfl, rfl, h0⟩ := trodAll_one hA
  obtain ⟨ths, hp⟩ := open_threads (hval 0 22 _ rfl rfl) h0
  exact (sleepCounts_ok ths).gives ⟨rfl, fun j x v hx hv => by
    match j, hx, hv with
    | 0, hx, hv => cases hx; cases hv; exact .p _ _ hp⟩

theorem SleepCounts_holds : Rows.SleepCountsSaid :=
  OpenClaim.holds_of_wide 5 Try.f5 rfl rfl rfl rfl rfl rfl rfl ⟨rfl, rfl, rfl, rfl, rfl⟩ rfl rfl rfl rfl rfl (by kernel_rfl) Try.func5 (by kernel_rfl)
    (of_decide_eq_true (by kernel_rfl)) (by unfold Func.isWrapper; first | (rw [if_pos (by decide +kernel)]; kernel_rfl) | (rw [if_neg (by decide +kernel)]; exact ⟨rfl, rfl⟩))
    (fun os started H enc _ => SleepCounts_lifted os started H enc)

end Go.Proofs.Ytbhkcejjehgfcaa
