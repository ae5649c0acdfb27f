/- Texts Ee, Ef, Eg, Av, Eh, Ei, Ma, Mb, Mc, Md. -/
import Derived.Shelf.SlSortCmp.Whole1
import Derived.Ground.SlsfProg
import Derived.Test.YtbhkcejjehgfcaaZ06
/- order and Canonical. -/
namespace Go.Proofs.Ytbhkcejjehgfcaa
open Go.RowKit Go.Sort
set_option linter.unusedSimpArgs false
set_option linter.unusedVariables false

def bestI : Option Nat → Int
  | none => -1
  | some b => b
theorem bestI_some (b : Nat) : bestI (some b) = (b : Int) := rfl
theorem bestI_none : bestI none = -1 := rfl
def outR (l : List Nat) : List (List PV) := l.map fun (i : Nat) => inC (i : Int)
set_option maxHeartbeats 8000000 in
set_option maxRecDepth 100000 in
theorem order_ok (l : List St) (hl : l.length ≤ 1000000) (hv : ∀ s ∈ l, StV s) : PureC Try.prog 38 [.p (thP l)] (.tup [.p (.seq 1 (outR (orderB l))), .bool true]) := by
  have hml : l.length ≤ maxLen := by unfold maxLen; omega
  have hm1 : 1 ≤ maxLen := by decide
  have hm2 : 2 ≤ maxLen := by decide
  have hmb : 1 * l.length ≤ 140737488355328 := by omega
  simp only [thP]
  refine PureC.of Try.func38 rfl 85 rfl (by decide) (by simp [AV.okB]) ?_
  repeat' (first | (refine T.seqK fun K hK => ?_) | (refine T.block ?_) | (refine T.reg (by kernel_rfl) fun K' hK' => ?_; simp only [startSt, frOf, List.map_cons, List.map_nil]; (repeat' (first | (with_reducible refine WL.fin ?_; refine hK' _ ?_; clear hK' K') | (with_reducible refine WD.fin ?_) | ((first | (with_reducible refine WL.step fun K2 hK2 => ?_) | (with_reducible refine WD.step fun K2 hK2 => ?_)); simp only [WS, WH, WO, WOv, WG, dstOk, hasDst, aop, ASt.ev, aload, aloadC, afield, aindex, abin, abinI, aun, alen, acells, Nat.reduceEqDiff, Nat.reduceLT, Nat.reduceLeDiff, Nat.reduceAdd, reduceIte, reduceCtorEq, implies_true, ASt.add, setHp, asplice, Int.reduceEq, Int.reduceNe, Int.reduceLT, Int.reduceLE, Int.reduceSub, Int.reduceAdd, abuild, afill, abuildS, pureL, chunks, List.range, List.range.loop, Nat.reduceMul, Nat.reduceMod, apartF, apartI, aslice, evI, ASt.subst, AO.box, aval, pvals, ams, tys, mapTy_69, keyed_3]; (repeat' (first | (with_reducible refine hK2 _ ?_; clear hK2 K2) | (with_reducible refine And.intro ?_ ?_) | (with_reducible intro hb) | fail))))); all_goals ((try simp only [ThenA, InBlock, reduceIte, Nat.reduceEqDiff]); (try ((repeat ((fail_if_success (refine hK _ ?_)); clear hK K)); refine hK _ ?_; clear hK K)))) | (refine T.skip ?_; (try simp only [ThenA, InBlock, reduceIte, Nat.reduceEqDiff]); (try ((repeat ((fail_if_success (refine hK _ ?_)); clear hK K)); refine hK _ ?_; clear hK K))) | (refine T.exit ?_; (try simp only [ThenA, InBlock, reduceIte, Nat.reduceEqDiff]); (try ((repeat ((fail_if_success (refine hK _ ?_)); clear hK K)); refine hK _ ?_; clear hK K))) | (refine T.condT rfl ?_) | (refine T.condF rfl ?_) | (refine T.cond rfl (fun hc => ?_) (fun hc => ?_)) | (refine T.ret ?_; (try simp only [ThenA, InBlock, reduceIte, Nat.reduceEqDiff]); (try ((repeat ((fail_if_success (refine hK _ ?_)); clear hK K)); refine hK _ ?_; clear hK K))))
  refine T.loopK (fun k : Nat => ⟨[(1, .ptr 0 0), (12, .p (thP l)), (13, .int l.length), (14, .int k)], [(0, .boxP none 30 [.p (thP l)])], 85, 1⟩) (fun k => k ≤ l.length) (fun k => l.length - k) 0 (Nat.zero_le _) (by refine Weak.of' rfl ?_; simp only [List.mem_cons, List.not_mem_nil, or_false, forall_eq_or_imp, forall_eq, get_mk, lk_cons, lk_nil, reduceIte, Nat.reduceEqDiff, Option.getD_some, Option.getD_none, AVle_refl, AVle_nil, AVle_int, AVle_bool, AVle_junk, ASt.okB, AV.okB, AO.okB_box, AO.okB_row, AO.okB_map, AO.okB_raw, AO.okB_lrec, AV.okB_agg, AV.okB_tup, AV.okB_fn, List.all_cons, List.all_nil, Bool.and_self, Bool.and_true, Bool.true_and, Nat.reduceLT, decide_true, true_and, and_true, false_implies, implies_true, Int.natCast_zero, thP]) ?_
  rintro k hk KL hKL
  simp only [thP]
  by_cases hlt : k < l.length
  · obtain ⟨s, hs⟩ := at_lt hlt
    have hd : decide ((k : Int) < (l.length : Int)) = true := by simpa using hlt
    have hsv := stepValid_ok s (hv s (List.mem_of_getElem? hs))
    simp only [stA, stC, List.map_cons, List.map_nil] at hsv
    repeat' (first | (refine T.seqK fun K hK => ?_) | (refine T.block ?_) | (refine T.reg (by kernel_rfl) fun K' hK' => ?_; simp only [startSt, frOf, List.map_cons, List.map_nil]; (repeat' (first | (with_reducible refine WL.fin ?_; refine hK' _ ?_; clear hK' K') | (with_reducible refine WD.fin ?_) | ((first | (with_reducible refine WL.step fun K2 hK2 => ?_) | (with_reducible refine WD.step fun K2 hK2 => ?_)); simp only [WS, WH, WO, WOv, WG, dstOk, hasDst, aop, ASt.ev, aload, aloadC, afield, aindex, abin, abinI, aun, alen, acells, Nat.reduceEqDiff, Nat.reduceLT, Nat.reduceLeDiff, Nat.reduceAdd, reduceIte, reduceCtorEq, implies_true, ASt.add, setHp, asplice, Int.reduceEq, Int.reduceNe, Int.reduceLT, Int.reduceLE, Int.reduceSub, Int.reduceAdd, abuild, afill, abuildS, pureL, chunks, List.range, List.range.loop, Nat.reduceMul, Nat.reduceMod, apartF, apartI, aslice, evI, ASt.subst, AO.box, aval, pvals, ams, tys, mapTy_69, keyed_3, hd, hs, stC]; (repeat' (first | (with_reducible refine hK2 _ ?_; clear hK2 K2) | (with_reducible refine And.intro ?_ ?_) | (with_reducible intro hb) | ((first | (with_reducible apply callArmO) | (with_reducible apply callArm)); case h => exact CallV.plain (Ent.of Try.func48 (by kernel_rfl) rfl) (hsv) (by simp [AV.okB]))))))); all_goals ((try simp only [ThenA, InBlock, reduceIte, Nat.reduceEqDiff]); (try ((repeat ((fail_if_success (refine hK _ ?_)); clear hK K)); refine hK _ ?_; clear hK K)))) | (refine T.skip ?_; (try simp only [ThenA, InBlock, reduceIte, Nat.reduceEqDiff]); (try ((repeat ((fail_if_success (refine hK _ ?_)); clear hK K)); refine hK _ ?_; clear hK K))) | (refine T.exit ?_; (try simp only [ThenA, InBlock, reduceIte, Nat.reduceEqDiff]); (try ((repeat ((fail_if_success (refine hK _ ?_)); clear hK K)); refine hK _ ?_; clear hK K))) | (refine T.condT rfl ?_) | (refine T.condF rfl ?_) | (refine T.cond rfl (fun hc => ?_) (fun hc => ?_)) | (refine T.ret ?_; (try simp only [ThenA, InBlock, reduceIte, Nat.reduceEqDiff]); (try ((repeat ((fail_if_success (refine hK _ ?_)); clear hK K)); refine hK _ ?_; clear hK K))))
    exact hKL _ (k + 1) (by refine Weak.of' rfl ?_; simp only [List.mem_cons, List.not_mem_nil, or_false, forall_eq_or_imp, forall_eq, get_mk, lk_cons, lk_nil, reduceIte, Nat.reduceEqDiff, Option.getD_some, Option.getD_none, AVle_refl, AVle_nil, AVle_int, AVle_bool, AVle_junk, ASt.okB, AV.okB, AO.okB_box, AO.okB_row, AO.okB_map, AO.okB_raw, AO.okB_lrec, AV.okB_agg, AV.okB_tup, AV.okB_fn, List.all_cons, List.all_nil, Bool.and_self, Bool.and_true, Bool.true_and, Nat.reduceLT, decide_true, true_and, and_true, false_implies, implies_true, wrap_succ (show k < 1152921504606846976 by omega), thP]) (by omega) (by omega)
  have hd : decide ((k : Int) < (l.length : Int)) = false := by simpa using hlt
  clear hKL
  repeat' (first | (refine T.seqK fun K hK => ?_) | (refine T.block ?_) | (refine T.reg (by kernel_rfl) fun K' hK' => ?_; simp only [startSt, frOf, List.map_cons, List.map_nil]; (repeat' (first | (with_reducible refine WL.fin ?_; refine hK' _ ?_; clear hK' K') | (with_reducible refine WD.fin ?_) | ((first | (with_reducible refine WL.step fun K2 hK2 => ?_) | (with_reducible refine WD.step fun K2 hK2 => ?_)); simp only [WS, WH, WO, WOv, WG, dstOk, hasDst, aop, ASt.ev, aload, aloadC, afield, aindex, abin, abinI, aun, alen, acells, Nat.reduceEqDiff, Nat.reduceLT, Nat.reduceLeDiff, Nat.reduceAdd, reduceIte, reduceCtorEq, implies_true, ASt.add, setHp, asplice, Int.reduceEq, Int.reduceNe, Int.reduceLT, Int.reduceLE, Int.reduceSub, Int.reduceAdd, abuild, afill, abuildS, pureL, chunks, List.range, List.range.loop, Nat.reduceMul, Nat.reduceMod, apartF, apartI, aslice, evI, ASt.subst, AO.box, aval, pvals, ams, tys, mapTy_69, keyed_3, hd, hml, hmb]; (repeat' (first | (with_reducible refine hK2 _ ?_; clear hK2 K2) | (with_reducible refine And.intro ?_ ?_) | (with_reducible intro hb) | fail))))); all_goals ((try simp only [ThenA, InBlock, reduceIte, Nat.reduceEqDiff]); (try ((repeat ((fail_if_success (refine hK _ ?_)); clear hK K)); refine hK _ ?_; clear hK K)))) | (refine T.skip ?_; (try simp only [ThenA, InBlock, reduceIte, Nat.reduceEqDiff]); (try ((repeat ((fail_if_success (refine hK _ ?_)); clear hK K)); refine hK _ ?_; clear hK K))) | (refine T.exit ?_; (try simp only [ThenA, InBlock, reduceIte, Nat.reduceEqDiff]); (try ((repeat ((fail_if_success (refine hK _ ?_)); clear hK K)); refine hK _ ?_; clear hK K))) | (refine T.condT rfl ?_) | (refine T.condF rfl ?_) | (refine T.cond rfl (fun hc => ?_) (fun hc => ?_)) | (refine T.ret ?_; (try simp only [ThenA, InBlock, reduceIte, Nat.reduceEqDiff]); (try ((repeat ((fail_if_success (refine hK _ ?_)); clear hK K)); refine hK _ ?_; clear hK K))))
  refine T.pin 0 _ rfl fun b0 => ?_; simp only [setHp, AO.pin, List.map_cons, List.map_nil, reduceIte, Nat.reduceEqDiff]
  refine T.pin 2 _ rfl fun b2 => ?_; simp only [setHp, AO.pin, List.map_cons, List.map_nil, reduceIte, Nat.reduceEqDiff]
  clear hd hlt hk
  refine T.loopK (fun k : Nat => ⟨[(1, .ptr 0 0), (6, .ptr 2 0), (7, .fn (.func 49) [.ptr 2 0, .ptr 0 0]), (8, .own 3), (27, .int l.length), (28, .int k)], [(3, .row 3 1 (outR (ordN l k).1)), (2, .boxP (some b2) 80 [.own 1]), (1, .row 4 1 (chR (ordN l k).2)), (0, .boxP (some b0) 30 [.p (thP l)])], 85, 4⟩)
    (fun k => k ≤ l.length) (fun k => l.length - k) 0 (Nat.zero_le _) ?_ ?_
  · exact (Weak.newrow _ 8 3 1 (show 8 < 85 by decide) rfl).trans (by refine Weak.of' rfl ?_; simp only [List.mem_cons, List.not_mem_nil, or_false, forall_eq_or_imp, forall_eq, get_mk, lk_cons, lk_nil, reduceIte, Nat.reduceEqDiff, Option.getD_some, Option.getD_none, AVle_refl, AVle_nil, AVle_int, AVle_bool, AVle_junk, ASt.okB, AV.okB, AO.okB_box, AO.okB_row, AO.okB_map, AO.okB_raw, AO.okB_lrec, AV.okB_agg, AV.okB_tup, AV.okB_fn, List.all_cons, List.all_nil, Bool.and_self, Bool.and_true, Bool.true_and, Nat.reduceLT, decide_true, true_and, and_true, false_implies, implies_true, ASt.add, put_some, Int.natCast_zero, thP, ordN, outR, chR, bC, List.map_replicate, List.map_nil, List.cons_append, List.nil_append])
  clear k
  rintro k hk KL hKL
  simp only [thP]
  by_cases hlt : k < l.length
  · have hd : decide ((k : Int) < (l.length : Int)) = true := by simpa using hlt
    obtain ⟨best, hb1, hb2, hnx⟩ := ord_next l k hlt
    obtain ⟨hcl, -, hol, -⟩ := ord_inv l k hk
    obtain ⟨ch, hch⟩ : ∃ ch, ch = (ordN l k).2 := ⟨_, rfl⟩
    obtain ⟨outs, houts⟩ : ∃ outs, outs = (ordN l k).1 := ⟨_, rfl⟩
    rw [← hch] at hb1 hcl
    rw [← hch, ← houts] at hnx ⊢
    rw [← houts] at hol
    repeat' (first | (refine T.seqK fun K hK => ?_) | (refine T.block ?_) | (refine T.reg (by kernel_rfl) fun K' hK' => ?_; simp only [startSt, frOf, List.map_cons, List.map_nil]; (repeat' (first | (with_reducible refine WL.fin ?_; refine hK' _ ?_; clear hK' K') | (with_reducible refine WD.fin ?_) | ((first | (with_reducible refine WL.step fun K2 hK2 => ?_) | (with_reducible refine WD.step fun K2 hK2 => ?_)); simp only [WS, WH, WO, WOv, WG, dstOk, hasDst, aop, ASt.ev, aload, aloadC, afield, aindex, abin, abinI, aun, alen, acells, Nat.reduceEqDiff, Nat.reduceLT, Nat.reduceLeDiff, Nat.reduceAdd, reduceIte, reduceCtorEq, implies_true, ASt.add, setHp, asplice, Int.reduceEq, Int.reduceNe, Int.reduceLT, Int.reduceLE, Int.reduceSub, Int.reduceAdd, abuild, afill, abuildS, pureL, chunks, List.range, List.range.loop, Nat.reduceMul, Nat.reduceMod, apartF, apartI, aslice, evI, ASt.subst, AO.box, aval, pvals, ams, tys, mapTy_69, keyed_3, hd]; (repeat' (first | (with_reducible refine hK2 _ ?_; clear hK2 K2) | (with_reducible refine And.intro ?_ ?_) | (with_reducible intro hb) | fail))))); all_goals ((try simp only [ThenA, InBlock, reduceIte, Nat.reduceEqDiff]); (try ((repeat ((fail_if_success (refine hK _ ?_)); clear hK K)); refine hK _ ?_; clear hK K)))) | (refine T.skip ?_; (try simp only [ThenA, InBlock, reduceIte, Nat.reduceEqDiff]); (try ((repeat ((fail_if_success (refine hK _ ?_)); clear hK K)); refine hK _ ?_; clear hK K))) | (refine T.exit ?_; (try simp only [ThenA, InBlock, reduceIte, Nat.reduceEqDiff]); (try ((repeat ((fail_if_success (refine hK _ ?_)); clear hK K)); refine hK _ ?_; clear hK K))) | (refine T.condT rfl ?_) | (refine T.condF rfl ?_) | (refine T.cond rfl (fun hc => ?_) (fun hc => ?_)) | (refine T.ret ?_; (try simp only [ThenA, InBlock, reduceIte, Nat.reduceEqDiff]); (try ((repeat ((fail_if_success (refine hK _ ?_)); clear hK K)); refine hK _ ?_; clear hK K))))
    refine T.loopK (fun i : Nat => ⟨[(1, .ptr 0 0), (6, .ptr 2 0), (7, .fn (.func 49) [.ptr 2 0, .ptr 0 0]), (8, .own 3), (9, .int (bestI (bestN l ch i))), (27, .int l.length), (28, .int k), (30, .p (thP l)), (31, .int l.length), (32, .int i)], [(3, .row 3 1 (outR outs)), (2, .boxP (some b2) 80 [.own 1]), (1, .row 4 1 (chR ch)), (0, .boxP (some b0) 30 [.p (thP l)])], 85, 4⟩)
      (fun i => i ≤ l.length) (fun i => l.length - i) 0 (Nat.zero_le _) (by refine Weak.of' rfl ?_; simp only [List.mem_cons, List.not_mem_nil, or_false, forall_eq_or_imp, forall_eq, get_mk, lk_cons, lk_nil, reduceIte, Nat.reduceEqDiff, Option.getD_some, Option.getD_none, AVle_refl, AVle_nil, AVle_int, AVle_bool, AVle_junk, ASt.okB, AV.okB, AO.okB_box, AO.okB_row, AO.okB_map, AO.okB_raw, AO.okB_lrec, AV.okB_agg, AV.okB_tup, AV.okB_fn, List.all_cons, List.all_nil, Bool.and_self, Bool.and_true, Bool.true_and, Nat.reduceLT, decide_true, true_and, and_true, false_implies, implies_true, Int.natCast_zero, thP, bestN, bestI]) ?_
    rintro i hi KJ hKJ
    simp only [thP, chR]
    by_cases hil : i < l.length
    · obtain ⟨s, hs⟩ := at_lt hil
      have hd2 : decide ((i : Int) < (l.length : Int)) = true := by simpa using hil
      obtain ⟨c, hc⟩ := at_lt (l := ch) (k := i) (by omega)
      have hic : i < ch.length := by omega
      have hb3 : bestN l ch (i + 1) = if betB l ch (bestN l ch i) i s = true then some i else bestN l ch i := by rw [bestN, bestStep, hs]
      have hgetc : ch.getD i false = c := by rw [List.getD_eq_getElem?_getD, hc]; rfl
      have hskip : betB l ch (bestN l ch i) i s = false → bestN l ch (i + 1) = bestN l ch i := fun h => by rw [hb3, if_neg (by rw [h]; simp)]
      cases c with
      | true =>
        have hb4 := hskip (by simp only [betB, hgetc, Bool.not_true, Bool.false_and])
        repeat' (first | (refine T.seqK fun K hK => ?_) | (refine T.block ?_) | (refine T.reg (by kernel_rfl) fun K' hK' => ?_; simp only [startSt, frOf, List.map_cons, List.map_nil]; (repeat' (first | (with_reducible refine WL.fin ?_; refine hK' _ ?_; clear hK' K') | (with_reducible refine WD.fin ?_) | ((first | (with_reducible refine WL.step fun K2 hK2 => ?_) | (with_reducible refine WD.step fun K2 hK2 => ?_)); simp only [WS, WH, WO, WOv, WG, dstOk, hasDst, aop, ASt.ev, aload, aloadC, afield, aindex, abin, abinI, aun, alen, acells, Nat.reduceEqDiff, Nat.reduceLT, Nat.reduceLeDiff, Nat.reduceAdd, reduceIte, reduceCtorEq, implies_true, ASt.add, setHp, asplice, Int.reduceEq, Int.reduceNe, Int.reduceLT, Int.reduceLE, Int.reduceSub, Int.reduceAdd, abuild, afill, abuildS, pureL, chunks, List.range, List.range.loop, Nat.reduceMul, Nat.reduceMod, apartF, apartI, aslice, evI, ASt.subst, AO.box, aval, pvals, ams, tys, mapTy_69, keyed_3, hd2, hs, stC, hc, bC, hic]; (repeat' (first | (with_reducible refine hK2 _ ?_; clear hK2 K2) | (with_reducible refine And.intro ?_ ?_) | (with_reducible intro hb) | fail))))); all_goals ((try simp only [ThenA, InBlock, reduceIte, Nat.reduceEqDiff]); (try ((repeat ((fail_if_success (refine hK _ ?_)); clear hK K)); refine hK _ ?_; clear hK K)))) | (refine T.skip ?_; (try simp only [ThenA, InBlock, reduceIte, Nat.reduceEqDiff]); (try ((repeat ((fail_if_success (refine hK _ ?_)); clear hK K)); refine hK _ ?_; clear hK K))) | (refine T.exit ?_; (try simp only [ThenA, InBlock, reduceIte, Nat.reduceEqDiff]); (try ((repeat ((fail_if_success (refine hK _ ?_)); clear hK K)); refine hK _ ?_; clear hK K))) | (refine T.condT rfl ?_) | (refine T.condF rfl ?_) | (refine T.cond rfl (fun hc => ?_) (fun hc => ?_)) | (refine T.ret ?_; (try simp only [ThenA, InBlock, reduceIte, Nat.reduceEqDiff]); (try ((repeat ((fail_if_success (refine hK _ ?_)); clear hK K)); refine hK _ ?_; clear hK K))))
        exact hKJ _ (i + 1) (by refine Weak.of' rfl ?_; simp only [List.mem_cons, List.not_mem_nil, or_false, forall_eq_or_imp, forall_eq, get_mk, lk_cons, lk_nil, reduceIte, Nat.reduceEqDiff, Option.getD_some, Option.getD_none, AVle_refl, AVle_nil, AVle_int, AVle_bool, AVle_junk, ASt.okB, AV.okB, AO.okB_box, AO.okB_row, AO.okB_map, AO.okB_raw, AO.okB_lrec, AV.okB_agg, AV.okB_tup, AV.okB_fn, List.all_cons, List.all_nil, Bool.and_self, Bool.and_true, Bool.true_and, Nat.reduceLT, decide_true, true_and, and_true, false_implies, implies_true, wrap_succ (show i < 1152921504606846976 by omega), thP, chR, hb4]) (by omega) (by omega)
      | false =>
        have hfree := free_ok l hl (fun s hs => (hv s hs).ok) ch hcl i s hs b0 b2
        cases hfb : freeL s (l.take i) ch with
        | false =>
          have hb4 := hskip (by simp only [betB, hgetc, hfb, Bool.not_false, Bool.true_and, Bool.false_and])
          rw [hfb] at hfree
          simp only [thP, chR] at hfree
          repeat' (first | (refine T.seqK fun K hK => ?_) | (refine T.block ?_) | (refine T.reg (by kernel_rfl) fun K' hK' => ?_; simp only [startSt, frOf, List.map_cons, List.map_nil]; (repeat' (first | (with_reducible refine WL.fin ?_; refine hK' _ ?_; clear hK' K') | (with_reducible refine WD.fin ?_) | ((first | (with_reducible refine WL.step fun K2 hK2 => ?_) | (with_reducible refine WD.step fun K2 hK2 => ?_)); simp only [WS, WH, WO, WOv, WG, dstOk, hasDst, aop, ASt.ev, aload, aloadC, afield, aindex, abin, abinI, aun, alen, acells, Nat.reduceEqDiff, Nat.reduceLT, Nat.reduceLeDiff, Nat.reduceAdd, reduceIte, reduceCtorEq, implies_true, ASt.add, setHp, asplice, Int.reduceEq, Int.reduceNe, Int.reduceLT, Int.reduceLE, Int.reduceSub, Int.reduceAdd, abuild, afill, abuildS, pureL, chunks, List.range, List.range.loop, Nat.reduceMul, Nat.reduceMod, apartF, apartI, aslice, evI, ASt.subst, AO.box, aval, pvals, ams, tys, mapTy_69, keyed_3, hd2, hs, stC, hc, bC, hic]; (repeat' (first | (with_reducible refine hK2 _ ?_; clear hK2 K2) | (with_reducible refine And.intro ?_ ?_) | (with_reducible intro hb) | ((with_reducible refine callArmM 3 _ _ [0, 2] (Ent.of Try.func49 (by kernel_rfl) rfl) (hfree) ?_ ?_ ?_); (focus ((refine ⟨Nat.le_of_ble_eq_true rfl, ?_, ?_⟩ <;> simp only [List.mem_cons, List.not_mem_nil, or_false, forall_eq_or_imp, forall_eq, lk_cons, lk_nil, reduceIte, Nat.reduceEqDiff, AO.okB_box, AO.okB_row, AO.okB_map, AO.okB_raw, AV.okB, AV.okB_agg, AV.okB_fn, AV.okB_tup, List.all_cons, List.all_nil, Bool.and_true, Bool.and_self, Nat.reduceLT, decide_true, true_and, and_true, Option.isSome_some, true_implies, false_implies, implies_true, and_self, Nat.lt_irrefl, Option.some.injEq, ]); done)); (focus (simp [AV.okB]; done)); rintro hp' r ⟨rfl, rfl⟩; refine ⟨by simp [Kept, lk_cons, AO.handle_box], ?_⟩; simp only [ASt.callM, AV.keep_own, AV.keep_ptr, AV.keep_rptr, AV.keep_pre, AV.keep_p, AV.keep_elt, AV.keep_junk, AV.keep_cap0, AV.keep_fn, AV.keep_agg, AV.keep_tup, AO.keep, List.map_cons, List.map_nil, List.filter_cons, List.filter_nil, Nat.reduceLeDiff, decide_true, decide_false, reduceIte, Bool.false_eq_true, List.cons_append, List.nil_append, List.mem_cons, List.not_mem_nil, or_false, false_or, or_true, true_or, Nat.reduceEqDiff, put_some, put_none, Nat.le_refl, ])))))); all_goals ((try simp only [ThenA, InBlock, reduceIte, Nat.reduceEqDiff]); (try ((repeat ((fail_if_success (refine hK _ ?_)); clear hK K)); refine hK _ ?_; clear hK K)))) | (refine T.skip ?_; (try simp only [ThenA, InBlock, reduceIte, Nat.reduceEqDiff]); (try ((repeat ((fail_if_success (refine hK _ ?_)); clear hK K)); refine hK _ ?_; clear hK K))) | (refine T.exit ?_; (try simp only [ThenA, InBlock, reduceIte, Nat.reduceEqDiff]); (try ((repeat ((fail_if_success (refine hK _ ?_)); clear hK K)); refine hK _ ?_; clear hK K))) | (refine T.condT rfl ?_) | (refine T.condF rfl ?_) | (refine T.cond rfl (fun hc => ?_) (fun hc => ?_)) | (refine T.ret ?_; (try simp only [ThenA, InBlock, reduceIte, Nat.reduceEqDiff]); (try ((repeat ((fail_if_success (refine hK _ ?_)); clear hK K)); refine hK _ ?_; clear hK K))))
          exact hKJ _ (i + 1) (by refine Weak.of' rfl ?_; simp only [List.mem_cons, List.not_mem_nil, or_false, forall_eq_or_imp, forall_eq, get_mk, lk_cons, lk_nil, reduceIte, Nat.reduceEqDiff, Option.getD_some, Option.getD_none, AVle_refl, AVle_nil, AVle_int, AVle_bool, AVle_junk, ASt.okB, AV.okB, AO.okB_box, AO.okB_row, AO.okB_map, AO.okB_raw, AO.okB_lrec, AV.okB_agg, AV.okB_tup, AV.okB_fn, List.all_cons, List.all_nil, Bool.and_self, Bool.and_true, Bool.true_and, Nat.reduceLT, decide_true, true_and, and_true, false_implies, implies_true, wrap_succ (show i < 1152921504606846976 by omega), thP, chR, hb4]) (by omega) (by omega)
        | true =>
          rw [hfb] at hfree
          simp only [thP, chR] at hfree
          cases hbn : bestN l ch i with
          | none =>
            have hb4 : bestN l ch (i + 1) = some i := by rw [hb3, if_pos]; simp only [betB, hgetc, hfb, hbn, Bool.not_false, Bool.true_and]
            simp only [bestI_none]
            repeat' (first | (refine T.seqK fun K hK => ?_) | (refine T.block ?_) | (refine T.reg (by kernel_rfl) fun K' hK' => ?_; simp only [startSt, frOf, List.map_cons, List.map_nil]; (repeat' (first | (with_reducible refine WL.fin ?_; refine hK' _ ?_; clear hK' K') | (with_reducible refine WD.fin ?_) | ((first | (with_reducible refine WL.step fun K2 hK2 => ?_) | (with_reducible refine WD.step fun K2 hK2 => ?_)); simp only [WS, WH, WO, WOv, WG, dstOk, hasDst, aop, ASt.ev, aload, aloadC, afield, aindex, abin, abinI, aun, alen, acells, Nat.reduceEqDiff, Nat.reduceLT, Nat.reduceLeDiff, Nat.reduceAdd, reduceIte, reduceCtorEq, implies_true, ASt.add, setHp, asplice, Int.reduceEq, Int.reduceNe, Int.reduceLT, Int.reduceLE, Int.reduceSub, Int.reduceAdd, abuild, afill, abuildS, pureL, chunks, List.range, List.range.loop, Nat.reduceMul, Nat.reduceMod, apartF, apartI, aslice, evI, ASt.subst, AO.box, aval, pvals, ams, tys, mapTy_69, keyed_3, hd2, hs, stC, hc, bC, hic]; (repeat' (first | (with_reducible refine hK2 _ ?_; clear hK2 K2) | (with_reducible refine And.intro ?_ ?_) | (with_reducible intro hb) | ((with_reducible refine callArmM 3 _ _ [0, 2] (Ent.of Try.func49 (by kernel_rfl) rfl) (hfree) ?_ ?_ ?_); (focus ((refine ⟨Nat.le_of_ble_eq_true rfl, ?_, ?_⟩ <;> simp only [List.mem_cons, List.not_mem_nil, or_false, forall_eq_or_imp, forall_eq, lk_cons, lk_nil, reduceIte, Nat.reduceEqDiff, AO.okB_box, AO.okB_row, AO.okB_map, AO.okB_raw, AV.okB, AV.okB_agg, AV.okB_fn, AV.okB_tup, List.all_cons, List.all_nil, Bool.and_true, Bool.and_self, Nat.reduceLT, decide_true, true_and, and_true, Option.isSome_some, true_implies, false_implies, implies_true, and_self, Nat.lt_irrefl, Option.some.injEq, ]); done)); (focus (simp [AV.okB]; done)); rintro hp' r ⟨rfl, rfl⟩; refine ⟨by simp [Kept, lk_cons, AO.handle_box], ?_⟩; simp only [ASt.callM, AV.keep_own, AV.keep_ptr, AV.keep_rptr, AV.keep_pre, AV.keep_p, AV.keep_elt, AV.keep_junk, AV.keep_cap0, AV.keep_fn, AV.keep_agg, AV.keep_tup, AO.keep, List.map_cons, List.map_nil, List.filter_cons, List.filter_nil, Nat.reduceLeDiff, decide_true, decide_false, reduceIte, Bool.false_eq_true, List.cons_append, List.nil_append, List.mem_cons, List.not_mem_nil, or_false, false_or, or_true, true_or, Nat.reduceEqDiff, put_some, put_none, Nat.le_refl, ])))))); all_goals ((try simp only [ThenA, InBlock, reduceIte, Nat.reduceEqDiff]); (try ((repeat ((fail_if_success (refine hK _ ?_)); clear hK K)); refine hK _ ?_; clear hK K)))) | (refine T.skip ?_; (try simp only [ThenA, InBlock, reduceIte, Nat.reduceEqDiff]); (try ((repeat ((fail_if_success (refine hK _ ?_)); clear hK K)); refine hK _ ?_; clear hK K))) | (refine T.exit ?_; (try simp only [ThenA, InBlock, reduceIte, Nat.reduceEqDiff]); (try ((repeat ((fail_if_success (refine hK _ ?_)); clear hK K)); refine hK _ ?_; clear hK K))) | (refine T.condT rfl ?_) | (refine T.condF rfl ?_) | (refine T.cond rfl (fun hc => ?_) (fun hc => ?_)) | (refine T.ret ?_; (try simp only [ThenA, InBlock, reduceIte, Nat.reduceEqDiff]); (try ((repeat ((fail_if_success (refine hK _ ?_)); clear hK K)); refine hK _ ?_; clear hK K))))
            refine T.drw 22 (by kernel_rfl) (by kernel_rfl) fun K' hK' => ?_; simp only [List.map_cons, List.map_nil]; (repeat' (first | (with_reducible refine WL.fin ?_; refine hK' _ ?_; clear hK' K') | (with_reducible refine WD.fin ?_) | ((first | (with_reducible refine WL.step fun K2 hK2 => ?_) | (with_reducible refine WD.step fun K2 hK2 => ?_)); simp only [WS, WH, WO, WOv, WG, dstOk, hasDst, aop, ASt.ev, aload, aloadC, afield, aindex, abin, abinI, aun, alen, acells, Nat.reduceEqDiff, Nat.reduceLT, Nat.reduceLeDiff, Nat.reduceAdd, reduceIte, reduceCtorEq, implies_true, ASt.add, setHp, asplice, Int.reduceEq, Int.reduceNe, Int.reduceLT, Int.reduceLE, Int.reduceSub, Int.reduceAdd, abuild, afill, abuildS, pureL, chunks, List.range, List.range.loop, Nat.reduceMul, Nat.reduceMod, apartF, apartI, aslice, evI, ASt.subst, AO.box, aval, pvals, ams, tys, mapTy_69, keyed_3, decide_true, show decide ((-1 : Int) < 0) = true from rfl]; (repeat' (first | (with_reducible refine hK2 _ ?_; clear hK2 K2) | (with_reducible refine And.intro ?_ ?_) | (with_reducible intro hb) | fail))))); all_goals ((try simp only [ThenA, InBlock, reduceIte, Nat.reduceEqDiff]); (try ((repeat ((fail_if_success (refine hK _ ?_)); clear hK K)); refine hK _ ?_; clear hK K)))
            all_goals (repeat' (first | (refine T.seqK fun K hK => ?_) | (refine T.block ?_) | (refine T.reg (by kernel_rfl) fun K' hK' => ?_; simp only [startSt, frOf, List.map_cons, List.map_nil]; (repeat' (first | (with_reducible refine WL.fin ?_; refine hK' _ ?_; clear hK' K') | (with_reducible refine WD.fin ?_) | ((first | (with_reducible refine WL.step fun K2 hK2 => ?_) | (with_reducible refine WD.step fun K2 hK2 => ?_)); simp only [WS, WH, WO, WOv, WG, dstOk, hasDst, aop, ASt.ev, aload, aloadC, afield, aindex, abin, abinI, aun, alen, acells, Nat.reduceEqDiff, Nat.reduceLT, Nat.reduceLeDiff, Nat.reduceAdd, reduceIte, reduceCtorEq, implies_true, ASt.add, setHp, asplice, Int.reduceEq, Int.reduceNe, Int.reduceLT, Int.reduceLE, Int.reduceSub, Int.reduceAdd, abuild, afill, abuildS, pureL, chunks, List.range, List.range.loop, Nat.reduceMul, Nat.reduceMod, apartF, apartI, aslice, evI, ASt.subst, AO.box, aval, pvals, ams, tys, mapTy_69, keyed_3]; (repeat' (first | (with_reducible refine hK2 _ ?_; clear hK2 K2) | (with_reducible refine And.intro ?_ ?_) | (with_reducible intro hb) | fail))))); all_goals ((try simp only [ThenA, InBlock, reduceIte, Nat.reduceEqDiff]); (try ((repeat ((fail_if_success (refine hK _ ?_)); clear hK K)); refine hK _ ?_; clear hK K)))) | (refine T.skip ?_; (try simp only [ThenA, InBlock, reduceIte, Nat.reduceEqDiff]); (try ((repeat ((fail_if_success (refine hK _ ?_)); clear hK K)); refine hK _ ?_; clear hK K))) | (refine T.exit ?_; (try simp only [ThenA, InBlock, reduceIte, Nat.reduceEqDiff]); (try ((repeat ((fail_if_success (refine hK _ ?_)); clear hK K)); refine hK _ ?_; clear hK K))) | (refine T.condT rfl ?_) | (refine T.condF rfl ?_) | (refine T.cond rfl (fun hc => ?_) (fun hc => ?_)) | (refine T.ret ?_; (try simp only [ThenA, InBlock, reduceIte, Nat.reduceEqDiff]); (try ((repeat ((fail_if_success (refine hK _ ?_)); clear hK K)); refine hK _ ?_; clear hK K)))))
            exact hKJ _ (i + 1) (by refine Weak.of' rfl ?_; simp only [List.mem_cons, List.not_mem_nil, or_false, forall_eq_or_imp, forall_eq, get_mk, lk_cons, lk_nil, reduceIte, Nat.reduceEqDiff, Option.getD_some, Option.getD_none, AVle_refl, AVle_nil, AVle_int, AVle_bool, AVle_junk, ASt.okB, AV.okB, AO.okB_box, AO.okB_row, AO.okB_map, AO.okB_raw, AO.okB_lrec, AV.okB_agg, AV.okB_tup, AV.okB_fn, List.all_cons, List.all_nil, Bool.and_self, Bool.and_true, Bool.true_and, Nat.reduceLT, decide_true, true_and, and_true, false_implies, implies_true, wrap_succ (show i < 1152921504606846976 by omega), thP, chR, hb4, bestI_some]) (by omega) (by omega)
          | some j =>
            obtain ⟨-, hjl, -⟩ := best_lt l ch i j hbn
            obtain ⟨y, hy⟩ := at_lt hjl
            have hb5 : betB l ch (bestN l ch i) i s = pkLt s y := by simp only [betB, hgetc, hfb, hbn, hy, Bool.not_false, Bool.true_and]
            have hneg : decide ((j : Int) < 0) = false := by simp
            have hor := or_ok [cmpI s.g y.g, cmpI s.c y.c] (by simp)
            simp only [gsP, List.map_cons, List.map_nil, inC] at hor
            have hlo := pkLt_or s y
            simp only [bestI_some]
            repeat' (first | (refine T.seqK fun K hK => ?_) | (refine T.block ?_) | (refine T.reg (by kernel_rfl) fun K' hK' => ?_; simp only [startSt, frOf, List.map_cons, List.map_nil]; (repeat' (first | (with_reducible refine WL.fin ?_; refine hK' _ ?_; clear hK' K') | (with_reducible refine WD.fin ?_) | ((first | (with_reducible refine WL.step fun K2 hK2 => ?_) | (with_reducible refine WD.step fun K2 hK2 => ?_)); simp only [WS, WH, WO, WOv, WG, dstOk, hasDst, aop, ASt.ev, aload, aloadC, afield, aindex, abin, abinI, aun, alen, acells, Nat.reduceEqDiff, Nat.reduceLT, Nat.reduceLeDiff, Nat.reduceAdd, reduceIte, reduceCtorEq, implies_true, ASt.add, setHp, asplice, Int.reduceEq, Int.reduceNe, Int.reduceLT, Int.reduceLE, Int.reduceSub, Int.reduceAdd, abuild, afill, abuildS, pureL, chunks, List.range, List.range.loop, Nat.reduceMul, Nat.reduceMod, apartF, apartI, aslice, evI, ASt.subst, AO.box, aval, pvals, ams, tys, mapTy_69, keyed_3, hd2, hs, stC, hc, bC, hic]; (repeat' (first | (with_reducible refine hK2 _ ?_; clear hK2 K2) | (with_reducible refine And.intro ?_ ?_) | (with_reducible intro hb) | ((with_reducible refine callArmM 3 _ _ [0, 2] (Ent.of Try.func49 (by kernel_rfl) rfl) (hfree) ?_ ?_ ?_); (focus ((refine ⟨Nat.le_of_ble_eq_true rfl, ?_, ?_⟩ <;> simp only [List.mem_cons, List.not_mem_nil, or_false, forall_eq_or_imp, forall_eq, lk_cons, lk_nil, reduceIte, Nat.reduceEqDiff, AO.okB_box, AO.okB_row, AO.okB_map, AO.okB_raw, AV.okB, AV.okB_agg, AV.okB_fn, AV.okB_tup, List.all_cons, List.all_nil, Bool.and_true, Bool.and_self, Nat.reduceLT, decide_true, true_and, and_true, Option.isSome_some, true_implies, false_implies, implies_true, and_self, Nat.lt_irrefl, Option.some.injEq, ]); done)); (focus (simp [AV.okB]; done)); rintro hp' r ⟨rfl, rfl⟩; refine ⟨by simp [Kept, lk_cons, AO.handle_box], ?_⟩; simp only [ASt.callM, AV.keep_own, AV.keep_ptr, AV.keep_rptr, AV.keep_pre, AV.keep_p, AV.keep_elt, AV.keep_junk, AV.keep_cap0, AV.keep_fn, AV.keep_agg, AV.keep_tup, AO.keep, List.map_cons, List.map_nil, List.filter_cons, List.filter_nil, Nat.reduceLeDiff, decide_true, decide_false, reduceIte, Bool.false_eq_true, List.cons_append, List.nil_append, List.mem_cons, List.not_mem_nil, or_false, false_or, or_true, true_or, Nat.reduceEqDiff, put_some, put_none, Nat.le_refl, ])))))); all_goals ((try simp only [ThenA, InBlock, reduceIte, Nat.reduceEqDiff]); (try ((repeat ((fail_if_success (refine hK _ ?_)); clear hK K)); refine hK _ ?_; clear hK K)))) | (refine T.skip ?_; (try simp only [ThenA, InBlock, reduceIte, Nat.reduceEqDiff]); (try ((repeat ((fail_if_success (refine hK _ ?_)); clear hK K)); refine hK _ ?_; clear hK K))) | (refine T.exit ?_; (try simp only [ThenA, InBlock, reduceIte, Nat.reduceEqDiff]); (try ((repeat ((fail_if_success (refine hK _ ?_)); clear hK K)); refine hK _ ?_; clear hK K))) | (refine T.condT rfl ?_) | (refine T.condF rfl ?_) | (refine T.cond rfl (fun hc => ?_) (fun hc => ?_)) | (refine T.ret ?_; (try simp only [ThenA, InBlock, reduceIte, Nat.reduceEqDiff]); (try ((repeat ((fail_if_success (refine hK _ ?_)); clear hK K)); refine hK _ ?_; clear hK K))))
            have hjn : j < l.length := hjl
            cases hpk : pkLt s y with
            | true =>
              rw [hpk] at hlo hb5
              have hb4 : bestN l ch (i + 1) = some i := by rw [hb3, hb5, if_pos rfl]
              refine T.drw 22 (by kernel_rfl) (by kernel_rfl) fun K' hK' => ?_; simp only [List.map_cons, List.map_nil]; (repeat' (first | (with_reducible refine WL.fin ?_; refine hK' _ ?_; clear hK' K') | (with_reducible refine WD.fin ?_) | ((first | (with_reducible refine WL.step fun K2 hK2 => ?_) | (with_reducible refine WD.step fun K2 hK2 => ?_)); simp only [WS, WH, WO, WOv, WG, dstOk, hasDst, aop, ASt.ev, aload, aloadC, afield, aindex, abin, abinI, aun, alen, acells, Nat.reduceEqDiff, Nat.reduceLT, Nat.reduceLeDiff, Nat.reduceAdd, reduceIte, reduceCtorEq, implies_true, ASt.add, setHp, asplice, Int.reduceEq, Int.reduceNe, Int.reduceLT, Int.reduceLE, Int.reduceSub, Int.reduceAdd, abuild, afill, abuildS, pureL, chunks, List.range, List.range.loop, Nat.reduceMul, Nat.reduceMod, apartF, apartI, aslice, evI, ASt.subst, AO.box, aval, pvals, ams, tys, mapTy_69, keyed_3, hneg, hs, hy, stC, hlo, Int.toNat_natCast, hm2]; (repeat' (first | (with_reducible refine hK2 _ ?_; clear hK2 K2) | (with_reducible refine And.intro ?_ ?_) | (with_reducible intro hb) | ((first | (with_reducible apply callArmO) | (with_reducible apply callArm)); case h => exact CallV.plain (Ent.of Try.func30 (by kernel_rfl) rfl) (compare_ok _ _) (by simp [AV.okB])) | ((first | (with_reducible apply callArmO) | (with_reducible apply callArm)); case h => exact CallV.plain (Ent.of Try.func29 (by kernel_rfl) rfl) (hor) (by simp [AV.okB]))))))); all_goals ((try simp only [ThenA, InBlock, reduceIte, Nat.reduceEqDiff]); (try ((repeat ((fail_if_success (refine hK _ ?_)); clear hK K)); refine hK _ ?_; clear hK K)))
              all_goals (repeat' (first | (refine T.seqK fun K hK => ?_) | (refine T.block ?_) | (refine T.reg (by kernel_rfl) fun K' hK' => ?_; simp only [startSt, frOf, List.map_cons, List.map_nil]; (repeat' (first | (with_reducible refine WL.fin ?_; refine hK' _ ?_; clear hK' K') | (with_reducible refine WD.fin ?_) | ((first | (with_reducible refine WL.step fun K2 hK2 => ?_) | (with_reducible refine WD.step fun K2 hK2 => ?_)); simp only [WS, WH, WO, WOv, WG, dstOk, hasDst, aop, ASt.ev, aload, aloadC, afield, aindex, abin, abinI, aun, alen, acells, Nat.reduceEqDiff, Nat.reduceLT, Nat.reduceLeDiff, Nat.reduceAdd, reduceIte, reduceCtorEq, implies_true, ASt.add, setHp, asplice, Int.reduceEq, Int.reduceNe, Int.reduceLT, Int.reduceLE, Int.reduceSub, Int.reduceAdd, abuild, afill, abuildS, pureL, chunks, List.range, List.range.loop, Nat.reduceMul, Nat.reduceMod, apartF, apartI, aslice, evI, ASt.subst, AO.box, aval, pvals, ams, tys, mapTy_69, keyed_3]; (repeat' (first | (with_reducible refine hK2 _ ?_; clear hK2 K2) | (with_reducible refine And.intro ?_ ?_) | (with_reducible intro hb) | fail))))); all_goals ((try simp only [ThenA, InBlock, reduceIte, Nat.reduceEqDiff]); (try ((repeat ((fail_if_success (refine hK _ ?_)); clear hK K)); refine hK _ ?_; clear hK K)))) | (refine T.skip ?_; (try simp only [ThenA, InBlock, reduceIte, Nat.reduceEqDiff]); (try ((repeat ((fail_if_success (refine hK _ ?_)); clear hK K)); refine hK _ ?_; clear hK K))) | (refine T.exit ?_; (try simp only [ThenA, InBlock, reduceIte, Nat.reduceEqDiff]); (try ((repeat ((fail_if_success (refine hK _ ?_)); clear hK K)); refine hK _ ?_; clear hK K))) | (refine T.condT rfl ?_) | (refine T.condF rfl ?_) | (refine T.cond rfl (fun hc => ?_) (fun hc => ?_)) | (refine T.ret ?_; (try simp only [ThenA, InBlock, reduceIte, Nat.reduceEqDiff]); (try ((repeat ((fail_if_success (refine hK _ ?_)); clear hK K)); refine hK _ ?_; clear hK K)))))
              exact hKJ _ (i + 1) (by refine Weak.of' rfl ?_; simp only [List.mem_cons, List.not_mem_nil, or_false, forall_eq_or_imp, forall_eq, get_mk, lk_cons, lk_nil, reduceIte, Nat.reduceEqDiff, Option.getD_some, Option.getD_none, AVle_refl, AVle_nil, AVle_int, AVle_bool, AVle_junk, ASt.okB, AV.okB, AO.okB_box, AO.okB_row, AO.okB_map, AO.okB_raw, AO.okB_lrec, AV.okB_agg, AV.okB_tup, AV.okB_fn, List.all_cons, List.all_nil, Bool.and_self, Bool.and_true, Bool.true_and, Nat.reduceLT, decide_true, true_and, and_true, false_implies, implies_true, wrap_succ (show i < 1152921504606846976 by omega), thP, chR, hb4, bestI_some]) (by omega) (by omega)
            | false =>
              rw [hpk] at hlo hb5
              have hb4 : bestN l ch (i + 1) = some j := by rw [hb3, hb5, if_neg (by simp), hbn]
              refine T.drw 22 (by kernel_rfl) (by kernel_rfl) fun K' hK' => ?_; simp only [List.map_cons, List.map_nil]; (repeat' (first | (with_reducible refine WL.fin ?_; refine hK' _ ?_; clear hK' K') | (with_reducible refine WD.fin ?_) | ((first | (with_reducible refine WL.step fun K2 hK2 => ?_) | (with_reducible refine WD.step fun K2 hK2 => ?_)); simp only [WS, WH, WO, WOv, WG, dstOk, hasDst, aop, ASt.ev, aload, aloadC, afield, aindex, abin, abinI, aun, alen, acells, Nat.reduceEqDiff, Nat.reduceLT, Nat.reduceLeDiff, Nat.reduceAdd, reduceIte, reduceCtorEq, implies_true, ASt.add, setHp, asplice, Int.reduceEq, Int.reduceNe, Int.reduceLT, Int.reduceLE, Int.reduceSub, Int.reduceAdd, abuild, afill, abuildS, pureL, chunks, List.range, List.range.loop, Nat.reduceMul, Nat.reduceMod, apartF, apartI, aslice, evI, ASt.subst, AO.box, aval, pvals, ams, tys, mapTy_69, keyed_3, hneg, hs, hy, stC, hlo, Int.toNat_natCast, hm2]; (repeat' (first | (with_reducible refine hK2 _ ?_; clear hK2 K2) | (with_reducible refine And.intro ?_ ?_) | (with_reducible intro hb) | ((first | (with_reducible apply callArmO) | (with_reducible apply callArm)); case h => exact CallV.plain (Ent.of Try.func30 (by kernel_rfl) rfl) (compare_ok _ _) (by simp [AV.okB])) | ((first | (with_reducible apply callArmO) | (with_reducible apply callArm)); case h => exact CallV.plain (Ent.of Try.func29 (by kernel_rfl) rfl) (hor) (by simp [AV.okB]))))))); all_goals ((try simp only [ThenA, InBlock, reduceIte, Nat.reduceEqDiff]); (try ((repeat ((fail_if_success (refine hK _ ?_)); clear hK K)); refine hK _ ?_; clear hK K)))
              all_goals (repeat' (first | (refine T.seqK fun K hK => ?_) | (refine T.block ?_) | (refine T.reg (by kernel_rfl) fun K' hK' => ?_; simp only [startSt, frOf, List.map_cons, List.map_nil]; (repeat' (first | (with_reducible refine WL.fin ?_; refine hK' _ ?_; clear hK' K') | (with_reducible refine WD.fin ?_) | ((first | (with_reducible refine WL.step fun K2 hK2 => ?_) | (with_reducible refine WD.step fun K2 hK2 => ?_)); simp only [WS, WH, WO, WOv, WG, dstOk, hasDst, aop, ASt.ev, aload, aloadC, afield, aindex, abin, abinI, aun, alen, acells, Nat.reduceEqDiff, Nat.reduceLT, Nat.reduceLeDiff, Nat.reduceAdd, reduceIte, reduceCtorEq, implies_true, ASt.add, setHp, asplice, Int.reduceEq, Int.reduceNe, Int.reduceLT, Int.reduceLE, Int.reduceSub, Int.reduceAdd, abuild, afill, abuildS, pureL, chunks, List.range, List.range.loop, Nat.reduceMul, Nat.reduceMod, apartF, apartI, aslice, evI, ASt.subst, AO.box, aval, pvals, ams, tys, mapTy_69, keyed_3]; (repeat' (first | (with_reducible refine hK2 _ ?_; clear hK2 K2) | (with_reducible refine And.intro ?_ ?_) | (with_reducible intro hb) | fail))))); all_goals ((try simp only [ThenA, InBlock, reduceIte, Nat.reduceEqDiff]); (try ((repeat ((fail_if_success (refine hK _ ?_)); clear hK K)); refine hK _ ?_; clear hK K)))) | (refine T.skip ?_; (try simp only [ThenA, InBlock, reduceIte, Nat.reduceEqDiff]); (try ((repeat ((fail_if_success (refine hK _ ?_)); clear hK K)); refine hK _ ?_; clear hK K))) | (refine T.exit ?_; (try simp only [ThenA, InBlock, reduceIte, Nat.reduceEqDiff]); (try ((repeat ((fail_if_success (refine hK _ ?_)); clear hK K)); refine hK _ ?_; clear hK K))) | (refine T.condT rfl ?_) | (refine T.condF rfl ?_) | (refine T.cond rfl (fun hc => ?_) (fun hc => ?_)) | (refine T.ret ?_; (try simp only [ThenA, InBlock, reduceIte, Nat.reduceEqDiff]); (try ((repeat ((fail_if_success (refine hK _ ?_)); clear hK K)); refine hK _ ?_; clear hK K)))))
              exact hKJ _ (i + 1) (by refine Weak.of' rfl ?_; simp only [List.mem_cons, List.not_mem_nil, or_false, forall_eq_or_imp, forall_eq, get_mk, lk_cons, lk_nil, reduceIte, Nat.reduceEqDiff, Option.getD_some, Option.getD_none, AVle_refl, AVle_nil, AVle_int, AVle_bool, AVle_junk, ASt.okB, AV.okB, AO.okB_box, AO.okB_row, AO.okB_map, AO.okB_raw, AO.okB_lrec, AV.okB_agg, AV.okB_tup, AV.okB_fn, List.all_cons, List.all_nil, Bool.and_self, Bool.and_true, Bool.true_and, Nat.reduceLT, decide_true, true_and, and_true, false_implies, implies_true, wrap_succ (show i < 1152921504606846976 by omega), thP, chR, hb4, bestI_some]) (by omega) (by omega)
    · have hd2 : decide ((i : Int) < (l.length : Int)) = false := by simpa using hil
      obtain rfl : i = l.length := by omega
      clear hKJ
      rw [hb1]
      have hset : (List.map bC ch).set best [.val (.bool true)] = List.map bC (ch.set best true) := by rw [List.map_set]; rfl
      have hbc : best < ch.length := by omega
      obtain ⟨cb, hcb⟩ := at_lt hbc
      have hout : (outR outs).length + 1 ≤ maxLen := by simp only [outR, List.length_map, hol]; unfold maxLen; omega
      have hout2 : ((outR outs).length + 1) * 8 ≤ 140737488355328 := by simp only [outR, List.length_map, hol]; omega
      repeat' (first | (refine T.seqK fun K hK => ?_) | (refine T.block ?_) | (refine T.reg (by kernel_rfl) fun K' hK' => ?_; simp only [startSt, frOf, List.map_cons, List.map_nil]; (repeat' (first | (with_reducible refine WL.fin ?_; refine hK' _ ?_; clear hK' K') | (with_reducible refine WD.fin ?_) | ((first | (with_reducible refine WL.step fun K2 hK2 => ?_) | (with_reducible refine WD.step fun K2 hK2 => ?_)); simp only [WS, WH, WO, WOv, WG, dstOk, hasDst, aop, ASt.ev, aload, aloadC, afield, aindex, abin, abinI, aun, alen, acells, Nat.reduceEqDiff, Nat.reduceLT, Nat.reduceLeDiff, Nat.reduceAdd, reduceIte, reduceCtorEq, implies_true, ASt.add, setHp, asplice, Int.reduceEq, Int.reduceNe, Int.reduceLT, Int.reduceLE, Int.reduceSub, Int.reduceAdd, abuild, afill, abuildS, pureL, chunks, List.range, List.range.loop, Nat.reduceMul, Nat.reduceMod, apartF, apartI, aslice, evI, ASt.subst, AO.box, aval, pvals, ams, tys, mapTy_69, keyed_3, hd2, bestI_some, hbc, hcb, bC, hset, hm1, hout, hout2]; (repeat' (first | (with_reducible refine hK2 _ ?_; clear hK2 K2) | (with_reducible refine And.intro ?_ ?_) | (with_reducible intro hb) | fail))))); all_goals ((try simp only [ThenA, InBlock, reduceIte, Nat.reduceEqDiff]); (try ((repeat ((fail_if_success (refine hK _ ?_)); clear hK K)); refine hK _ ?_; clear hK K)))) | (refine T.skip ?_; (try simp only [ThenA, InBlock, reduceIte, Nat.reduceEqDiff]); (try ((repeat ((fail_if_success (refine hK _ ?_)); clear hK K)); refine hK _ ?_; clear hK K))) | (refine T.exit ?_; (try simp only [ThenA, InBlock, reduceIte, Nat.reduceEqDiff]); (try ((repeat ((fail_if_success (refine hK _ ?_)); clear hK K)); refine hK _ ?_; clear hK K))) | (refine T.condT rfl ?_) | (refine T.condF rfl ?_) | (refine T.cond rfl (fun hc => ?_) (fun hc => ?_)) | (refine T.ret ?_; (try simp only [ThenA, InBlock, reduceIte, Nat.reduceEqDiff]); (try ((repeat ((fail_if_success (refine hK _ ?_)); clear hK K)); refine hK _ ?_; clear hK K))))
      refine hKL _ (k + 1) ?_ (by omega) (by omega)
      rw [hnx]
      refine Weak.of' rfl ?_; simp only [List.mem_cons, List.not_mem_nil, or_false, forall_eq_or_imp, forall_eq, get_mk, lk_cons, lk_nil, reduceIte, Nat.reduceEqDiff, Option.getD_some, Option.getD_none, AVle_refl, AVle_nil, AVle_int, AVle_bool, AVle_junk, ASt.okB, AV.okB, AO.okB_box, AO.okB_row, AO.okB_map, AO.okB_raw, AO.okB_lrec, AV.okB_agg, AV.okB_tup, AV.okB_fn, List.all_cons, List.all_nil, Bool.and_self, Bool.and_true, Bool.true_and, Nat.reduceLT, decide_true, true_and, and_true, false_implies, implies_true, wrap_succ (show k < 1152921504606846976 by omega), thP, outR, List.map_append, List.map_cons, List.map_nil, chR, inC]
  · have hd : decide ((k : Int) < (l.length : Int)) = false := by simpa using hlt
    obtain rfl : k = l.length := by omega
    clear hKL
    repeat' (first | (refine T.seqK fun K hK => ?_) | (refine T.block ?_) | (refine T.reg (by kernel_rfl) fun K' hK' => ?_; simp only [startSt, frOf, List.map_cons, List.map_nil]; (repeat' (first | (with_reducible refine WL.fin ?_; refine hK' _ ?_; clear hK' K') | (with_reducible refine WD.fin ?_) | ((first | (with_reducible refine WL.step fun K2 hK2 => ?_) | (with_reducible refine WD.step fun K2 hK2 => ?_)); simp only [WS, WH, WO, WOv, WG, dstOk, hasDst, aop, ASt.ev, aload, aloadC, afield, aindex, abin, abinI, aun, alen, acells, Nat.reduceEqDiff, Nat.reduceLT, Nat.reduceLeDiff, Nat.reduceAdd, reduceIte, reduceCtorEq, implies_true, ASt.add, setHp, asplice, Int.reduceEq, Int.reduceNe, Int.reduceLT, Int.reduceLE, Int.reduceSub, Int.reduceAdd, abuild, afill, abuildS, pureL, chunks, List.range, List.range.loop, Nat.reduceMul, Nat.reduceMod, apartF, apartI, aslice, evI, ASt.subst, AO.box, aval, pvals, ams, tys, mapTy_69, keyed_3, hd]; (repeat' (first | (with_reducible refine hK2 _ ?_; clear hK2 K2) | (with_reducible refine And.intro ?_ ?_) | (with_reducible intro hb) | fail))))); all_goals ((try simp only [ThenA, InBlock, reduceIte, Nat.reduceEqDiff]); (try ((repeat ((fail_if_success (refine hK _ ?_)); clear hK K)); refine hK _ ?_; clear hK K)))) | (refine T.skip ?_; (try simp only [ThenA, InBlock, reduceIte, Nat.reduceEqDiff]); (try ((repeat ((fail_if_success (refine hK _ ?_)); clear hK K)); refine hK _ ?_; clear hK K))) | (refine T.exit ?_; (try simp only [ThenA, InBlock, reduceIte, Nat.reduceEqDiff]); (try ((repeat ((fail_if_success (refine hK _ ?_)); clear hK K)); refine hK _ ?_; clear hK K))) | (refine T.condT rfl ?_) | (refine T.condF rfl ?_) | (refine T.cond rfl (fun hc => ?_) (fun hc => ?_)) | (refine T.ret ?_; (try simp only [ThenA, InBlock, reduceIte, Nat.reduceEqDiff]); (try ((repeat ((fail_if_success (refine hK _ ?_)); clear hK K)); refine hK _ ?_; clear hK K))))
    refine FinA.retW (.inr rfl) Try.results38 (Weak.frz _ 3) ?_; simp only [ares, aresL, ares1, ASt.frz, ASt.subst, AO.sub_box, AO.sub_row, AO.sub_map, AO.sub_raw, AO.sub_lrec, AV.sub_p, AV.sub_elt, AV.sub_ptr, AV.sub_rptr, AV.sub_own, AV.sub_junk, AV.sub_cap0, AV.sub_agg, AV.sub_fn, AV.sub_tup, List.filter_cons, List.filter_nil, bne_self_eq_false, Nat.reduceBneDiff, Nat.reduceEqDiff, Bool.false_eq_true, WS, WH, WO, WOv, WG, dstOk, hasDst, aop, ASt.ev, aload, aloadC, afield, aindex, abin, abinI, aun, alen, acells, Nat.reduceEqDiff, Nat.reduceLT, Nat.reduceLeDiff, Nat.reduceAdd, reduceIte, reduceCtorEq, implies_true, ASt.add, setHp, asplice, Int.reduceEq, Int.reduceNe, Int.reduceLT, Int.reduceLE, Int.reduceSub, Int.reduceAdd, abuild, afill, abuildS, pureL, chunks, List.range, List.range.loop, Nat.reduceMul, Nat.reduceMod, apartF, apartI, aslice, evI, ASt.subst, AO.box, aval, pvals, ams, tys, mapTy_69, keyed_3, orderB]
end Go.Proofs.Ytbhkcejjehgfcaa
/- Canonical. -/
namespace Go.Proofs.Ytbhkcejjehgfcaa
open Go.RowKit Go.Sort
set_option linter.unusedSimpArgs false
set_option linter.unusedVariables false

def pkC (s : St) : List PV := [.val (.int .i64 s.g), .val (.int .i64 s.c)]
theorem order_lt (l : List St) : ∀ i ∈ orderB l, i < l.length := (ord_inv l l.length (Nat.le_refl _)).2.2.2
theorem order_len (l : List St) : (orderB l).length = l.length := (ord_inv l l.length (Nat.le_refl _)).2.2.1
set_option maxHeartbeats 8000000 in
set_option maxRecDepth 100000 in
theorem canonical_ok (l : List St) (hl : l.length ≤ 1000000) (hv : ∀ s ∈ l, StV s) : PureF Try.prog 24 [.p (thP l)] (.seq 2 ((leastB l).map pkC)) := by
  have hm1 : 1 ≤ maxLen := by decide
  have hor := order_ok l hl hv
  have hol := order_len l
  have holt := order_lt l
  unfold leastB
  obtain ⟨os, hos⟩ : ∃ os, os = orderB l := ⟨_, rfl⟩
  rw [← hos] at hor hol holt ⊢
  simp only [thP] at hor ⊢
  refine PureF.of Try.func24 rfl 29 rfl (by decide) ?_
  repeat' (first | (refine T.seqK fun K hK => ?_) | (refine T.block ?_) | (refine T.reg (by kernel_rfl) fun K' hK' => ?_; simp only [startSt, frOf, List.map_cons, List.map_nil]; (repeat' (first | (with_reducible refine WL.fin ?_; refine hK' _ ?_; clear hK' K') | (with_reducible refine WD.fin ?_) | ((first | (with_reducible refine WL.step fun K2 hK2 => ?_) | (with_reducible refine WD.step fun K2 hK2 => ?_)); simp only [WS, WH, WO, WOv, WG, dstOk, hasDst, aop, ASt.ev, aload, aloadC, afield, aindex, abin, abinI, aun, alen, acells, Nat.reduceEqDiff, Nat.reduceLT, Nat.reduceLeDiff, Nat.reduceAdd, reduceIte, reduceCtorEq, implies_true, ASt.add, setHp, asplice, Int.reduceEq, Int.reduceNe, Int.reduceLT, Int.reduceLE, Int.reduceSub, Int.reduceAdd, abuild, afill, abuildS, pureL, chunks, List.range, List.range.loop, Nat.reduceMul, Nat.reduceMod, apartF, apartI, aslice, evI, ASt.subst, AO.box, aval, pvals, ams, tys, mapTy_69, keyed_3]; (repeat' (first | (with_reducible refine hK2 _ ?_; clear hK2 K2) | (with_reducible refine And.intro ?_ ?_) | (with_reducible intro hb) | ((first | (with_reducible apply callArmO) | (with_reducible apply callArm)); case h => exact CallV.plain (Ent.of Try.func38 (by kernel_rfl) rfl) (hor) (by simp [AV.okB]))))))); all_goals ((try simp only [ThenA, InBlock, reduceIte, Nat.reduceEqDiff]); (try ((repeat ((fail_if_success (refine hK _ ?_)); clear hK K)); refine hK _ ?_; clear hK K)))) | (refine T.skip ?_; (try simp only [ThenA, InBlock, reduceIte, Nat.reduceEqDiff]); (try ((repeat ((fail_if_success (refine hK _ ?_)); clear hK K)); refine hK _ ?_; clear hK K))) | (refine T.exit ?_; (try simp only [ThenA, InBlock, reduceIte, Nat.reduceEqDiff]); (try ((repeat ((fail_if_success (refine hK _ ?_)); clear hK K)); refine hK _ ?_; clear hK K))) | (refine T.condT rfl ?_) | (refine T.condF rfl ?_) | (refine T.cond rfl (fun hc => ?_) (fun hc => ?_)) | (refine T.ret ?_; (try simp only [ThenA, InBlock, reduceIte, Nat.reduceEqDiff]); (try ((repeat ((fail_if_success (refine hK _ ?_)); clear hK K)); refine hK _ ?_; clear hK K))))
  refine T.loopK (fun k : Nat => ⟨[(0, .p (thP l)), (5, .own 0), (13, .p (.seq 1 (outR os))), (14, .int os.length), (15, .int k)], [(0, .row 44 2 (((os.take k).filterMap (l[·]?)).map pkC))], 29, 1⟩) (fun k => k ≤ os.length) (fun k => os.length - k) 0 (Nat.zero_le _) ?_ ?_
  · exact (Weak.newrow _ 5 44 2 (show 5 < 29 by decide) rfl).trans (by refine Weak.of' rfl ?_; simp only [List.mem_cons, List.not_mem_nil, or_false, forall_eq_or_imp, forall_eq, get_mk, lk_cons, lk_nil, reduceIte, Nat.reduceEqDiff, Option.getD_some, Option.getD_none, AVle_refl, AVle_nil, AVle_int, AVle_bool, AVle_junk, ASt.okB, AV.okB, AO.okB_box, AO.okB_row, AO.okB_map, AO.okB_raw, AO.okB_lrec, AV.okB_agg, AV.okB_tup, AV.okB_fn, List.all_cons, List.all_nil, Bool.and_self, Bool.and_true, Bool.true_and, Nat.reduceLT, decide_true, true_and, and_true, false_implies, implies_true, ASt.add, put_some, Int.natCast_zero, thP, outR, List.length_map, List.take_zero, List.filterMap_nil, List.map_nil])
  rintro k hk KL hKL
  simp only [thP, outR]
  by_cases hlt : k < os.length
  · obtain ⟨i, hi⟩ := at_lt hlt
    have hd : decide ((k : Int) < (os.length : Int)) = true := by simpa using hlt
    obtain ⟨s, hs⟩ := at_lt (holt i (List.mem_of_getElem? hi))
    have hnx : (os.take (k + 1)).filterMap (l[·]?) = (os.take k).filterMap (l[·]?) ++ [s] := by rw [List.take_add_one, hi, List.filterMap_append]; simp [hs]
    obtain ⟨ac, hac⟩ : ∃ ac, ac = (os.take k).filterMap (l[·]?) := ⟨_, rfl⟩
    have hal : ac.length ≤ k := by rw [hac]; exact Nat.le_trans (List.length_filterMap_le _ _) (by simp; omega)
    rw [← hac] at hnx ⊢
    have ho1 : (ac.map pkC).length + 1 ≤ maxLen := by simp only [List.length_map]; unfold maxLen; omega
    have ho2 : ((ac.map pkC).length + 1) * 16 ≤ 140737488355328 := by simp only [List.length_map]; omega
    simp only [List.length_map] at ho1 ho2
    repeat' (first | (refine T.seqK fun K hK => ?_) | (refine T.block ?_) | (refine T.reg (by kernel_rfl) fun K' hK' => ?_; simp only [startSt, frOf, List.map_cons, List.map_nil]; (repeat' (first | (with_reducible refine WL.fin ?_; refine hK' _ ?_; clear hK' K') | (with_reducible refine WD.fin ?_) | ((first | (with_reducible refine WL.step fun K2 hK2 => ?_) | (with_reducible refine WD.step fun K2 hK2 => ?_)); simp only [WS, WH, WO, WOv, WG, dstOk, hasDst, aop, ASt.ev, aload, aloadC, afield, aindex, abin, abinI, aun, alen, acells, Nat.reduceEqDiff, Nat.reduceLT, Nat.reduceLeDiff, Nat.reduceAdd, reduceIte, reduceCtorEq, implies_true, ASt.add, setHp, asplice, Int.reduceEq, Int.reduceNe, Int.reduceLT, Int.reduceLE, Int.reduceSub, Int.reduceAdd, abuild, afill, abuildS, pureL, chunks, List.range, List.range.loop, Nat.reduceMul, Nat.reduceMod, apartF, apartI, aslice, evI, ASt.subst, AO.box, aval, pvals, ams, tys, mapTy_69, keyed_3, hd, hi, hs, inC, stC, hm1, ho1, ho2]; (repeat' (first | (with_reducible refine hK2 _ ?_; clear hK2 K2) | (with_reducible refine And.intro ?_ ?_) | (with_reducible intro hb) | fail))))); all_goals ((try simp only [ThenA, InBlock, reduceIte, Nat.reduceEqDiff]); (try ((repeat ((fail_if_success (refine hK _ ?_)); clear hK K)); refine hK _ ?_; clear hK K)))) | (refine T.skip ?_; (try simp only [ThenA, InBlock, reduceIte, Nat.reduceEqDiff]); (try ((repeat ((fail_if_success (refine hK _ ?_)); clear hK K)); refine hK _ ?_; clear hK K))) | (refine T.exit ?_; (try simp only [ThenA, InBlock, reduceIte, Nat.reduceEqDiff]); (try ((repeat ((fail_if_success (refine hK _ ?_)); clear hK K)); refine hK _ ?_; clear hK K))) | (refine T.condT rfl ?_) | (refine T.condF rfl ?_) | (refine T.cond rfl (fun hc => ?_) (fun hc => ?_)) | (refine T.ret ?_; (try simp only [ThenA, InBlock, reduceIte, Nat.reduceEqDiff]); (try ((repeat ((fail_if_success (refine hK _ ?_)); clear hK K)); refine hK _ ?_; clear hK K))))
    refine hKL _ (k + 1) ?_ (by omega) (by omega)
    rw [hnx]
    refine Weak.of' rfl ?_; simp only [List.mem_cons, List.not_mem_nil, or_false, forall_eq_or_imp, forall_eq, get_mk, lk_cons, lk_nil, reduceIte, Nat.reduceEqDiff, Option.getD_some, Option.getD_none, AVle_refl, AVle_nil, AVle_int, AVle_bool, AVle_junk, ASt.okB, AV.okB, AO.okB_box, AO.okB_row, AO.okB_map, AO.okB_raw, AO.okB_lrec, AV.okB_agg, AV.okB_tup, AV.okB_fn, List.all_cons, List.all_nil, Bool.and_self, Bool.and_true, Bool.true_and, Nat.reduceLT, decide_true, true_and, and_true, false_implies, implies_true, wrap_succ (show k < 1152921504606846976 by omega), thP, outR, List.map_append, pkC, inC, List.map_cons, List.map_nil]
  · have hd : decide ((k : Int) < (os.length : Int)) = false := by simpa using hlt
    clear hKL
    rw [List.take_of_length_le (by omega)]
    repeat' (first | (refine T.seqK fun K hK => ?_) | (refine T.block ?_) | (refine T.reg (by kernel_rfl) fun K' hK' => ?_; simp only [startSt, frOf, List.map_cons, List.map_nil]; (repeat' (first | (with_reducible refine WL.fin ?_; refine hK' _ ?_; clear hK' K') | (with_reducible refine WD.fin ?_) | ((first | (with_reducible refine WL.step fun K2 hK2 => ?_) | (with_reducible refine WD.step fun K2 hK2 => ?_)); simp only [WS, WH, WO, WOv, WG, dstOk, hasDst, aop, ASt.ev, aload, aloadC, afield, aindex, abin, abinI, aun, alen, acells, Nat.reduceEqDiff, Nat.reduceLT, Nat.reduceLeDiff, Nat.reduceAdd, reduceIte, reduceCtorEq, implies_true, ASt.add, setHp, asplice, Int.reduceEq, Int.reduceNe, Int.reduceLT, Int.reduceLE, Int.reduceSub, Int.reduceAdd, abuild, afill, abuildS, pureL, chunks, List.range, List.range.loop, Nat.reduceMul, Nat.reduceMod, apartF, apartI, aslice, evI, ASt.subst, AO.box, aval, pvals, ams, tys, mapTy_69, keyed_3, hd]; (repeat' (first | (with_reducible refine hK2 _ ?_; clear hK2 K2) | (with_reducible refine And.intro ?_ ?_) | (with_reducible intro hb) | fail))))); all_goals ((try simp only [ThenA, InBlock, reduceIte, Nat.reduceEqDiff]); (try ((repeat ((fail_if_success (refine hK _ ?_)); clear hK K)); refine hK _ ?_; clear hK K)))) | (refine T.skip ?_; (try simp only [ThenA, InBlock, reduceIte, Nat.reduceEqDiff]); (try ((repeat ((fail_if_success (refine hK _ ?_)); clear hK K)); refine hK _ ?_; clear hK K))) | (refine T.exit ?_; (try simp only [ThenA, InBlock, reduceIte, Nat.reduceEqDiff]); (try ((repeat ((fail_if_success (refine hK _ ?_)); clear hK K)); refine hK _ ?_; clear hK K))) | (refine T.condT rfl ?_) | (refine T.condF rfl ?_) | (refine T.cond rfl (fun hc => ?_) (fun hc => ?_)) | (refine T.ret ?_; (try simp only [ThenA, InBlock, reduceIte, Nat.reduceEqDiff]); (try ((repeat ((fail_if_success (refine hK _ ?_)); clear hK K)); refine hK _ ?_; clear hK K))))
    refine FinF.ret 0 44 (.inr rfl) Try.results24 (Weak.refl _) ?_ rfl ?_; (focus (simp only [ares, aresL, ares1, WS, WH, WO, WOv, WG, dstOk, hasDst, aop, ASt.ev, aload, aloadC, afield, aindex, abin, abinI, aun, alen, acells, Nat.reduceEqDiff, Nat.reduceLT, Nat.reduceLeDiff, Nat.reduceAdd, reduceIte, reduceCtorEq, implies_true, ASt.add, setHp, asplice, Int.reduceEq, Int.reduceNe, Int.reduceLT, Int.reduceLE, Int.reduceSub, Int.reduceAdd, abuild, afill, abuildS, pureL, chunks, List.range, List.range.loop, Nat.reduceMul, Nat.reduceMod, apartF, apartI, aslice, evI, ASt.subst, AO.box, aval, pvals, ams, tys, mapTy_69, keyed_3, ]; done))
    intro r hr x hx
    obtain ⟨s, -, rfl⟩ := List.mem_map.1 hr
    simp only [pkC, List.mem_cons, List.not_mem_nil, or_false] at hx
    rcases hx with rfl | rfl <;> exact ⟨_, rfl⟩
end Go.Proofs.Ytbhkcejjehgfcaa
/- Sequences of picks, compared. -/
namespace Go.Proofs.Ytbhkcejjehgfcaa
open Go.RowKit Go.Sort
set_option linter.unusedSimpArgs false
set_option linter.unusedVariables false

abbrev Pk := Int × Int
def pkR (x : Pk) : List PV := [.val (.int .i64 x.1), .val (.int .i64 x.2)]
def pksP (l : List Pk) : PV := .seq 2 (l.map pkR)
def cmpP (x y : Pk) : Int := orI [cmpI x.1 y.1, cmpI x.2 y.2]
def cmpL : List Pk → List Pk → Int
  | [], [] => 0
  | [], _ :: _ => -1
  | _ :: _, [] => 1
  | x :: a, y :: b => if cmpP x y = 0 then cmpL a b else cmpP x y
def pkL (x y : Pk) : Prop := x.1 < y.1 ∨ x.1 = y.1 ∧ x.2 < y.2
theorem cmpP_cases (x y : Pk) : (cmpP x y = -1 ∧ pkL x y) ∨ (cmpP x y = 0 ∧ x = y) ∨ (cmpP x y = 1 ∧ pkL y x) := by
  unfold cmpP orI orI orI cmpI pkL
  by_cases h1 : x.1 < y.1
  · simp [h1]
  · by_cases h2 : y.1 < x.1
    · have : ¬ x.1 = y.1 := by omega
      simp [h1, h2, this]
    · have h3 : x.1 = y.1 := by omega
      by_cases h4 : x.2 < y.2
      · simp [h3, h4]
      · by_cases h5 : y.2 < x.2
        · simp [h3, h4, h5]
        · have h6 : x.2 = y.2 := by omega
          simp [h3, h6, Prod.ext_iff]
theorem pkL_trans {x y z : Pk} (h : pkL x y) (k : pkL y z) : pkL x z := by unfold pkL at *; omega
theorem pkL_irr {x : Pk} : ¬ pkL x x := by unfold pkL; omega
theorem pkL_asym {x y : Pk} (h : pkL x y) (k : pkL y x) : False := by unfold pkL at *; omega
theorem cmpP_self (x : Pk) : cmpP x x = 0 := by rcases cmpP_cases x x with h | h | h <;> first | exact h.1 | exact absurd h.2 pkL_irr
theorem cmpL_cases : ∀ a b : List Pk, (cmpL a b = -1 ∧ cmpL b a = 1) ∨ (cmpL a b = 0 ∧ a = b) ∨ (cmpL a b = 1 ∧ cmpL b a = -1)
  | [], [] => by simp [cmpL]
  | [], _ :: _ => by simp [cmpL]
  | _ :: _, [] => by simp [cmpL]
  | x :: a, y :: b => by
    have ih := cmpL_cases a b
    rcases cmpP_cases x y with ⟨h, hl⟩ | ⟨h, rfl⟩ | ⟨h, hl⟩
    · rcases cmpP_cases y x with ⟨h', hl'⟩ | ⟨h', e⟩ | ⟨h', hl'⟩
      · exact (pkL_asym hl hl').elim
      · rw [e] at hl; exact (pkL_irr hl).elim
      · left; simp [cmpL, h, h']
    · simp only [cmpL, h, if_true]
      rcases ih with h | ⟨h, rfl⟩ | h
      · exact .inl h
      · exact .inr (.inl ⟨h, rfl⟩)
      · exact .inr (.inr h)
    · rcases cmpP_cases y x with ⟨h', hl'⟩ | ⟨h', e⟩ | ⟨h', hl'⟩
      · right; right; simp [cmpL, h, h']
      · rw [e] at hl; exact (pkL_irr hl).elim
      · exact (pkL_asym hl hl').elim
theorem cmpL_trans : ∀ a b c : List Pk, cmpL a b < 0 → cmpL b c < 0 → cmpL a c < 0
  | [], [], _, h, _ => by simp [cmpL] at h
  | [], _ :: _, [], _, k => by simp [cmpL] at k
  | [], _ :: _, _ :: _, _, _ => by simp [cmpL]
  | _ :: _, [], _, h, _ => by simp [cmpL] at h
  | _ :: _, _ :: _, [], _, k => by simp [cmpL] at k
  | x :: a, y :: b, z :: c, h, k => by
    have ih := cmpL_trans a b c
    simp only [cmpL] at h k ⊢
    rcases cmpP_cases x y with ⟨h1, hl⟩ | ⟨h1, rfl⟩ | ⟨h1, hl⟩
    · rcases cmpP_cases y z with ⟨h2, hl2⟩ | ⟨h2, rfl⟩ | ⟨h2, hl2⟩
      · rcases cmpP_cases x z with ⟨h3, hl3⟩ | ⟨h3, rfl⟩ | ⟨h3, hl3⟩
        · simp [h3]
        · exact (pkL_asym hl hl2).elim
        · exact (pkL_asym (pkL_trans hl hl2) hl3).elim
      · simp [h1]
      · simp [h2] at k
    · rcases cmpP_cases x z with ⟨h2, hl2⟩ | ⟨h2, rfl⟩ | ⟨h2, hl2⟩
      · simp [h2]
      · simp only [h2, if_true] at k ⊢
        simp only [h1, if_true] at h
        exact ih h k
      · simp [h2] at k
    · simp [h1] at h
theorem cmpL_swo : SWO (fun a b => decide (cmpL a b < 0)) where
  irrefl a := by
    rcases cmpL_cases a a with h | h | h
    · omega
    · simp [h.1]
    · omega
  trans a b c h k := by simpa using cmpL_trans a b c (by simpa using h) (by simpa using k)
  ntrans a b c h k := by
    simp only [decide_eq_false_iff_not] at *
    intro hac
    rcases cmpL_cases a b with h1 | ⟨_, rfl⟩ | h1
    · omega
    · exact k hac
    · rcases cmpL_cases b c with h2 | ⟨_, rfl⟩ | h2
      · omega
      · exact h hac
      · have := cmpL_trans b a c (by omega) hac
        omega
theorem cmpL_zero {a b : List Pk} : cmpL a b = 0 ↔ a = b := by
  constructor
  · intro h
    rcases cmpL_cases a b with h1 | ⟨_, h1⟩ | h1
    · omega
    · exact h1
    · omega
  · rintro rfl
    rcases cmpL_cases a a with h1 | ⟨h1, _⟩ | h1
    · omega
    · exact h1
    · omega
set_option maxHeartbeats 4000000 in
set_option maxRecDepth 100000 in
theorem cmpP_ok (x y : Pk) : PureC Try.prog 28 [.agg ((pkR x).map .p), .agg ((pkR y).map .p)] (.int (cmpP x y)) := by
  have hm2 : 2 ≤ maxLen := by decide
  have hor := or_ok [cmpI x.1 y.1, cmpI x.2 y.2] (by simp)
  simp only [gsP, List.map_cons, List.map_nil, inC] at hor
  simp only [pkR, List.map_cons, List.map_nil]
  refine PureC.of Try.func28 rfl 17 rfl (by decide) (by simp [AV.okB]) ?_
  repeat' (first | (refine T.seqK fun K hK => ?_) | (refine T.block ?_) | (refine T.reg (by kernel_rfl) fun K' hK' => ?_; simp only [startSt, frOf, List.map_cons, List.map_nil]; (repeat' (first | (with_reducible refine WL.fin ?_; refine hK' _ ?_; clear hK' K') | (with_reducible refine WD.fin ?_) | ((first | (with_reducible refine WL.step fun K2 hK2 => ?_) | (with_reducible refine WD.step fun K2 hK2 => ?_)); simp only [WS, WH, WO, WOv, WG, dstOk, hasDst, aop, ASt.ev, aload, aloadC, afield, aindex, abin, abinI, aun, alen, acells, Nat.reduceEqDiff, Nat.reduceLT, Nat.reduceLeDiff, Nat.reduceAdd, reduceIte, reduceCtorEq, implies_true, ASt.add, setHp, asplice, Int.reduceEq, Int.reduceNe, Int.reduceLT, Int.reduceLE, Int.reduceSub, Int.reduceAdd, abuild, afill, abuildS, pureL, chunks, List.range, List.range.loop, Nat.reduceMul, Nat.reduceMod, apartF, apartI, aslice, evI, ASt.subst, AO.box, aval, pvals, ams, tys, mapTy_69, keyed_3]; (repeat' (first | (with_reducible refine hK2 _ ?_; clear hK2 K2) | (with_reducible refine And.intro ?_ ?_) | (with_reducible intro hb) | fail))))); all_goals ((try simp only [ThenA, InBlock, reduceIte, Nat.reduceEqDiff]); (try ((repeat ((fail_if_success (refine hK _ ?_)); clear hK K)); refine hK _ ?_; clear hK K)))) | (refine T.skip ?_; (try simp only [ThenA, InBlock, reduceIte, Nat.reduceEqDiff]); (try ((repeat ((fail_if_success (refine hK _ ?_)); clear hK K)); refine hK _ ?_; clear hK K))) | (refine T.exit ?_; (try simp only [ThenA, InBlock, reduceIte, Nat.reduceEqDiff]); (try ((repeat ((fail_if_success (refine hK _ ?_)); clear hK K)); refine hK _ ?_; clear hK K))) | (refine T.condT rfl ?_) | (refine T.condF rfl ?_) | (refine T.cond rfl (fun hc => ?_) (fun hc => ?_)) | (refine T.ret ?_; (try simp only [ThenA, InBlock, reduceIte, Nat.reduceEqDiff]); (try ((repeat ((fail_if_success (refine hK _ ?_)); clear hK K)); refine hK _ ?_; clear hK K))))
  refine T.drw 9 (by kernel_rfl) (by kernel_rfl) fun K' hK' => ?_; simp only [List.map_cons, List.map_nil]; (repeat' (first | (with_reducible refine WL.fin ?_; refine hK' _ ?_; clear hK' K') | (with_reducible refine WD.fin ?_) | ((first | (with_reducible refine WL.step fun K2 hK2 => ?_) | (with_reducible refine WD.step fun K2 hK2 => ?_)); simp only [WS, WH, WO, WOv, WG, dstOk, hasDst, aop, ASt.ev, aload, aloadC, afield, aindex, abin, abinI, aun, alen, acells, Nat.reduceEqDiff, Nat.reduceLT, Nat.reduceLeDiff, Nat.reduceAdd, reduceIte, reduceCtorEq, implies_true, ASt.add, setHp, asplice, Int.reduceEq, Int.reduceNe, Int.reduceLT, Int.reduceLE, Int.reduceSub, Int.reduceAdd, abuild, afill, abuildS, pureL, chunks, List.range, List.range.loop, Nat.reduceMul, Nat.reduceMod, apartF, apartI, aslice, evI, ASt.subst, AO.box, aval, pvals, ams, tys, mapTy_69, keyed_3, hm2]; (repeat' (first | (with_reducible refine hK2 _ ?_; clear hK2 K2) | (with_reducible refine And.intro ?_ ?_) | (with_reducible intro hb) | ((first | (with_reducible apply callArmO) | (with_reducible apply callArm)); case h => exact CallV.plain (Ent.of Try.func30 (by kernel_rfl) rfl) (compare_ok _ _) (by simp [AV.okB])) | ((first | (with_reducible apply callArmO) | (with_reducible apply callArm)); case h => exact CallV.plain (Ent.of Try.func29 (by kernel_rfl) rfl) (hor) (by simp [AV.okB]))))))); all_goals ((try simp only [ThenA, InBlock, reduceIte, Nat.reduceEqDiff]); (try ((repeat ((fail_if_success (refine hK _ ?_)); clear hK K)); refine hK _ ?_; clear hK K)))
  all_goals (repeat' (first | (refine T.seqK fun K hK => ?_) | (refine T.block ?_) | (refine T.reg (by kernel_rfl) fun K' hK' => ?_; simp only [startSt, frOf, List.map_cons, List.map_nil]; (repeat' (first | (with_reducible refine WL.fin ?_; refine hK' _ ?_; clear hK' K') | (with_reducible refine WD.fin ?_) | ((first | (with_reducible refine WL.step fun K2 hK2 => ?_) | (with_reducible refine WD.step fun K2 hK2 => ?_)); simp only [WS, WH, WO, WOv, WG, dstOk, hasDst, aop, ASt.ev, aload, aloadC, afield, aindex, abin, abinI, aun, alen, acells, Nat.reduceEqDiff, Nat.reduceLT, Nat.reduceLeDiff, Nat.reduceAdd, reduceIte, reduceCtorEq, implies_true, ASt.add, setHp, asplice, Int.reduceEq, Int.reduceNe, Int.reduceLT, Int.reduceLE, Int.reduceSub, Int.reduceAdd, abuild, afill, abuildS, pureL, chunks, List.range, List.range.loop, Nat.reduceMul, Nat.reduceMod, apartF, apartI, aslice, evI, ASt.subst, AO.box, aval, pvals, ams, tys, mapTy_69, keyed_3]; (repeat' (first | (with_reducible refine hK2 _ ?_; clear hK2 K2) | (with_reducible refine And.intro ?_ ?_) | (with_reducible intro hb) | fail))))); all_goals ((try simp only [ThenA, InBlock, reduceIte, Nat.reduceEqDiff]); (try ((repeat ((fail_if_success (refine hK _ ?_)); clear hK K)); refine hK _ ?_; clear hK K)))) | (refine T.skip ?_; (try simp only [ThenA, InBlock, reduceIte, Nat.reduceEqDiff]); (try ((repeat ((fail_if_success (refine hK _ ?_)); clear hK K)); refine hK _ ?_; clear hK K))) | (refine T.exit ?_; (try simp only [ThenA, InBlock, reduceIte, Nat.reduceEqDiff]); (try ((repeat ((fail_if_success (refine hK _ ?_)); clear hK K)); refine hK _ ?_; clear hK K))) | (refine T.condT rfl ?_) | (refine T.condF rfl ?_) | (refine T.cond rfl (fun hc => ?_) (fun hc => ?_)) | (refine T.ret ?_; (try simp only [ThenA, InBlock, reduceIte, Nat.reduceEqDiff]); (try ((repeat ((fail_if_success (refine hK _ ?_)); clear hK K)); refine hK _ ?_; clear hK K)))))
  refine FinA.ret (.inr rfl) Try.results28 ?_; simp only [ares, aresL, ares1, WS, WH, WO, WOv, WG, dstOk, hasDst, aop, ASt.ev, aload, aloadC, afield, aindex, abin, abinI, aun, alen, acells, Nat.reduceEqDiff, Nat.reduceLT, Nat.reduceLeDiff, Nat.reduceAdd, reduceIte, reduceCtorEq, implies_true, ASt.add, setHp, asplice, Int.reduceEq, Int.reduceNe, Int.reduceLT, Int.reduceLE, Int.reduceSub, Int.reduceAdd, abuild, afill, abuildS, pureL, chunks, List.range, List.range.loop, Nat.reduceMul, Nat.reduceMod, apartF, apartI, aslice, evI, ASt.subst, AO.box, aval, pvals, ams, tys, mapTy_69, keyed_3, cmpP]
set_option maxHeartbeats 4000000 in
set_option maxRecDepth 100000 in
theorem cmpF_ok (a b : List Pk) (ha : a.length ≤ 1000000) (hb : b.length ≤ 1000000) : PureC Try.prog 27 [.p (pksP a), .p (pksP b), .fn (.func 28) []] (.int (cmpL a b)) := by
  simp only [pksP]
  refine PureC.of Try.func27 rfl 39 rfl (by decide) (by simp [AV.okB]) ?_
  repeat' (first | (refine T.seqK fun K hK => ?_) | (refine T.block ?_) | (refine T.reg (by kernel_rfl) fun K' hK' => ?_; simp only [startSt, frOf, List.map_cons, List.map_nil]; (repeat' (first | (with_reducible refine WL.fin ?_; refine hK' _ ?_; clear hK' K') | (with_reducible refine WD.fin ?_) | ((first | (with_reducible refine WL.step fun K2 hK2 => ?_) | (with_reducible refine WD.step fun K2 hK2 => ?_)); simp only [WS, WH, WO, WOv, WG, dstOk, hasDst, aop, ASt.ev, aload, aloadC, afield, aindex, abin, abinI, aun, alen, acells, Nat.reduceEqDiff, Nat.reduceLT, Nat.reduceLeDiff, Nat.reduceAdd, reduceIte, reduceCtorEq, implies_true, ASt.add, setHp, asplice, Int.reduceEq, Int.reduceNe, Int.reduceLT, Int.reduceLE, Int.reduceSub, Int.reduceAdd, abuild, afill, abuildS, pureL, chunks, List.range, List.range.loop, Nat.reduceMul, Nat.reduceMod, apartF, apartI, aslice, evI, ASt.subst, AO.box, aval, pvals, ams, tys, mapTy_69, keyed_3]; (repeat' (first | (with_reducible refine hK2 _ ?_; clear hK2 K2) | (with_reducible refine And.intro ?_ ?_) | (with_reducible intro hb) | fail))))); all_goals ((try simp only [ThenA, InBlock, reduceIte, Nat.reduceEqDiff]); (try ((repeat ((fail_if_success (refine hK _ ?_)); clear hK K)); refine hK _ ?_; clear hK K)))) | (refine T.skip ?_; (try simp only [ThenA, InBlock, reduceIte, Nat.reduceEqDiff]); (try ((repeat ((fail_if_success (refine hK _ ?_)); clear hK K)); refine hK _ ?_; clear hK K))) | (refine T.exit ?_; (try simp only [ThenA, InBlock, reduceIte, Nat.reduceEqDiff]); (try ((repeat ((fail_if_success (refine hK _ ?_)); clear hK K)); refine hK _ ?_; clear hK K))) | (refine T.condT rfl ?_) | (refine T.condF rfl ?_) | (refine T.cond rfl (fun hc => ?_) (fun hc => ?_)) | (refine T.ret ?_; (try simp only [ThenA, InBlock, reduceIte, Nat.reduceEqDiff]); (try ((repeat ((fail_if_success (refine hK _ ?_)); clear hK K)); refine hK _ ?_; clear hK K))))
  refine T.loopK (fun k : Nat => ⟨[(0, .p (pksP a)), (1, .p (pksP b)), (2, .fn (.func 28) []), (11, .p (pksP a)), (12, .int a.length), (13, .int k)], [], 39, 0⟩) (fun k => k ≤ a.length ∧ k ≤ b.length ∧ cmpL a b = cmpL (a.drop k) (b.drop k)) (fun k => a.length - k) 0 ⟨Nat.zero_le _, Nat.zero_le _, rfl⟩ (by refine Weak.of' rfl ?_; simp only [List.mem_cons, List.not_mem_nil, or_false, forall_eq_or_imp, forall_eq, get_mk, lk_cons, lk_nil, reduceIte, Nat.reduceEqDiff, Option.getD_some, Option.getD_none, AVle_refl, AVle_nil, AVle_int, AVle_bool, AVle_junk, ASt.okB, AV.okB, AO.okB_box, AO.okB_row, AO.okB_map, AO.okB_raw, AO.okB_lrec, AV.okB_agg, AV.okB_tup, AV.okB_fn, List.all_cons, List.all_nil, Bool.and_self, Bool.and_true, Bool.true_and, Nat.reduceLT, decide_true, true_and, and_true, false_implies, implies_true, Int.natCast_zero, pksP]) ?_
  rintro k ⟨hk, hkb, hn⟩ KL hKL
  simp only [pksP]
  by_cases hlt : k < a.length
  · obtain ⟨x, hx⟩ := at_lt hlt
    have hd : decide ((k : Int) < (a.length : Int)) = true := by simpa using hlt
    rw [drop_at hx] at hn
    by_cases hlb : k < b.length
    · obtain ⟨y, hy⟩ := at_lt hlb
      have hd2 : decide ((b.length : Int) ≤ (k : Int)) = false := by simp; omega
      rw [drop_at hy, cmpL] at hn
      have hcp := cmpP_ok x y
      simp only [pkR, List.map_cons, List.map_nil] at hcp
      by_cases h0 : cmpP x y = 0
      · rw [if_pos h0] at hn
        have h00 : (cmpP x y != 0) = false := by simp [h0]
        repeat' (first | (refine T.seqK fun K hK => ?_) | (refine T.block ?_) | (refine T.reg (by kernel_rfl) fun K' hK' => ?_; simp only [startSt, frOf, List.map_cons, List.map_nil]; (repeat' (first | (with_reducible refine WL.fin ?_; refine hK' _ ?_; clear hK' K') | (with_reducible refine WD.fin ?_) | ((first | (with_reducible refine WL.step fun K2 hK2 => ?_) | (with_reducible refine WD.step fun K2 hK2 => ?_)); simp only [WS, WH, WO, WOv, WG, dstOk, hasDst, aop, ASt.ev, aload, aloadC, afield, aindex, abin, abinI, aun, alen, acells, Nat.reduceEqDiff, Nat.reduceLT, Nat.reduceLeDiff, Nat.reduceAdd, reduceIte, reduceCtorEq, implies_true, ASt.add, setHp, asplice, Int.reduceEq, Int.reduceNe, Int.reduceLT, Int.reduceLE, Int.reduceSub, Int.reduceAdd, abuild, afill, abuildS, pureL, chunks, List.range, List.range.loop, Nat.reduceMul, Nat.reduceMod, apartF, apartI, aslice, evI, ASt.subst, AO.box, aval, pvals, ams, tys, mapTy_69, keyed_3, hx, hy, hd, hd2, pkR, h00]; (repeat' (first | (with_reducible refine hK2 _ ?_; clear hK2 K2) | (with_reducible refine And.intro ?_ ?_) | (with_reducible intro hb) | ((with_reducible refine Or.inl ⟨_, ⟨(Ent.of Try.func28 (by kernel_rfl) rfl), hcp, ?_⟩, ?_⟩); (focus (simp [AV.okB]; done)))))))); all_goals ((try simp only [ThenA, InBlock, reduceIte, Nat.reduceEqDiff]); (try ((repeat ((fail_if_success (refine hK _ ?_)); clear hK K)); refine hK _ ?_; clear hK K)))) | (refine T.skip ?_; (try simp only [ThenA, InBlock, reduceIte, Nat.reduceEqDiff]); (try ((repeat ((fail_if_success (refine hK _ ?_)); clear hK K)); refine hK _ ?_; clear hK K))) | (refine T.exit ?_; (try simp only [ThenA, InBlock, reduceIte, Nat.reduceEqDiff]); (try ((repeat ((fail_if_success (refine hK _ ?_)); clear hK K)); refine hK _ ?_; clear hK K))) | (refine T.condT rfl ?_) | (refine T.condF rfl ?_) | (refine T.cond rfl (fun hc => ?_) (fun hc => ?_)) | (refine T.ret ?_; (try simp only [ThenA, InBlock, reduceIte, Nat.reduceEqDiff]); (try ((repeat ((fail_if_success (refine hK _ ?_)); clear hK K)); refine hK _ ?_; clear hK K))))
        exact hKL _ (k + 1) (by refine Weak.of' rfl ?_; simp only [List.mem_cons, List.not_mem_nil, or_false, forall_eq_or_imp, forall_eq, get_mk, lk_cons, lk_nil, reduceIte, Nat.reduceEqDiff, Option.getD_some, Option.getD_none, AVle_refl, AVle_nil, AVle_int, AVle_bool, AVle_junk, ASt.okB, AV.okB, AO.okB_box, AO.okB_row, AO.okB_map, AO.okB_raw, AO.okB_lrec, AV.okB_agg, AV.okB_tup, AV.okB_fn, List.all_cons, List.all_nil, Bool.and_self, Bool.and_true, Bool.true_and, Nat.reduceLT, decide_true, true_and, and_true, false_implies, implies_true, wrap_succ (show k < 1152921504606846976 by omega), pksP]) ⟨by omega, by omega, hn⟩ (by omega)
      · rw [if_neg h0] at hn
        have h00 : (cmpP x y != 0) = true := by simp [h0]
        repeat' (first | (refine T.seqK fun K hK => ?_) | (refine T.block ?_) | (refine T.reg (by kernel_rfl) fun K' hK' => ?_; simp only [startSt, frOf, List.map_cons, List.map_nil]; (repeat' (first | (with_reducible refine WL.fin ?_; refine hK' _ ?_; clear hK' K') | (with_reducible refine WD.fin ?_) | ((first | (with_reducible refine WL.step fun K2 hK2 => ?_) | (with_reducible refine WD.step fun K2 hK2 => ?_)); simp only [WS, WH, WO, WOv, WG, dstOk, hasDst, aop, ASt.ev, aload, aloadC, afield, aindex, abin, abinI, aun, alen, acells, Nat.reduceEqDiff, Nat.reduceLT, Nat.reduceLeDiff, Nat.reduceAdd, reduceIte, reduceCtorEq, implies_true, ASt.add, setHp, asplice, Int.reduceEq, Int.reduceNe, Int.reduceLT, Int.reduceLE, Int.reduceSub, Int.reduceAdd, abuild, afill, abuildS, pureL, chunks, List.range, List.range.loop, Nat.reduceMul, Nat.reduceMod, apartF, apartI, aslice, evI, ASt.subst, AO.box, aval, pvals, ams, tys, mapTy_69, keyed_3, hx, hy, hd, hd2, pkR, h00]; (repeat' (first | (with_reducible refine hK2 _ ?_; clear hK2 K2) | (with_reducible refine And.intro ?_ ?_) | (with_reducible intro hb) | ((with_reducible refine Or.inl ⟨_, ⟨(Ent.of Try.func28 (by kernel_rfl) rfl), hcp, ?_⟩, ?_⟩); (focus (simp [AV.okB]; done)))))))); all_goals ((try simp only [ThenA, InBlock, reduceIte, Nat.reduceEqDiff]); (try ((repeat ((fail_if_success (refine hK _ ?_)); clear hK K)); refine hK _ ?_; clear hK K)))) | (refine T.skip ?_; (try simp only [ThenA, InBlock, reduceIte, Nat.reduceEqDiff]); (try ((repeat ((fail_if_success (refine hK _ ?_)); clear hK K)); refine hK _ ?_; clear hK K))) | (refine T.exit ?_; (try simp only [ThenA, InBlock, reduceIte, Nat.reduceEqDiff]); (try ((repeat ((fail_if_success (refine hK _ ?_)); clear hK K)); refine hK _ ?_; clear hK K))) | (refine T.condT rfl ?_) | (refine T.condF rfl ?_) | (refine T.cond rfl (fun hc => ?_) (fun hc => ?_)) | (refine T.ret ?_; (try simp only [ThenA, InBlock, reduceIte, Nat.reduceEqDiff]); (try ((repeat ((fail_if_success (refine hK _ ?_)); clear hK K)); refine hK _ ?_; clear hK K))))
        refine FinA.ret (.inr rfl) Try.results27 ?_; simp only [ares, aresL, ares1, WS, WH, WO, WOv, WG, dstOk, hasDst, aop, ASt.ev, aload, aloadC, afield, aindex, abin, abinI, aun, alen, acells, Nat.reduceEqDiff, Nat.reduceLT, Nat.reduceLeDiff, Nat.reduceAdd, reduceIte, reduceCtorEq, implies_true, ASt.add, setHp, asplice, Int.reduceEq, Int.reduceNe, Int.reduceLT, Int.reduceLE, Int.reduceSub, Int.reduceAdd, abuild, afill, abuildS, pureL, chunks, List.range, List.range.loop, Nat.reduceMul, Nat.reduceMod, apartF, apartI, aslice, evI, ASt.subst, AO.box, aval, pvals, ams, tys, mapTy_69, keyed_3, ]
        rw [hn]
    · have hd2 : decide ((b.length : Int) ≤ (k : Int)) = true := by simp; omega
      rw [drop_end hlb, cmpL] at hn
      repeat' (first | (refine T.seqK fun K hK => ?_) | (refine T.block ?_) | (refine T.reg (by kernel_rfl) fun K' hK' => ?_; simp only [startSt, frOf, List.map_cons, List.map_nil]; (repeat' (first | (with_reducible refine WL.fin ?_; refine hK' _ ?_; clear hK' K') | (with_reducible refine WD.fin ?_) | ((first | (with_reducible refine WL.step fun K2 hK2 => ?_) | (with_reducible refine WD.step fun K2 hK2 => ?_)); simp only [WS, WH, WO, WOv, WG, dstOk, hasDst, aop, ASt.ev, aload, aloadC, afield, aindex, abin, abinI, aun, alen, acells, Nat.reduceEqDiff, Nat.reduceLT, Nat.reduceLeDiff, Nat.reduceAdd, reduceIte, reduceCtorEq, implies_true, ASt.add, setHp, asplice, Int.reduceEq, Int.reduceNe, Int.reduceLT, Int.reduceLE, Int.reduceSub, Int.reduceAdd, abuild, afill, abuildS, pureL, chunks, List.range, List.range.loop, Nat.reduceMul, Nat.reduceMod, apartF, apartI, aslice, evI, ASt.subst, AO.box, aval, pvals, ams, tys, mapTy_69, keyed_3, hx, hd, hd2, pkR]; (repeat' (first | (with_reducible refine hK2 _ ?_; clear hK2 K2) | (with_reducible refine And.intro ?_ ?_) | (with_reducible intro hb) | fail))))); all_goals ((try simp only [ThenA, InBlock, reduceIte, Nat.reduceEqDiff]); (try ((repeat ((fail_if_success (refine hK _ ?_)); clear hK K)); refine hK _ ?_; clear hK K)))) | (refine T.skip ?_; (try simp only [ThenA, InBlock, reduceIte, Nat.reduceEqDiff]); (try ((repeat ((fail_if_success (refine hK _ ?_)); clear hK K)); refine hK _ ?_; clear hK K))) | (refine T.exit ?_; (try simp only [ThenA, InBlock, reduceIte, Nat.reduceEqDiff]); (try ((repeat ((fail_if_success (refine hK _ ?_)); clear hK K)); refine hK _ ?_; clear hK K))) | (refine T.condT rfl ?_) | (refine T.condF rfl ?_) | (refine T.cond rfl (fun hc => ?_) (fun hc => ?_)) | (refine T.ret ?_; (try simp only [ThenA, InBlock, reduceIte, Nat.reduceEqDiff]); (try ((repeat ((fail_if_success (refine hK _ ?_)); clear hK K)); refine hK _ ?_; clear hK K))))
      refine FinA.ret (.inr rfl) Try.results27 ?_; simp only [ares, aresL, ares1, WS, WH, WO, WOv, WG, dstOk, hasDst, aop, ASt.ev, aload, aloadC, afield, aindex, abin, abinI, aun, alen, acells, Nat.reduceEqDiff, Nat.reduceLT, Nat.reduceLeDiff, Nat.reduceAdd, reduceIte, reduceCtorEq, implies_true, ASt.add, setHp, asplice, Int.reduceEq, Int.reduceNe, Int.reduceLT, Int.reduceLE, Int.reduceSub, Int.reduceAdd, abuild, afill, abuildS, pureL, chunks, List.range, List.range.loop, Nat.reduceMul, Nat.reduceMod, apartF, apartI, aslice, evI, ASt.subst, AO.box, aval, pvals, ams, tys, mapTy_69, keyed_3, ]
      rw [hn]
  · have hd : decide ((k : Int) < (a.length : Int)) = false := by simpa using hlt
    rw [drop_end hlt] at hn
    clear hKL
    by_cases hlb : k < b.length
    · obtain ⟨y, hy⟩ := at_lt hlb
      rw [drop_at hy, cmpL] at hn
      have hd2 : decide ((a.length : Int) < (b.length : Int)) = true := by simp; omega
      repeat' (first | (refine T.seqK fun K hK => ?_) | (refine T.block ?_) | (refine T.reg (by kernel_rfl) fun K' hK' => ?_; simp only [startSt, frOf, List.map_cons, List.map_nil]; (repeat' (first | (with_reducible refine WL.fin ?_; refine hK' _ ?_; clear hK' K') | (with_reducible refine WD.fin ?_) | ((first | (with_reducible refine WL.step fun K2 hK2 => ?_) | (with_reducible refine WD.step fun K2 hK2 => ?_)); simp only [WS, WH, WO, WOv, WG, dstOk, hasDst, aop, ASt.ev, aload, aloadC, afield, aindex, abin, abinI, aun, alen, acells, Nat.reduceEqDiff, Nat.reduceLT, Nat.reduceLeDiff, Nat.reduceAdd, reduceIte, reduceCtorEq, implies_true, ASt.add, setHp, asplice, Int.reduceEq, Int.reduceNe, Int.reduceLT, Int.reduceLE, Int.reduceSub, Int.reduceAdd, abuild, afill, abuildS, pureL, chunks, List.range, List.range.loop, Nat.reduceMul, Nat.reduceMod, apartF, apartI, aslice, evI, ASt.subst, AO.box, aval, pvals, ams, tys, mapTy_69, keyed_3, hd, hd2]; (repeat' (first | (with_reducible refine hK2 _ ?_; clear hK2 K2) | (with_reducible refine And.intro ?_ ?_) | (with_reducible intro hb) | fail))))); all_goals ((try simp only [ThenA, InBlock, reduceIte, Nat.reduceEqDiff]); (try ((repeat ((fail_if_success (refine hK _ ?_)); clear hK K)); refine hK _ ?_; clear hK K)))) | (refine T.skip ?_; (try simp only [ThenA, InBlock, reduceIte, Nat.reduceEqDiff]); (try ((repeat ((fail_if_success (refine hK _ ?_)); clear hK K)); refine hK _ ?_; clear hK K))) | (refine T.exit ?_; (try simp only [ThenA, InBlock, reduceIte, Nat.reduceEqDiff]); (try ((repeat ((fail_if_success (refine hK _ ?_)); clear hK K)); refine hK _ ?_; clear hK K))) | (refine T.condT rfl ?_) | (refine T.condF rfl ?_) | (refine T.cond rfl (fun hc => ?_) (fun hc => ?_)) | (refine T.ret ?_; (try simp only [ThenA, InBlock, reduceIte, Nat.reduceEqDiff]); (try ((repeat ((fail_if_success (refine hK _ ?_)); clear hK K)); refine hK _ ?_; clear hK K))))
      refine FinA.ret (.inr rfl) Try.results27 ?_; simp only [ares, aresL, ares1, WS, WH, WO, WOv, WG, dstOk, hasDst, aop, ASt.ev, aload, aloadC, afield, aindex, abin, abinI, aun, alen, acells, Nat.reduceEqDiff, Nat.reduceLT, Nat.reduceLeDiff, Nat.reduceAdd, reduceIte, reduceCtorEq, implies_true, ASt.add, setHp, asplice, Int.reduceEq, Int.reduceNe, Int.reduceLT, Int.reduceLE, Int.reduceSub, Int.reduceAdd, abuild, afill, abuildS, pureL, chunks, List.range, List.range.loop, Nat.reduceMul, Nat.reduceMod, apartF, apartI, aslice, evI, ASt.subst, AO.box, aval, pvals, ams, tys, mapTy_69, keyed_3, ]
      rw [hn]
    · rw [drop_end hlb, cmpL] at hn
      have hd2 : decide ((a.length : Int) < (b.length : Int)) = false := by simp; omega
      repeat' (first | (refine T.seqK fun K hK => ?_) | (refine T.block ?_) | (refine T.reg (by kernel_rfl) fun K' hK' => ?_; simp only [startSt, frOf, List.map_cons, List.map_nil]; (repeat' (first | (with_reducible refine WL.fin ?_; refine hK' _ ?_; clear hK' K') | (with_reducible refine WD.fin ?_) | ((first | (with_reducible refine WL.step fun K2 hK2 => ?_) | (with_reducible refine WD.step fun K2 hK2 => ?_)); simp only [WS, WH, WO, WOv, WG, dstOk, hasDst, aop, ASt.ev, aload, aloadC, afield, aindex, abin, abinI, aun, alen, acells, Nat.reduceEqDiff, Nat.reduceLT, Nat.reduceLeDiff, Nat.reduceAdd, reduceIte, reduceCtorEq, implies_true, ASt.add, setHp, asplice, Int.reduceEq, Int.reduceNe, Int.reduceLT, Int.reduceLE, Int.reduceSub, Int.reduceAdd, abuild, afill, abuildS, pureL, chunks, List.range, List.range.loop, Nat.reduceMul, Nat.reduceMod, apartF, apartI, aslice, evI, ASt.subst, AO.box, aval, pvals, ams, tys, mapTy_69, keyed_3, hd, hd2]; (repeat' (first | (with_reducible refine hK2 _ ?_; clear hK2 K2) | (with_reducible refine And.intro ?_ ?_) | (with_reducible intro hb) | fail))))); all_goals ((try simp only [ThenA, InBlock, reduceIte, Nat.reduceEqDiff]); (try ((repeat ((fail_if_success (refine hK _ ?_)); clear hK K)); refine hK _ ?_; clear hK K)))) | (refine T.skip ?_; (try simp only [ThenA, InBlock, reduceIte, Nat.reduceEqDiff]); (try ((repeat ((fail_if_success (refine hK _ ?_)); clear hK K)); refine hK _ ?_; clear hK K))) | (refine T.exit ?_; (try simp only [ThenA, InBlock, reduceIte, Nat.reduceEqDiff]); (try ((repeat ((fail_if_success (refine hK _ ?_)); clear hK K)); refine hK _ ?_; clear hK K))) | (refine T.condT rfl ?_) | (refine T.condF rfl ?_) | (refine T.cond rfl (fun hc => ?_) (fun hc => ?_)) | (refine T.ret ?_; (try simp only [ThenA, InBlock, reduceIte, Nat.reduceEqDiff]); (try ((repeat ((fail_if_success (refine hK _ ?_)); clear hK K)); refine hK _ ?_; clear hK K))))
      refine FinA.ret (.inr rfl) Try.results27 ?_; simp only [ares, aresL, ares1, WS, WH, WO, WOv, WG, dstOk, hasDst, aop, ASt.ev, aload, aloadC, afield, aindex, abin, abinI, aun, alen, acells, Nat.reduceEqDiff, Nat.reduceLT, Nat.reduceLeDiff, Nat.reduceAdd, reduceIte, reduceCtorEq, implies_true, ASt.add, setHp, asplice, Int.reduceEq, Int.reduceNe, Int.reduceLT, Int.reduceLE, Int.reduceSub, Int.reduceAdd, abuild, afill, abuildS, pureL, chunks, List.range, List.range.loop, Nat.reduceMul, Nat.reduceMod, apartF, apartI, aslice, evI, ASt.subst, AO.box, aval, pvals, ams, tys, mapTy_69, keyed_3, ]
      rw [hn]
set_option maxHeartbeats 4000000 in
theorem cmp_ok (a b : List Pk) (ha : a.length ≤ 1000000) (hb : b.length ≤ 1000000) : PureC Try.prog 26 [.p (pksP a), .p (pksP b)] (.int (cmpL a b)) := by
  have h := cmpF_ok a b ha hb
  simp only [pksP] at h ⊢
  refine PureC.of Try.func26 rfl 8 rfl (by decide) (by simp [AV.okB]) ?_
  repeat' (first | (refine T.seqK fun K hK => ?_) | (refine T.block ?_) | (refine T.reg (by kernel_rfl) fun K' hK' => ?_; simp only [startSt, frOf, List.map_cons, List.map_nil]; (repeat' (first | (with_reducible refine WL.fin ?_; refine hK' _ ?_; clear hK' K') | (with_reducible refine WD.fin ?_) | ((first | (with_reducible refine WL.step fun K2 hK2 => ?_) | (with_reducible refine WD.step fun K2 hK2 => ?_)); simp only [WS, WH, WO, WOv, WG, dstOk, hasDst, aop, ASt.ev, aload, aloadC, afield, aindex, abin, abinI, aun, alen, acells, Nat.reduceEqDiff, Nat.reduceLT, Nat.reduceLeDiff, Nat.reduceAdd, reduceIte, reduceCtorEq, implies_true, ASt.add, setHp, asplice, Int.reduceEq, Int.reduceNe, Int.reduceLT, Int.reduceLE, Int.reduceSub, Int.reduceAdd, abuild, afill, abuildS, pureL, chunks, List.range, List.range.loop, Nat.reduceMul, Nat.reduceMod, apartF, apartI, aslice, evI, ASt.subst, AO.box, aval, pvals, ams, tys, mapTy_69, keyed_3]; (repeat' (first | (with_reducible refine hK2 _ ?_; clear hK2 K2) | (with_reducible refine And.intro ?_ ?_) | (with_reducible intro hb) | ((first | (with_reducible apply callArmO) | (with_reducible apply callArm)); case h => exact CallV.plain (Ent.of Try.func27 (by kernel_rfl) rfl) (h) (by simp [AV.okB]))))))); all_goals ((try simp only [ThenA, InBlock, reduceIte, Nat.reduceEqDiff]); (try ((repeat ((fail_if_success (refine hK _ ?_)); clear hK K)); refine hK _ ?_; clear hK K)))) | (refine T.skip ?_; (try simp only [ThenA, InBlock, reduceIte, Nat.reduceEqDiff]); (try ((repeat ((fail_if_success (refine hK _ ?_)); clear hK K)); refine hK _ ?_; clear hK K))) | (refine T.exit ?_; (try simp only [ThenA, InBlock, reduceIte, Nat.reduceEqDiff]); (try ((repeat ((fail_if_success (refine hK _ ?_)); clear hK K)); refine hK _ ?_; clear hK K))) | (refine T.condT rfl ?_) | (refine T.condF rfl ?_) | (refine T.cond rfl (fun hc => ?_) (fun hc => ?_)) | (refine T.ret ?_; (try simp only [ThenA, InBlock, reduceIte, Nat.reduceEqDiff]); (try ((repeat ((fail_if_success (refine hK _ ?_)); clear hK K)); refine hK _ ?_; clear hK K))))
  refine FinA.ret (.inr rfl) Try.results26 ?_; simp only [ares, aresL, ares1, WS, WH, WO, WOv, WG, dstOk, hasDst, aop, ASt.ev, aload, aloadC, afield, aindex, abin, abinI, aun, alen, acells, Nat.reduceEqDiff, Nat.reduceLT, Nat.reduceLeDiff, Nat.reduceAdd, reduceIte, reduceCtorEq, implies_true, ASt.add, setHp, asplice, Int.reduceEq, Int.reduceNe, Int.reduceLT, Int.reduceLE, Int.reduceSub, Int.reduceAdd, abuild, afill, abuildS, pureL, chunks, List.range, List.range.loop, Nat.reduceMul, Nat.reduceMod, apartF, apartI, aslice, evI, ASt.subst, AO.box, aval, pvals, ams, tys, mapTy_69, keyed_3, ]
end Go.Proofs.Ytbhkcejjehgfcaa
/- slices.SortFunc over a slice of the walk's own, of elements of one cell; the comparison by its own contract. -/
namespace Go.Proofs.Ytbhkcejjehgfcaa
open Go.RowKit Go.Sort Go.Shelf
set_option linter.unusedSimpArgs false
set_option linter.unusedVariables false

theorem swo_comap {α β : Type} {lt : α → α → Bool} (h : SWO lt) (f : β → α) : SWO (fun x y => lt (f x) (f y)) := ⟨fun x => h.irrefl _, fun x y z => h.trans _ _ _, fun x y z => h.ntrans _ _ _⟩
def rowOf {α : Type} (pv : α → PV) (ks : List α) : List (List PV) := ks.map fun k => [pv k]
/-- No later one is less than an earlier one. -/
def SortedL {α : Type} (cf : α → α → Int) (ks : List α) : Prop := ks.Pairwise fun x y => ¬ cf y x < 0
theorem sort_mem {P : Program} {ρ : Ren} (S : SlLaysF.n6 P ρ) {α : Type} (pv : α → PV) (cf : α → α → Int) (hO : SWO (ltOf cf)) (g : Nat) (ks : List α) (hne : ks ≠ []) (hlen : ks.length < 4611686018427387904) (eg : Ent P g)
    (hcmp : ∀ x ∈ ks, ∀ y ∈ ks, PureC P g [.p (pv x), .p (pv y)] (.int (cf x y))) (N : Nat) (hp : Hp) (t e : Nat) (hlk : hp.lookup t = some (.row e 1 (rowOf pv ks))) :
    MemC P (ρ.f 6) N hp [.own t, .fn (.func g) []] fun hp' r => r = .tup [] ∧ ∃ ks' : List α, ks'.Perm ks ∧ SortedL cf ks' ∧ hp' = setHp hp t (.row e 1 (rowOf pv ks')) := fun L loc w vs hh hvs => by
  obtain ⟨htN, u, hu, hor⟩ := hh.at' t _ hlk
  obtain ⟨v0, v1, rfl⟩ : ∃ v0 v1, vs = [v0, v1] := by
    match vs, hvs.1 with
    | [v0, v1], _ => exact ⟨v0, v1, rfl⟩
  have a0 := hvs.2 0 _ v0 rfl rfl
  have a1 := hvs.2 1 _ v1 rfl rfl
  cases a0 with
  | own _ _ _ _ hv =>
  obtain rfl := hv u hu
  cases a1 with
  | fn _ _ cvs hl _ =>
  obtain rfl : cvs = #[] := Array.eq_empty_of_size_eq_zero (by simpa using hl)
  obtain ⟨flat, hown, hrn, hfl, hone⟩ := hor
  have hlr : (rowOf pv ks).length = ks.length := by simp [rowOf]
  have hk0 : 0 < ks.length := List.length_pos_iff.2 hne
  rw [hlr] at hown
  rcases hown.2 with ⟨_, h0⟩ | ⟨b, cap, cur, rfl, _, hg, hle, hmx, hcs, htk⟩
  · omega
  have hblt : b < w.heap.size := (Array.getElem?_eq_some_iff.1 hg).1
  have hfl1 : ∀ (i : Nat) (x : α), ks[i]? = some x → ∃ v, flat[i]? = some v ∧ PR (Dm L loc) w (pv x) v := fun i x hx => by
    obtain ⟨v, h1, h2⟩ := hfl i [pv x] 0 (pv x) (by simp [rowOf, hx]) rfl
    exact ⟨v, by simpa using h1, h2⟩
  have hflen : flat.length = ks.length := by have := hown.1; omega
  let A := Fin ks.length
  haveI : Inhabited A := ⟨⟨0, hk0⟩⟩
  let enc : A → Value := fun i => flat.getD i.1 undef
  have hencf : ∀ i : A, flat[i.1]? = some (enc i) := fun i => by
    have : i.1 < flat.length := by rw [hflen]; exact i.2
    simp only [enc, List.getD_eq_getElem?_getD, List.getElem?_eq_getElem this, Option.getD_some]
  have henc : ∀ i : A, PR (Dm L loc) w (pv (ks.get i)) (enc i) := fun i => by
    obtain ⟨v, h1, h2⟩ := hfl1 i.1 (ks.get i) (by simp)
    have := hencf i
    rw [h1] at this
    cases this
    exact h2
  let d : Array A := Array.ofFn id
  have hd : d.size = ks.length := by simp [d]
  have hdk : ∀ j (hj : j < ks.length), d[j]! = ⟨j, hj⟩ := fun j hj => by rw [getElem!_pos d j (by rw [hd]; exact hj)]; simp [d]
  have hbD : Dm L loc b := .inr ⟨t, _, hu, rfl⟩
  have hcur : ∀ i : A, cur[i.1]? = some (enc i) := fun i => by
    have h1 := hencf i
    rw [← htk, List.getElem?_take, if_pos (by have := i.2; omega)] at h1
    simpa using h1
  have hH : Holds enc w b 0 d := fun j hj => by
    rw [hd] at hj
    rw [hdk j hj, Nat.zero_add]
    refine ⟨?_, ?_⟩
    · rw [row_cells hg]; exact hcur ⟨j, hj⟩
    · simp [World.frozen?, hg]
  -- the worlds that the sort passes through
  have kpS : ∀ m (dk : Array A) os, Kp (fun k => k = b) w (sortWorld enc w b 0 m dk os) := fun m dk os => by
    refine ⟨rfl, rfl, rfl, ?_, fun k hk hne => ?_, Nat.le_add_right _ _⟩
    · simp [sortWorld, grow, putRow, mapBlock, Sort.ahead]
    · simp only [sortWorld, grow, putRow, mapBlock, Sort.ahead]
      rw [Array.getElem?_append_left (by simpa using hk), Array.getElem?_modify, if_neg (fun e => hne e.symm)]
  have hcl : CmpLays1 P g #[] enc (fun i j => cf (ks.get i) (ks.get j)) b 0 d.size w := fun m os dk hdk x y => by
    have kw := kpS m dk os
    have hx : PR (fun k => k = b) (sortWorld enc w b 0 m dk os) (pv (ks.get x)) (enc x) := (henc x).mono (kw.wide fun k e => e ▸ hbD) (fun k _ e => e ▸ hbD)
    have hy : PR (fun k => k = b) (sortWorld enc w b 0 m dk os) (pv (ks.get y)) (enc y) := (henc y).mono (kw.wide fun k e => e ▸ hbD) (fun k _ e => e ▸ hbD)
    have hc := hcmp _ (List.get_mem ks x) _ (List.get_mem ks y) (fun k => k = b) (sortWorld enc w b 0 m dk os) [enc x, enc y] (fun k e => by rw [e]; exact Nat.lt_of_lt_of_le hblt kw.size) ⟨rfl, fun j z v hz hv => by
      match j, hz, hv with
      | 0, hz, hv => cases hz; cases hv; exact .p _ _ hx
      | 1, hz, hv => cases hz; cases hv; exact .p _ _ hy⟩
    refine Calls.mono hc fun ee w' ⟨v, h1, h2, h3⟩ => ?_
    subst h1
    obtain ⟨p, hp⟩ := gm_of_below h2
    refine ⟨by rw [h3.val], p.d, p.os, hp⟩
  have h1c : Go.Proofs.OneCell enc := fun i => (henc i).one
  have hS := Any.slices_SortFunc S enc h1c _ (swo_comap hO fun i : A => ks.get i) g #[] b 0 cap d w eg hcl hH hblt (by rw [hd]; exact hlen)
  rw [show #[Value.slice (some ⟨b, 0, none⟩) d.size cap, .func (.func g) #[] #[]] = #[.slice (some ⟨b, 0, none⟩) ks.length cap, .func (.func g) #[] #[]] by rw [hd]] at hS
  refine Calls.mono hS ?_
  rintro ee w' ⟨rfl, d', m, os, hperm, hsort, rfl⟩
  have hd' : d'.size = ks.length := hperm.1.trans hd
  have kw := kpS m d' os
  have hPd : d'.toList.Perm d.toList := by
    have h := hperm.2.2
    rwa [show d'.extract 0 d.size = d' by rw [← hperm.1]; simp, show d.extract 0 d.size = d by simp] at h
  have hks : d.toList.map ks.get = ks := by
    apply List.ext_getElem (by simp [d])
    intro i h1 h2
    simp [d]
  have hrun : (sortWorld enc w b 0 m d' os).heap[b]? = some (.cells (putCells enc 0 d' cur) e (0, 0)) := by
    simp only [sortWorld, grow, putRow, mapBlock, Sort.ahead]
    rw [Array.getElem?_append_left (by simpa using hblt), Array.getElem?_modify, if_pos rfl, hg]
    rfl
  have hput : ∀ k, k < ks.length → (putCells enc 0 d' cur)[k]? = (d'.toList.map enc)[k]? := fun k hk => by
    have hc : k < cur.size := by omega
    have hkd : k < d'.size := by omega
    simp only [putCells, Array.getElem?_mapIdx, Array.getElem?_eq_getElem hc, Option.map_some, Nat.zero_le, Nat.zero_add, true_and, if_pos hkd, Nat.sub_zero, List.getElem?_map, Array.getElem?_toList, Array.getElem?_eq_getElem hkd, getElem!_pos d' k hkd]
  have hown' : (sortWorld enc w b 0 m d' os).ownsRow 0 e 1 (.slice (some ⟨b, 0, none⟩) ks.length cap) ks.length (d'.toList.map enc) := by
    refine ⟨by simp [hd'], .inr ⟨b, cap, _, rfl, Nat.zero_le _, hrun, hle, hmx, by simp only [putCells, Array.size_mapIdx]; exact hcs, ?_⟩⟩
    apply List.ext_getElem?
    intro k
    rw [List.getElem?_take]
    split
    · rw [Array.getElem?_toList]; exact hput k (by omega)
    · rw [List.getElem?_eq_none]; simp [hd']; omega
  have hD' : ∀ i : A, PR (Dm L loc) (sortWorld enc w b 0 m d' os) (pv (ks.get i)) (enc i) := fun i => (henc i).mono (kw.wide fun k e => e ▸ hbD) (fun _ _ h => h)
  have hor' : OR N (Dm L loc) loc (sortWorld enc w b 0 m d' os) (.slice (some ⟨b, 0, none⟩) ks.length cap) (.row e 1 (rowOf pv (d'.toList.map ks.get))) := by
    refine ⟨d'.toList.map enc, by simpa [rowOf, hd'] using hown', fun r hr => ?_, fun k r j x hk hx => ?_, fun v hv => ?_⟩
    · obtain ⟨y, _, rfl⟩ := List.mem_map.1 hr; rfl
    · simp only [rowOf, List.getElem?_map, Option.map_eq_some_iff] at hk
      obtain ⟨y, ⟨i, hi, rfl⟩, rfl⟩ := hk
      have hj : j = 0 := by have := (List.getElem?_eq_some_iff.1 hx).1; simp at this; exact this
      subst hj
      cases hx
      exact ⟨enc i, by simp [hi], hD' i⟩
    · obtain ⟨i, _, rfl⟩ := List.mem_map.1 hv; exact (henc i).one
  refine ⟨_, loc, _, _, rfl, ⟨rfl, d'.toList.map ks.get, ?_, ?_, rfl⟩, hh.turn hlk hu rfl kw hor', .tup [] #[] rfl (fun j x hx => by simp at hx), .turn hu rfl kw⟩
  · have := hPd.map ks.get
    rwa [hks] at this
  · refine List.pairwise_map.2 (List.pairwise_iff_getElem.2 fun i j hi hj hij => ?_)
    have h := hsort i j (Nat.zero_le _) hij (by simp at hj; omega)
    rw [getElem!_pos d' i (by simpa using hi), getElem!_pos d' j (by simpa using hj)] at h
    simpa [ltOf] using h
end Go.Proofs.Ytbhkcejjehgfcaa
/- Explore. -/
namespace Go.Proofs
open Go.Shelf Go.RowKit Go.Lib Go.Sort
def Ytbhkcejjehgfcaa.sortK_ren : Go.Shelf.Ren := ⟨fun | 6 => 25 | 15 => 40 | 14 => 39 | 28 => 58 | 29 => 59 | 20 => 50 | 21 => 51 | 22 => 52 | 23 => 53 | 24 => 54 | 25 => 55 | 26 => 56 | 27 => 57 | 46 => 65 | 47 => 66 | 48 => 67 | 49 => 68 | 50 => 69 | 57 => 72 | n => n, fun | 22 => 25 | 24 => 34 | 25 => 60 | 3 => 3 | 39 => 74 | 0 => 0 | 53 => 90 | 55 => 92 | 4 => 4 | 46 => 83 | 45 => 82 | 50 => 87 | 5 => 5 | 9 => 9 | 66 => 96 | 70 => 100 | 76 => 104 | 77 => 105 | n => n, fun | n => n⟩
theorem Ytbhkcejjehgfcaa.sortK : Go.Proofs.SlLaysF.n6 Try.prog Ytbhkcejjehgfcaa.sortK_ren := {
  mixed := by kernel_rfl
  f6 := ⟨Try.f25.name, by decide, Try.func25.trans (congrArg some (by kernel_rfl))⟩
  f14 := ⟨Try.f39.name, by decide, Try.func39.trans (congrArg some (by kernel_rfl))⟩
  f15 := Try.func40.trans (congrArg some (by kernel_rfl))
  f20 := ⟨Try.f50.name, by decide, Try.func50.trans (congrArg some (by kernel_rfl))⟩
  f21 := ⟨Try.f51.name, by decide, Try.func51.trans (congrArg some (by kernel_rfl))⟩
  f22 := ⟨Try.f52.name, by decide, Try.func52.trans (congrArg some (by kernel_rfl))⟩
  f23 := ⟨Try.f53.name, by decide, Try.func53.trans (congrArg some (by kernel_rfl))⟩
  f24 := ⟨Try.f54.name, by decide, Try.func54.trans (congrArg some (by kernel_rfl))⟩
  f25 := ⟨Try.f55.name, by decide, Try.func55.trans (congrArg some (by kernel_rfl))⟩
  f26 := ⟨Try.f56.name, by decide, Try.func56.trans (congrArg some (by kernel_rfl))⟩
  f27 := ⟨Try.f57.name, by decide, Try.func57.trans (congrArg some (by kernel_rfl))⟩
  f28 := Try.func58.trans (congrArg some (by kernel_rfl))
  f29 := Try.func59.trans (congrArg some (by kernel_rfl))
  f46 := ⟨Try.f65.name, by decide, Try.func65.trans (congrArg some (by kernel_rfl))⟩
  f47 := Try.func66.trans (congrArg some (by kernel_rfl))
  f48 := Try.func67.trans (congrArg some (by kernel_rfl))
  f49 := ⟨Try.f68.name, by decide, Try.func68.trans (congrArg some (by kernel_rfl))⟩
  f50 := ⟨Try.f69.name, by decide, Try.func69.trans (congrArg some (by kernel_rfl))⟩
  f57 := ⟨Try.f72.name, by decide, Try.func72.trans (congrArg some (by kernel_rfl))⟩
  t0 := Try.underlying0
  a0 := Try.isAgg0
  z0 := Try.sizeOf0
  v0 := Try.zeroValue0
  t3 := Try.underlying3
  a3 := Try.isAgg3
  z3 := Try.sizeOf3
  v3 := Try.zeroValue3
  t4 := Try.underlying4
  a4 := Try.isAgg4
  z4 := Try.sizeOf4
  v4 := Try.zeroValue4
  t5 := Try.underlying5
  a5 := Try.isAgg5
  z5 := Try.sizeOf5
  v5 := Try.zeroValue5
  t9 := Try.underlying9
  a9 := Try.isAgg9
  z9 := Try.sizeOf9
  v9 := Try.zeroValue9
  t22 := Try.underlying25
  a22 := Try.isAgg25
  z22 := Try.sizeOf25
  v22 := Try.zeroValue25
  a24 := Try.isAgg34
  z24 := Try.sizeOf34
  t25 := Try.underlying60
  a25 := Try.isAgg60
  z25 := Try.sizeOf60
  v25 := Try.zeroValue60
  t39 := Try.underlying74
  a39 := Try.isAgg74
  z39 := Try.sizeOf74
  v39 := Try.zeroValue74
  t45 := Try.underlying82
  a45 := Try.isAgg82
  z45 := Try.sizeOf82
  v45 := Try.zeroValue82
  t46 := Try.underlying83
  a46 := Try.isAgg83
  z46 := Try.sizeOf83
  v46 := Try.zeroValue83
  t50 := Try.underlying87
  a50 := Try.isAgg87
  z50 := Try.sizeOf87
  v50 := Try.zeroValue87
  t53 := Try.underlying90
  a53 := Try.isAgg90
  z53 := Try.sizeOf90
  v53 := Try.zeroValue90
  t55 := Try.underlying92
  a55 := Try.isAgg92
  z55 := Try.sizeOf92
  v55 := Try.zeroValue92
  t66 := Try.underlying96
  a66 := Try.isAgg96
  z66 := Try.sizeOf96
  v66 := Try.zeroValue96
  t70 := Try.underlying100
  a70 := Try.isAgg100
  z70 := Try.sizeOf100
  v70 := Try.zeroValue100
  t76 := Try.underlying104
  a76 := Try.isAgg104
  z76 := Try.sizeOf104
  v76 := Try.zeroValue104
  t77 := Try.underlying105
  a77 := Try.isAgg105
  z77 := Try.sizeOf105
  v77 := Try.zeroValue105 }
end Go.Proofs
namespace Go.Proofs.Ytbhkcejjehgfcaa
open Go.RowKit Go.Sort Go.Shelf
set_option linter.unusedSimpArgs false
set_option linter.unusedVariables false

def leB (a b : List Pk) : Bool := decide (¬ cmpL b a < 0)
def sortPk (l : List (List Pk)) : List (List Pk) := l.mergeSort leB
theorem leB_trans (a b c : List Pk) (h : leB a b = true) (k : leB b c = true) : leB a c = true := by
  have := cmpL_swo.ntrans c b a
  simp [leB] at *
  exact this k h
theorem leB_total (a b : List Pk) : (leB a b || leB b a) = true := by
  simp only [leB, Bool.or_eq_true, decide_eq_true_eq]
  rcases cmpL_cases a b with h | h | h <;> omega
theorem leB_anti {a b : List Pk} (h : ¬ cmpL b a < 0) (k : ¬ cmpL a b < 0) : a = b := by
  rcases cmpL_cases a b with h1 | ⟨_, h1⟩ | h1
  · omega
  · exact h1
  · omega
theorem sorted_eq : ∀ {l1 l2 : List (List Pk)}, l1.Perm l2 → SortedL cmpL l1 → SortedL cmpL l2 → l1 = l2
  | [], l2, h, _, _ => by rw [List.nil_perm.1 h]
  | x :: r, l2, h, h1, h2 => by
    cases l2 with
    | nil => exact absurd h.length_eq (by simp)
    | cons y s =>
      obtain ⟨hx, hr⟩ := List.pairwise_cons.1 h1
      obtain ⟨hy, hs⟩ := List.pairwise_cons.1 h2
      have e : x = y := by
        have m1 : y ∈ x :: r := h.mem_iff.2 (by simp)
        have m2 : x ∈ y :: s := h.mem_iff.1 (by simp)
        rcases List.mem_cons.1 m1 with e | m1
        · exact e.symm
        · rcases List.mem_cons.1 m2 with e | m2
          · exact e
          · exact leB_anti (hx y m1) (hy x m2)
      subst e
      rw [sorted_eq (List.Perm.cons_inv h) hr hs]
theorem sort_sorted (l : List (List Pk)) : SortedL cmpL (sortPk l) := by
  have h := List.pairwise_mergeSort leB_trans leB_total l
  exact h.imp fun h => by simpa [leB] using h
theorem sort_perm (l : List (List Pk)) : (sortPk l).Perm l := List.mergeSort_perm l leB
theorem canB_rows (l : List St) : (leastB l).map pkC = (canB l).map pkR := by simp [canB, pkC, pkR, pick]

/-- What Explore has found. -/
def eY0 (bb : Nat) (acc : List (List St)) : AO := .boxP (some bb) 25 [.own 11]
def eY1 (acc : List (List St)) : AO := .row 34 1 (rowOf pksP (acc.map canB))
def eY2 (l : Nat) (sp : LSpec) (acc : List (List St)) : AO := .lrec l sp [(3, .ptr 10 0)]
theorem em0 (bb : Nat) (a : List (List St)) : Mute (eY0 bb a) := ⟨fun t y h => by
  have e : ¬ 11 = t := by omega
  simp [eY0, AO.sub_box, AV.sub_own, e], fun t m h => by
  have e : ¬ 11 = t := by omega
  simp [eY0, AO.cut_box, AV.cut_own, e], fun t t' h h' => by
  have e : ¬ 11 = t := by omega
  have e' : ¬ 11 = t' := by omega
  simp [eY0, AO.ren_box, AV.ren_own, e, e'], fun n h => by
  have e : 11 < n := by omega
  simp [eY0, AO.okB_box, AV.okB, e]⟩
theorem em1 (a : List (List St)) : Mute (eY1 a) := ⟨fun _ _ _ => rfl, fun _ _ _ => rfl, fun _ _ _ _ => rfl, fun _ _ => rfl⟩
theorem em2 (l : Nat) (sp : LSpec) (a : List (List St)) : Mute (eY2 l sp a) := ⟨fun t y h => by
  have e : ¬ 10 = t := by omega
  simp [eY2, AO.sub_lrec, AV.sub_ptr, e], fun t m h => by simp [eY2, AO.cut_lrec, AV.cut_ptr], fun t t' h h' => by
  have e : ¬ 10 = t := by omega
  have e' : ¬ 10 = t' := by omega
  simp [eY2, AO.ren_lrec, AV.ren_ptr, e, e'], fun n h => by
  have e : 10 < n := by omega
  simp [eY2, AO.okB_lrec, AV.okB, e]⟩
theorem loop_ne {rc : List Nat → List St → (Nat → Bool) → List (List St)} {ths : List (List St)} {pos : List Nat} {run : List St} : ∀ (l : List Nat), (∀ t ∈ l, ∀ s, stepOf ths pos t = some s → rc (bump pos t) (run ++ [s]) (nextZ ths pos s fun _ => false) ≠ []) → loopB rc ths pos run l (fun _ => false) ≠ [] ∨ endB ths pos l = true
  | [], _ => .inr rfl
  | t :: r, h => by
    cases hs : stepOf ths pos t with
    | none =>
      rcases loop_ne r (fun t ht => h t (List.mem_cons.2 (.inr ht))) with h1 | h1
      · left; rw [loopB, hs]; exact h1
      · right; simp only [endB, List.all_cons, hs, Option.isNone_none, Bool.true_and]; exact h1
    | some s =>
      left
      rw [loopB, hs]
      simp only [Bool.false_eq_true, if_false]
      exact fun e => h t (List.mem_cons.2 (.inl rfl)) s hs (List.append_eq_nil_iff.1 e).1
theorem nextZ_none (ths : List (List St)) (pos : List Nat) (s : St) : nextZ ths pos s (fun _ => false) = fun _ => false := by funext u; simp [nextZ]
theorem vis_ne (ths : List (List St)) : ∀ m pos run, remB ths pos ≤ m → visB ths (m + 1) pos run (fun _ => false) ≠ []
  | 0, pos, run, hr => by
    rw [visB]
    rcases loop_ne (rc := visB ths 0) (ths := ths) (pos := pos) (run := run) (List.range ths.length) (fun t ht s hs => by have := rem_bump hs; omega) with h | h
    · exact fun e => h (List.append_eq_nil_iff.1 e).1
    · rw [show endU ths pos ths.length = true from h]; simp
  | m + 1, pos, run, hr => by
    rw [visB]
    rcases loop_ne (rc := visB ths (m + 1)) (ths := ths) (pos := pos) (run := run) (List.range ths.length) (fun t ht s hs => by
      rw [nextZ_none]
      exact vis_ne ths m _ _ (by have := rem_bump hs; omega)) with h | h
    · exact fun e => h (List.append_eq_nil_iff.1 e).1
    · rw [show endU ths pos ths.length = true from h]; simp
theorem can_len (l : List St) : (canB l).length ≤ l.length := by
  unfold canB leastB
  rw [List.length_map]
  exact Nat.le_trans (List.length_filterMap_le _ _) (Nat.le_of_eq (order_len l))
theorem loop_run {rc : List Nat → List St → (Nat → Bool) → List (List St)} {ths : List (List St)} {pos : List Nat} {run : List St} {n : Nat} (h : ∀ t s Z, stepOf ths pos t = some s → ∀ r ∈ rc (bump pos t) (run ++ [s]) Z, r.length ≤ n) : ∀ (l : List Nat) Z, ∀ r ∈ loopB rc ths pos run l Z, r.length ≤ n
  | [], Z, r, hr => by cases hr
  | t :: l, Z, r, hr => by
    rw [loopB] at hr
    split at hr
    · exact loop_run h l Z r hr
    · rename_i s hs
      split at hr
      · exact loop_run h l Z r hr
      · rcases List.mem_append.1 hr with hr | hr
        · exact h t s _ hs r hr
        · exact loop_run h l _ r hr
theorem vis_run (ths : List (List St)) : ∀ m pos run Z, ∀ r ∈ visB ths m pos run Z, r.length ≤ run.length + m
  | 0, pos, run, Z, r, hr => by cases hr
  | m + 1, pos, run, Z, r, hr => by
    rw [visB] at hr
    rcases List.mem_append.1 hr with hr | hr
    · refine loop_run (n := run.length + (m + 1)) (fun t s Z hs r hr => ?_) _ _ r hr
      have := vis_run ths m _ _ _ r hr
      simp only [List.length_append, List.length_singleton] at this
      omega
    · split at hr
      · rw [List.mem_singleton.1 hr]; omega
      · cases hr
def exploreB (v : Bool) (ths : List (List St)) : List (List Pk) := if v = true then sortPk ((visB ths 13 (List.replicate ths.length 0) [] fun _ => false).map canB) else []
set_option maxHeartbeats 4000000 in
set_option maxRecDepth 100000 in
theorem explore_ok (ths : List (List St)) (hst : ∀ l ∈ ths, l.length ≤ 1000 ∧ ∀ s ∈ l, StOk s) (v : Bool) (hval : PureC Try.prog 12 [.p (thsP ths)] (.bool v)) (hv : v = true → ths.length ≤ 8 ∧ remB ths (List.replicate ths.length 0) ≤ 12 ∧ ∀ l ∈ ths, ∀ s ∈ l, StV s) :
    PureC Try.prog 13 [.p (thsP ths)] (.p (.seq 1 (rowOf pksP (exploreB v ths)))) := by
  have hm1 : 1 ≤ maxLen := by decide
  cases v with
  | false =>
    simp only [exploreB, Bool.false_eq_true, if_false, rowOf, List.map_nil]
    simp only [thsP] at hval ⊢
    refine PureC.of Try.func13 rfl 19 rfl (by decide) (by simp [AV.okB]) ?_
    repeat' (first | (refine T.seqK fun K hK => ?_) | (refine T.block ?_) | (refine T.reg (by kernel_rfl) fun K' hK' => ?_; simp only [startSt, frOf, List.map_cons, List.map_nil]; (repeat' (first | (with_reducible refine WL.fin ?_; refine hK' _ ?_; clear hK' K') | (with_reducible refine WD.fin ?_) | ((first | (with_reducible refine WL.step fun K2 hK2 => ?_) | (with_reducible refine WD.step fun K2 hK2 => ?_)); simp only [WS, WH, WO, WOv, WG, dstOk, hasDst, aop, ASt.ev, aload, aloadC, afield, aindex, abin, abinI, aun, alen, acells, Nat.reduceEqDiff, Nat.reduceLT, Nat.reduceLeDiff, Nat.reduceAdd, reduceIte, reduceCtorEq, implies_true, ASt.add, setHp, asplice, Int.reduceEq, Int.reduceNe, Int.reduceLT, Int.reduceLE, Int.reduceSub, Int.reduceAdd, abuild, afill, abuildS, pureL, chunks, List.range, List.range.loop, Nat.reduceMul, Nat.reduceMod, apartF, apartI, aslice, evI, ASt.subst, AO.box, aval, pvals, ams, tys, mapTy_69, keyed_3]; (repeat' (first | (with_reducible refine hK2 _ ?_; clear hK2 K2) | (with_reducible refine And.intro ?_ ?_) | (with_reducible intro hb) | ((first | (with_reducible apply callArmO) | (with_reducible apply callArm)); case h => exact CallV.plain (Ent.of Try.func12 (by kernel_rfl) rfl) (hval) (by simp [AV.okB]))))))); all_goals ((try simp only [ThenA, InBlock, reduceIte, Nat.reduceEqDiff]); (try ((repeat ((fail_if_success (refine hK _ ?_)); clear hK K)); refine hK _ ?_; clear hK K)))) | (refine T.skip ?_; (try simp only [ThenA, InBlock, reduceIte, Nat.reduceEqDiff]); (try ((repeat ((fail_if_success (refine hK _ ?_)); clear hK K)); refine hK _ ?_; clear hK K))) | (refine T.exit ?_; (try simp only [ThenA, InBlock, reduceIte, Nat.reduceEqDiff]); (try ((repeat ((fail_if_success (refine hK _ ?_)); clear hK K)); refine hK _ ?_; clear hK K))) | (refine T.condT rfl ?_) | (refine T.condF rfl ?_) | (refine T.cond rfl (fun hc => ?_) (fun hc => ?_)) | (refine T.ret ?_; (try simp only [ThenA, InBlock, reduceIte, Nat.reduceEqDiff]); (try ((repeat ((fail_if_success (refine hK _ ?_)); clear hK K)); refine hK _ ?_; clear hK K))))
    refine FinA.retW (s' := ⟨[(2, .p (.seq 1 []))], [], 19, 0⟩) (.inr rfl) Try.results13 (by refine Weak.of' rfl ?_; simp only [List.mem_cons, List.not_mem_nil, or_false, forall_eq_or_imp, forall_eq, get_mk, lk_cons, lk_nil, reduceIte, Nat.reduceEqDiff, Option.getD_some, Option.getD_none, AVle_refl, AVle_nil, AVle_int, AVle_bool, AVle_junk, ASt.okB, AV.okB, AO.okB_box, AO.okB_row, AO.okB_map, AO.okB_raw, AO.okB_lrec, AV.okB_agg, AV.okB_tup, AV.okB_fn, List.all_cons, List.all_nil, Bool.and_self, Bool.and_true, Bool.true_and, Nat.reduceLT, decide_true, true_and, and_true, false_implies, implies_true, ]) ?_
    simp only [ares, aresL, ares1, WS, WH, WO, WOv, WG, dstOk, hasDst, aop, ASt.ev, aload, aloadC, afield, aindex, abin, abinI, aun, alen, acells, Nat.reduceEqDiff, Nat.reduceLT, Nat.reduceLeDiff, Nat.reduceAdd, reduceIte, reduceCtorEq, implies_true, ASt.add, setHp, asplice, Int.reduceEq, Int.reduceNe, Int.reduceLT, Int.reduceLE, Int.reduceSub, Int.reduceAdd, abuild, afill, abuildS, pureL, chunks, List.range, List.range.loop, Nat.reduceMul, Nat.reduceMod, apartF, apartI, aslice, evI, ASt.subst, AO.box, aval, pvals, ams]
  | true =>
    obtain ⟨h8, h12, hsv⟩ := hv rfl
    simp only [exploreB, if_true]
    have hne := vis_ne ths 12 _ [] h12
    obtain ⟨res, hres⟩ : ∃ res, res = visB ths 13 (List.replicate ths.length 0) [] fun _ => false := ⟨_, rfl⟩
    rw [← hres] at hne ⊢
    have hM : res.length ≤ 9 ^ 13 := by
      rw [hres]
      exact Nat.le_trans (vis_len ths 13 _ _ _) (Nat.pow_le_pow_left (by omega) 13)
    have hruns := runs_ok ths
    simp only [thsP] at hval hruns ⊢
    refine PureC.of Try.func13 rfl 19 rfl (by decide) (by simp [AV.okB]) ?_
    repeat' (first | (refine T.seqK fun K hK => ?_) | (refine T.block ?_) | (refine T.reg (by kernel_rfl) fun K' hK' => ?_; simp only [startSt, frOf, List.map_cons, List.map_nil]; (repeat' (first | (with_reducible refine WL.fin ?_; refine hK' _ ?_; clear hK' K') | (with_reducible refine WD.fin ?_) | ((first | (with_reducible refine WL.step fun K2 hK2 => ?_) | (with_reducible refine WD.step fun K2 hK2 => ?_)); simp only [WS, WH, WO, WOv, WG, dstOk, hasDst, aop, ASt.ev, aload, aloadC, afield, aindex, abin, abinI, aun, alen, acells, Nat.reduceEqDiff, Nat.reduceLT, Nat.reduceLeDiff, Nat.reduceAdd, reduceIte, reduceCtorEq, implies_true, ASt.add, setHp, asplice, Int.reduceEq, Int.reduceNe, Int.reduceLT, Int.reduceLE, Int.reduceSub, Int.reduceAdd, abuild, afill, abuildS, pureL, chunks, List.range, List.range.loop, Nat.reduceMul, Nat.reduceMod, apartF, apartI, aslice, evI, ASt.subst, AO.box, aval, pvals, ams, tys, mapTy_69, keyed_3]; (repeat' (first | (with_reducible refine hK2 _ ?_; clear hK2 K2) | (with_reducible refine And.intro ?_ ?_) | (with_reducible intro hb) | ((first | (with_reducible apply callArmO) | (with_reducible apply callArm)); case h => exact CallV.plain (Ent.of Try.func12 (by kernel_rfl) rfl) (hval) (by simp [AV.okB])) | ((first | (with_reducible apply callArmO) | (with_reducible apply callArm)); case h => exact CallV.plain (Ent.of Try.func23 (by kernel_rfl) rfl) (hruns) (by simp [AV.okB]))))))); all_goals ((try simp only [ThenA, InBlock, reduceIte, Nat.reduceEqDiff]); (try ((repeat ((fail_if_success (refine hK _ ?_)); clear hK K)); refine hK _ ?_; clear hK K)))) | (refine T.skip ?_; (try simp only [ThenA, InBlock, reduceIte, Nat.reduceEqDiff]); (try ((repeat ((fail_if_success (refine hK _ ?_)); clear hK K)); refine hK _ ?_; clear hK K))) | (refine T.exit ?_; (try simp only [ThenA, InBlock, reduceIte, Nat.reduceEqDiff]); (try ((repeat ((fail_if_success (refine hK _ ?_)); clear hK K)); refine hK _ ?_; clear hK K))) | (refine T.condT rfl ?_) | (refine T.condF rfl ?_) | (refine T.cond rfl (fun hc => ?_) (fun hc => ?_)) | (refine T.ret ?_; (try simp only [ThenA, InBlock, reduceIte, Nat.reduceEqDiff]); (try ((repeat ((fail_if_success (refine hK _ ?_)); clear hK K)); refine hK _ ?_; clear hK K))))
    refine T.weak (Weak.newrowB _ 0 0 34 1 _ _ _ rfl rfl) ?_; simp only [setHp, List.map_cons, List.map_nil, reduceIte, Nat.reduceEqDiff, List.set_cons_succ, List.set_cons_zero, Nat.reduceAdd]
    refine T.weak (s' := ⟨[(3, .ptr 0 0), (9, .fn (.func 36) [.elt [thsP ths] 0])], [(0, .boxP none 25 [.own 1]), (1, .row 34 1 [])], 19, 12⟩) (by refine Weak.of' rfl ?_; simp only [List.mem_cons, List.not_mem_nil, or_false, forall_eq_or_imp, forall_eq, get_mk, lk_cons, lk_nil, reduceIte, Nat.reduceEqDiff, Option.getD_some, Option.getD_none, AVle_refl, AVle_nil, AVle_int, AVle_bool, AVle_junk, ASt.okB, AV.okB, AO.okB_box, AO.okB_row, AO.okB_map, AO.okB_raw, AO.okB_lrec, AV.okB_agg, AV.okB_tup, AV.okB_fn, List.all_cons, List.all_nil, Bool.and_self, Bool.and_true, Bool.true_and, Nat.reduceLT, decide_true, true_and, and_true, false_implies, implies_true, thsP]) ?_
    refine T.weak (Weak.ren _ 0 10) ?_; simp only [ASt.ren, AV.ren_own, AV.ren_ptr, AV.ren_rptr, AV.ren_pre, AV.ren_p, AV.ren_elt, AV.ren_junk, AV.ren_cap0, AV.ren_fn, AV.ren_agg, AV.ren_tup, AO.ren_box, AO.ren_row, AO.ren_map, AO.ren_raw, List.map_cons, List.map_nil, List.filter_cons, List.filter_nil, lk_cons, lk_nil, reduceIte, Nat.reduceEqDiff, Nat.reduceLT, Nat.reduceBneDiff, bne_self_eq_false, Bool.and_true, Bool.and_false, Bool.true_and, Bool.false_and, Bool.and_self, Bool.false_eq_true, ne_eq, not_false_eq_true, not_true_eq_false, and_self, and_true, true_and, and_false, bne_self_eq_false]
    refine T.weak (Weak.ren _ 1 11) ?_; simp only [ASt.ren, AV.ren_own, AV.ren_ptr, AV.ren_rptr, AV.ren_pre, AV.ren_p, AV.ren_elt, AV.ren_junk, AV.ren_cap0, AV.ren_fn, AV.ren_agg, AV.ren_tup, AO.ren_box, AO.ren_row, AO.ren_map, AO.ren_raw, List.map_cons, List.map_nil, List.filter_cons, List.filter_nil, lk_cons, lk_nil, reduceIte, Nat.reduceEqDiff, Nat.reduceLT, Nat.reduceBneDiff, bne_self_eq_false, Bool.and_true, Bool.and_false, Bool.true_and, Bool.false_and, Bool.and_self, Bool.false_eq_true, ne_eq, not_false_eq_true, not_true_eq_false, and_self, and_true, true_and, and_false, bne_self_eq_false]
    refine T.weak (s' := ⟨[(3, .ptr 10 0), (9, .fn (.func 36) [.elt [thsP ths] 0])], [(10, .boxP none 25 [.own 11]), (11, .row 34 1 [])], 19, 12⟩) (by refine Weak.of' rfl ?_; simp only [List.mem_cons, List.not_mem_nil, or_false, forall_eq_or_imp, forall_eq, get_mk, lk_cons, lk_nil, reduceIte, Nat.reduceEqDiff, Option.getD_some, Option.getD_none, AVle_refl, AVle_nil, AVle_int, AVle_bool, AVle_junk, ASt.okB, AV.okB, AO.okB_box, AO.okB_row, AO.okB_map, AO.okB_raw, AO.okB_lrec, AV.okB_agg, AV.okB_tup, AV.okB_fn, List.all_cons, List.all_nil, Bool.and_self, Bool.and_true, Bool.true_and, Nat.reduceLT, decide_true, true_and, and_true, false_implies, implies_true, thsP]) ?_
    refine T.pin 10 _ rfl fun bb => ?_; simp only [setHp, AO.pin, List.map_cons, List.map_nil, reduceIte, Nat.reduceEqDiff]
    refine T.rangeFS 36 [.elt [thsP ths] 0] [(3, .ptr 10 0)] rfl (Ent.of Try.func36 (by kernel_rfl) rfl) (by simp [get_mk, lk_cons]) fun l sp hsn hsp hsa hsb => ?_
    have hfr : ∀ p ∈ [(3, AV.ptr 10 0)], p.2.keep 13 [10] = p.2 := by simp [AV.keep_ptr]
    have hyld : ∀ b pos run acc, acc.length < res.length → PosOk ths pos → RunIn ths run → ∃ l' sp' fr', eY2 l sp acc = .lrec l' sp' fr' ∧ YldC Try.prog l' 13 (hpV b ths pos run (eY0 bb acc) (eY1 acc) (eY2 l sp acc)) [.own 2] fun hp' r => hp' = hpV b ths pos run (eY0 bb (acc ++ [run])) (eY1 (acc ++ [run])) (eY2 l sp (acc ++ [run])) ∧ r = .bool true := by
      intro b pos run acc hac hpos hrin
      refine ⟨l, sp, [(3, .ptr 10 0)], rfl, YldC.mono (YldC.of 12 [10] (fun hp3 => hp3 = [(0, .boxP (some b) 67 [.p (thsP ths), .own 2, .own 1]), (1, .row 3 1 (posR pos)), (2, .row 48 4 (run.map stC)), (10, eY0 bb (acc ++ [run])), (11, eY1 (acc ++ [run]))]) (Q := fun hp' r => hp' = (12, .lrec l sp [(3, .ptr 10 0)]) :: [(0, .boxP (some b) 67 [.p (thsP ths), .own 2, .own 1]), (1, .row 3 1 (posR pos)), (2, .row 48 4 (run.map stC)), (10, eY0 bb (acc ++ [run])), (11, eY1 (acc ++ [run]))] ∧ r = .bool true) rfl (by rw [hsp]; rfl) (by rw [hsp, hsn]; simp) hfr ?_ ?_ (by simp [AV.okB])) ?_⟩
      · rw [hsa, hsb, hsp, hsn]
        simp only [hpV, frPut, List.filter_cons, List.filter_nil, Nat.reduceBneDiff, bne_self_eq_false, reduceIte, Bool.false_eq_true, eY0, eY1]
        repeat' (first | (refine T.seqK fun K hK => ?_) | (refine T.block ?_) | (refine T.reg (by kernel_rfl) fun K' hK' => ?_; simp only [startSt, frOf, List.map_cons, List.map_nil]; (repeat' (first | (with_reducible refine WL.fin ?_; refine hK' _ ?_; clear hK' K') | (with_reducible refine WD.fin ?_) | ((first | (with_reducible refine WL.step fun K2 hK2 => ?_) | (with_reducible refine WD.step fun K2 hK2 => ?_)); simp only [WS, WH, WO, WOv, WG, dstOk, hasDst, aop, ASt.ev, aload, aloadC, afield, aindex, abin, abinI, aun, alen, acells, Nat.reduceEqDiff, Nat.reduceLT, Nat.reduceLeDiff, Nat.reduceAdd, reduceIte, reduceCtorEq, implies_true, ASt.add, setHp, asplice, Int.reduceEq, Int.reduceNe, Int.reduceLT, Int.reduceLE, Int.reduceSub, Int.reduceAdd, abuild, afill, abuildS, pureL, chunks, List.range, List.range.loop, Nat.reduceMul, Nat.reduceMod, apartF, apartI, aslice, evI, ASt.subst, AO.box, aval, pvals, ams, tys, mapTy_69, keyed_3]; (repeat' (first | (with_reducible refine hK2 _ ?_; clear hK2 K2) | (with_reducible refine And.intro ?_ ?_) | (with_reducible intro hb) | fail))))); all_goals ((try simp only [ThenA, InBlock, reduceIte, Nat.reduceEqDiff]); (try ((repeat ((fail_if_success (refine hK _ ?_)); clear hK K)); refine hK _ ?_; clear hK K)))) | (refine T.skip ?_; (try simp only [ThenA, InBlock, reduceIte, Nat.reduceEqDiff]); (try ((repeat ((fail_if_success (refine hK _ ?_)); clear hK K)); refine hK _ ?_; clear hK K))) | (refine T.exit ?_; (try simp only [ThenA, InBlock, reduceIte, Nat.reduceEqDiff]); (try ((repeat ((fail_if_success (refine hK _ ?_)); clear hK K)); refine hK _ ?_; clear hK K))) | (refine T.condT rfl ?_) | (refine T.condF rfl ?_) | (refine T.cond rfl (fun hc => ?_) (fun hc => ?_)) | (refine T.ret ?_; (try simp only [ThenA, InBlock, reduceIte, Nat.reduceEqDiff]); (try ((repeat ((fail_if_success (refine hK _ ?_)); clear hK K)); refine hK _ ?_; clear hK K))))
        have hca := canonical_ok run (by have := hrin.len; omega) (fun s hs => by obtain ⟨l0, g1, g2⟩ := hrin.mem s hs; exact hsv l0 g1 s g2)
        rw [canB_rows] at hca
        simp only [thP] at hca
        have ho1 : (rowOf pksP (acc.map canB)).length + 1 ≤ maxLen := by simp only [rowOf, List.length_map]; unfold maxLen; omega
        have ho2 : ((rowOf pksP (acc.map canB)).length + 1) * 24 ≤ 140737488355328 := by simp only [rowOf, List.length_map]; omega
        refine T.comm [some (0, 0), some (0, 2), some (0, 2), some (0, 0), none, none] (by kernel_rfl) (by kernel_rfl) fun K' hK' => ?_; simp only [List.map_cons, List.map_nil, List.zip_cons_cons, List.zip_nil_left]; (repeat' (first | (with_reducible refine WC.fin ?_; refine hK' _ ?_; clear hK' K') | ((first | (with_reducible refine WC.stepV fun K2 hK2 => ?_) | (with_reducible refine WC.stepW fun K2 hK2 => ?_)); simp only [WS, WH, WO, WOv, WG, dstOk, hasDst, aop, ASt.ev, aload, aloadC, afield, aindex, abin, abinI, aun, alen, acells, Nat.reduceEqDiff, Nat.reduceLT, Nat.reduceLeDiff, Nat.reduceAdd, reduceIte, reduceCtorEq, implies_true, ASt.add, setHp, asplice, Int.reduceEq, Int.reduceNe, Int.reduceLT, Int.reduceLE, Int.reduceSub, Int.reduceAdd, abuild, afill, abuildS, pureL, chunks, List.range, List.range.loop, Nat.reduceMul, Nat.reduceMod, apartF, apartI, aslice, evI, ASt.subst, AO.box, aval, pvals, ams, WCg, WCv, WOw, allP, dav, Chk, List.filter_cons, List.filter_nil, bne_self_eq_false, Nat.reduceBneDiff, Bool.false_eq_true, tys, mapTy_69, keyed_3, hm1, ho1, ho2]; (repeat' (first | (with_reducible refine hK2 _ _ ?_; clear hK2 K2) | (with_reducible refine hK2 _ ?_; clear hK2 K2) | (with_reducible refine And.intro ?_ ?_) | (with_reducible intro hb) | (with_reducible rfl) | ((with_reducible show @Eq ASt _ _); rfl) | ((first | (with_reducible apply callArmO) | (with_reducible apply callArm)); (case h => exact CallV.viewF _ rfl (Ent.of Try.func24 (by kernel_rfl) rfl) hca (by simp [AV.okB, AV.view, lk_cons, lk_nil])))))))); all_goals ((try simp only [ThenA, InBlock, reduceIte, Nat.reduceEqDiff]); (try ((repeat ((fail_if_success (refine hK _ ?_)); clear hK K)); refine hK _ ?_; clear hK K)))
        refine ⟨rfl, ⟨[], [(0, .boxP (some b) 67 [.p (thsP ths), .own 2, .own 1]), (1, .row 3 1 (posR pos)), (2, .row 48 4 (run.map stC)), (10, .boxP (some bb) 25 [.own 11]), (11, .row 34 1 (rowOf pksP ((acc ++ [run]).map canB)))], 19, 13⟩, (Weak.ren _ 13 11).trans (by refine Weak.of' rfl ?_; simp only [List.mem_cons, List.not_mem_nil, or_false, forall_eq_or_imp, forall_eq, get_mk, lk_cons, lk_nil, reduceIte, Nat.reduceEqDiff, Option.getD_some, Option.getD_none, AVle_refl, AVle_nil, AVle_int, AVle_bool, AVle_junk, ASt.okB, AV.okB, AO.okB_box, AO.okB_row, AO.okB_map, AO.okB_raw, AO.okB_lrec, AV.okB_agg, AV.okB_tup, AV.okB_fn, List.all_cons, List.all_nil, Bool.and_self, Bool.and_true, Bool.true_and, Nat.reduceLT, decide_true, true_and, and_true, false_implies, implies_true, ASt.ren, AV.ren_own, AV.ren_ptr, AV.ren_rptr, AV.ren_pre, AV.ren_p, AV.ren_elt, AV.ren_junk, AV.ren_cap0, AV.ren_fn, AV.ren_agg, AV.ren_tup, AO.ren_box, AO.ren_row, AO.ren_map, AO.ren_raw, List.map_cons, List.map_nil, List.filter_cons, List.filter_nil, lk_cons, lk_nil, Nat.reduceBneDiff, bne_self_eq_false, Bool.and_false, Bool.false_and, Bool.false_eq_true, ne_eq, not_false_eq_true, not_true_eq_false, and_self, and_false, rowOf, pksP, List.map_append]), rfl, rfl, rfl⟩
      · rintro hp3 rfl
        refine ⟨by simp [Kept, hpV, lk_cons, eY0, AO.handle_box], by simp [AO.sub_box, AO.sub_row, AV.sub_p, AV.sub_own, eY0, eY1], rfl, rfl⟩
      · rintro hp' r ⟨rfl, rfl⟩
        refine ⟨_, ⟨rfl, rfl⟩, fun t => ?_⟩
        simp only [hpV, eY2, lk_cons, lk_nil]
        by_cases e0 : t = 0
        · subst e0; rfl
        · by_cases e1 : t = 1
          · subst e1; rfl
          · by_cases e2 : t = 2
            · subst e2; rfl
            · by_cases e10 : t = 10
              · subst e10; rfl
              · by_cases e11 : t = 11
                · subst e11; rfl
                · simp [e0, e1, e2, e10, e11]
    have h1c := runs1_ok ths (by omega) hst (eY0 bb) eY1 (eY2 l sp) res.length (em0 bb) em1 (em2 l sp) (.func (.yield l) #[] #[]) (fun _ => rfl) hyld 12 h12 (by omega) (by rw [← hres]; exact Nat.le_refl _)
    rw [← hres] at h1c
    refine ⟨13, [(10, eY0 bb []), (11, eY1 []), (12, eY2 l sp [])], _, [10], h1c, ?_, by simp [AV.okB, AV.okB_fn], ?_⟩
    · refine ⟨Nat.le_refl _, ?_, ?_⟩ <;> simp [ASt.add, eY0, eY1, eY2, rowOf, lk_cons, AO.okB_box, AO.okB_row, AO.okB_lrec, AV.okB]
    rintro hp' r ⟨rfl, rfl⟩
    refine ⟨by simp [Kept, lk_cons, eY0, AO.handle_box], ⟨_, rfl⟩, fun ob => ?_⟩
    simp only [ASt.add, eY0, eY1, eY2]
    simp only [ASt.callM, AV.keep_own, AV.keep_ptr, AV.keep_rptr, AV.keep_pre, AV.keep_p, AV.keep_elt, AV.keep_junk, AV.keep_cap0, AV.keep_fn, AV.keep_agg, AV.keep_tup, AO.keep, List.map_cons, List.map_nil, List.filter_cons, List.filter_nil, Nat.reduceLeDiff, decide_true, decide_false, reduceIte, Bool.false_eq_true, List.cons_append, List.nil_append, List.mem_cons, List.not_mem_nil, or_false, false_or, or_true, true_or, Nat.reduceEqDiff, put_some, put_none, Nat.le_refl, setHp, List.length_nil]
    (try simp only [ThenA, InBlock, reduceIte, Nat.reduceEqDiff]); (try ((repeat ((fail_if_success (refine hK _ ?_)); clear hK K)); refine hK _ ?_; clear hK K))
    have hks : rowOf pksP (res.map canB) = rowOf pksP (res.map canB) := rfl
    have hkl : ∀ x ∈ res.map canB, x.length ≤ 1000000 := fun x hx => by
      obtain ⟨r, hr, rfl⟩ := List.mem_map.1 hx
      rw [hres] at hr
      have h1 := vis_run ths 13 _ _ _ r hr
      have h2 := can_len r
      simp only [List.length_nil] at h1
      omega
    have hS : MemC Try.prog 25 12 [(10, .boxP (some bb) 25 [.own 11]), (11, .row 34 1 (rowOf pksP (res.map canB)))] [.own 11, .fn (.func 26) []] _ :=
      sort_mem sortK pksP cmpL cmpL_swo 26 (res.map canB) (by simpa using hne) (by simp only [List.length_map]; omega) (Ent.of Try.func26 (by kernel_rfl) rfl) (fun x hx y hy => cmp_ok x y (hkl x hx) (hkl y hy)) 12 _ 11 34 rfl
    repeat' (first | (refine T.seqK fun K hK => ?_) | (refine T.block ?_) | (refine T.reg (by kernel_rfl) fun K' hK' => ?_; simp only [startSt, frOf, List.map_cons, List.map_nil]; (repeat' (first | (with_reducible refine WL.fin ?_; refine hK' _ ?_; clear hK' K') | (with_reducible refine WD.fin ?_) | ((first | (with_reducible refine WL.step fun K2 hK2 => ?_) | (with_reducible refine WD.step fun K2 hK2 => ?_)); simp only [WS, WH, WO, WOv, WG, dstOk, hasDst, aop, ASt.ev, aload, aloadC, afield, aindex, abin, abinI, aun, alen, acells, Nat.reduceEqDiff, Nat.reduceLT, Nat.reduceLeDiff, Nat.reduceAdd, reduceIte, reduceCtorEq, implies_true, ASt.add, setHp, asplice, Int.reduceEq, Int.reduceNe, Int.reduceLT, Int.reduceLE, Int.reduceSub, Int.reduceAdd, abuild, afill, abuildS, pureL, chunks, List.range, List.range.loop, Nat.reduceMul, Nat.reduceMod, apartF, apartI, aslice, evI, ASt.subst, AO.box, aval, pvals, ams, tys, mapTy_69, keyed_3]; (repeat' (first | (with_reducible refine hK2 _ ?_; clear hK2 K2) | (with_reducible refine And.intro ?_ ?_) | (with_reducible intro hb) | ((with_reducible refine callArmM 12 _ _ [10] (Ent.of Try.func25 (by kernel_rfl) rfl) (hS) ?_ ?_ ?_); (focus ((refine ⟨Nat.le_of_ble_eq_true rfl, ?_, ?_⟩ <;> simp only [List.mem_cons, List.not_mem_nil, or_false, forall_eq_or_imp, forall_eq, lk_cons, lk_nil, reduceIte, Nat.reduceEqDiff, AO.okB_box, AO.okB_row, AO.okB_map, AO.okB_raw, AV.okB, AV.okB_agg, AV.okB_fn, AV.okB_tup, List.all_cons, List.all_nil, Bool.and_true, Bool.and_self, Nat.reduceLT, decide_true, true_and, and_true, Option.isSome_some, true_implies, false_implies, implies_true, and_self, Nat.lt_irrefl, Option.some.injEq, ]); done)); (focus (simp [AV.okB, AV.okB_fn]; done)); rintro hp' r ⟨rfl, ks', hpm, hst', rfl⟩; (obtain rfl : ks' = sortPk (res.map canB) := sorted_eq (hpm.trans (sort_perm _).symm) hst' (sort_sorted _)); refine ⟨by simp [Kept, setHp, lk_cons, AO.handle_box], ?_⟩; simp only [ASt.callM, AV.keep_own, AV.keep_ptr, AV.keep_rptr, AV.keep_pre, AV.keep_p, AV.keep_elt, AV.keep_junk, AV.keep_cap0, AV.keep_fn, AV.keep_agg, AV.keep_tup, AO.keep, List.map_cons, List.map_nil, List.filter_cons, List.filter_nil, Nat.reduceLeDiff, decide_true, decide_false, reduceIte, Bool.false_eq_true, List.cons_append, List.nil_append, List.mem_cons, List.not_mem_nil, or_false, false_or, or_true, true_or, Nat.reduceEqDiff, put_some, put_none, Nat.le_refl, setHp])))))); all_goals ((try simp only [ThenA, InBlock, reduceIte, Nat.reduceEqDiff]); (try ((repeat ((fail_if_success (refine hK _ ?_)); clear hK K)); refine hK _ ?_; clear hK K)))) | (refine T.skip ?_; (try simp only [ThenA, InBlock, reduceIte, Nat.reduceEqDiff]); (try ((repeat ((fail_if_success (refine hK _ ?_)); clear hK K)); refine hK _ ?_; clear hK K))) | (refine T.exit ?_; (try simp only [ThenA, InBlock, reduceIte, Nat.reduceEqDiff]); (try ((repeat ((fail_if_success (refine hK _ ?_)); clear hK K)); refine hK _ ?_; clear hK K))) | (refine T.condT rfl ?_) | (refine T.condF rfl ?_) | (refine T.cond rfl (fun hc => ?_) (fun hc => ?_)) | (refine T.ret ?_; (try simp only [ThenA, InBlock, reduceIte, Nat.reduceEqDiff]); (try ((repeat ((fail_if_success (refine hK _ ?_)); clear hK K)); refine hK _ ?_; clear hK K))))
    repeat' (first | (refine T.seqK fun K hK => ?_) | (refine T.block ?_) | (refine T.reg (by kernel_rfl) fun K' hK' => ?_; simp only [startSt, frOf, List.map_cons, List.map_nil]; (repeat' (first | (with_reducible refine WL.fin ?_; refine hK' _ ?_; clear hK' K') | (with_reducible refine WD.fin ?_) | ((first | (with_reducible refine WL.step fun K2 hK2 => ?_) | (with_reducible refine WD.step fun K2 hK2 => ?_)); simp only [WS, WH, WO, WOv, WG, dstOk, hasDst, aop, ASt.ev, aload, aloadC, afield, aindex, abin, abinI, aun, alen, acells, Nat.reduceEqDiff, Nat.reduceLT, Nat.reduceLeDiff, Nat.reduceAdd, reduceIte, reduceCtorEq, implies_true, ASt.add, setHp, asplice, Int.reduceEq, Int.reduceNe, Int.reduceLT, Int.reduceLE, Int.reduceSub, Int.reduceAdd, abuild, afill, abuildS, pureL, chunks, List.range, List.range.loop, Nat.reduceMul, Nat.reduceMod, apartF, apartI, aslice, evI, ASt.subst, AO.box, aval, pvals, ams, tys, mapTy_69, keyed_3]; (repeat' (first | (with_reducible refine hK2 _ ?_; clear hK2 K2) | (with_reducible refine And.intro ?_ ?_) | (with_reducible intro hb) | fail))))); all_goals ((try simp only [ThenA, InBlock, reduceIte, Nat.reduceEqDiff]); (try ((repeat ((fail_if_success (refine hK _ ?_)); clear hK K)); refine hK _ ?_; clear hK K)))) | (refine T.skip ?_; (try simp only [ThenA, InBlock, reduceIte, Nat.reduceEqDiff]); (try ((repeat ((fail_if_success (refine hK _ ?_)); clear hK K)); refine hK _ ?_; clear hK K))) | (refine T.exit ?_; (try simp only [ThenA, InBlock, reduceIte, Nat.reduceEqDiff]); (try ((repeat ((fail_if_success (refine hK _ ?_)); clear hK K)); refine hK _ ?_; clear hK K))) | (refine T.condT rfl ?_) | (refine T.condF rfl ?_) | (refine T.cond rfl (fun hc => ?_) (fun hc => ?_)) | (refine T.ret ?_; (try simp only [ThenA, InBlock, reduceIte, Nat.reduceEqDiff]); (try ((repeat ((fail_if_success (refine hK _ ?_)); clear hK K)); refine hK _ ?_; clear hK K))))
    refine FinA.retW (.inr rfl) Try.results13 (Weak.frz _ 11) ?_; simp only [ares, aresL, ares1, ASt.frz, ASt.subst, AO.sub_box, AO.sub_row, AO.sub_map, AO.sub_raw, AO.sub_lrec, AV.sub_p, AV.sub_elt, AV.sub_ptr, AV.sub_rptr, AV.sub_own, AV.sub_junk, AV.sub_cap0, AV.sub_agg, AV.sub_fn, AV.sub_tup, List.filter_cons, List.filter_nil, bne_self_eq_false, Nat.reduceBneDiff, Nat.reduceEqDiff, Bool.false_eq_true, WS, WH, WO, WOv, WG, dstOk, hasDst, aop, ASt.ev, aload, aloadC, afield, aindex, abin, abinI, aun, alen, acells, Nat.reduceEqDiff, Nat.reduceLT, Nat.reduceLeDiff, Nat.reduceAdd, reduceIte, reduceCtorEq, implies_true, ASt.add, setHp, asplice, Int.reduceEq, Int.reduceNe, Int.reduceLT, Int.reduceLE, Int.reduceSub, Int.reduceAdd, abuild, afill, abuildS, pureL, chunks, List.range, List.range.loop, Nat.reduceMul, Nat.reduceMod, apartF, apartI, aslice, evI, ASt.subst, AO.box, aval, pvals, ams, tys, mapTy_69, keyed_3]
end Go.Proofs.Ytbhkcejjehgfcaa
/- Valid threads, plainly; the contracts at threads that are few. -/
namespace Go.Proofs.Ytbhkcejjehgfcaa
open Go.RowKit Go.Sort
set_option linter.unusedSimpArgs false
set_option linter.unusedVariables false

theorem okRow_at {t : Nat} : ∀ {l : List St} {i : Nat}, okRow t l i = true → ∀ (j : Nat) (s : St), l[j]? = some s → s.g = (t : Int) ∧ s.c = ((i + j : Nat) : Int) ∧ s.gs = [(t : Int)]
  | [], i, _, j, s, hs => by simp at hs
  | x :: r, i, h, j, s, hs => by
    rw [okRow, Bool.and_eq_true] at h
    cases j with
    | zero =>
      simp only [List.getElem?_cons_zero, Option.some.injEq] at hs
      subst hs
      have h1 := h.1
      simp only [okSt, Bool.and_eq_true, beq_iff_eq] at h1
      obtain ⟨h2, h3, h4, h5⟩ := h1
      refine ⟨h2, h3, ?_⟩
      obtain ⟨y, hy⟩ := List.length_eq_one_iff.1 h4
      rw [hy] at h5 ⊢
      simpa using h5
    | succ j =>
      have := okRow_at h.2 j s (by simpa using hs)
      refine ⟨this.1, ?_, this.2.2⟩
      rw [this.2.1]; congr 1; omega
theorem okAll_at : ∀ {ths : List (List St)} {k : Nat}, okAll ths k = true → ∀ (j : Nat) (l : List St), ths[j]? = some l → okRow (k + j) l 0 = true
  | [], k, _, j, l, h => by simp at h
  | x :: r, k, h, j, l, hl => by
    rw [okAll, Bool.and_eq_true] at h
    cases j with
    | zero => simp at hl; subst hl; exact h.1
    | succ j =>
      have := okAll_at h.2 j l (by simpa using hl)
      rwa [show k + 1 + j = k + (j + 1) by omega] at this
theorem rem_zero (ths : List (List St)) : remB ths (List.replicate ths.length 0) = totB ths := by
  unfold remB totB
  congr 1
  apply List.ext_getElem (by simp)
  intro i h1 h2
  have hi : i < ths.length := by simpa using h1
  simp [List.getD_eq_getElem?_getD, hi]
theorem validB_ok {ths : List (List St)} (h : validB ths = true) : 1 ≤ ths.length ∧ ths.length ≤ 8 ∧ remB ths (List.replicate ths.length 0) ≤ 12 ∧ ∀ (t : Nat) (l : List St), ths[t]? = some l → ∀ (i : Nat) (s : St), l[i]? = some s → s.g = (t : Int) ∧ s.c = (i : Int) ∧ s.gs = [(t : Int)] := by
  simp only [validB, Bool.and_eq_true, decide_eq_true_eq] at h
  obtain ⟨h1, h2, h3, h4⟩ := h
  refine ⟨h1, h2, by rw [rem_zero]; exact h4, fun t l hl i s hs => ?_⟩
  have := okRow_at (okAll_at h3 t l hl) i s hs
  simpa using this
theorem fewB_ok {ths : List (List St)} (h : fewB ths = true) : ths.length ≤ 10 ∧ ∀ l ∈ ths, l.length ≤ 14 ∧ ∀ s ∈ l, s.gs.length ≤ 8 ∧ s.ts.length ≤ 8 := by
  simp only [fewB, Bool.and_eq_true, decide_eq_true_eq, List.all_eq_true] at h
  refine ⟨h.1, fun l hl => ?_⟩
  have := h.2 l hl
  simp only [fewL, fewS, Bool.and_eq_true, decide_eq_true_eq, List.all_eq_true] at this
  exact this
theorem few_st {ths : List (List St)} (h : fewB ths = true) : ∀ l ∈ ths, l.length ≤ 1000 ∧ ∀ s ∈ l, StOk s := fun l hl =>
  have h1 := (fewB_ok h).2 l hl
  ⟨by omega, fun s hs => ⟨by have := (h1.2 s hs).1; omega, by have := (h1.2 s hs).2; omega⟩⟩
theorem valid_stv {ths : List (List St)} (hf : fewB ths = true) (h : validB ths = true) : ∀ l ∈ ths, ∀ s ∈ l, StV s := fun l hl s hs => by
  obtain ⟨t, ht⟩ := List.mem_iff_getElem?.1 hl
  obtain ⟨i, hi⟩ := List.mem_iff_getElem?.1 hs
  obtain ⟨_, h8, _, h1⟩ := validB_ok h
  obtain ⟨e1, e2, e3⟩ := h1 t l ht i s hi
  have := (List.getElem?_eq_some_iff.1 ht).1
  exact ⟨(few_st hf l hl).2 s hs, by rw [e3, e1], by omega, by omega⟩
def visA (ths : List (List St)) : List (List St) := visB ths 13 (List.replicate ths.length 0) [] fun _ => false
def classesB (ths : List (List St)) : Nat := if validB ths = true then (visA ths).length else 0
theorem svalid_at (ths : List (List St)) (hf : fewB ths = true) : PureC Try.prog 12 [.p (thsP ths)] (.bool (validB ths)) :=
  valid_ok ths (by have := (fewB_ok hf).1; omega) (fun l hl => (few_st hf l hl).1)
theorem rvalid_at (ths : List (List St)) (hf : fewB ths = true) : PureC Try.prog 11 [.p (thsP ths)] (.bool (validB ths)) :=
  refValid_ok ths (by have := (fewB_ok hf).1; omega) (fun l hl => (few_st hf l hl).1)
theorem classes_at (ths : List (List St)) (hf : fewB ths = true) : PureC Try.prog 14 [.p (thsP ths)] (.int (classesB ths)) := by
  have h := classes_ok ths (few_st hf) (validB ths) (svalid_at ths hf) (fun hv => ⟨(validB_ok hv).2.1, (validB_ok hv).2.2.1⟩)
  have e : ((classesB ths : Nat) : Int) = (if validB ths = true then ((visB ths 13 (List.replicate ths.length 0) [] fun _ => false).length : Int) else 0) := by
    unfold classesB visA
    split <;> rfl
  rw [e]
  exact h
theorem explore_at (ths : List (List St)) (hf : fewB ths = true) : PureC Try.prog 13 [.p (thsP ths)] (.p (.seq 1 (rowOf pksP (exploreB (validB ths) ths)))) :=
  explore_ok ths (few_st hf) (validB ths) (svalid_at ths hf) (fun hv => ⟨(validB_ok hv).2.1, (validB_ok hv).2.2.1, valid_stv hf hv⟩)
end Go.Proofs.Ytbhkcejjehgfcaa
/- Sequences up to exchanges of neighbours that do not depend on each other. -/
namespace Go.Proofs.Ytbhkcejjehgfcaa

/-- Exchanges of neighbours. -/
inductive Sw {α : Type} (D : α → α → Bool) : List α → List α → Prop
  | refl (l : List α) : Sw D l l
  | swap (a b : α) (l : List α) (h : D a b = false) (h' : D b a = false) : Sw D (a :: b :: l) (b :: a :: l)
  | cons (x : α) {l l' : List α} (h : Sw D l l') : Sw D (x :: l) (x :: l')
  | trans {a b c : List α} (h : Sw D a b) (k : Sw D b c) : Sw D a c
variable {α : Type} {D : α → α → Bool}
theorem Sw.symm {a b : List α} (h : Sw D a b) : Sw D b a := by
  induction h with
  | refl l => exact .refl l
  | swap a b l h h' => exact .swap b a l h' h
  | cons x _ ih => exact .cons x ih
  | trans _ _ ih1 ih2 => exact .trans ih2 ih1
theorem Sw.perm {a b : List α} (h : Sw D a b) : a.Perm b := by
  induction h with
  | refl l => exact .refl l
  | swap a b l _ _ => exact .swap b a l
  | cons x _ ih => exact ih.cons x
  | trans _ _ ih1 ih2 => exact ih1.trans ih2
theorem Sw.mono {D' : α → α → Bool} (hD : ∀ a b, D a b = false → D' a b = false) {a b : List α} (h : Sw D a b) : Sw D' a b := by
  induction h with
  | refl l => exact .refl l
  | swap a b l h h' => exact .swap a b l (hD _ _ h) (hD _ _ h')
  | cons x _ ih => exact .cons x ih
  | trans _ _ ih1 ih2 => exact .trans ih1 ih2
/-- Under a renaming. -/
theorem Sw.map {β : Type} {D' : β → β → Bool} (f : α → β) {l l' : List α} (h : Sw D l l') (hD : ∀ a ∈ l, ∀ b ∈ l, D a b = false → D' (f a) (f b) = false) : Sw D' (l.map f) (l'.map f) := by
  induction h with
  | refl l => exact .refl _
  | swap a b l h h' => exact .swap _ _ _ (hD a (by simp) b (by simp) h) (hD b (by simp) a (by simp) h')
  | cons x _ ih => exact .cons _ (ih fun a ha b hb => hD a (List.mem_cons_of_mem _ ha) b (List.mem_cons_of_mem _ hb))
  | trans h1 _ ih1 ih2 => exact .trans (ih1 hD) (ih2 fun a ha b hb => hD a (h1.perm.mem_iff.2 ha) b (h1.perm.mem_iff.2 hb))
/-- x comes to the front: what is left is l'. -/
def Frn (D : α → α → Bool) (l : List α) (x : α) (l' : List α) : Prop := ∃ u v, l = u ++ x :: v ∧ l' = u ++ v ∧ ∀ y ∈ u, D y x = false ∧ D x y = false
def Ini (D : α → α → Bool) (l : List α) (x : α) : Prop := ∃ l', Frn D l x l'
theorem Frn.sw {l l' : List α} {x : α} (h : Frn D l x l') : Sw D l (x :: l') := by
  obtain ⟨u, v, rfl, rfl, hu⟩ := h
  induction u with
  | nil => exact .refl _
  | cons y u ih =>
    have h1 := ih fun z hz => hu z (List.mem_cons_of_mem _ hz)
    have h2 := hu y (by simp)
    exact (Sw.cons y h1).trans (.swap y x _ h2.1 h2.2)
theorem Frn.head (x : α) (l : List α) : Frn D (x :: l) x l := ⟨[], l, rfl, rfl, fun _ h => by cases h⟩
theorem Frn.cons {l l' : List α} {x y : α} (h : Frn D l x l') (h1 : D y x = false) (h2 : D x y = false) : Frn D (y :: l) x (y :: l') := by
  obtain ⟨u, v, rfl, rfl, hu⟩ := h
  exact ⟨y :: u, v, rfl, rfl, fun z hz => (List.mem_cons.1 hz).elim (fun e => e ▸ ⟨h1, h2⟩) (hu z)⟩
theorem Frn.uncons {l l' : List α} {x y : α} (h : Frn D (y :: l) x l') : (x = y ∧ l' = l) ∨ ∃ m, l' = y :: m ∧ Frn D l x m ∧ D y x = false ∧ D x y = false := by
  obtain ⟨u, v, h1, rfl, hu⟩ := h
  cases u with
  | nil => cases h1; exact .inl ⟨rfl, rfl⟩
  | cons z u =>
    cases h1
    exact .inr ⟨u ++ v, rfl, ⟨u, v, rfl, rfl, fun z hz => hu z (List.mem_cons_of_mem _ hz)⟩, hu y (by simp)⟩
theorem Sw.frn {l m l' : List α} {x : α} (h : Sw D l m) : Frn D l x l' → ∃ m', Frn D m x m' ∧ Sw D l' m' := by
  induction h generalizing l' with
  | refl l => exact fun h => ⟨_, h, .refl _⟩
  | swap a b l hab hba =>
    intro h
    rcases h.uncons with ⟨rfl, rfl⟩ | ⟨m, rfl, h1, h2, h3⟩
    · exact ⟨_, .cons (.head _ _) hba hab, .refl _⟩
    · rcases h1.uncons with ⟨rfl, rfl⟩ | ⟨m', rfl, h4, h5, h6⟩
      · exact ⟨_, .head _ _, .refl _⟩
      · exact ⟨_, .cons (.cons h4 h2 h3) h5 h6, .swap _ _ _ hab hba⟩
  | cons y h ih =>
    intro h1
    rcases h1.uncons with ⟨rfl, rfl⟩ | ⟨m', rfl, h4, h5, h6⟩
    · exact ⟨_, .head _ _, h⟩
    · obtain ⟨m2, g1, g2⟩ := ih h4
      exact ⟨_, .cons g1 h5 h6, .cons y g2⟩
  | trans _ _ ih1 ih2 =>
    intro h1
    obtain ⟨m1, g1, g2⟩ := ih1 h1
    obtain ⟨m2, g3, g4⟩ := ih2 g1
    exact ⟨m2, g3, g2.trans g4⟩
theorem Ini.sw {l m : List α} {x : α} (h : Ini D l x) (k : Sw D l m) : Ini D m x := let ⟨_, h⟩ := h; let ⟨m', h1, _⟩ := k.frn h; ⟨m', h1⟩
/-- The same step ahead of both. -/
theorem Sw.cancel {x : α} {l l' : List α} (h : Sw D (x :: l) (x :: l')) (hx : D x x = true) : Sw D l l' := by
  obtain ⟨m, h1, h2⟩ := h.frn (.head x l)
  rcases h1.uncons with ⟨_, rfl⟩ | ⟨m', _, _, h3, _⟩
  · exact h2
  · rw [hx] at h3; cases h3
theorem Sw.nil_left {l : List α} (h : Sw D [] l) : l = [] := List.nil_perm.1 h.perm
theorem Sw.all_free (h : ∀ a b, D a b = false) {l m : List α} (hp : l.Perm m) : Sw D l m := by
  induction hp with
  | nil => exact .refl _
  | cons x _ ih => exact .cons x ih
  | swap a b l => exact .swap b a l (h _ _) (h _ _)
  | trans _ _ ih1 ih2 => exact .trans ih1 ih2
/-- All depend on each other: nothing moves. -/
theorem Sw.eq_of_all {l m : List α} (h : Sw D l m) (hD : ∀ a ∈ l, ∀ b ∈ l, D a b = true) : l = m := by
  induction h with
  | refl l => rfl
  | swap a b l h _ => rw [hD a (by simp) b (by simp)] at h; cases h
  | cons x _ ih => rw [ih fun a ha b hb => hD a (List.mem_cons_of_mem _ ha) b (List.mem_cons_of_mem _ hb)]
  | trans h1 _ ih1 ih2 => rw [ih1 hD]; exact ih2 fun a ha b hb => hD a (h1.perm.mem_iff.2 ha) b (h1.perm.mem_iff.2 hb)
/-- Distinct things with distinct images. -/
theorem len_le {α β : Type} {S : α → β → Prop} {R : α → α → Prop} : ∀ {l : List α} {m : List β}, l.Pairwise (fun x y => ¬ R x y) → (∀ x ∈ l, ∃ y ∈ m, S x y) → (∀ x x' y, x ∈ l → x' ∈ l → S x y → S x' y → R x x') → l.length ≤ m.length
  | [], m, _, _, _ => by simp
  | x :: l, m, hp, hm, hi => by
    obtain ⟨h1, h2⟩ := List.pairwise_cons.1 hp
    obtain ⟨y, hy, hS⟩ := hm x (by simp)
    obtain ⟨a, b, rfl⟩ := List.append_of_mem hy
    have h3 : ∀ x' ∈ l, ∃ y' ∈ a ++ b, S x' y' := fun x' hx' => by
      obtain ⟨y', hy', hS'⟩ := hm x' (List.mem_cons_of_mem _ hx')
      rcases List.mem_append.1 hy' with h | h
      · exact ⟨y', List.mem_append.2 (.inl h), hS'⟩
      · rcases List.mem_cons.1 h with rfl | h
        · exact absurd (hi x x' _ (by simp) (List.mem_cons_of_mem _ hx') hS hS') (h1 x' hx')
        · exact ⟨y', List.mem_append.2 (.inr h), hS'⟩
    have := len_le (S := S) (R := R) h2 h3 fun a b c ha hb => hi a b c (List.mem_cons_of_mem _ ha) (List.mem_cons_of_mem _ hb)
    simp only [List.length_append, List.length_cons] at this ⊢
    omega
end Go.Proofs.Ytbhkcejjehgfcaa
/- Sleep sets: one run of every class. -/
namespace Go.Proofs.Ytbhkcejjehgfcaa
open Go.RowKit Go.Sort
set_option linter.unusedSimpArgs false
set_option linter.unusedVariables false

theorem tcB_symm (x y : Tc) : tcB x y = tcB y x := by
  unfold tcB
  rw [Bool.eq_iff_iff]
  simp only [Bool.and_eq_true, beq_iff_eq, Bool.or_eq_true]
  constructor <;> (rintro ⟨⟨⟨h1, h2⟩, h3⟩, h4⟩; exact ⟨⟨⟨h1.symm, h2.symm⟩, h3.symm⟩, h4.symm⟩)
theorem dpB_symm (a b : St) : dpB a b = dpB b a := by
  have h1 : (a.gs.any fun g => b.gs.contains g) = (b.gs.any fun g => a.gs.contains g) := by
    rw [Bool.eq_iff_iff]
    simp only [List.any_eq_true, List.contains_iff_mem]
    constructor <;> (rintro ⟨g, h1, h2⟩; exact ⟨g, h2, h1⟩)
  have h2 : (a.ts.any fun x => b.ts.any fun y => tcB x y) = (b.ts.any fun x => a.ts.any fun y => tcB x y) := by
    rw [Bool.eq_iff_iff]
    simp only [List.any_eq_true]
    constructor <;> (rintro ⟨x, h1, y, h2, h3⟩; exact ⟨y, h2, x, h1, by rw [tcB_symm]; exact h3⟩)
  unfold dpB
  rw [h1, h2]
/-- Each thread's steps are of that thread alone. -/
structure ThOk (ths : List (List St)) : Prop where
  at' : ∀ (t : Nat) (l : List St), ths[t]? = some l → ∀ (i : Nat) (s : St), l[i]? = some s → s.g = (t : Int) ∧ s.c = (i : Int) ∧ s.gs = [(t : Int)]
theorem ThOk.g {ths : List (List St)} (h : ThOk ths) {pos : List Nat} {t : Nat} {s : St} (hs : stepOf ths pos t = some s) : s.g = (t : Int) ∧ s.gs = [(t : Int)] := by
  obtain ⟨l, k, h1, h2, h3⟩ := stepOf_some.1 hs
  have := h.at' t l h1 k s h3
  exact ⟨this.1, this.2.2⟩
theorem dp_same {a b : St} {t : Int} (ha : a.gs = [t]) (hb : b.gs = [t]) : dpB a b = true := by simp [dpB, ha, hb]
theorem step_ne {ths : List (List St)} {pos : List Nat} {t u : Nat} (h : u ≠ t) : stepOf ths (bump pos t) u = stepOf ths pos u := by
  unfold stepOf bump
  rw [List.getElem?_set_ne (Ne.symm h)]
theorem bump_comm {pos : List Nat} {t u : Nat} (h : t ≠ u) : bump (bump pos t) u = bump (bump pos u) t := by
  have e1 : (pos.set t (pos.getD t 0 + 1)).getD u 0 = pos.getD u 0 := by simp only [List.getD_eq_getElem?_getD]; rw [List.getElem?_set_ne h]
  have e2 : (pos.set u (pos.getD u 0 + 1)).getD t 0 = pos.getD t 0 := by simp only [List.getD_eq_getElem?_getD]; rw [List.getElem?_set_ne (Ne.symm h)]
  unfold bump
  rw [e1, e2, List.set_comm _ _ h]
/-- r is a complete run from pos. -/
def CompB (ths : List (List St)) : List Nat → List St → Prop
  | pos, [] => endU ths pos ths.length = true
  | pos, s :: r => ∃ t, stepOf ths pos t = some s ∧ CompB ths (bump pos t) r
theorem comp_front {ths : List (List St)} (ho : ThOk ths) {s : St} : ∀ {r : List St} {pos : List Nat} {r' : List St}, CompB ths pos r → Frn dpB r s r' → ∃ t, stepOf ths pos t = some s ∧ CompB ths (bump pos t) r'
  | [], pos, r', _, h => by obtain ⟨u, v, h, _⟩ := h; simp at h
  | y :: r, pos, r', hc, h => by
    obtain ⟨t', hy, hc'⟩ := hc
    rcases h.uncons with ⟨rfl, rfl⟩ | ⟨m, rfl, h1, h2, _⟩
    · exact ⟨t', hy, hc'⟩
    · obtain ⟨t, g1, g2⟩ := comp_front ho hc' h1
      have hne : t ≠ t' := by
        rintro rfl
        rw [dp_same (ho.g hy).2 (ho.g g1).2] at h2
        cases h2
      refine ⟨t, by rwa [step_ne hne] at g1, t', by rw [step_ne (Ne.symm hne)]; exact hy, ?_⟩
      rw [bump_comm hne]
      exact g2
/-- visit without what has been run. -/
def loopR (rc : List Nat → (Nat → Bool) → List (List St)) (ths : List (List St)) (pos : List Nat) : List Nat → (Nat → Bool) → List (List St)
  | [], _ => []
  | t :: r, Z => match stepOf ths pos t with
    | none => loopR rc ths pos r Z
    | some s => if Z t = true then loopR rc ths pos r Z else (rc (bump pos t) (nextZ ths pos s Z)).map (s :: ·) ++ loopR rc ths pos r (fun u => decide (u = t) || Z u)
def visR (ths : List (List St)) : Nat → List Nat → (Nat → Bool) → List (List St)
  | 0, _, _ => []
  | n + 1, pos, Z => loopR (visR ths n) ths pos (List.range ths.length) Z ++ (if endU ths pos ths.length = true then [[]] else [])
theorem loopB_R {ths : List (List St)} {pos : List Nat} {run : List St} {rc : List Nat → List St → (Nat → Bool) → List (List St)} {rc' : List Nat → (Nat → Bool) → List (List St)} (h : ∀ pos run Z, rc pos run Z = (rc' pos Z).map (run ++ ·)) :
    ∀ (l : List Nat) Z, loopB rc ths pos run l Z = (loopR rc' ths pos l Z).map (run ++ ·)
  | [], Z => rfl
  | t :: l, Z => by
    rw [loopB, loopR]
    cases hs : stepOf ths pos t with
    | none => exact loopB_R h l Z
    | some s =>
      dsimp only
      by_cases hZ : Z t = true
      · rw [if_pos hZ, if_pos hZ]; exact loopB_R h l Z
      · rw [if_neg hZ, if_neg hZ, List.map_append, loopB_R h l, h, List.map_map]
        congr 1
        apply List.map_congr_left
        intro x _
        simp
theorem visB_R (ths : List (List St)) : ∀ n pos run Z, visB ths n pos run Z = (visR ths n pos Z).map (run ++ ·)
  | 0, _, _, _ => rfl
  | n + 1, pos, run, Z => by
    rw [visB, visR, loopB_R (visB_R ths n), List.map_append]
    split <;> simp
/-- None of what sleeps could come first. -/
def NoZ (ths : List (List St)) (pos : List Nat) (Z : Nat → Bool) (r : List St) : Prop := ∀ u x, Z u = true → stepOf ths pos u = some x → ¬ Ini dpB r x
theorem nextZ_spec {ths : List (List St)} {pos : List Nat} {s : St} {Z : Nat → Bool} {u : Nat} {x : St} (hx : stepOf ths pos u = some x) : nextZ ths pos s Z u = true ↔ Z u = true ∧ dpB s x = false := by
  simp [nextZ, hx]
theorem noz_next {ths : List (List St)} (ho : ThOk ths) {pos : List Nat} {t : Nat} {s : St} {Z : Nat → Bool} (hs : stepOf ths pos t = some s) (hZ : Z t = false) {r : List St} : NoZ ths (bump pos t) (nextZ ths pos s Z) r ↔ NoZ ths pos Z (s :: r) := by
  constructor
  · intro h u x hu hx hi
    have hne : u ≠ t := by rintro rfl; rw [hZ] at hu; cases hu
    obtain ⟨l', hl⟩ := hi
    rcases hl.uncons with ⟨rfl, _⟩ | ⟨m, _, h1, h2, h3⟩
    · have := (ho.g hx).1.symm.trans (ho.g hs).1
      omega
    · exact h u x ((nextZ_spec hx).2 ⟨hu, h2⟩) (by rw [step_ne hne]; exact hx) ⟨m, h1⟩
  · intro h u x hu hx ⟨m, hm⟩
    have hne : u ≠ t := by
      rintro rfl
      simp only [nextZ, hZ, Bool.false_and] at hu
      cases hu
    rw [step_ne hne] at hx
    obtain ⟨h1, h2⟩ := (nextZ_spec hx).1 hu
    exact h u x h1 hx ⟨_, hm.cons h2 (by rw [dpB_symm]; exact h2)⟩
structure Vis (ths : List (List St)) (pos : List Nat) (Z : Nat → Bool) (L : List (List St)) (A : List St → Prop) : Prop where
  sound : ∀ r ∈ L, CompB ths pos r ∧ NoZ ths pos Z r ∧ A r
  full : ∀ r, CompB ths pos r → NoZ ths pos Z r → A r → ∃ r' ∈ L, Sw dpB r r'
  apart : L.Pairwise fun a b => ¬ Sw dpB a b
theorem loop_vis {ths : List (List St)} (ho : ThOk ths) {pos : List Nat} {rc : List Nat → (Nat → Bool) → List (List St)} (h : ∀ t s Z, stepOf ths pos t = some s → Vis ths (bump pos t) Z (rc (bump pos t) Z) fun _ => True) :
    ∀ (l : List Nat) Z, Vis ths pos Z (loopR rc ths pos l Z) fun r => ∃ t s, t ∈ l ∧ stepOf ths pos t = some s ∧ Ini dpB r s
  | [], Z => ⟨fun r hr => (by cases hr), fun r _ _ ⟨t, _, h, _⟩ => (by cases h), .nil⟩
  | t :: l, Z => by
    rw [loopR]
    cases hs : stepOf ths pos t with
    | none =>
      obtain ⟨h1, h2, h3⟩ := loop_vis ho h l Z
      refine ⟨fun r hr => ?_, fun r hc hz ⟨t', s, ht, hs', hi⟩ => h2 r hc hz ?_, h3⟩
      · obtain ⟨g1, g2, t', s, g3, g4, g5⟩ := h1 r hr
        exact ⟨g1, g2, t', s, List.mem_cons_of_mem _ g3, g4, g5⟩
      · rcases List.mem_cons.1 ht with rfl | ht
        · rw [hs] at hs'; cases hs'
        · exact ⟨t', s, ht, hs', hi⟩
    | some s =>
      dsimp only
      cases hZ : Z t with
      | true =>
        rw [if_pos rfl]
        obtain ⟨h1, h2, h3⟩ := loop_vis ho h l Z
        refine ⟨fun r hr => ?_, fun r hc hz ⟨t', s', ht, hs', hi⟩ => h2 r hc hz ?_, h3⟩
        · obtain ⟨g1, g2, t', s, g3, g4, g5⟩ := h1 r hr
          exact ⟨g1, g2, t', s, List.mem_cons_of_mem _ g3, g4, g5⟩
        · rcases List.mem_cons.1 ht with rfl | ht
          · exact absurd hi (hz t' s' hZ hs')
          · exact ⟨t', s', ht, hs', hi⟩
      | false =>
        rw [if_neg (by simp)]
        obtain ⟨h1, h2, h3⟩ := loop_vis ho h l fun u => decide (u = t) || Z u
        obtain ⟨k1, k2, k3⟩ := h t s (nextZ ths pos s Z) hs
        refine ⟨fun r hr => ?_, fun r hc hz ⟨t', s', ht, hs', hi⟩ => ?_, ?_⟩
        · rcases List.mem_append.1 hr with hr | hr
          · obtain ⟨r', hr', rfl⟩ := List.mem_map.1 hr
            obtain ⟨g1, g2, _⟩ := k1 r' hr'
            exact ⟨⟨t, hs, g1⟩, (noz_next ho hs hZ).1 g2, t, s, by simp, hs, _, .head _ _⟩
          · obtain ⟨g1, g2, t', s', g3, g4, g5⟩ := h1 r hr
            exact ⟨g1, fun u x hu => g2 u x (by simp [hu]), t', s', List.mem_cons_of_mem _ g3, g4, g5⟩
        · by_cases his : Ini dpB r s
          · obtain ⟨r1, hf⟩ := his
            obtain ⟨t2, e1, e2⟩ := comp_front ho hc hf
            have : t2 = t := by have := (ho.g e1).1.symm.trans (ho.g hs).1; omega
            subst this
            have hsw := hf.sw
            have hz2 : NoZ ths (bump pos t2) (nextZ ths pos s Z) r1 := (noz_next ho hs hZ).2 fun u x hu hx hi => hz u x hu hx (hi.sw hsw.symm)
            obtain ⟨r', hr', hsw'⟩ := k2 r1 e2 hz2 trivial
            exact ⟨s :: r', List.mem_append.2 (.inl (List.mem_map.2 ⟨r', hr', rfl⟩)), hsw.trans (.cons s hsw')⟩
          · obtain ⟨r', hr', hsw'⟩ := h2 r hc (fun u x hu hx => by
              simp only [Bool.or_eq_true, decide_eq_true_eq] at hu
              rcases hu with rfl | hu
              · rw [hs] at hx; cases hx; exact his
              · exact hz u x hu hx) ⟨t', s', (List.mem_cons.1 ht).resolve_left (fun e => by subst e; rw [hs] at hs'; cases hs'; exact his hi), hs', hi⟩
            exact ⟨r', List.mem_append.2 (.inr hr'), hsw'⟩
        · refine List.pairwise_append.2 ⟨List.pairwise_map.2 (k3.imp fun hn hsw => hn (hsw.cancel (dp_same (ho.g hs).2 (ho.g hs).2))), h3, fun a ha b hb hsw => ?_⟩
          obtain ⟨r', hr', rfl⟩ := List.mem_map.1 ha
          exact (h1 b hb).2.1 t s (by simp) hs (Ini.sw ⟨_, .head _ _⟩ hsw)
theorem comp_nil {ths : List (List St)} {pos : List Nat} {r : List St} (h : CompB ths pos r) : r = [] ↔ endU ths pos ths.length = true := by
  constructor
  · rintro rfl; exact h
  · intro he
    cases r with
    | nil => rfl
    | cons s r =>
      obtain ⟨t, hs, _⟩ := h
      simp only [endU, endB, List.all_eq_true, List.mem_range] at he
      obtain ⟨l, k, h1, _⟩ := stepOf_some.1 hs
      have := he t (List.getElem?_eq_some_iff.1 h1).1
      rw [hs] at this
      cases this
theorem vis_vis {ths : List (List St)} (ho : ThOk ths) : ∀ n pos Z, remB ths pos < n → Vis ths pos Z (visR ths n pos Z) fun _ => True
  | 0, _, _, h => by omega
  | n + 1, pos, Z, hn => by
    obtain ⟨h1, h2, h3⟩ := loop_vis ho (rc := visR ths n) (pos := pos) (fun t s Z hs => vis_vis ho n (bump pos t) Z (by have := rem_bump hs; omega)) (List.range ths.length) Z
    rw [visR]
    have hne : ∀ r ∈ loopR (visR ths n) ths pos (List.range ths.length) Z, endU ths pos ths.length = true → False := fun r hr he => by
      obtain ⟨g1, _, t, s, _, g4, g5⟩ := h1 r hr
      rw [(comp_nil g1).2 he] at g5
      obtain ⟨_, u, v, h, _⟩ := g5
      simp at h
    refine ⟨fun r hr => ?_, fun r hc hz _ => ?_, ?_⟩
    · rcases List.mem_append.1 hr with hr | hr
      · exact ⟨(h1 r hr).1, (h1 r hr).2.1, trivial⟩
      · split at hr
        · rename_i he
          rw [List.mem_singleton.1 hr]
          exact ⟨he, fun u x _ _ ⟨_, u', v, h, _⟩ => (by simp at h), trivial⟩
        · cases hr
    · cases r with
      | nil => exact ⟨[], List.mem_append.2 (.inr (by rw [show endU ths pos ths.length = true from hc]; simp)), .refl _⟩
      | cons s r =>
        obtain ⟨t, hs, hc'⟩ := hc
        obtain ⟨l, k, g1, _⟩ := stepOf_some.1 hs
        obtain ⟨r', hr', hsw⟩ := h2 (s :: r) ⟨t, hs, hc'⟩ hz ⟨t, s, List.mem_range.2 (List.getElem?_eq_some_iff.1 g1).1, hs, _, .head _ _⟩
        exact ⟨r', List.mem_append.2 (.inl hr'), hsw⟩
    · refine List.pairwise_append.2 ⟨h3, ?_, fun a ha b hb => ?_⟩
      · split <;> simp
      · split at hb
        · rename_i he; exact (hne a ha he).elim
        · cases hb
end Go.Proofs.Ytbhkcejjehgfcaa
/- Classes of threads that are like each other. -/
namespace Go.Proofs.Ytbhkcejjehgfcaa
open Go.RowKit Go.Sort
set_option linter.unusedSimpArgs false
set_option linter.unusedVariables false

def stepsOf (ths : List (List St)) : List St := ths.flatten
theorem end_iff {ths : List (List St)} {pos : List Nat} : endU ths pos ths.length = true ↔ ∀ t, stepOf ths pos t = none := by
  simp only [endU, endB, List.all_eq_true, List.mem_range, Option.isNone_iff_eq_none]
  constructor
  · intro h t
    by_cases ht : t < ths.length
    · exact h t ht
    · unfold stepOf
      rw [List.getElem?_eq_none (by omega)]
      rfl
  · intro h t _; exact h t
theorem step_mem {ths : List (List St)} {pos : List Nat} {t : Nat} {s : St} (h : stepOf ths pos t = some s) : s ∈ stepsOf ths := by
  obtain ⟨l, k, h1, _, h3⟩ := stepOf_some.1 h
  exact List.mem_flatten.2 ⟨l, List.mem_of_getElem? h1, List.mem_of_getElem? h3⟩
theorem comp_mem {ths : List (List St)} : ∀ {r : List St} {pos : List Nat}, CompB ths pos r → ∀ s ∈ r, s ∈ stepsOf ths
  | [], _, _, s, hs => by cases hs
  | x :: r, pos, ⟨t, h1, h2⟩, s, hs => by
    rcases List.mem_cons.1 hs with rfl | hs
    · exact step_mem h1
    · exact comp_mem h2 s hs
/-- Threads that are others with other numbers and other touches. -/
structure Sim (ths ths' : List (List St)) (σ τ : Nat → Nat) (φ : St → St) : Prop where
  left : ∀ t, τ (σ t) = t
  right : ∀ t, σ (τ t) = t
  len : ths'.length = ths.length
  th : ∀ t, ths'[σ t]? = (ths[t]?).map (List.map φ)
def Cor (σ : Nat → Nat) (pos pos' : List Nat) : Prop := ∀ t, pos'[σ t]? = pos[t]?
section
variable {ths ths' : List (List St)} {σ τ : Nat → Nat} {φ : St → St}
theorem Sim.step (h : Sim ths ths' σ τ φ) {pos pos' : List Nat} (hc : Cor σ pos pos') (t : Nat) : stepOf ths' pos' (σ t) = (stepOf ths pos t).map φ := by
  unfold stepOf
  rw [h.th, hc]
  cases ths[t]? with
  | none => rfl
  | some l =>
    cases pos[t]? with
    | none => rfl
    | some k => simp
theorem Sim.bump (h : Sim ths ths' σ τ φ) {pos pos' : List Nat} (hc : Cor σ pos pos') (t : Nat) : Cor σ (bump pos t) (bump pos' (σ t)) := fun u => by
  unfold Go.Proofs.Ytbhkcejjehgfcaa.bump
  have e : pos'.getD (σ t) 0 = pos.getD t 0 := by simp only [List.getD_eq_getElem?_getD, hc t]
  rw [e]
  by_cases hu : t = u
  · subst hu
    rw [List.getElem?_set, List.getElem?_set, if_pos rfl, if_pos rfl]
    have := hc t
    by_cases h1 : t < pos.length
    · have h2 : σ t < pos'.length := by
        rw [List.getElem?_eq_getElem h1] at this
        exact (List.getElem?_eq_some_iff.1 this).1
      rw [if_pos h1, if_pos h2]
    · have h2 : ¬ σ t < pos'.length := by
        rw [List.getElem?_eq_none (show pos.length ≤ t by omega)] at this
        exact Nat.not_lt.2 (List.getElem?_eq_none_iff.1 this)
      rw [if_neg h1, if_neg h2]
  · have hne : σ t ≠ σ u := fun e => hu (by rw [← h.left t, e, h.left])
    rw [List.getElem?_set_ne hne, List.getElem?_set_ne hu]
    exact hc u
theorem Sim.zero (h : Sim ths ths' σ τ φ) : Cor σ (List.replicate ths.length 0) (List.replicate ths'.length 0) := fun t => by
  rw [List.getElem?_replicate, List.getElem?_replicate]
  have e : σ t < ths'.length ↔ t < ths.length := by
    have := h.th t
    constructor
    · intro h1
      rw [List.getElem?_eq_getElem h1] at this
      cases h2 : ths[t]? with
      | none => rw [h2] at this; cases this
      | some l => exact (List.getElem?_eq_some_iff.1 h2).1
    · intro h1
      rw [List.getElem?_eq_getElem h1] at this
      exact (List.getElem?_eq_some_iff.1 this).1
  by_cases h1 : t < ths.length
  · rw [if_pos h1, if_pos (e.2 h1)]
  · rw [if_neg h1, if_neg fun h2 => h1 (e.1 h2)]
theorem Sim.comp (h : Sim ths ths' σ τ φ) : ∀ {r : List St} {pos pos' : List Nat}, Cor σ pos pos' → CompB ths pos r → CompB ths' pos' (r.map φ)
  | [], pos, pos', hc, hr => by
    have h1 := end_iff.1 hr
    refine end_iff.2 fun t => ?_
    have := h.step hc (τ t)
    rwa [h.right, h1] at this
  | s :: r, pos, pos', hc, ⟨t, h1, h2⟩ => ⟨σ t, by rw [h.step hc, h1]; rfl, h.comp (h.bump hc t) h2⟩
end
theorem visA_R (ths : List (List St)) : visB ths 13 (List.replicate ths.length 0) [] (fun _ => false) = visR ths 13 (List.replicate ths.length 0) fun _ => false := by
  rw [visB_R]; simp
theorem visA_vis {ths : List (List St)} (ho : ThOk ths) (hr : remB ths (List.replicate ths.length 0) ≤ 12) : Vis ths (List.replicate ths.length 0) (fun _ => false) (visR ths 13 (List.replicate ths.length 0) fun _ => false) fun _ => True := vis_vis ho 13 _ _ (by omega)
theorem noz_none {ths : List (List St)} {pos : List Nat} {r : List St} : NoZ ths pos (fun _ => false) r := fun u x h => by cases h
/-- Where more depends on each other, there are no fewer classes. -/
theorem cls_le {ths ths' : List (List St)} {σ τ : Nat → Nat} {φ : St → St} (h : Sim ths ths' σ τ φ) (ho : ThOk ths) (ho' : ThOk ths') (hr : remB ths (List.replicate ths.length 0) ≤ 12) (hr' : remB ths' (List.replicate ths'.length 0) ≤ 12)
    (ψ : St → St) (hψ : ∀ s ∈ stepsOf ths, ψ (φ s) = s) (hD : ∀ a ∈ stepsOf ths, ∀ b ∈ stepsOf ths, dpB (φ a) (φ b) = false → dpB a b = false) :
    (visR ths 13 (List.replicate ths.length 0) fun _ => false).length ≤ (visR ths' 13 (List.replicate ths'.length 0) fun _ => false).length := by
  obtain ⟨s1, f1, a1⟩ := visA_vis ho hr
  obtain ⟨s2, f2, a2⟩ := visA_vis ho' hr'
  refine len_le (S := fun r y => CompB ths (List.replicate ths.length 0) r ∧ Sw dpB (r.map φ) y) (R := Sw dpB) a1 (fun r hrm => ?_) (fun r r' y _ _ hS hS' => ?_)
  · obtain ⟨hc, _⟩ := s1 r hrm
    obtain ⟨y, hy, hsw⟩ := f2 _ (h.comp h.zero hc) noz_none trivial
    exact ⟨y, hy, hc, hsw⟩
  · have hsw := (hS.2.trans hS'.2.symm).map (D' := dpB) ψ (fun a ha b hb hab => by
      obtain ⟨a', ha', rfl⟩ := List.mem_map.1 ha
      obtain ⟨b', hb', rfl⟩ := List.mem_map.1 hb
      have ma := comp_mem hS.1 a' ha'
      have mb := comp_mem hS.1 b' hb'
      rw [hψ a' ma, hψ b' mb]
      exact hD a' ma b' mb hab)
    have e : ∀ q, CompB ths (List.replicate ths.length 0) q → (q.map φ).map ψ = q := fun q hq => by
      rw [List.map_map]
      have : q.map (ψ ∘ φ) = q.map id := List.map_congr_left fun x hx => hψ x (comp_mem hq x hx)
      rw [this, List.map_id]
    rwa [e r hS.1, e r' hS'.1] at hsw
/-- Where steps of two threads never depend on each other there is one class. -/
theorem free_front {ths : List (List St)} (ho : ThOk ths) (hfree : ∀ a ∈ stepsOf ths, ∀ b ∈ stepsOf ths, a.g ≠ b.g → dpB a b = false) {t : Nat} {s : St} : ∀ {r : List St} {pos : List Nat}, CompB ths pos r → stepOf ths pos t = some s → ∃ m, Frn dpB r s m
  | [], pos, hr, hs => by rw [end_iff.1 hr t] at hs; cases hs
  | y :: r, pos, ⟨t', h1, h2⟩, hs => by
    by_cases e : t = t'
    · subst e
      rw [hs] at h1; cases h1
      exact ⟨r, .head _ _⟩
    · obtain ⟨m, hm⟩ := free_front ho hfree h2 (by rw [step_ne e]; exact hs)
      have hne : y.g ≠ s.g := by rw [(ho.g h1).1, (ho.g hs).1]; omega
      exact ⟨y :: m, hm.cons (hfree _ (step_mem h1) _ (step_mem hs) hne) (hfree _ (step_mem hs) _ (step_mem h1) hne.symm)⟩
theorem free_sw {ths : List (List St)} (ho : ThOk ths) (hfree : ∀ a ∈ stepsOf ths, ∀ b ∈ stepsOf ths, a.g ≠ b.g → dpB a b = false) : ∀ {r r' : List St} {pos : List Nat}, CompB ths pos r → CompB ths pos r' → Sw dpB r r'
  | [], r', pos, h, h' => by rw [(comp_nil h').2 h]; exact .refl _
  | s :: r, r', pos, ⟨t, h1, h2⟩, h' => by
    obtain ⟨m, hm⟩ := free_front ho hfree h' h1
    obtain ⟨t2, e1, e2⟩ := comp_front ho h' hm
    have : t2 = t := by have := (ho.g e1).1.symm.trans (ho.g h1).1; omega
    subst this
    exact (Sw.cons s (free_sw ho hfree h2 e2)).trans hm.sw.symm
theorem free_one {ths : List (List St)} (ho : ThOk ths) (hfree : ∀ a ∈ stepsOf ths, ∀ b ∈ stepsOf ths, a.g ≠ b.g → dpB a b = false) (hr : remB ths (List.replicate ths.length 0) ≤ 12) (hne : visR ths 13 (List.replicate ths.length 0) (fun _ => false) ≠ []) : (visR ths 13 (List.replicate ths.length 0) fun _ => false).length = 1 := by
  obtain ⟨s1, f1, a1⟩ := visA_vis ho hr
  match hv : visR ths 13 (List.replicate ths.length 0) (fun _ => false), hne with
  | [x], _ => rfl
  | x :: y :: l, _ =>
    rw [hv] at s1 a1
    exact absurd (free_sw ho hfree (s1 x (by simp)).1 (s1 y (by simp)).1) ((List.pairwise_cons.1 a1).1 y (by simp))
end Go.Proofs.Ytbhkcejjehgfcaa
/- The number of complete runs. -/
namespace Go.Proofs.Ytbhkcejjehgfcaa
open Go.RowKit Go.Sort
set_option linter.unusedSimpArgs false
set_option linter.unusedVariables false

def fct : Nat → Nat
  | 0 => 1
  | n + 1 => (n + 1) * fct n
theorem fct_pos : ∀ n, 0 < fct n
  | 0 => Nat.one_pos
  | n + 1 => Nat.mul_pos (Nat.succ_pos n) (fct_pos n)
def lenOf (ths : List (List St)) (t : Nat) : Nat := (ths.getD t []).length
/-- What thread t has left. -/
def leftB (ths : List (List St)) (pos : List Nat) (t : Nat) : Nat := lenOf ths t - pos.getD t 0
def facB (ths : List (List St)) (pos : List Nat) : Nat := ((List.range ths.length).map fun t => fct (leftB ths pos t)).prod
/-- The number of complete runs from pos. -/
def cntB (ths : List (List St)) : Nat → List Nat → Nat
  | 0, _ => 0
  | n + 1, pos => ((List.range ths.length).map fun t => if (stepOf ths pos t).isSome then cntB ths n (bump pos t) else 0).sum + (if endU ths pos ths.length = true then 1 else 0)
theorem left_bump {ths : List (List St)} {pos : List Nat} {t : Nat} {s : St} (h : stepOf ths pos t = some s) : leftB ths pos t = leftB ths (bump pos t) t + 1 ∧ ∀ u, u ≠ t → leftB ths (bump pos t) u = leftB ths pos u := by
  obtain ⟨l, k, h1, h2, h3⟩ := stepOf_some.1 h
  have hp := (List.getElem?_eq_some_iff.1 h2).1
  have hk := (List.getElem?_eq_some_iff.1 h3).1
  refine ⟨?_, fun u hu => ?_⟩
  · simp only [leftB, lenOf, bump, List.getD_eq_getElem?_getD, List.getElem?_set_self hp, h1, h2, Option.getD_some]
    omega
  · simp only [leftB, bump, List.getD_eq_getElem?_getD, List.getElem?_set_ne (Ne.symm hu)]
theorem left_none {ths : List (List St)} {pos : List Nat} (hp : PosOk ths pos) {t : Nat} (ht : t < ths.length) (h : stepOf ths pos t = none) : leftB ths pos t = 0 := by
  obtain ⟨l, hl⟩ := at_lt ht
  obtain ⟨k, hk⟩ := at_lt (l := pos) (k := t) (by rw [hp.len]; exact ht)
  have h1 := hp.le t l k hl hk
  have h2 : l[k]? = none := by simpa [stepOf, hl, hk] using h
  have h3 := List.getElem?_eq_none_iff.1 h2
  simp only [leftB, lenOf, List.getD_eq_getElem?_getD, hl, hk, Option.getD_some]
  omega
theorem prod_set (l : List Nat) (f g : Nat → Nat) (t c : Nat) (hn : l.Nodup) (ht : t ∈ l) (h : ∀ u, u ≠ t → f u = g u) (h1 : g t = c * f t) : (l.map g).prod = c * (l.map f).prod := by
  induction l with
  | nil => cases ht
  | cons x r ih =>
    obtain ⟨hx, hr⟩ := List.nodup_cons.1 hn
    simp only [List.map_cons, List.prod_cons]
    rcases List.mem_cons.1 ht with rfl | ht
    · have : r.map f = r.map g := List.map_congr_left fun u hu => h u (fun e => hx (e ▸ hu))
      rw [this, h1, Nat.mul_assoc]
    · rw [ih hr ht, h x (fun e => hx (e ▸ ht))]
      rw [← Nat.mul_assoc, Nat.mul_comm (g x) c, Nat.mul_assoc]
theorem fac_bump {ths : List (List St)} {pos : List Nat} {t : Nat} {s : St} (h : stepOf ths pos t = some s) : facB ths pos = leftB ths pos t * facB ths (bump pos t) := by
  obtain ⟨l, k, h1, _⟩ := stepOf_some.1 h
  obtain ⟨e1, e2⟩ := left_bump h
  refine prod_set _ (fun u => fct (leftB ths (bump pos t) u)) (fun u => fct (leftB ths pos u)) t _ List.nodup_range (List.mem_range.2 (List.getElem?_eq_some_iff.1 h1).1) (fun u hu => by rw [e2 u hu]) ?_
  rw [e1, fct]
theorem rem_left (ths : List (List St)) (pos : List Nat) : remB ths pos = ((List.range ths.length).map (leftB ths pos)).sum := rfl
theorem cnt_fac {ths : List (List St)} : ∀ n pos, PosOk ths pos → remB ths pos < n → cntB ths n pos * facB ths pos = fct (remB ths pos)
  | 0, _, _, h => by omega
  | n + 1, pos, hp, hn => by
    rw [cntB]
    by_cases he : endU ths pos ths.length = true
    · have hnone := end_iff.1 he
      have hl0 : ∀ t ∈ List.range ths.length, leftB ths pos t = 0 := fun t ht => left_none hp (List.mem_range.1 ht) (hnone t)
      have h1 : ((List.range ths.length).map fun t => if (stepOf ths pos t).isSome then cntB ths n (bump pos t) else 0).sum = 0 := by
        rw [List.map_congr_left (g := fun _ => 0) (fun t _ => by rw [hnone t]; rfl)]
        induction List.range ths.length <;> simp_all
      have h2 : facB ths pos = 1 := by
        unfold facB
        rw [List.map_congr_left (g := fun _ => 1) (fun t ht => by rw [hl0 t ht]; rfl)]
        induction List.range ths.length <;> simp_all
      have h3 : remB ths pos = 0 := by
        rw [rem_left, List.map_congr_left (g := fun _ => 0) hl0]
        induction List.range ths.length <;> simp_all
      rw [h1, h2, h3, if_pos he]
      rfl
    · rw [if_neg he, Nat.add_zero]
      have key : ∀ l : List Nat, (∀ t ∈ l, t < ths.length) → (l.map fun t => if (stepOf ths pos t).isSome then cntB ths n (bump pos t) else 0).sum * facB ths pos = fct (remB ths pos - 1) * (l.map (leftB ths pos)).sum := by
        intro l
        induction l with
        | nil => intro _; simp
        | cons t r ih =>
          intro hl
          simp only [List.map_cons, List.sum_cons, Nat.add_mul, Nat.mul_add]
          rw [ih fun u hu => hl u (List.mem_cons_of_mem _ hu)]
          congr 1
          cases hs : stepOf ths pos t with
          | none => rw [left_none hp (hl t (by simp)) hs]; simp
          | some s =>
            have hr := rem_bump hs
            have := cnt_fac n (bump pos t) (pos_bump hp hs) (by omega)
            simp only [Option.isSome_some, if_true]
            rw [fac_bump hs, Nat.mul_left_comm, this, show remB ths pos - 1 = remB ths (bump pos t) by omega, Nat.mul_comm]
      rw [key _ fun t ht => List.mem_range.1 ht, ← rem_left]
      have hpos : 0 < remB ths pos := by
        rcases Nat.eq_zero_or_pos (remB ths pos) with h0 | h0
        · exfalso
          apply he
          refine end_iff.2 fun t => ?_
          cases hs : stepOf ths pos t with
          | none => rfl
          | some s => have := rem_bump hs; omega
        · exact h0
      obtain ⟨m, hm⟩ : ∃ m, remB ths pos = m + 1 := ⟨remB ths pos - 1, by omega⟩
      rw [hm, fct, Nat.add_sub_cancel, Nat.mul_comm]
/-- Where all depend on each other every complete run is a class. -/
theorem nextZ_all {ths : List (List St)} (hD : ∀ a ∈ stepsOf ths, ∀ b ∈ stepsOf ths, dpB a b = true) {pos : List Nat} {t : Nat} {s : St} {Z : Nat → Bool} (hs : stepOf ths pos t = some s) (hZ : ∀ u, Z u = true → (stepOf ths pos u).isSome = true) : nextZ ths pos s Z = fun _ => false := by
  funext u
  unfold nextZ
  cases hx : stepOf ths pos u with
  | none =>
    cases hu : Z u with
    | false => rfl
    | true => have := hZ u hu; rw [hx] at this; cases this
  | some x => simp [hD s (step_mem hs) x (step_mem hx)]
theorem all_loop {ths : List (List St)} (hD : ∀ a ∈ stepsOf ths, ∀ b ∈ stepsOf ths, dpB a b = true) {pos : List Nat} {rc : List Nat → (Nat → Bool) → List (List St)} :
    ∀ (l : List Nat) (Z : Nat → Bool), l.Nodup → (∀ t ∈ l, Z t = false) → (∀ u, Z u = true → (stepOf ths pos u).isSome = true) → (loopR rc ths pos l Z).length = (l.map fun t => if (stepOf ths pos t).isSome then (rc (bump pos t) fun _ => false).length else 0).sum
  | [], Z, _, _, _ => rfl
  | t :: l, Z, hn, hl, hZ => by
    obtain ⟨h1, h2⟩ := List.nodup_cons.1 hn
    rw [loopR]
    cases hs : stepOf ths pos t with
    | none =>
      simp only [List.map_cons, List.sum_cons, hs, Option.isSome_none, Bool.false_eq_true, if_false, Nat.zero_add]
      exact all_loop hD l Z h2 (fun u hu => hl u (List.mem_cons_of_mem _ hu)) hZ
    | some s =>
      simp only [hl t (by simp), Bool.false_eq_true, if_false, List.length_append, List.length_map, List.map_cons, List.sum_cons, hs, Option.isSome_some, if_true]
      rw [nextZ_all hD hs hZ]
      congr 1
      refine all_loop hD l _ h2 (fun u hu => ?_) fun u hu => ?_
      · simp only [Bool.or_eq_false_iff, decide_eq_false_iff_not]
        exact ⟨fun e => h1 (e ▸ hu), hl u (List.mem_cons_of_mem _ hu)⟩
      · simp only [Bool.or_eq_true, decide_eq_true_eq] at hu
        rcases hu with rfl | hu
        · rw [hs]; rfl
        · exact hZ u hu
theorem all_cnt {ths : List (List St)} (hD : ∀ a ∈ stepsOf ths, ∀ b ∈ stepsOf ths, dpB a b = true) : ∀ n pos, (visR ths n pos fun _ => false).length = cntB ths n pos
  | 0, _ => rfl
  | n + 1, pos => by
    rw [visR, cntB, List.length_append, all_loop hD _ _ List.nodup_range (fun _ _ => rfl) (fun u hu => by cases hu)]
    congr 1
    · congr 1
      apply List.map_congr_left
      intro t _
      rw [all_cnt hD n]
    · split <;> rfl

/-- The number of interleavings of threads of these lengths. -/
def synT (lens : List Nat) : List (List St) := lens.map fun n => List.replicate n ⟨0, 0, [], []⟩
def mulN (lens : List Nat) : Nat := cntB (synT lens) (lens.sum + 1) (List.replicate lens.length 0)
theorem cnt_zero (ths : List (List St)) {n : Nat} (hn : remB ths (List.replicate ths.length 0) < n) : cntB ths n (List.replicate ths.length 0) * ((ths.map List.length).map fct).prod = fct (ths.map List.length).sum := by
  have hp : PosOk ths (List.replicate ths.length 0) := ⟨by simp, fun t l k h1 h2 => by
    rw [List.getElem?_replicate] at h2
    split at h2
    · cases h2; exact Nat.zero_le _
    · cases h2⟩
  have h := cnt_fac n _ hp hn
  have e : ∀ t, leftB ths (List.replicate ths.length 0) t = lenOf ths t := fun t => by simp [leftB, List.getD_eq_getElem?_getD, List.getElem?_replicate]; split <;> simp
  have e1 : (List.range ths.length).map (lenOf ths) = ths.map List.length := by
    apply List.ext_getElem (by simp)
    intro i h1 h2
    have hi : i < ths.length := by simpa using h1
    simp [lenOf, List.getD_eq_getElem?_getD, hi]
  have e2 : facB ths (List.replicate ths.length 0) = ((ths.map List.length).map fct).prod := by
    unfold facB
    rw [← e1, List.map_map]
    congr 1
    exact List.map_congr_left fun t _ => by rw [e]; rfl
  have e3 : remB ths (List.replicate ths.length 0) = (ths.map List.length).sum := by
    rw [rem_left, ← e1]
    congr 1
    exact List.map_congr_left fun t _ => e t
  rwa [e2, e3] at h
theorem mul_spec (lens : List Nat) : mulN lens * (lens.map fct).prod = fct lens.sum := by
  have hl : (synT lens).map List.length = lens := by simp [synT, Function.comp_def]
  have h := cnt_zero (synT lens) (n := lens.sum + 1) (by
    have := rem_left (synT lens) (List.replicate (synT lens).length 0)
    have e1 : (List.range (synT lens).length).map (leftB (synT lens) (List.replicate (synT lens).length 0)) = (synT lens).map List.length := by
      apply List.ext_getElem (by simp)
      intro i h1 h2
      have hi : i < (synT lens).length := by simpa using h1
      simp [leftB, lenOf, List.getD_eq_getElem?_getD, hi]
    rw [this, e1, hl]; omega)
  rw [hl, show (synT lens).length = lens.length by simp [synT]] at h
  exact h
theorem prod_pos (lens : List Nat) : 0 < (lens.map fct).prod := by
  induction lens with
  | nil => exact Nat.one_pos
  | cons x r ih => simp only [List.map_cons, List.prod_cons]; exact Nat.mul_pos (fct_pos x) ih
theorem mul_zero_end (a : List Nat) : mulN (a ++ [0]) = mulN a := by
  have h1 := mul_spec (a ++ [0])
  have h2 := mul_spec a
  simp only [List.map_append, List.map_cons, List.map_nil, List.prod_append, List.prod_cons, List.prod_nil, fct, Nat.mul_one, List.sum_append, List.sum_cons, List.sum_nil, Nat.add_zero] at h1
  exact Nat.eq_of_mul_eq_mul_right (prod_pos a) (h1.trans h2.symm)
/-- One step more of the last thread. -/
theorem mul_step (a : List Nat) (k : Nat) : mulN (a ++ [k]) * ((a ++ [k]).sum + 1) = mulN (a ++ [k + 1]) * (k + 1) := by
  have h1 := mul_spec (a ++ [k])
  have h2 := mul_spec (a ++ [k + 1])
  simp only [List.map_append, List.map_cons, List.map_nil, List.prod_append, List.prod_cons, List.prod_nil, Nat.mul_one, List.sum_append, List.sum_cons, List.sum_nil, Nat.add_zero] at h1 h2 ⊢
  have hP := Nat.mul_pos (prod_pos a) (fct_pos k)
  refine Nat.eq_of_mul_eq_mul_right hP ?_
  rw [fct, show a.sum + (k + 1) = (a.sum + k) + 1 by omega, fct, ← h1] at h2
  calc mulN (a ++ [k]) * (a.sum + k + 1) * ((a.map fct).prod * fct k) = (a.sum + k + 1) * (mulN (a ++ [k]) * ((a.map fct).prod * fct k)) := by rw [Nat.mul_comm (mulN _) (a.sum + k + 1), Nat.mul_assoc]
    _ = mulN (a ++ [k + 1]) * ((a.map fct).prod * ((k + 1) * fct k)) := h2.symm
    _ = mulN (a ++ [k + 1]) * (k + 1) * ((a.map fct).prod * fct k) := by rw [Nat.mul_left_comm (a.map fct).prod, Nat.mul_assoc]
theorem mul_div (a : List Nat) (k : Nat) : mulN (a ++ [k]) * ((a ++ [k]).sum + 1) / (k + 1) = mulN (a ++ [k + 1]) := by
  rw [mul_step]; exact Nat.mul_div_cancel _ (Nat.succ_pos k)
theorem mul_le (lens : List Nat) : mulN lens ≤ fct lens.sum := by
  rw [← mul_spec]; exact Nat.le_mul_of_pos_right _ (prod_pos lens)
theorem fct_mono : ∀ {a b : Nat}, a ≤ b → fct a ≤ fct b := by
  intro a b h
  induction h with
  | refl => exact Nat.le_refl _
  | step _ ih => exact Nat.le_trans ih (Nat.le_mul_of_pos_left _ (Nat.succ_pos _))
theorem mul_small {lens : List Nat} (h : lens.sum ≤ 12) : mulN lens ≤ 479001600 := Nat.le_trans (mul_le lens) (Nat.le_trans (fct_mono h) (by decide))
theorem mul_nil : mulN [] = 1 := by
  have := mul_spec []
  simpa [fct] using this
/-- The number of complete runs of threads. -/
theorem cnt_mul (ths : List (List St)) {n : Nat} (hn : remB ths (List.replicate ths.length 0) < n) : cntB ths n (List.replicate ths.length 0) = mulN (ths.map List.length) :=
  Nat.eq_of_mul_eq_mul_right (prod_pos _) ((cnt_zero ths hn).trans (mul_spec _).symm)
end Go.Proofs.Ytbhkcejjehgfcaa
