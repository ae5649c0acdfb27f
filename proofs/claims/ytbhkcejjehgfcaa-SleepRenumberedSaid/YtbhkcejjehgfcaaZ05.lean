/- Texts Dz, Ea, Eb, Ec, Dc, Dw, Dx. -/
import Derived.Shelf.SlMaps.Clone
import Derived.Ground.SlmcProg
import Derived.Test.YtbhkcejjehgfcaaZ04
/- Valid threads. -/
namespace Go.Proofs.Ytbhkcejjehgfcaa
open Go.RowKit Go.Sort
set_option linter.unusedSimpArgs false
set_option linter.unusedVariables false

def okSt (t i : Nat) (s : St) : Bool := s.g == (t : Int) && (s.c == (i : Int) && (s.gs.length == 1 && s.gs[0]? == some (t : Int)))
def okRow (t : Nat) : List St → Nat → Bool
  | [], _ => true
  | s :: r, i => okSt t i s && okRow t r (i + 1)
def okAll : List (List St) → Nat → Bool
  | [], _ => true
  | l :: r, t => okRow t l 0 && okAll r (t + 1)
def totB (ths : List (List St)) : Nat := (ths.map List.length).sum
def validB (ths : List (List St)) : Bool := decide (1 ≤ ths.length) && (decide (ths.length ≤ 8) && (okAll ths 0 && decide (totB ths ≤ 12)))
theorem tot_drop {ths : List (List St)} {k : Nat} {l : List St} (h : ths[k]? = some l) : totB (ths.take (k + 1)) = totB (ths.take k) + l.length := by
  rw [List.take_add_one, h]
  simp [totB]
set_option maxRecDepth 100000 in
theorem tot_le {ths : List (List St)} (h : ∀ l ∈ ths, l.length ≤ 1000) : ∀ k, totB (ths.take k) ≤ k * 1000
  | 0 => by simp [totB]
  | k + 1 => by
    have ih := tot_le h k
    cases hx : ths[k]? with
    | none => rw [List.take_add_one, hx]; simp; omega
    | some l =>
      rw [tot_drop hx]
      have := h l (List.mem_of_getElem? hx)
      omega
set_option maxHeartbeats 4000000 in
set_option maxRecDepth 100000 in
theorem valid_ok (ths : List (List St)) (hlen : ths.length ≤ 1000000) (hst : ∀ l ∈ ths, l.length ≤ 1000) : PureC Try.prog 12 [.p (thsP ths)] (.bool (validB ths)) := by
  simp only [thsP]
  refine PureC.of Try.func12 rfl 58 rfl (by decide) (by simp [AV.okB]) ?_
  by_cases h1 : ths.length < 1
  · have g1 : decide ((ths.length : Int) < 1) = true := by simp; omega
    have hv : validB ths = false := by simp [validB, show ¬ 1 ≤ ths.length by omega]
    repeat' (first | refine T.seqK fun K hK => ?_ | refine T.block ?_ | (refine T.reg (by kernel_rfl) fun K' hK' => ?_; simp only [startSt, frOf, List.map_cons, List.map_nil]; (repeat' (first | (with_reducible refine WL.fin ?_; refine hK' _ ?_; clear hK' K') | (with_reducible refine WD.fin ?_) | ((first | (with_reducible refine WL.step fun K2 hK2 => ?_) | (with_reducible refine WD.step fun K2 hK2 => ?_)); simp only [WS, WH, WO, WOv, WG, dstOk, hasDst, aop, ASt.ev, aload, aloadC, afield, aindex, abin, abinI, aun, alen, acells, Nat.reduceEqDiff, Nat.reduceLT, Nat.reduceLeDiff, Nat.reduceAdd, reduceIte, reduceCtorEq, implies_true, ASt.add, setHp, asplice, Int.reduceEq, Int.reduceNe, Int.reduceLT, Int.reduceLE, Int.reduceSub, Int.reduceAdd, abuild, afill, abuildS, pureL, chunks, List.range, List.range.loop, Nat.reduceMul, Nat.reduceMod, apartF, apartI, aslice, evI, ASt.subst, AO.box, aval, pvals, ams, tys, mapTy_69, keyed_3, g1]; (repeat' (first | (with_reducible refine hK2 _ ?_; clear hK2 K2) | (with_reducible refine And.intro ?_ ?_) | (with_reducible intro hb) | fail)))))) | refine T.skip ?_ | refine T.exit ?_ | refine T.condT rfl ?_ | refine T.condF rfl ?_ | refine T.cond rfl (fun hc => ?_) (fun hc => ?_) | refine T.ret ?_ | simp only [ThenA, InBlock, reduceIte, Nat.reduceEqDiff] | ((repeat ((fail_if_success (refine hK _ ?_)); clear hK K)); refine hK _ ?_; clear hK K))
    refine FinA.ret (.inr rfl) Try.results12 ?_; simp only [ares, aresL, ares1, WS, WH, WO, WOv, WG, dstOk, hasDst, aop, ASt.ev, aload, aloadC, afield, aindex, abin, abinI, aun, alen, acells, Nat.reduceEqDiff, Nat.reduceLT, Nat.reduceLeDiff, Nat.reduceAdd, reduceIte, reduceCtorEq, implies_true, ASt.add, setHp, asplice, Int.reduceEq, Int.reduceNe, Int.reduceLT, Int.reduceLE, Int.reduceSub, Int.reduceAdd, abuild, afill, abuildS, pureL, chunks, List.range, List.range.loop, Nat.reduceMul, Nat.reduceMod, apartF, apartI, aslice, evI, ASt.subst, AO.box, aval, pvals, ams, tys, mapTy_69, keyed_3, ]
    rw [hv]
  have g1 : decide ((ths.length : Int) < 1) = false := by simp; omega
  by_cases h2 : 8 < ths.length
  · have g2 : decide ((8 : Int) < (ths.length : Int)) = true := by simp; omega
    have hv : validB ths = false := by simp [validB, show ¬ ths.length ≤ 8 by omega]
    repeat' (first | refine T.seqK fun K hK => ?_ | refine T.block ?_ | (refine T.reg (by kernel_rfl) fun K' hK' => ?_; simp only [startSt, frOf, List.map_cons, List.map_nil]; (repeat' (first | (with_reducible refine WL.fin ?_; refine hK' _ ?_; clear hK' K') | (with_reducible refine WD.fin ?_) | ((first | (with_reducible refine WL.step fun K2 hK2 => ?_) | (with_reducible refine WD.step fun K2 hK2 => ?_)); simp only [WS, WH, WO, WOv, WG, dstOk, hasDst, aop, ASt.ev, aload, aloadC, afield, aindex, abin, abinI, aun, alen, acells, Nat.reduceEqDiff, Nat.reduceLT, Nat.reduceLeDiff, Nat.reduceAdd, reduceIte, reduceCtorEq, implies_true, ASt.add, setHp, asplice, Int.reduceEq, Int.reduceNe, Int.reduceLT, Int.reduceLE, Int.reduceSub, Int.reduceAdd, abuild, afill, abuildS, pureL, chunks, List.range, List.range.loop, Nat.reduceMul, Nat.reduceMod, apartF, apartI, aslice, evI, ASt.subst, AO.box, aval, pvals, ams, tys, mapTy_69, keyed_3, g1, g2]; (repeat' (first | (with_reducible refine hK2 _ ?_; clear hK2 K2) | (with_reducible refine And.intro ?_ ?_) | (with_reducible intro hb) | fail)))))) | refine T.skip ?_ | refine T.exit ?_ | refine T.condT rfl ?_ | refine T.condF rfl ?_ | refine T.cond rfl (fun hc => ?_) (fun hc => ?_) | refine T.ret ?_ | simp only [ThenA, InBlock, reduceIte, Nat.reduceEqDiff] | ((repeat ((fail_if_success (refine hK _ ?_)); clear hK K)); refine hK _ ?_; clear hK K))
    refine FinA.ret (.inr rfl) Try.results12 ?_; simp only [ares, aresL, ares1, WS, WH, WO, WOv, WG, dstOk, hasDst, aop, ASt.ev, aload, aloadC, afield, aindex, abin, abinI, aun, alen, acells, Nat.reduceEqDiff, Nat.reduceLT, Nat.reduceLeDiff, Nat.reduceAdd, reduceIte, reduceCtorEq, implies_true, ASt.add, setHp, asplice, Int.reduceEq, Int.reduceNe, Int.reduceLT, Int.reduceLE, Int.reduceSub, Int.reduceAdd, abuild, afill, abuildS, pureL, chunks, List.range, List.range.loop, Nat.reduceMul, Nat.reduceMod, apartF, apartI, aslice, evI, ASt.subst, AO.box, aval, pvals, ams, tys, mapTy_69, keyed_3, ]
    rw [hv]
  have g2 : decide ((8 : Int) < (ths.length : Int)) = false := by simp; omega
  have hv : validB ths = (okAll ths 0 && decide (totB ths ≤ 12)) := by simp [validB, show 1 ≤ ths.length by omega, show ths.length ≤ 8 by omega]
  repeat' (first | refine T.seqK fun K hK => ?_ | refine T.block ?_ | (refine T.reg (by kernel_rfl) fun K' hK' => ?_; simp only [startSt, frOf, List.map_cons, List.map_nil]; (repeat' (first | (with_reducible refine WL.fin ?_; refine hK' _ ?_; clear hK' K') | (with_reducible refine WD.fin ?_) | ((first | (with_reducible refine WL.step fun K2 hK2 => ?_) | (with_reducible refine WD.step fun K2 hK2 => ?_)); simp only [WS, WH, WO, WOv, WG, dstOk, hasDst, aop, ASt.ev, aload, aloadC, afield, aindex, abin, abinI, aun, alen, acells, Nat.reduceEqDiff, Nat.reduceLT, Nat.reduceLeDiff, Nat.reduceAdd, reduceIte, reduceCtorEq, implies_true, ASt.add, setHp, asplice, Int.reduceEq, Int.reduceNe, Int.reduceLT, Int.reduceLE, Int.reduceSub, Int.reduceAdd, abuild, afill, abuildS, pureL, chunks, List.range, List.range.loop, Nat.reduceMul, Nat.reduceMod, apartF, apartI, aslice, evI, ASt.subst, AO.box, aval, pvals, ams, tys, mapTy_69, keyed_3, g1, g2]; (repeat' (first | (with_reducible refine hK2 _ ?_; clear hK2 K2) | (with_reducible refine And.intro ?_ ?_) | (with_reducible intro hb) | fail)))))) | refine T.skip ?_ | refine T.exit ?_ | refine T.condT rfl ?_ | refine T.condF rfl ?_ | refine T.cond rfl (fun hc => ?_) (fun hc => ?_) | refine T.ret ?_ | simp only [ThenA, InBlock, reduceIte, Nat.reduceEqDiff] | ((repeat ((fail_if_success (refine hK _ ?_)); clear hK K)); refine hK _ ?_; clear hK K))
  refine T.loopK (fun k : Nat => ⟨[(2, .bool false), (3, .int (totB (ths.take k))), (16, .p (thsP ths)), (17, .int ths.length), (18, .int k)], [], 58, 0⟩) (fun k => k ≤ ths.length ∧ okAll ths 0 = okAll (ths.drop k) k) (fun k => ths.length - k) 0 ⟨Nat.zero_le _, rfl⟩ (by refine Weak.of' rfl ?_; simp only [wks, reduceIte, Nat.reduceEqDiff, ASt.okB, AV.okB, Nat.reduceLT, implies_true, Int.natCast_zero, totB, List.take_zero, List.map_nil, List.sum_nil, thsP]) ?_
  rintro k ⟨hk, hn⟩ KL hKL
  simp only [thsP]
  by_cases hlt : k < ths.length
  · obtain ⟨l, hx⟩ := at_lt hlt
    have hd : decide ((k : Int) < (ths.length : Int)) = true := by simpa using hlt
    rw [drop_at hx, okAll] at hn
    have hll := hst l (List.mem_of_getElem? hx)
    have htl := tot_le hst k
    have hwt : IntKind.i64.wrap (((totB (ths.take k) : Nat) : Int) + (l.length : Int)) = ((totB (ths.take (k + 1)) : Nat) : Int) := by
      rw [tot_drop hx, wrap_ok (by omega) (by omega)]; omega
    repeat' (first | refine T.seqK fun K hK => ?_ | refine T.block ?_ | (refine T.reg (by kernel_rfl) fun K' hK' => ?_; simp only [startSt, frOf, List.map_cons, List.map_nil]; (repeat' (first | (with_reducible refine WL.fin ?_; refine hK' _ ?_; clear hK' K') | (with_reducible refine WD.fin ?_) | ((first | (with_reducible refine WL.step fun K2 hK2 => ?_) | (with_reducible refine WD.step fun K2 hK2 => ?_)); simp only [WS, WH, WO, WOv, WG, dstOk, hasDst, aop, ASt.ev, aload, aloadC, afield, aindex, abin, abinI, aun, alen, acells, Nat.reduceEqDiff, Nat.reduceLT, Nat.reduceLeDiff, Nat.reduceAdd, reduceIte, reduceCtorEq, implies_true, ASt.add, setHp, asplice, Int.reduceEq, Int.reduceNe, Int.reduceLT, Int.reduceLE, Int.reduceSub, Int.reduceAdd, abuild, afill, abuildS, pureL, chunks, List.range, List.range.loop, Nat.reduceMul, Nat.reduceMod, apartF, apartI, aslice, evI, ASt.subst, AO.box, aval, pvals, ams, tys, mapTy_69, keyed_3, hx, hd, thP, hwt]; (repeat' (first | (with_reducible refine hK2 _ ?_; clear hK2 K2) | (with_reducible refine And.intro ?_ ?_) | (with_reducible intro hb) | fail)))))) | refine T.skip ?_ | refine T.exit ?_ | refine T.condT rfl ?_ | refine T.condF rfl ?_ | refine T.cond rfl (fun hc => ?_) (fun hc => ?_) | refine T.ret ?_ | simp only [ThenA, InBlock, reduceIte, Nat.reduceEqDiff] | ((repeat ((fail_if_success (refine hK _ ?_)); clear hK K)); refine hK _ ?_; clear hK K))
    refine T.loopK (fun i : Nat => ⟨[(2, .bool false), (3, .int (totB (ths.take (k + 1)))), (4, .int k), (16, .p (thsP ths)), (17, .int ths.length), (18, .int k), (27, .p (thP l)), (28, .int l.length), (29, .int i)], [], 58, 0⟩) (fun i => i ≤ l.length ∧ okAll ths 0 = (okRow k (l.drop i) i && okAll (ths.drop (k + 1)) (k + 1))) (fun i => l.length - i) 0 ⟨Nat.zero_le _, hn⟩ (by refine Weak.of' rfl ?_; simp only [wks, reduceIte, Nat.reduceEqDiff, ASt.okB, AV.okB, Nat.reduceLT, implies_true, Int.natCast_zero, thsP, thP]) ?_
    rintro i ⟨hi, hm⟩ KJ hKJ
    simp only [thsP, thP]
    by_cases hil : i < l.length
    · obtain ⟨s, hs⟩ := at_lt hil
      have hd2 : decide ((i : Int) < (l.length : Int)) = true := by simpa using hil
      rw [drop_at hs, okRow] at hm
      have hcont : okSt k i s = true → ∀ s', Weak s' _ → KJ s' := fun h s' hw => hKJ s' (i + 1) hw ⟨by omega, by rw [hm, h, Bool.true_and]⟩ (by omega)
      have hstop : okSt k i s = false → validB ths = false := fun h => by rw [hv, hm, h]; rfl
      by_cases e1 : s.g = (k : Int)
      · by_cases e2 : s.c = (i : Int)
        · by_cases e3 : s.gs.length = 1
          · obtain ⟨x, hx0⟩ := at_lt (l := s.gs) (k := 0) (by omega)
            have f3 : ((s.gs.length : Int) != 1) = false := by simp; omega
            by_cases e4 : x = (k : Int)
            · have f4 : (x != (k : Int)) = false := by simp [e4]
              have hok : okSt k i s = true := by unfold okSt; rw [hx0, e1, e2, e3, e4]; simp
              repeat' (first | refine T.seqK fun K hK => ?_ | refine T.block ?_ | (refine T.reg (by kernel_rfl) fun K' hK' => ?_; simp only [startSt, frOf, List.map_cons, List.map_nil]; (repeat' (first | (with_reducible refine WL.fin ?_; refine hK' _ ?_; clear hK' K') | (with_reducible refine WD.fin ?_) | ((first | (with_reducible refine WL.step fun K2 hK2 => ?_) | (with_reducible refine WD.step fun K2 hK2 => ?_)); simp only [WS, WH, WO, WOv, WG, dstOk, hasDst, aop, ASt.ev, aload, aloadC, afield, aindex, abin, abinI, aun, alen, acells, Nat.reduceEqDiff, Nat.reduceLT, Nat.reduceLeDiff, Nat.reduceAdd, reduceIte, reduceCtorEq, implies_true, ASt.add, setHp, asplice, Int.reduceEq, Int.reduceNe, Int.reduceLT, Int.reduceLE, Int.reduceSub, Int.reduceAdd, abuild, afill, abuildS, pureL, chunks, List.range, List.range.loop, Nat.reduceMul, Nat.reduceMod, apartF, apartI, aslice, evI, ASt.subst, AO.box, aval, pvals, ams, tys, mapTy_69, keyed_3, hs, hd2, stC, gsP, tsP, inC, e1, e2, f3, f4, hx0, scEq, aeqF, beq_self_eq_true, Bool.and_self, Int.reduceToNat, Int.toNat_zero, Int.le_refl]; (repeat' (first | (with_reducible refine hK2 _ ?_; clear hK2 K2) | (with_reducible refine And.intro ?_ ?_) | (with_reducible intro hb) | fail)))))) | refine T.skip ?_ | refine T.exit ?_ | refine T.condT rfl ?_ | refine T.condF rfl ?_ | refine T.cond rfl (fun hc => ?_) (fun hc => ?_) | refine T.ret ?_ | simp only [ThenA, InBlock, reduceIte, Nat.reduceEqDiff] | ((repeat ((fail_if_success (refine hK _ ?_)); clear hK K)); refine hK _ ?_; clear hK K))
              exact hcont hok _ (by refine Weak.of' rfl ?_; simp only [wks, reduceIte, Nat.reduceEqDiff, ASt.okB, AV.okB, Nat.reduceLT, implies_true, wrap_succ (show i < 1152921504606846976 by omega), thsP, thP])
            · have f4 : (x != (k : Int)) = true := by simp [e4]
              have hok : okSt k i s = false := by unfold okSt; rw [hx0, show (some x == some (k : Int)) = false by simpa using e4]; simp only [Bool.and_false]
              repeat' (first | refine T.seqK fun K hK => ?_ | refine T.block ?_ | (refine T.reg (by kernel_rfl) fun K' hK' => ?_; simp only [startSt, frOf, List.map_cons, List.map_nil]; (repeat' (first | (with_reducible refine WL.fin ?_; refine hK' _ ?_; clear hK' K') | (with_reducible refine WD.fin ?_) | ((first | (with_reducible refine WL.step fun K2 hK2 => ?_) | (with_reducible refine WD.step fun K2 hK2 => ?_)); simp only [WS, WH, WO, WOv, WG, dstOk, hasDst, aop, ASt.ev, aload, aloadC, afield, aindex, abin, abinI, aun, alen, acells, Nat.reduceEqDiff, Nat.reduceLT, Nat.reduceLeDiff, Nat.reduceAdd, reduceIte, reduceCtorEq, implies_true, ASt.add, setHp, asplice, Int.reduceEq, Int.reduceNe, Int.reduceLT, Int.reduceLE, Int.reduceSub, Int.reduceAdd, abuild, afill, abuildS, pureL, chunks, List.range, List.range.loop, Nat.reduceMul, Nat.reduceMod, apartF, apartI, aslice, evI, ASt.subst, AO.box, aval, pvals, ams, tys, mapTy_69, keyed_3, hs, hd2, stC, gsP, tsP, inC, e1, e2, f3, f4, hx0, scEq, aeqF, beq_self_eq_true, Bool.and_self, Int.reduceToNat, Int.toNat_zero, Int.le_refl]; (repeat' (first | (with_reducible refine hK2 _ ?_; clear hK2 K2) | (with_reducible refine And.intro ?_ ?_) | (with_reducible intro hb) | fail)))))) | refine T.skip ?_ | refine T.exit ?_ | refine T.condT rfl ?_ | refine T.condF rfl ?_ | refine T.cond rfl (fun hc => ?_) (fun hc => ?_) | refine T.ret ?_ | simp only [ThenA, InBlock, reduceIte, Nat.reduceEqDiff] | ((repeat ((fail_if_success (refine hK _ ?_)); clear hK K)); refine hK _ ?_; clear hK K))
              refine FinA.ret (.inr rfl) Try.results12 ?_; simp only [ares, aresL, ares1, WS, WH, WO, WOv, WG, dstOk, hasDst, aop, ASt.ev, aload, aloadC, afield, aindex, abin, abinI, aun, alen, acells, Nat.reduceEqDiff, Nat.reduceLT, Nat.reduceLeDiff, Nat.reduceAdd, reduceIte, reduceCtorEq, implies_true, ASt.add, setHp, asplice, Int.reduceEq, Int.reduceNe, Int.reduceLT, Int.reduceLE, Int.reduceSub, Int.reduceAdd, abuild, afill, abuildS, pureL, chunks, List.range, List.range.loop, Nat.reduceMul, Nat.reduceMod, apartF, apartI, aslice, evI, ASt.subst, AO.box, aval, pvals, ams, tys, mapTy_69, keyed_3, ]
              rw [hstop hok]
          · have f3 : ((s.gs.length : Int) != 1) = true := by simp; omega
            have hok : okSt k i s = false := by simp [okSt, e3]
            repeat' (first | refine T.seqK fun K hK => ?_ | refine T.block ?_ | (refine T.reg (by kernel_rfl) fun K' hK' => ?_; simp only [startSt, frOf, List.map_cons, List.map_nil]; (repeat' (first | (with_reducible refine WL.fin ?_; refine hK' _ ?_; clear hK' K') | (with_reducible refine WD.fin ?_) | ((first | (with_reducible refine WL.step fun K2 hK2 => ?_) | (with_reducible refine WD.step fun K2 hK2 => ?_)); simp only [WS, WH, WO, WOv, WG, dstOk, hasDst, aop, ASt.ev, aload, aloadC, afield, aindex, abin, abinI, aun, alen, acells, Nat.reduceEqDiff, Nat.reduceLT, Nat.reduceLeDiff, Nat.reduceAdd, reduceIte, reduceCtorEq, implies_true, ASt.add, setHp, asplice, Int.reduceEq, Int.reduceNe, Int.reduceLT, Int.reduceLE, Int.reduceSub, Int.reduceAdd, abuild, afill, abuildS, pureL, chunks, List.range, List.range.loop, Nat.reduceMul, Nat.reduceMod, apartF, apartI, aslice, evI, ASt.subst, AO.box, aval, pvals, ams, tys, mapTy_69, keyed_3, hs, hd2, stC, gsP, tsP, inC, e1, e2, f3, scEq, aeqF, beq_self_eq_true, Bool.and_self]; (repeat' (first | (with_reducible refine hK2 _ ?_; clear hK2 K2) | (with_reducible refine And.intro ?_ ?_) | (with_reducible intro hb) | fail)))))) | refine T.skip ?_ | refine T.exit ?_ | refine T.condT rfl ?_ | refine T.condF rfl ?_ | refine T.cond rfl (fun hc => ?_) (fun hc => ?_) | refine T.ret ?_ | simp only [ThenA, InBlock, reduceIte, Nat.reduceEqDiff] | ((repeat ((fail_if_success (refine hK _ ?_)); clear hK K)); refine hK _ ?_; clear hK K))
            refine FinA.ret (.inr rfl) Try.results12 ?_; simp only [ares, aresL, ares1, WS, WH, WO, WOv, WG, dstOk, hasDst, aop, ASt.ev, aload, aloadC, afield, aindex, abin, abinI, aun, alen, acells, Nat.reduceEqDiff, Nat.reduceLT, Nat.reduceLeDiff, Nat.reduceAdd, reduceIte, reduceCtorEq, implies_true, ASt.add, setHp, asplice, Int.reduceEq, Int.reduceNe, Int.reduceLT, Int.reduceLE, Int.reduceSub, Int.reduceAdd, abuild, afill, abuildS, pureL, chunks, List.range, List.range.loop, Nat.reduceMul, Nat.reduceMod, apartF, apartI, aslice, evI, ASt.subst, AO.box, aval, pvals, ams, tys, mapTy_69, keyed_3, ]
            rw [hstop hok]
        · have f2 : (s.c == (i : Int)) = false := by simp [e2]
          have hok : okSt k i s = false := by simp [okSt, e2]
          repeat' (first | refine T.seqK fun K hK => ?_ | refine T.block ?_ | (refine T.reg (by kernel_rfl) fun K' hK' => ?_; simp only [startSt, frOf, List.map_cons, List.map_nil]; (repeat' (first | (with_reducible refine WL.fin ?_; refine hK' _ ?_; clear hK' K') | (with_reducible refine WD.fin ?_) | ((first | (with_reducible refine WL.step fun K2 hK2 => ?_) | (with_reducible refine WD.step fun K2 hK2 => ?_)); simp only [WS, WH, WO, WOv, WG, dstOk, hasDst, aop, ASt.ev, aload, aloadC, afield, aindex, abin, abinI, aun, alen, acells, Nat.reduceEqDiff, Nat.reduceLT, Nat.reduceLeDiff, Nat.reduceAdd, reduceIte, reduceCtorEq, implies_true, ASt.add, setHp, asplice, Int.reduceEq, Int.reduceNe, Int.reduceLT, Int.reduceLE, Int.reduceSub, Int.reduceAdd, abuild, afill, abuildS, pureL, chunks, List.range, List.range.loop, Nat.reduceMul, Nat.reduceMod, apartF, apartI, aslice, evI, ASt.subst, AO.box, aval, pvals, ams, tys, mapTy_69, keyed_3, hs, hd2, stC, gsP, tsP, inC, e1, f2, scEq, aeqF, beq_self_eq_true, Bool.and_self, Bool.and_true, Bool.and_false]; (repeat' (first | (with_reducible refine hK2 _ ?_; clear hK2 K2) | (with_reducible refine And.intro ?_ ?_) | (with_reducible intro hb) | fail)))))) | refine T.skip ?_ | refine T.exit ?_ | refine T.condT rfl ?_ | refine T.condF rfl ?_ | refine T.cond rfl (fun hc => ?_) (fun hc => ?_) | refine T.ret ?_ | simp only [ThenA, InBlock, reduceIte, Nat.reduceEqDiff] | ((repeat ((fail_if_success (refine hK _ ?_)); clear hK K)); refine hK _ ?_; clear hK K))
          refine FinA.ret (.inr rfl) Try.results12 ?_; simp only [ares, aresL, ares1, WS, WH, WO, WOv, WG, dstOk, hasDst, aop, ASt.ev, aload, aloadC, afield, aindex, abin, abinI, aun, alen, acells, Nat.reduceEqDiff, Nat.reduceLT, Nat.reduceLeDiff, Nat.reduceAdd, reduceIte, reduceCtorEq, implies_true, ASt.add, setHp, asplice, Int.reduceEq, Int.reduceNe, Int.reduceLT, Int.reduceLE, Int.reduceSub, Int.reduceAdd, abuild, afill, abuildS, pureL, chunks, List.range, List.range.loop, Nat.reduceMul, Nat.reduceMod, apartF, apartI, aslice, evI, ASt.subst, AO.box, aval, pvals, ams, tys, mapTy_69, keyed_3, ]
          rw [hstop hok]
      · have f1 : (s.g == (k : Int)) = false := by simp [e1]
        have hok : okSt k i s = false := by simp [okSt, e1]
        repeat' (first | refine T.seqK fun K hK => ?_ | refine T.block ?_ | (refine T.reg (by kernel_rfl) fun K' hK' => ?_; simp only [startSt, frOf, List.map_cons, List.map_nil]; (repeat' (first | (with_reducible refine WL.fin ?_; refine hK' _ ?_; clear hK' K') | (with_reducible refine WD.fin ?_) | ((first | (with_reducible refine WL.step fun K2 hK2 => ?_) | (with_reducible refine WD.step fun K2 hK2 => ?_)); simp only [WS, WH, WO, WOv, WG, dstOk, hasDst, aop, ASt.ev, aload, aloadC, afield, aindex, abin, abinI, aun, alen, acells, Nat.reduceEqDiff, Nat.reduceLT, Nat.reduceLeDiff, Nat.reduceAdd, reduceIte, reduceCtorEq, implies_true, ASt.add, setHp, asplice, Int.reduceEq, Int.reduceNe, Int.reduceLT, Int.reduceLE, Int.reduceSub, Int.reduceAdd, abuild, afill, abuildS, pureL, chunks, List.range, List.range.loop, Nat.reduceMul, Nat.reduceMod, apartF, apartI, aslice, evI, ASt.subst, AO.box, aval, pvals, ams, tys, mapTy_69, keyed_3, hs, hd2, stC, gsP, tsP, inC, f1, scEq, aeqF, Bool.and_self, Bool.false_and]; (repeat' (first | (with_reducible refine hK2 _ ?_; clear hK2 K2) | (with_reducible refine And.intro ?_ ?_) | (with_reducible intro hb) | fail)))))) | refine T.skip ?_ | refine T.exit ?_ | refine T.condT rfl ?_ | refine T.condF rfl ?_ | refine T.cond rfl (fun hc => ?_) (fun hc => ?_) | refine T.ret ?_ | simp only [ThenA, InBlock, reduceIte, Nat.reduceEqDiff] | ((repeat ((fail_if_success (refine hK _ ?_)); clear hK K)); refine hK _ ?_; clear hK K))
        refine FinA.ret (.inr rfl) Try.results12 ?_; simp only [ares, aresL, ares1, WS, WH, WO, WOv, WG, dstOk, hasDst, aop, ASt.ev, aload, aloadC, afield, aindex, abin, abinI, aun, alen, acells, Nat.reduceEqDiff, Nat.reduceLT, Nat.reduceLeDiff, Nat.reduceAdd, reduceIte, reduceCtorEq, implies_true, ASt.add, setHp, asplice, Int.reduceEq, Int.reduceNe, Int.reduceLT, Int.reduceLE, Int.reduceSub, Int.reduceAdd, abuild, afill, abuildS, pureL, chunks, List.range, List.range.loop, Nat.reduceMul, Nat.reduceMod, apartF, apartI, aslice, evI, ASt.subst, AO.box, aval, pvals, ams, tys, mapTy_69, keyed_3, ]
        rw [hstop hok]
    · have hd2 : decide ((i : Int) < (l.length : Int)) = false := by simpa using hil
      rw [drop_end hil, okRow, Bool.true_and] at hm
      clear hKJ
      repeat' (first | refine T.seqK fun K hK => ?_ | refine T.block ?_ | (refine T.reg (by kernel_rfl) fun K' hK' => ?_; simp only [startSt, frOf, List.map_cons, List.map_nil]; (repeat' (first | (with_reducible refine WL.fin ?_; refine hK' _ ?_; clear hK' K') | (with_reducible refine WD.fin ?_) | ((first | (with_reducible refine WL.step fun K2 hK2 => ?_) | (with_reducible refine WD.step fun K2 hK2 => ?_)); simp only [WS, WH, WO, WOv, WG, dstOk, hasDst, aop, ASt.ev, aload, aloadC, afield, aindex, abin, abinI, aun, alen, acells, Nat.reduceEqDiff, Nat.reduceLT, Nat.reduceLeDiff, Nat.reduceAdd, reduceIte, reduceCtorEq, implies_true, ASt.add, setHp, asplice, Int.reduceEq, Int.reduceNe, Int.reduceLT, Int.reduceLE, Int.reduceSub, Int.reduceAdd, abuild, afill, abuildS, pureL, chunks, List.range, List.range.loop, Nat.reduceMul, Nat.reduceMod, apartF, apartI, aslice, evI, ASt.subst, AO.box, aval, pvals, ams, tys, mapTy_69, keyed_3, hd2]; (repeat' (first | (with_reducible refine hK2 _ ?_; clear hK2 K2) | (with_reducible refine And.intro ?_ ?_) | (with_reducible intro hb) | fail)))))) | refine T.skip ?_ | refine T.exit ?_ | refine T.condT rfl ?_ | refine T.condF rfl ?_ | refine T.cond rfl (fun hc => ?_) (fun hc => ?_) | refine T.ret ?_ | simp only [ThenA, InBlock, reduceIte, Nat.reduceEqDiff] | ((repeat ((fail_if_success (refine hK _ ?_)); clear hK K)); refine hK _ ?_; clear hK K))
      exact hKL _ (k + 1) (by refine Weak.of' rfl ?_; simp only [wks, reduceIte, Nat.reduceEqDiff, ASt.okB, AV.okB, Nat.reduceLT, implies_true, wrap_succ (show k < 1152921504606846976 by omega), thsP, thP]) ⟨by omega, hm⟩ (by omega)
  · have hd : decide ((k : Int) < (ths.length : Int)) = false := by simpa using hlt
    obtain rfl : k = ths.length := by omega
    rw [drop_end (by simp), okAll] at hn
    rw [List.take_length]
    have hle : decide ((totB ths : Int) ≤ 12) = decide (totB ths ≤ 12) := by simp; omega
    repeat' (first | refine T.seqK fun K hK => ?_ | refine T.block ?_ | (refine T.reg (by kernel_rfl) fun K' hK' => ?_; simp only [startSt, frOf, List.map_cons, List.map_nil]; (repeat' (first | (with_reducible refine WL.fin ?_; refine hK' _ ?_; clear hK' K') | (with_reducible refine WD.fin ?_) | ((first | (with_reducible refine WL.step fun K2 hK2 => ?_) | (with_reducible refine WD.step fun K2 hK2 => ?_)); simp only [WS, WH, WO, WOv, WG, dstOk, hasDst, aop, ASt.ev, aload, aloadC, afield, aindex, abin, abinI, aun, alen, acells, Nat.reduceEqDiff, Nat.reduceLT, Nat.reduceLeDiff, Nat.reduceAdd, reduceIte, reduceCtorEq, implies_true, ASt.add, setHp, asplice, Int.reduceEq, Int.reduceNe, Int.reduceLT, Int.reduceLE, Int.reduceSub, Int.reduceAdd, abuild, afill, abuildS, pureL, chunks, List.range, List.range.loop, Nat.reduceMul, Nat.reduceMod, apartF, apartI, aslice, evI, ASt.subst, AO.box, aval, pvals, ams, tys, mapTy_69, keyed_3, hd]; (repeat' (first | (with_reducible refine hK2 _ ?_; clear hK2 K2) | (with_reducible refine And.intro ?_ ?_) | (with_reducible intro hb) | fail)))))) | refine T.skip ?_ | refine T.exit ?_ | refine T.condT rfl ?_ | refine T.condF rfl ?_ | refine T.cond rfl (fun hc => ?_) (fun hc => ?_) | refine T.ret ?_ | simp only [ThenA, InBlock, reduceIte, Nat.reduceEqDiff] | ((repeat ((fail_if_success (refine hK _ ?_)); clear hK K)); refine hK _ ?_; clear hK K))
    refine FinA.ret (.inr rfl) Try.results12 ?_; simp only [ares, aresL, ares1, WS, WH, WO, WOv, WG, dstOk, hasDst, aop, ASt.ev, aload, aloadC, afield, aindex, abin, abinI, aun, alen, acells, Nat.reduceEqDiff, Nat.reduceLT, Nat.reduceLeDiff, Nat.reduceAdd, reduceIte, reduceCtorEq, implies_true, ASt.add, setHp, asplice, Int.reduceEq, Int.reduceNe, Int.reduceLT, Int.reduceLE, Int.reduceSub, Int.reduceAdd, abuild, afill, abuildS, pureL, chunks, List.range, List.range.loop, Nat.reduceMul, Nat.reduceMod, apartF, apartI, aslice, evI, ASt.subst, AO.box, aval, pvals, ams, tys, mapTy_69, keyed_3, ]
    rw [hv, hn, Bool.true_and, hle]
end Go.Proofs.Ytbhkcejjehgfcaa
/- Comparing numbers; the reference's Few and Valid; a single access. -/
namespace Go.Proofs.Ytbhkcejjehgfcaa
open Go.RowKit Go.Sort
set_option linter.unusedSimpArgs false
set_option linter.unusedVariables false

def cmpI (a b : Int) : Int := if a < b then -1 else if b < a then 1 else 0
def orI : List Int → Int
  | [] => 0
  | x :: r => if x = 0 then orI r else x
set_option maxHeartbeats 4000000 in
theorem isNaN_ok (a : Int) : PureC Try.prog 41 [.int a] (.bool false) := by
  refine PureC.of Try.func41 rfl 6 rfl (by decide) (by simp [AV.okB]) ?_
  repeat' (first | refine T.seqK fun K hK => ?_ | refine T.block ?_ | (refine T.reg (by kernel_rfl) fun K' hK' => ?_; simp only [startSt, frOf, List.map_cons, List.map_nil]; (repeat' (first | (with_reducible refine WL.fin ?_; refine hK' _ ?_; clear hK' K') | (with_reducible refine WD.fin ?_) | ((first | (with_reducible refine WL.step fun K2 hK2 => ?_) | (with_reducible refine WD.step fun K2 hK2 => ?_)); simp only [WS, WH, WO, WOv, WG, dstOk, hasDst, aop, ASt.ev, aload, aloadC, afield, aindex, abin, abinI, aun, alen, acells, Nat.reduceEqDiff, Nat.reduceLT, Nat.reduceLeDiff, Nat.reduceAdd, reduceIte, reduceCtorEq, implies_true, ASt.add, setHp, asplice, Int.reduceEq, Int.reduceNe, Int.reduceLT, Int.reduceLE, Int.reduceSub, Int.reduceAdd, abuild, afill, abuildS, pureL, chunks, List.range, List.range.loop, Nat.reduceMul, Nat.reduceMod, apartF, apartI, aslice, evI, ASt.subst, AO.box, aval, pvals, ams, tys, mapTy_69, keyed_3, bne_self_eq_false]; (repeat' (first | (with_reducible refine hK2 _ ?_; clear hK2 K2) | (with_reducible refine And.intro ?_ ?_) | (with_reducible intro hb) | fail)))))) | refine T.skip ?_ | refine T.exit ?_ | refine T.condT rfl ?_ | refine T.condF rfl ?_ | refine T.cond rfl (fun hc => ?_) (fun hc => ?_) | refine T.ret ?_ | simp only [ThenA, InBlock, reduceIte, Nat.reduceEqDiff] | ((repeat ((fail_if_success (refine hK _ ?_)); clear hK K)); refine hK _ ?_; clear hK K))
  refine FinA.ret (.inr rfl) Try.results41 ?_; simp only [ares, aresL, ares1, WS, WH, WO, WOv, WG, dstOk, hasDst, aop, ASt.ev, aload, aloadC, afield, aindex, abin, abinI, aun, alen, acells, Nat.reduceEqDiff, Nat.reduceLT, Nat.reduceLeDiff, Nat.reduceAdd, reduceIte, reduceCtorEq, implies_true, ASt.add, setHp, asplice, Int.reduceEq, Int.reduceNe, Int.reduceLT, Int.reduceLE, Int.reduceSub, Int.reduceAdd, abuild, afill, abuildS, pureL, chunks, List.range, List.range.loop, Nat.reduceMul, Nat.reduceMod, apartF, apartI, aslice, evI, ASt.subst, AO.box, aval, pvals, ams, tys, mapTy_69, keyed_3, ]
set_option maxHeartbeats 4000000 in
theorem compare_ok (a b : Int) : PureC Try.prog 30 [.int a, .int b] (.int (cmpI a b)) := by
  refine PureC.of Try.func30 rfl 20 rfl (by decide) (by simp [AV.okB]) ?_
  by_cases h1 : a < b
  · have g1 : decide (a < b) = true := by simpa using h1
    repeat' (first | refine T.seqK fun K hK => ?_ | refine T.block ?_ | (refine T.reg (by kernel_rfl) fun K' hK' => ?_; simp only [startSt, frOf, List.map_cons, List.map_nil]; (repeat' (first | (with_reducible refine WL.fin ?_; refine hK' _ ?_; clear hK' K') | (with_reducible refine WD.fin ?_) | ((first | (with_reducible refine WL.step fun K2 hK2 => ?_) | (with_reducible refine WD.step fun K2 hK2 => ?_)); simp only [WS, WH, WO, WOv, WG, dstOk, hasDst, aop, ASt.ev, aload, aloadC, afield, aindex, abin, abinI, aun, alen, acells, Nat.reduceEqDiff, Nat.reduceLT, Nat.reduceLeDiff, Nat.reduceAdd, reduceIte, reduceCtorEq, implies_true, ASt.add, setHp, asplice, Int.reduceEq, Int.reduceNe, Int.reduceLT, Int.reduceLE, Int.reduceSub, Int.reduceAdd, abuild, afill, abuildS, pureL, chunks, List.range, List.range.loop, Nat.reduceMul, Nat.reduceMod, apartF, apartI, aslice, evI, ASt.subst, AO.box, aval, pvals, ams, tys, mapTy_69, keyed_3, g1]; (repeat' (first | (with_reducible refine hK2 _ ?_; clear hK2 K2) | (with_reducible refine And.intro ?_ ?_) | (with_reducible intro hb) | ((first | (with_reducible apply callArmO) | (with_reducible apply callArm)); case h => exact CallV.plain (Ent.of Try.func41 (by kernel_rfl) rfl) (isNaN_ok _) (by simp [AV.okB])))))))) | refine T.skip ?_ | refine T.exit ?_ | refine T.condT rfl ?_ | refine T.condF rfl ?_ | refine T.cond rfl (fun hc => ?_) (fun hc => ?_) | refine T.ret ?_ | simp only [ThenA, InBlock, reduceIte, Nat.reduceEqDiff] | ((repeat ((fail_if_success (refine hK _ ?_)); clear hK K)); refine hK _ ?_; clear hK K))
    refine FinA.ret (.inr rfl) Try.results30 ?_; simp only [ares, aresL, ares1, WS, WH, WO, WOv, WG, dstOk, hasDst, aop, ASt.ev, aload, aloadC, afield, aindex, abin, abinI, aun, alen, acells, Nat.reduceEqDiff, Nat.reduceLT, Nat.reduceLeDiff, Nat.reduceAdd, reduceIte, reduceCtorEq, implies_true, ASt.add, setHp, asplice, Int.reduceEq, Int.reduceNe, Int.reduceLT, Int.reduceLE, Int.reduceSub, Int.reduceAdd, abuild, afill, abuildS, pureL, chunks, List.range, List.range.loop, Nat.reduceMul, Nat.reduceMod, apartF, apartI, aslice, evI, ASt.subst, AO.box, aval, pvals, ams, tys, mapTy_69, keyed_3, ]
    rw [cmpI, if_pos h1]
  · have g1 : decide (a < b) = false := by simpa using h1
    by_cases h2 : b < a
    · have g2 : decide (b < a) = true := by simpa using h2
      repeat' (first | refine T.seqK fun K hK => ?_ | refine T.block ?_ | (refine T.reg (by kernel_rfl) fun K' hK' => ?_; simp only [startSt, frOf, List.map_cons, List.map_nil]; (repeat' (first | (with_reducible refine WL.fin ?_; refine hK' _ ?_; clear hK' K') | (with_reducible refine WD.fin ?_) | ((first | (with_reducible refine WL.step fun K2 hK2 => ?_) | (with_reducible refine WD.step fun K2 hK2 => ?_)); simp only [WS, WH, WO, WOv, WG, dstOk, hasDst, aop, ASt.ev, aload, aloadC, afield, aindex, abin, abinI, aun, alen, acells, Nat.reduceEqDiff, Nat.reduceLT, Nat.reduceLeDiff, Nat.reduceAdd, reduceIte, reduceCtorEq, implies_true, ASt.add, setHp, asplice, Int.reduceEq, Int.reduceNe, Int.reduceLT, Int.reduceLE, Int.reduceSub, Int.reduceAdd, abuild, afill, abuildS, pureL, chunks, List.range, List.range.loop, Nat.reduceMul, Nat.reduceMod, apartF, apartI, aslice, evI, ASt.subst, AO.box, aval, pvals, ams, tys, mapTy_69, keyed_3, g1, g2]; (repeat' (first | (with_reducible refine hK2 _ ?_; clear hK2 K2) | (with_reducible refine And.intro ?_ ?_) | (with_reducible intro hb) | ((first | (with_reducible apply callArmO) | (with_reducible apply callArm)); case h => exact CallV.plain (Ent.of Try.func41 (by kernel_rfl) rfl) (isNaN_ok _) (by simp [AV.okB])))))))) | refine T.skip ?_ | refine T.exit ?_ | refine T.condT rfl ?_ | refine T.condF rfl ?_ | refine T.cond rfl (fun hc => ?_) (fun hc => ?_) | refine T.ret ?_ | simp only [ThenA, InBlock, reduceIte, Nat.reduceEqDiff] | ((repeat ((fail_if_success (refine hK _ ?_)); clear hK K)); refine hK _ ?_; clear hK K))
      refine FinA.ret (.inr rfl) Try.results30 ?_; simp only [ares, aresL, ares1, WS, WH, WO, WOv, WG, dstOk, hasDst, aop, ASt.ev, aload, aloadC, afield, aindex, abin, abinI, aun, alen, acells, Nat.reduceEqDiff, Nat.reduceLT, Nat.reduceLeDiff, Nat.reduceAdd, reduceIte, reduceCtorEq, implies_true, ASt.add, setHp, asplice, Int.reduceEq, Int.reduceNe, Int.reduceLT, Int.reduceLE, Int.reduceSub, Int.reduceAdd, abuild, afill, abuildS, pureL, chunks, List.range, List.range.loop, Nat.reduceMul, Nat.reduceMod, apartF, apartI, aslice, evI, ASt.subst, AO.box, aval, pvals, ams, tys, mapTy_69, keyed_3, ]
      rw [cmpI, if_neg h1, if_pos h2]
    · have g2 : decide (b < a) = false := by simpa using h2
      repeat' (first | refine T.seqK fun K hK => ?_ | refine T.block ?_ | (refine T.reg (by kernel_rfl) fun K' hK' => ?_; simp only [startSt, frOf, List.map_cons, List.map_nil]; (repeat' (first | (with_reducible refine WL.fin ?_; refine hK' _ ?_; clear hK' K') | (with_reducible refine WD.fin ?_) | ((first | (with_reducible refine WL.step fun K2 hK2 => ?_) | (with_reducible refine WD.step fun K2 hK2 => ?_)); simp only [WS, WH, WO, WOv, WG, dstOk, hasDst, aop, ASt.ev, aload, aloadC, afield, aindex, abin, abinI, aun, alen, acells, Nat.reduceEqDiff, Nat.reduceLT, Nat.reduceLeDiff, Nat.reduceAdd, reduceIte, reduceCtorEq, implies_true, ASt.add, setHp, asplice, Int.reduceEq, Int.reduceNe, Int.reduceLT, Int.reduceLE, Int.reduceSub, Int.reduceAdd, abuild, afill, abuildS, pureL, chunks, List.range, List.range.loop, Nat.reduceMul, Nat.reduceMod, apartF, apartI, aslice, evI, ASt.subst, AO.box, aval, pvals, ams, tys, mapTy_69, keyed_3, g1, g2]; (repeat' (first | (with_reducible refine hK2 _ ?_; clear hK2 K2) | (with_reducible refine And.intro ?_ ?_) | (with_reducible intro hb) | ((first | (with_reducible apply callArmO) | (with_reducible apply callArm)); case h => exact CallV.plain (Ent.of Try.func41 (by kernel_rfl) rfl) (isNaN_ok _) (by simp [AV.okB])))))))) | refine T.skip ?_ | refine T.exit ?_ | refine T.condT rfl ?_ | refine T.condF rfl ?_ | refine T.cond rfl (fun hc => ?_) (fun hc => ?_) | refine T.ret ?_ | simp only [ThenA, InBlock, reduceIte, Nat.reduceEqDiff] | ((repeat ((fail_if_success (refine hK _ ?_)); clear hK K)); refine hK _ ?_; clear hK K))
      refine FinA.ret (.inr rfl) Try.results30 ?_; simp only [ares, aresL, ares1, WS, WH, WO, WOv, WG, dstOk, hasDst, aop, ASt.ev, aload, aloadC, afield, aindex, abin, abinI, aun, alen, acells, Nat.reduceEqDiff, Nat.reduceLT, Nat.reduceLeDiff, Nat.reduceAdd, reduceIte, reduceCtorEq, implies_true, ASt.add, setHp, asplice, Int.reduceEq, Int.reduceNe, Int.reduceLT, Int.reduceLE, Int.reduceSub, Int.reduceAdd, abuild, afill, abuildS, pureL, chunks, List.range, List.range.loop, Nat.reduceMul, Nat.reduceMod, apartF, apartI, aslice, evI, ASt.subst, AO.box, aval, pvals, ams, tys, mapTy_69, keyed_3, ]
      rw [cmpI, if_neg h1, if_neg h2]
set_option maxHeartbeats 4000000 in
theorem or_ok (l : List Int) (hl : l.length ≤ 1000000) : PureC Try.prog 29 [.p (gsP l)] (.int (orI l)) := by
  simp only [gsP]
  refine PureC.of Try.func29 rfl 18 rfl (by decide) (by simp [AV.okB]) ?_
  repeat' (first | refine T.seqK fun K hK => ?_ | refine T.block ?_ | (refine T.reg (by kernel_rfl) fun K' hK' => ?_; simp only [startSt, frOf, List.map_cons, List.map_nil]; (repeat' (first | (with_reducible refine WL.fin ?_; refine hK' _ ?_; clear hK' K') | (with_reducible refine WD.fin ?_) | ((first | (with_reducible refine WL.step fun K2 hK2 => ?_) | (with_reducible refine WD.step fun K2 hK2 => ?_)); simp only [WS, WH, WO, WOv, WG, dstOk, hasDst, aop, ASt.ev, aload, aloadC, afield, aindex, abin, abinI, aun, alen, acells, Nat.reduceEqDiff, Nat.reduceLT, Nat.reduceLeDiff, Nat.reduceAdd, reduceIte, reduceCtorEq, implies_true, ASt.add, setHp, asplice, Int.reduceEq, Int.reduceNe, Int.reduceLT, Int.reduceLE, Int.reduceSub, Int.reduceAdd, abuild, afill, abuildS, pureL, chunks, List.range, List.range.loop, Nat.reduceMul, Nat.reduceMod, apartF, apartI, aslice, evI, ASt.subst, AO.box, aval, pvals, ams, tys, mapTy_69, keyed_3]; (repeat' (first | (with_reducible refine hK2 _ ?_; clear hK2 K2) | (with_reducible refine And.intro ?_ ?_) | (with_reducible intro hb) | fail)))))) | refine T.skip ?_ | refine T.exit ?_ | refine T.condT rfl ?_ | refine T.condF rfl ?_ | refine T.cond rfl (fun hc => ?_) (fun hc => ?_) | refine T.ret ?_ | simp only [ThenA, InBlock, reduceIte, Nat.reduceEqDiff] | ((repeat ((fail_if_success (refine hK _ ?_)); clear hK K)); refine hK _ ?_; clear hK K))
  refine T.loopK (fun k : Nat => ⟨[(3, .int 0), (6, .p (gsP l)), (7, .int l.length), (8, .int k)], [], 18, 0⟩) (fun k => k ≤ l.length ∧ orI l = orI (l.drop k)) (fun k => l.length - k) 0 ⟨Nat.zero_le _, rfl⟩ (by refine Weak.of' rfl ?_; simp only [wks, reduceIte, Nat.reduceEqDiff, ASt.okB, AV.okB, Nat.reduceLT, implies_true, Int.natCast_zero, gsP]) ?_
  rintro k ⟨hk, hn⟩ KL hKL
  simp only [gsP]
  by_cases hlt : k < l.length
  · obtain ⟨y, hy⟩ := at_lt hlt
    have hd : decide ((k : Int) < (l.length : Int)) = true := by simpa using hlt
    rw [drop_at hy, orI] at hn
    by_cases h0 : y = 0
    · have g0 : (y != 0) = false := by simpa using h0
      repeat' (first | refine T.seqK fun K hK => ?_ | refine T.block ?_ | (refine T.reg (by kernel_rfl) fun K' hK' => ?_; simp only [startSt, frOf, List.map_cons, List.map_nil]; (repeat' (first | (with_reducible refine WL.fin ?_; refine hK' _ ?_; clear hK' K') | (with_reducible refine WD.fin ?_) | ((first | (with_reducible refine WL.step fun K2 hK2 => ?_) | (with_reducible refine WD.step fun K2 hK2 => ?_)); simp only [WS, WH, WO, WOv, WG, dstOk, hasDst, aop, ASt.ev, aload, aloadC, afield, aindex, abin, abinI, aun, alen, acells, Nat.reduceEqDiff, Nat.reduceLT, Nat.reduceLeDiff, Nat.reduceAdd, reduceIte, reduceCtorEq, implies_true, ASt.add, setHp, asplice, Int.reduceEq, Int.reduceNe, Int.reduceLT, Int.reduceLE, Int.reduceSub, Int.reduceAdd, abuild, afill, abuildS, pureL, chunks, List.range, List.range.loop, Nat.reduceMul, Nat.reduceMod, apartF, apartI, aslice, evI, ASt.subst, AO.box, aval, pvals, ams, tys, mapTy_69, keyed_3, hy, hd, inC, g0]; (repeat' (first | (with_reducible refine hK2 _ ?_; clear hK2 K2) | (with_reducible refine And.intro ?_ ?_) | (with_reducible intro hb) | fail)))))) | refine T.skip ?_ | refine T.exit ?_ | refine T.condT rfl ?_ | refine T.condF rfl ?_ | refine T.cond rfl (fun hc => ?_) (fun hc => ?_) | refine T.ret ?_ | simp only [ThenA, InBlock, reduceIte, Nat.reduceEqDiff] | ((repeat ((fail_if_success (refine hK _ ?_)); clear hK K)); refine hK _ ?_; clear hK K))
      refine hKL _ (k + 1) (by refine Weak.of' rfl ?_; simp only [wks, reduceIte, Nat.reduceEqDiff, ASt.okB, AV.okB, Nat.reduceLT, implies_true, wrap_succ (show k < 1152921504606846976 by omega), gsP]) ⟨by omega, ?_⟩ (by omega)
      rw [hn, if_pos h0]
    · have g0 : (y != 0) = true := by simpa using h0
      repeat' (first | refine T.seqK fun K hK => ?_ | refine T.block ?_ | (refine T.reg (by kernel_rfl) fun K' hK' => ?_; simp only [startSt, frOf, List.map_cons, List.map_nil]; (repeat' (first | (with_reducible refine WL.fin ?_; refine hK' _ ?_; clear hK' K') | (with_reducible refine WD.fin ?_) | ((first | (with_reducible refine WL.step fun K2 hK2 => ?_) | (with_reducible refine WD.step fun K2 hK2 => ?_)); simp only [WS, WH, WO, WOv, WG, dstOk, hasDst, aop, ASt.ev, aload, aloadC, afield, aindex, abin, abinI, aun, alen, acells, Nat.reduceEqDiff, Nat.reduceLT, Nat.reduceLeDiff, Nat.reduceAdd, reduceIte, reduceCtorEq, implies_true, ASt.add, setHp, asplice, Int.reduceEq, Int.reduceNe, Int.reduceLT, Int.reduceLE, Int.reduceSub, Int.reduceAdd, abuild, afill, abuildS, pureL, chunks, List.range, List.range.loop, Nat.reduceMul, Nat.reduceMod, apartF, apartI, aslice, evI, ASt.subst, AO.box, aval, pvals, ams, tys, mapTy_69, keyed_3, hy, hd, inC, g0]; (repeat' (first | (with_reducible refine hK2 _ ?_; clear hK2 K2) | (with_reducible refine And.intro ?_ ?_) | (with_reducible intro hb) | fail)))))) | refine T.skip ?_ | refine T.exit ?_ | refine T.condT rfl ?_ | refine T.condF rfl ?_ | refine T.cond rfl (fun hc => ?_) (fun hc => ?_) | refine T.ret ?_ | simp only [ThenA, InBlock, reduceIte, Nat.reduceEqDiff] | ((repeat ((fail_if_success (refine hK _ ?_)); clear hK K)); refine hK _ ?_; clear hK K))
      refine FinA.ret (.inr rfl) Try.results29 ?_; simp only [ares, aresL, ares1, WS, WH, WO, WOv, WG, dstOk, hasDst, aop, ASt.ev, aload, aloadC, afield, aindex, abin, abinI, aun, alen, acells, Nat.reduceEqDiff, Nat.reduceLT, Nat.reduceLeDiff, Nat.reduceAdd, reduceIte, reduceCtorEq, implies_true, ASt.add, setHp, asplice, Int.reduceEq, Int.reduceNe, Int.reduceLT, Int.reduceLE, Int.reduceSub, Int.reduceAdd, abuild, afill, abuildS, pureL, chunks, List.range, List.range.loop, Nat.reduceMul, Nat.reduceMod, apartF, apartI, aslice, evI, ASt.subst, AO.box, aval, pvals, ams, tys, mapTy_69, keyed_3, ]
      rw [hn, if_neg h0]
  · have hd : decide ((k : Int) < (l.length : Int)) = false := by simpa using hlt
    rw [drop_end hlt, orI] at hn
    repeat' (first | refine T.seqK fun K hK => ?_ | refine T.block ?_ | (refine T.reg (by kernel_rfl) fun K' hK' => ?_; simp only [startSt, frOf, List.map_cons, List.map_nil]; (repeat' (first | (with_reducible refine WL.fin ?_; refine hK' _ ?_; clear hK' K') | (with_reducible refine WD.fin ?_) | ((first | (with_reducible refine WL.step fun K2 hK2 => ?_) | (with_reducible refine WD.step fun K2 hK2 => ?_)); simp only [WS, WH, WO, WOv, WG, dstOk, hasDst, aop, ASt.ev, aload, aloadC, afield, aindex, abin, abinI, aun, alen, acells, Nat.reduceEqDiff, Nat.reduceLT, Nat.reduceLeDiff, Nat.reduceAdd, reduceIte, reduceCtorEq, implies_true, ASt.add, setHp, asplice, Int.reduceEq, Int.reduceNe, Int.reduceLT, Int.reduceLE, Int.reduceSub, Int.reduceAdd, abuild, afill, abuildS, pureL, chunks, List.range, List.range.loop, Nat.reduceMul, Nat.reduceMod, apartF, apartI, aslice, evI, ASt.subst, AO.box, aval, pvals, ams, tys, mapTy_69, keyed_3, hd]; (repeat' (first | (with_reducible refine hK2 _ ?_; clear hK2 K2) | (with_reducible refine And.intro ?_ ?_) | (with_reducible intro hb) | fail)))))) | refine T.skip ?_ | refine T.exit ?_ | refine T.condT rfl ?_ | refine T.condF rfl ?_ | refine T.cond rfl (fun hc => ?_) (fun hc => ?_) | refine T.ret ?_ | simp only [ThenA, InBlock, reduceIte, Nat.reduceEqDiff] | ((repeat ((fail_if_success (refine hK _ ?_)); clear hK K)); refine hK _ ?_; clear hK K))
    refine FinA.ret (.inr rfl) Try.results29 ?_; simp only [ares, aresL, ares1, WS, WH, WO, WOv, WG, dstOk, hasDst, aop, ASt.ev, aload, aloadC, afield, aindex, abin, abinI, aun, alen, acells, Nat.reduceEqDiff, Nat.reduceLT, Nat.reduceLeDiff, Nat.reduceAdd, reduceIte, reduceCtorEq, implies_true, ASt.add, setHp, asplice, Int.reduceEq, Int.reduceNe, Int.reduceLT, Int.reduceLE, Int.reduceSub, Int.reduceAdd, abuild, afill, abuildS, pureL, chunks, List.range, List.range.loop, Nat.reduceMul, Nat.reduceMod, apartF, apartI, aslice, evI, ASt.subst, AO.box, aval, pvals, ams, tys, mapTy_69, keyed_3, ]
    rw [hn]

def fewS (s : St) : Bool := decide (s.gs.length ≤ 8) && decide (s.ts.length ≤ 8)
def fewL (l : List St) : Bool := decide (l.length ≤ 14) && l.all fewS
def fewB (ths : List (List St)) : Bool := decide (ths.length ≤ 10) && ths.all fewL
set_option maxHeartbeats 4000000 in
set_option maxRecDepth 100000 in
theorem few_ok (ths : List (List St)) : PureC Try.prog 10 [.p (thsP ths)] (.bool (fewB ths)) := by
  simp only [thsP]
  refine PureC.of Try.func10 rfl 51 rfl (by decide) (by simp [AV.okB]) ?_
  by_cases h1 : 10 < ths.length
  · have g1 : decide ((10 : Int) < (ths.length : Int)) = true := by simp; omega
    repeat' (first | refine T.seqK fun K hK => ?_ | refine T.block ?_ | (refine T.reg (by kernel_rfl) fun K' hK' => ?_; simp only [startSt, frOf, List.map_cons, List.map_nil]; (repeat' (first | (with_reducible refine WL.fin ?_; refine hK' _ ?_; clear hK' K') | (with_reducible refine WD.fin ?_) | ((first | (with_reducible refine WL.step fun K2 hK2 => ?_) | (with_reducible refine WD.step fun K2 hK2 => ?_)); simp only [WS, WH, WO, WOv, WG, dstOk, hasDst, aop, ASt.ev, aload, aloadC, afield, aindex, abin, abinI, aun, alen, acells, Nat.reduceEqDiff, Nat.reduceLT, Nat.reduceLeDiff, Nat.reduceAdd, reduceIte, reduceCtorEq, implies_true, ASt.add, setHp, asplice, Int.reduceEq, Int.reduceNe, Int.reduceLT, Int.reduceLE, Int.reduceSub, Int.reduceAdd, abuild, afill, abuildS, pureL, chunks, List.range, List.range.loop, Nat.reduceMul, Nat.reduceMod, apartF, apartI, aslice, evI, ASt.subst, AO.box, aval, pvals, ams, tys, mapTy_69, keyed_3, g1]; (repeat' (first | (with_reducible refine hK2 _ ?_; clear hK2 K2) | (with_reducible refine And.intro ?_ ?_) | (with_reducible intro hb) | fail)))))) | refine T.skip ?_ | refine T.exit ?_ | refine T.condT rfl ?_ | refine T.condF rfl ?_ | refine T.cond rfl (fun hc => ?_) (fun hc => ?_) | refine T.ret ?_ | simp only [ThenA, InBlock, reduceIte, Nat.reduceEqDiff] | ((repeat ((fail_if_success (refine hK _ ?_)); clear hK K)); refine hK _ ?_; clear hK K))
    refine FinA.ret (.inr rfl) Try.results10 ?_; simp only [ares, aresL, ares1, WS, WH, WO, WOv, WG, dstOk, hasDst, aop, ASt.ev, aload, aloadC, afield, aindex, abin, abinI, aun, alen, acells, Nat.reduceEqDiff, Nat.reduceLT, Nat.reduceLeDiff, Nat.reduceAdd, reduceIte, reduceCtorEq, implies_true, ASt.add, setHp, asplice, Int.reduceEq, Int.reduceNe, Int.reduceLT, Int.reduceLE, Int.reduceSub, Int.reduceAdd, abuild, afill, abuildS, pureL, chunks, List.range, List.range.loop, Nat.reduceMul, Nat.reduceMod, apartF, apartI, aslice, evI, ASt.subst, AO.box, aval, pvals, ams, tys, mapTy_69, keyed_3, ]
    simp [fewB, show ¬ ths.length ≤ 10 by omega]
  have g1 : decide ((10 : Int) < (ths.length : Int)) = false := by simp; omega
  have hv : fewB ths = ths.all fewL := by simp [fewB, show ths.length ≤ 10 by omega]
  rw [hv]
  repeat' (first | refine T.seqK fun K hK => ?_ | refine T.block ?_ | (refine T.reg (by kernel_rfl) fun K' hK' => ?_; simp only [startSt, frOf, List.map_cons, List.map_nil]; (repeat' (first | (with_reducible refine WL.fin ?_; refine hK' _ ?_; clear hK' K') | (with_reducible refine WD.fin ?_) | ((first | (with_reducible refine WL.step fun K2 hK2 => ?_) | (with_reducible refine WD.step fun K2 hK2 => ?_)); simp only [WS, WH, WO, WOv, WG, dstOk, hasDst, aop, ASt.ev, aload, aloadC, afield, aindex, abin, abinI, aun, alen, acells, Nat.reduceEqDiff, Nat.reduceLT, Nat.reduceLeDiff, Nat.reduceAdd, reduceIte, reduceCtorEq, implies_true, ASt.add, setHp, asplice, Int.reduceEq, Int.reduceNe, Int.reduceLT, Int.reduceLE, Int.reduceSub, Int.reduceAdd, abuild, afill, abuildS, pureL, chunks, List.range, List.range.loop, Nat.reduceMul, Nat.reduceMod, apartF, apartI, aslice, evI, ASt.subst, AO.box, aval, pvals, ams, tys, mapTy_69, keyed_3, g1]; (repeat' (first | (with_reducible refine hK2 _ ?_; clear hK2 K2) | (with_reducible refine And.intro ?_ ?_) | (with_reducible intro hb) | fail)))))) | refine T.skip ?_ | refine T.exit ?_ | refine T.condT rfl ?_ | refine T.condF rfl ?_ | refine T.cond rfl (fun hc => ?_) (fun hc => ?_) | refine T.ret ?_ | simp only [ThenA, InBlock, reduceIte, Nat.reduceEqDiff] | ((repeat ((fail_if_success (refine hK _ ?_)); clear hK K)); refine hK _ ?_; clear hK K))
  refine T.loopK (fun k : Nat => ⟨[(0, .p (thsP ths)), (3, .int k)], [], 51, 0⟩) (fun k => k ≤ ths.length ∧ ths.all fewL = (ths.drop k).all fewL) (fun k => ths.length - k) 0 ⟨Nat.zero_le _, rfl⟩ (by refine Weak.of' rfl ?_; simp only [wks, reduceIte, Nat.reduceEqDiff, ASt.okB, AV.okB, Nat.reduceLT, implies_true, Int.natCast_zero, thsP]) ?_
  rintro k ⟨hk, hn⟩ KL hKL
  simp only [thsP]
  by_cases hlt : k < ths.length
  · obtain ⟨l, hx⟩ := at_lt hlt
    have hd : decide ((k : Int) < (ths.length : Int)) = true := by simpa using hlt
    rw [drop_at hx, List.all_cons] at hn
    by_cases h2 : 14 < l.length
    · have g2 : decide ((14 : Int) < (l.length : Int)) = true := by simp; omega
      repeat' (first | refine T.seqK fun K hK => ?_ | refine T.block ?_ | (refine T.reg (by kernel_rfl) fun K' hK' => ?_; simp only [startSt, frOf, List.map_cons, List.map_nil]; (repeat' (first | (with_reducible refine WL.fin ?_; refine hK' _ ?_; clear hK' K') | (with_reducible refine WD.fin ?_) | ((first | (with_reducible refine WL.step fun K2 hK2 => ?_) | (with_reducible refine WD.step fun K2 hK2 => ?_)); simp only [WS, WH, WO, WOv, WG, dstOk, hasDst, aop, ASt.ev, aload, aloadC, afield, aindex, abin, abinI, aun, alen, acells, Nat.reduceEqDiff, Nat.reduceLT, Nat.reduceLeDiff, Nat.reduceAdd, reduceIte, reduceCtorEq, implies_true, ASt.add, setHp, asplice, Int.reduceEq, Int.reduceNe, Int.reduceLT, Int.reduceLE, Int.reduceSub, Int.reduceAdd, abuild, afill, abuildS, pureL, chunks, List.range, List.range.loop, Nat.reduceMul, Nat.reduceMod, apartF, apartI, aslice, evI, ASt.subst, AO.box, aval, pvals, ams, tys, mapTy_69, keyed_3, hx, hd, thP, g2]; (repeat' (first | (with_reducible refine hK2 _ ?_; clear hK2 K2) | (with_reducible refine And.intro ?_ ?_) | (with_reducible intro hb) | fail)))))) | refine T.skip ?_ | refine T.exit ?_ | refine T.condT rfl ?_ | refine T.condF rfl ?_ | refine T.cond rfl (fun hc => ?_) (fun hc => ?_) | refine T.ret ?_ | simp only [ThenA, InBlock, reduceIte, Nat.reduceEqDiff] | ((repeat ((fail_if_success (refine hK _ ?_)); clear hK K)); refine hK _ ?_; clear hK K))
      refine FinA.ret (.inr rfl) Try.results10 ?_; simp only [ares, aresL, ares1, WS, WH, WO, WOv, WG, dstOk, hasDst, aop, ASt.ev, aload, aloadC, afield, aindex, abin, abinI, aun, alen, acells, Nat.reduceEqDiff, Nat.reduceLT, Nat.reduceLeDiff, Nat.reduceAdd, reduceIte, reduceCtorEq, implies_true, ASt.add, setHp, asplice, Int.reduceEq, Int.reduceNe, Int.reduceLT, Int.reduceLE, Int.reduceSub, Int.reduceAdd, abuild, afill, abuildS, pureL, chunks, List.range, List.range.loop, Nat.reduceMul, Nat.reduceMod, apartF, apartI, aslice, evI, ASt.subst, AO.box, aval, pvals, ams, tys, mapTy_69, keyed_3, ]
      rw [hn, fewL]; simp [show ¬ l.length ≤ 14 by omega]
    have g2 : decide ((14 : Int) < (l.length : Int)) = false := by simp; omega
    have hv2 : fewL l = l.all fewS := by simp [fewL, show l.length ≤ 14 by omega]
    rw [hv2] at hn
    repeat' (first | refine T.seqK fun K hK => ?_ | refine T.block ?_ | (refine T.reg (by kernel_rfl) fun K' hK' => ?_; simp only [startSt, frOf, List.map_cons, List.map_nil]; (repeat' (first | (with_reducible refine WL.fin ?_; refine hK' _ ?_; clear hK' K') | (with_reducible refine WD.fin ?_) | ((first | (with_reducible refine WL.step fun K2 hK2 => ?_) | (with_reducible refine WD.step fun K2 hK2 => ?_)); simp only [WS, WH, WO, WOv, WG, dstOk, hasDst, aop, ASt.ev, aload, aloadC, afield, aindex, abin, abinI, aun, alen, acells, Nat.reduceEqDiff, Nat.reduceLT, Nat.reduceLeDiff, Nat.reduceAdd, reduceIte, reduceCtorEq, implies_true, ASt.add, setHp, asplice, Int.reduceEq, Int.reduceNe, Int.reduceLT, Int.reduceLE, Int.reduceSub, Int.reduceAdd, abuild, afill, abuildS, pureL, chunks, List.range, List.range.loop, Nat.reduceMul, Nat.reduceMod, apartF, apartI, aslice, evI, ASt.subst, AO.box, aval, pvals, ams, tys, mapTy_69, keyed_3, hx, hd, thP, g2]; (repeat' (first | (with_reducible refine hK2 _ ?_; clear hK2 K2) | (with_reducible refine And.intro ?_ ?_) | (with_reducible intro hb) | fail)))))) | refine T.skip ?_ | refine T.exit ?_ | refine T.condT rfl ?_ | refine T.condF rfl ?_ | refine T.cond rfl (fun hc => ?_) (fun hc => ?_) | refine T.ret ?_ | simp only [ThenA, InBlock, reduceIte, Nat.reduceEqDiff] | ((repeat ((fail_if_success (refine hK _ ?_)); clear hK K)); refine hK _ ?_; clear hK K))
    refine T.loopK (fun i : Nat => ⟨[(0, .p (thsP ths)), (3, .int k), (4, .int i)], [], 51, 0⟩) (fun i => i ≤ l.length ∧ ths.all fewL = ((l.drop i).all fewS && (ths.drop (k + 1)).all fewL)) (fun i => l.length - i) 0 ⟨Nat.zero_le _, hn⟩ (by refine Weak.of' rfl ?_; simp only [wks, reduceIte, Nat.reduceEqDiff, ASt.okB, AV.okB, Nat.reduceLT, implies_true, Int.natCast_zero, thsP, thP]) ?_
    rintro i ⟨hi, hm⟩ KJ hKJ
    simp only [thsP]
    by_cases hil : i < l.length
    · obtain ⟨s, hs⟩ := at_lt hil
      have hd2 : decide ((i : Int) < (l.length : Int)) = true := by simpa using hil
      rw [drop_at hs, List.all_cons] at hm
      by_cases h3 : 8 < s.gs.length
      · have g3 : decide ((8 : Int) < (s.gs.length : Int)) = true := by simp; omega
        repeat' (first | refine T.seqK fun K hK => ?_ | refine T.block ?_ | (refine T.reg (by kernel_rfl) fun K' hK' => ?_; simp only [startSt, frOf, List.map_cons, List.map_nil]; (repeat' (first | (with_reducible refine WL.fin ?_; refine hK' _ ?_; clear hK' K') | (with_reducible refine WD.fin ?_) | ((first | (with_reducible refine WL.step fun K2 hK2 => ?_) | (with_reducible refine WD.step fun K2 hK2 => ?_)); simp only [WS, WH, WO, WOv, WG, dstOk, hasDst, aop, ASt.ev, aload, aloadC, afield, aindex, abin, abinI, aun, alen, acells, Nat.reduceEqDiff, Nat.reduceLT, Nat.reduceLeDiff, Nat.reduceAdd, reduceIte, reduceCtorEq, implies_true, ASt.add, setHp, asplice, Int.reduceEq, Int.reduceNe, Int.reduceLT, Int.reduceLE, Int.reduceSub, Int.reduceAdd, abuild, afill, abuildS, pureL, chunks, List.range, List.range.loop, Nat.reduceMul, Nat.reduceMod, apartF, apartI, aslice, evI, ASt.subst, AO.box, aval, pvals, ams, tys, mapTy_69, keyed_3, hx, hs, hd2, thP, stC, gsP, tsP, g3]; (repeat' (first | (with_reducible refine hK2 _ ?_; clear hK2 K2) | (with_reducible refine And.intro ?_ ?_) | (with_reducible intro hb) | fail)))))) | refine T.skip ?_ | refine T.exit ?_ | refine T.condT rfl ?_ | refine T.condF rfl ?_ | refine T.cond rfl (fun hc => ?_) (fun hc => ?_) | refine T.ret ?_ | simp only [ThenA, InBlock, reduceIte, Nat.reduceEqDiff] | ((repeat ((fail_if_success (refine hK _ ?_)); clear hK K)); refine hK _ ?_; clear hK K))
        refine FinA.ret (.inr rfl) Try.results10 ?_; simp only [ares, aresL, ares1, WS, WH, WO, WOv, WG, dstOk, hasDst, aop, ASt.ev, aload, aloadC, afield, aindex, abin, abinI, aun, alen, acells, Nat.reduceEqDiff, Nat.reduceLT, Nat.reduceLeDiff, Nat.reduceAdd, reduceIte, reduceCtorEq, implies_true, ASt.add, setHp, asplice, Int.reduceEq, Int.reduceNe, Int.reduceLT, Int.reduceLE, Int.reduceSub, Int.reduceAdd, abuild, afill, abuildS, pureL, chunks, List.range, List.range.loop, Nat.reduceMul, Nat.reduceMod, apartF, apartI, aslice, evI, ASt.subst, AO.box, aval, pvals, ams, tys, mapTy_69, keyed_3, ]
        rw [hm, fewS]; simp [show ¬ s.gs.length ≤ 8 by omega]
      have g3 : decide ((8 : Int) < (s.gs.length : Int)) = false := by simp; omega
      by_cases h4 : 8 < s.ts.length
      · have g4 : decide ((8 : Int) < (s.ts.length : Int)) = true := by simp; omega
        repeat' (first | refine T.seqK fun K hK => ?_ | refine T.block ?_ | (refine T.reg (by kernel_rfl) fun K' hK' => ?_; simp only [startSt, frOf, List.map_cons, List.map_nil]; (repeat' (first | (with_reducible refine WL.fin ?_; refine hK' _ ?_; clear hK' K') | (with_reducible refine WD.fin ?_) | ((first | (with_reducible refine WL.step fun K2 hK2 => ?_) | (with_reducible refine WD.step fun K2 hK2 => ?_)); simp only [WS, WH, WO, WOv, WG, dstOk, hasDst, aop, ASt.ev, aload, aloadC, afield, aindex, abin, abinI, aun, alen, acells, Nat.reduceEqDiff, Nat.reduceLT, Nat.reduceLeDiff, Nat.reduceAdd, reduceIte, reduceCtorEq, implies_true, ASt.add, setHp, asplice, Int.reduceEq, Int.reduceNe, Int.reduceLT, Int.reduceLE, Int.reduceSub, Int.reduceAdd, abuild, afill, abuildS, pureL, chunks, List.range, List.range.loop, Nat.reduceMul, Nat.reduceMod, apartF, apartI, aslice, evI, ASt.subst, AO.box, aval, pvals, ams, tys, mapTy_69, keyed_3, hx, hs, hd2, thP, stC, gsP, tsP, g3, g4]; (repeat' (first | (with_reducible refine hK2 _ ?_; clear hK2 K2) | (with_reducible refine And.intro ?_ ?_) | (with_reducible intro hb) | fail)))))) | refine T.skip ?_ | refine T.exit ?_ | refine T.condT rfl ?_ | refine T.condF rfl ?_ | refine T.cond rfl (fun hc => ?_) (fun hc => ?_) | refine T.ret ?_ | simp only [ThenA, InBlock, reduceIte, Nat.reduceEqDiff] | ((repeat ((fail_if_success (refine hK _ ?_)); clear hK K)); refine hK _ ?_; clear hK K))
        refine FinA.ret (.inr rfl) Try.results10 ?_; simp only [ares, aresL, ares1, WS, WH, WO, WOv, WG, dstOk, hasDst, aop, ASt.ev, aload, aloadC, afield, aindex, abin, abinI, aun, alen, acells, Nat.reduceEqDiff, Nat.reduceLT, Nat.reduceLeDiff, Nat.reduceAdd, reduceIte, reduceCtorEq, implies_true, ASt.add, setHp, asplice, Int.reduceEq, Int.reduceNe, Int.reduceLT, Int.reduceLE, Int.reduceSub, Int.reduceAdd, abuild, afill, abuildS, pureL, chunks, List.range, List.range.loop, Nat.reduceMul, Nat.reduceMod, apartF, apartI, aslice, evI, ASt.subst, AO.box, aval, pvals, ams, tys, mapTy_69, keyed_3, ]
        rw [hm, fewS]; simp [show ¬ s.ts.length ≤ 8 by omega]
      have g4 : decide ((8 : Int) < (s.ts.length : Int)) = false := by simp; omega
      repeat' (first | refine T.seqK fun K hK => ?_ | refine T.block ?_ | (refine T.reg (by kernel_rfl) fun K' hK' => ?_; simp only [startSt, frOf, List.map_cons, List.map_nil]; (repeat' (first | (with_reducible refine WL.fin ?_; refine hK' _ ?_; clear hK' K') | (with_reducible refine WD.fin ?_) | ((first | (with_reducible refine WL.step fun K2 hK2 => ?_) | (with_reducible refine WD.step fun K2 hK2 => ?_)); simp only [WS, WH, WO, WOv, WG, dstOk, hasDst, aop, ASt.ev, aload, aloadC, afield, aindex, abin, abinI, aun, alen, acells, Nat.reduceEqDiff, Nat.reduceLT, Nat.reduceLeDiff, Nat.reduceAdd, reduceIte, reduceCtorEq, implies_true, ASt.add, setHp, asplice, Int.reduceEq, Int.reduceNe, Int.reduceLT, Int.reduceLE, Int.reduceSub, Int.reduceAdd, abuild, afill, abuildS, pureL, chunks, List.range, List.range.loop, Nat.reduceMul, Nat.reduceMod, apartF, apartI, aslice, evI, ASt.subst, AO.box, aval, pvals, ams, tys, mapTy_69, keyed_3, hx, hs, hd2, thP, stC, gsP, tsP, g3, g4]; (repeat' (first | (with_reducible refine hK2 _ ?_; clear hK2 K2) | (with_reducible refine And.intro ?_ ?_) | (with_reducible intro hb) | fail)))))) | refine T.skip ?_ | refine T.exit ?_ | refine T.condT rfl ?_ | refine T.condF rfl ?_ | refine T.cond rfl (fun hc => ?_) (fun hc => ?_) | refine T.ret ?_ | simp only [ThenA, InBlock, reduceIte, Nat.reduceEqDiff] | ((repeat ((fail_if_success (refine hK _ ?_)); clear hK K)); refine hK _ ?_; clear hK K))
      refine hKJ _ (i + 1) (by refine Weak.of' rfl ?_; simp only [wks, reduceIte, Nat.reduceEqDiff, ASt.okB, AV.okB, Nat.reduceLT, implies_true, wrap_succ (show i < 1152921504606846976 by omega), thsP, thP]) ⟨by omega, ?_⟩ (by omega)
      rw [hm, fewS]; simp [show s.gs.length ≤ 8 by omega, show s.ts.length ≤ 8 by omega]
    · have hd2 : decide ((i : Int) < (l.length : Int)) = false := by simpa using hil
      rw [drop_end hil, List.all_nil, Bool.true_and] at hm
      clear hKJ
      repeat' (first | refine T.seqK fun K hK => ?_ | refine T.block ?_ | (refine T.reg (by kernel_rfl) fun K' hK' => ?_; simp only [startSt, frOf, List.map_cons, List.map_nil]; (repeat' (first | (with_reducible refine WL.fin ?_; refine hK' _ ?_; clear hK' K') | (with_reducible refine WD.fin ?_) | ((first | (with_reducible refine WL.step fun K2 hK2 => ?_) | (with_reducible refine WD.step fun K2 hK2 => ?_)); simp only [WS, WH, WO, WOv, WG, dstOk, hasDst, aop, ASt.ev, aload, aloadC, afield, aindex, abin, abinI, aun, alen, acells, Nat.reduceEqDiff, Nat.reduceLT, Nat.reduceLeDiff, Nat.reduceAdd, reduceIte, reduceCtorEq, implies_true, ASt.add, setHp, asplice, Int.reduceEq, Int.reduceNe, Int.reduceLT, Int.reduceLE, Int.reduceSub, Int.reduceAdd, abuild, afill, abuildS, pureL, chunks, List.range, List.range.loop, Nat.reduceMul, Nat.reduceMod, apartF, apartI, aslice, evI, ASt.subst, AO.box, aval, pvals, ams, tys, mapTy_69, keyed_3, hx, hd2, thP]; (repeat' (first | (with_reducible refine hK2 _ ?_; clear hK2 K2) | (with_reducible refine And.intro ?_ ?_) | (with_reducible intro hb) | fail)))))) | refine T.skip ?_ | refine T.exit ?_ | refine T.condT rfl ?_ | refine T.condF rfl ?_ | refine T.cond rfl (fun hc => ?_) (fun hc => ?_) | refine T.ret ?_ | simp only [ThenA, InBlock, reduceIte, Nat.reduceEqDiff] | ((repeat ((fail_if_success (refine hK _ ?_)); clear hK K)); refine hK _ ?_; clear hK K))
      exact hKL _ (k + 1) (by refine Weak.of' rfl ?_; simp only [wks, reduceIte, Nat.reduceEqDiff, ASt.okB, AV.okB, Nat.reduceLT, implies_true, wrap_succ (show k < 1152921504606846976 by omega), thsP, thP]) ⟨by omega, hm⟩ (by omega)
  · have hd : decide ((k : Int) < (ths.length : Int)) = false := by simpa using hlt
    rw [drop_end hlt, List.all_nil] at hn
    repeat' (first | refine T.seqK fun K hK => ?_ | refine T.block ?_ | (refine T.reg (by kernel_rfl) fun K' hK' => ?_; simp only [startSt, frOf, List.map_cons, List.map_nil]; (repeat' (first | (with_reducible refine WL.fin ?_; refine hK' _ ?_; clear hK' K') | (with_reducible refine WD.fin ?_) | ((first | (with_reducible refine WL.step fun K2 hK2 => ?_) | (with_reducible refine WD.step fun K2 hK2 => ?_)); simp only [WS, WH, WO, WOv, WG, dstOk, hasDst, aop, ASt.ev, aload, aloadC, afield, aindex, abin, abinI, aun, alen, acells, Nat.reduceEqDiff, Nat.reduceLT, Nat.reduceLeDiff, Nat.reduceAdd, reduceIte, reduceCtorEq, implies_true, ASt.add, setHp, asplice, Int.reduceEq, Int.reduceNe, Int.reduceLT, Int.reduceLE, Int.reduceSub, Int.reduceAdd, abuild, afill, abuildS, pureL, chunks, List.range, List.range.loop, Nat.reduceMul, Nat.reduceMod, apartF, apartI, aslice, evI, ASt.subst, AO.box, aval, pvals, ams, tys, mapTy_69, keyed_3, hd]; (repeat' (first | (with_reducible refine hK2 _ ?_; clear hK2 K2) | (with_reducible refine And.intro ?_ ?_) | (with_reducible intro hb) | fail)))))) | refine T.skip ?_ | refine T.exit ?_ | refine T.condT rfl ?_ | refine T.condF rfl ?_ | refine T.cond rfl (fun hc => ?_) (fun hc => ?_) | refine T.ret ?_ | simp only [ThenA, InBlock, reduceIte, Nat.reduceEqDiff] | ((repeat ((fail_if_success (refine hK _ ?_)); clear hK K)); refine hK _ ?_; clear hK K))
    refine FinA.ret (.inr rfl) Try.results10 ?_; simp only [ares, aresL, ares1, WS, WH, WO, WOv, WG, dstOk, hasDst, aop, ASt.ev, aload, aloadC, afield, aindex, abin, abinI, aun, alen, acells, Nat.reduceEqDiff, Nat.reduceLT, Nat.reduceLeDiff, Nat.reduceAdd, reduceIte, reduceCtorEq, implies_true, ASt.add, setHp, asplice, Int.reduceEq, Int.reduceNe, Int.reduceLT, Int.reduceLE, Int.reduceSub, Int.reduceAdd, abuild, afill, abuildS, pureL, chunks, List.range, List.range.loop, Nat.reduceMul, Nat.reduceMod, apartF, apartI, aslice, evI, ASt.subst, AO.box, aval, pvals, ams, tys, mapTy_69, keyed_3, ]
    rw [hn]
end Go.Proofs.Ytbhkcejjehgfcaa
/- The reference's Valid; a single access. -/
namespace Go.Proofs.Ytbhkcejjehgfcaa
open Go.RowKit Go.Sort
set_option linter.unusedSimpArgs false
set_option linter.unusedVariables false

set_option maxHeartbeats 4000000 in
set_option maxRecDepth 100000 in
theorem refValid_ok (ths : List (List St)) (hlen : ths.length ≤ 1000000) (hst : ∀ l ∈ ths, l.length ≤ 1000) : PureC Try.prog 11 [.p (thsP ths)] (.bool (validB ths)) := by
  simp only [thsP]
  refine PureC.of Try.func11 rfl 72 rfl (by decide) (by simp [AV.okB]) ?_
  by_cases h1 : ths.length < 1
  · have g1 : decide ((ths.length : Int) < 1) = true := by simp; omega
    have hv : validB ths = false := by simp [validB, show ¬ 1 ≤ ths.length by omega]
    repeat' (first | refine T.seqK fun K hK => ?_ | refine T.block ?_ | (refine T.reg (by kernel_rfl) fun K' hK' => ?_; simp only [startSt, frOf, List.map_cons, List.map_nil]; (repeat' (first | (with_reducible refine WL.fin ?_; refine hK' _ ?_; clear hK' K') | (with_reducible refine WD.fin ?_) | ((first | (with_reducible refine WL.step fun K2 hK2 => ?_) | (with_reducible refine WD.step fun K2 hK2 => ?_)); simp only [WS, WH, WO, WOv, WG, dstOk, hasDst, aop, ASt.ev, aload, aloadC, afield, aindex, abin, abinI, aun, alen, acells, Nat.reduceEqDiff, Nat.reduceLT, Nat.reduceLeDiff, Nat.reduceAdd, reduceIte, reduceCtorEq, implies_true, ASt.add, setHp, asplice, Int.reduceEq, Int.reduceNe, Int.reduceLT, Int.reduceLE, Int.reduceSub, Int.reduceAdd, abuild, afill, abuildS, pureL, chunks, List.range, List.range.loop, Nat.reduceMul, Nat.reduceMod, apartF, apartI, aslice, evI, ASt.subst, AO.box, aval, pvals, ams, tys, mapTy_69, keyed_3, g1]; (repeat' (first | (with_reducible refine hK2 _ ?_; clear hK2 K2) | (with_reducible refine And.intro ?_ ?_) | (with_reducible intro hb) | fail)))))) | refine T.skip ?_ | refine T.exit ?_ | refine T.condT rfl ?_ | refine T.condF rfl ?_ | refine T.cond rfl (fun hc => ?_) (fun hc => ?_) | refine T.ret ?_ | simp only [ThenA, InBlock, reduceIte, Nat.reduceEqDiff] | ((repeat ((fail_if_success (refine hK _ ?_)); clear hK K)); refine hK _ ?_; clear hK K))
    refine FinA.ret (.inr rfl) Try.results11 ?_; simp only [ares, aresL, ares1, WS, WH, WO, WOv, WG, dstOk, hasDst, aop, ASt.ev, aload, aloadC, afield, aindex, abin, abinI, aun, alen, acells, Nat.reduceEqDiff, Nat.reduceLT, Nat.reduceLeDiff, Nat.reduceAdd, reduceIte, reduceCtorEq, implies_true, ASt.add, setHp, asplice, Int.reduceEq, Int.reduceNe, Int.reduceLT, Int.reduceLE, Int.reduceSub, Int.reduceAdd, abuild, afill, abuildS, pureL, chunks, List.range, List.range.loop, Nat.reduceMul, Nat.reduceMod, apartF, apartI, aslice, evI, ASt.subst, AO.box, aval, pvals, ams, tys, mapTy_69, keyed_3, ]
    rw [hv]
  have g1 : decide ((ths.length : Int) < 1) = false := by simp; omega
  by_cases h2 : 8 < ths.length
  · have g2 : decide ((8 : Int) < (ths.length : Int)) = true := by simp; omega
    have hv : validB ths = false := by simp [validB, show ¬ ths.length ≤ 8 by omega]
    repeat' (first | refine T.seqK fun K hK => ?_ | refine T.block ?_ | (refine T.reg (by kernel_rfl) fun K' hK' => ?_; simp only [startSt, frOf, List.map_cons, List.map_nil]; (repeat' (first | (with_reducible refine WL.fin ?_; refine hK' _ ?_; clear hK' K') | (with_reducible refine WD.fin ?_) | ((first | (with_reducible refine WL.step fun K2 hK2 => ?_) | (with_reducible refine WD.step fun K2 hK2 => ?_)); simp only [WS, WH, WO, WOv, WG, dstOk, hasDst, aop, ASt.ev, aload, aloadC, afield, aindex, abin, abinI, aun, alen, acells, Nat.reduceEqDiff, Nat.reduceLT, Nat.reduceLeDiff, Nat.reduceAdd, reduceIte, reduceCtorEq, implies_true, ASt.add, setHp, asplice, Int.reduceEq, Int.reduceNe, Int.reduceLT, Int.reduceLE, Int.reduceSub, Int.reduceAdd, abuild, afill, abuildS, pureL, chunks, List.range, List.range.loop, Nat.reduceMul, Nat.reduceMod, apartF, apartI, aslice, evI, ASt.subst, AO.box, aval, pvals, ams, tys, mapTy_69, keyed_3, g1, g2]; (repeat' (first | (with_reducible refine hK2 _ ?_; clear hK2 K2) | (with_reducible refine And.intro ?_ ?_) | (with_reducible intro hb) | fail)))))) | refine T.skip ?_ | refine T.exit ?_ | refine T.condT rfl ?_ | refine T.condF rfl ?_ | refine T.cond rfl (fun hc => ?_) (fun hc => ?_) | refine T.ret ?_ | simp only [ThenA, InBlock, reduceIte, Nat.reduceEqDiff] | ((repeat ((fail_if_success (refine hK _ ?_)); clear hK K)); refine hK _ ?_; clear hK K))
    refine FinA.ret (.inr rfl) Try.results11 ?_; simp only [ares, aresL, ares1, WS, WH, WO, WOv, WG, dstOk, hasDst, aop, ASt.ev, aload, aloadC, afield, aindex, abin, abinI, aun, alen, acells, Nat.reduceEqDiff, Nat.reduceLT, Nat.reduceLeDiff, Nat.reduceAdd, reduceIte, reduceCtorEq, implies_true, ASt.add, setHp, asplice, Int.reduceEq, Int.reduceNe, Int.reduceLT, Int.reduceLE, Int.reduceSub, Int.reduceAdd, abuild, afill, abuildS, pureL, chunks, List.range, List.range.loop, Nat.reduceMul, Nat.reduceMod, apartF, apartI, aslice, evI, ASt.subst, AO.box, aval, pvals, ams, tys, mapTy_69, keyed_3, ]
    rw [hv]
  have g2 : decide ((8 : Int) < (ths.length : Int)) = false := by simp; omega
  have hv : validB ths = (okAll ths 0 && decide (totB ths ≤ 12)) := by simp [validB, show 1 ≤ ths.length by omega, show ths.length ≤ 8 by omega]
  repeat' (first | refine T.seqK fun K hK => ?_ | refine T.block ?_ | (refine T.reg (by kernel_rfl) fun K' hK' => ?_; simp only [startSt, frOf, List.map_cons, List.map_nil]; (repeat' (first | (with_reducible refine WL.fin ?_; refine hK' _ ?_; clear hK' K') | (with_reducible refine WD.fin ?_) | ((first | (with_reducible refine WL.step fun K2 hK2 => ?_) | (with_reducible refine WD.step fun K2 hK2 => ?_)); simp only [WS, WH, WO, WOv, WG, dstOk, hasDst, aop, ASt.ev, aload, aloadC, afield, aindex, abin, abinI, aun, alen, acells, Nat.reduceEqDiff, Nat.reduceLT, Nat.reduceLeDiff, Nat.reduceAdd, reduceIte, reduceCtorEq, implies_true, ASt.add, setHp, asplice, Int.reduceEq, Int.reduceNe, Int.reduceLT, Int.reduceLE, Int.reduceSub, Int.reduceAdd, abuild, afill, abuildS, pureL, chunks, List.range, List.range.loop, Nat.reduceMul, Nat.reduceMod, apartF, apartI, aslice, evI, ASt.subst, AO.box, aval, pvals, ams, tys, mapTy_69, keyed_3, g1, g2]; (repeat' (first | (with_reducible refine hK2 _ ?_; clear hK2 K2) | (with_reducible refine And.intro ?_ ?_) | (with_reducible intro hb) | fail)))))) | refine T.skip ?_ | refine T.exit ?_ | refine T.condT rfl ?_ | refine T.condF rfl ?_ | refine T.cond rfl (fun hc => ?_) (fun hc => ?_) | refine T.ret ?_ | simp only [ThenA, InBlock, reduceIte, Nat.reduceEqDiff] | ((repeat ((fail_if_success (refine hK _ ?_)); clear hK K)); refine hK _ ?_; clear hK K))
  refine T.loopK (fun k : Nat => ⟨[(0, .p (thsP ths)), (3, .int (totB (ths.take k))), (4, .int k)], [], 72, 0⟩) (fun k => k ≤ ths.length ∧ okAll ths 0 = okAll (ths.drop k) k) (fun k => ths.length - k) 0 ⟨Nat.zero_le _, rfl⟩ (by refine Weak.of' rfl ?_; simp only [wks, reduceIte, Nat.reduceEqDiff, ASt.okB, AV.okB, Nat.reduceLT, implies_true, Int.natCast_zero, totB, List.take_zero, List.map_nil, List.sum_nil, thsP]) ?_
  rintro k ⟨hk, hn⟩ KL hKL
  simp only [thsP]
  by_cases hlt : k < ths.length
  · obtain ⟨l, hx⟩ := at_lt hlt
    have hd : decide ((k : Int) < (ths.length : Int)) = true := by simpa using hlt
    rw [drop_at hx, okAll] at hn
    have hll := hst l (List.mem_of_getElem? hx)
    have htl := tot_le hst k
    have hwt : IntKind.i64.wrap (((totB (ths.take k) : Nat) : Int) + (l.length : Int)) = ((totB (ths.take (k + 1)) : Nat) : Int) := by
      rw [tot_drop hx, wrap_ok (by omega) (by omega)]; omega
    repeat' (first | refine T.seqK fun K hK => ?_ | refine T.block ?_ | (refine T.reg (by kernel_rfl) fun K' hK' => ?_; simp only [startSt, frOf, List.map_cons, List.map_nil]; (repeat' (first | (with_reducible refine WL.fin ?_; refine hK' _ ?_; clear hK' K') | (with_reducible refine WD.fin ?_) | ((first | (with_reducible refine WL.step fun K2 hK2 => ?_) | (with_reducible refine WD.step fun K2 hK2 => ?_)); simp only [WS, WH, WO, WOv, WG, dstOk, hasDst, aop, ASt.ev, aload, aloadC, afield, aindex, abin, abinI, aun, alen, acells, Nat.reduceEqDiff, Nat.reduceLT, Nat.reduceLeDiff, Nat.reduceAdd, reduceIte, reduceCtorEq, implies_true, ASt.add, setHp, asplice, Int.reduceEq, Int.reduceNe, Int.reduceLT, Int.reduceLE, Int.reduceSub, Int.reduceAdd, abuild, afill, abuildS, pureL, chunks, List.range, List.range.loop, Nat.reduceMul, Nat.reduceMod, apartF, apartI, aslice, evI, ASt.subst, AO.box, aval, pvals, ams, tys, mapTy_69, keyed_3, hx, hd, thP, hwt]; (repeat' (first | (with_reducible refine hK2 _ ?_; clear hK2 K2) | (with_reducible refine And.intro ?_ ?_) | (with_reducible intro hb) | fail)))))) | refine T.skip ?_ | refine T.exit ?_ | refine T.condT rfl ?_ | refine T.condF rfl ?_ | refine T.cond rfl (fun hc => ?_) (fun hc => ?_) | refine T.ret ?_ | simp only [ThenA, InBlock, reduceIte, Nat.reduceEqDiff] | ((repeat ((fail_if_success (refine hK _ ?_)); clear hK K)); refine hK _ ?_; clear hK K))
    refine T.loopK (fun i : Nat => ⟨[(0, .p (thsP ths)), (3, .int (totB (ths.take (k + 1)))), (4, .int k), (5, .int i)], [], 72, 0⟩) (fun i => i ≤ l.length ∧ okAll ths 0 = (okRow k (l.drop i) i && okAll (ths.drop (k + 1)) (k + 1))) (fun i => l.length - i) 0 ⟨Nat.zero_le _, hn⟩ (by refine Weak.of' rfl ?_; simp only [wks, reduceIte, Nat.reduceEqDiff, ASt.okB, AV.okB, Nat.reduceLT, implies_true, Int.natCast_zero, thsP, thP]) ?_
    rintro i ⟨hi, hm⟩ KJ hKJ
    simp only [thsP, thP]
    by_cases hil : i < l.length
    · obtain ⟨s, hs⟩ := at_lt hil
      have hd2 : decide ((i : Int) < (l.length : Int)) = true := by simpa using hil
      rw [drop_at hs, okRow] at hm
      have hcont : okSt k i s = true → ∀ s', Weak s' _ → KJ s' := fun h s' hw => hKJ s' (i + 1) hw ⟨by omega, by rw [hm, h, Bool.true_and]⟩ (by omega)
      have hstop : okSt k i s = false → validB ths = false := fun h => by rw [hv, hm, h]; rfl
      by_cases e1 : s.g = (k : Int)
      · have f1 : (s.g != (k : Int)) = false := by simp [e1]
        by_cases e2 : s.c = (i : Int)
        · have f2 : (s.c != (i : Int)) = false := by simp [e2]
          by_cases e3 : s.gs.length = 1
          · obtain ⟨x, hx0⟩ := at_lt (l := s.gs) (k := 0) (by omega)
            have f3 : ((s.gs.length : Int) != 1) = false := by simp; omega
            by_cases e4 : x = (k : Int)
            · have f4 : (x != (k : Int)) = false := by simp [e4]
              have hok : okSt k i s = true := by unfold okSt; rw [hx0, e1, e2, e3, e4]; simp
              repeat' (first | refine T.seqK fun K hK => ?_ | refine T.block ?_ | (refine T.reg (by kernel_rfl) fun K' hK' => ?_; simp only [startSt, frOf, List.map_cons, List.map_nil]; (repeat' (first | (with_reducible refine WL.fin ?_; refine hK' _ ?_; clear hK' K') | (with_reducible refine WD.fin ?_) | ((first | (with_reducible refine WL.step fun K2 hK2 => ?_) | (with_reducible refine WD.step fun K2 hK2 => ?_)); simp only [WS, WH, WO, WOv, WG, dstOk, hasDst, aop, ASt.ev, aload, aloadC, afield, aindex, abin, abinI, aun, alen, acells, Nat.reduceEqDiff, Nat.reduceLT, Nat.reduceLeDiff, Nat.reduceAdd, reduceIte, reduceCtorEq, implies_true, ASt.add, setHp, asplice, Int.reduceEq, Int.reduceNe, Int.reduceLT, Int.reduceLE, Int.reduceSub, Int.reduceAdd, abuild, afill, abuildS, pureL, chunks, List.range, List.range.loop, Nat.reduceMul, Nat.reduceMod, apartF, apartI, aslice, evI, ASt.subst, AO.box, aval, pvals, ams, tys, mapTy_69, keyed_3, hx, hs, hd2, stC, gsP, tsP, inC, f1, f2, f3, f4, hx0, Int.toNat_zero]; (repeat' (first | (with_reducible refine hK2 _ ?_; clear hK2 K2) | (with_reducible refine And.intro ?_ ?_) | (with_reducible intro hb) | fail)))))) | refine T.skip ?_ | refine T.exit ?_ | refine T.condT rfl ?_ | refine T.condF rfl ?_ | refine T.cond rfl (fun hc => ?_) (fun hc => ?_) | refine T.ret ?_ | simp only [ThenA, InBlock, reduceIte, Nat.reduceEqDiff] | ((repeat ((fail_if_success (refine hK _ ?_)); clear hK K)); refine hK _ ?_; clear hK K))
              exact hcont hok _ (by refine Weak.of' rfl ?_; simp only [wks, reduceIte, Nat.reduceEqDiff, ASt.okB, AV.okB, Nat.reduceLT, implies_true, wrap_succ (show i < 1152921504606846976 by omega), thsP, thP])
            · have f4 : (x != (k : Int)) = true := by simp [e4]
              have hok : okSt k i s = false := by unfold okSt; rw [hx0, show (some x == some (k : Int)) = false by simpa using e4]; simp only [Bool.and_false]
              repeat' (first | refine T.seqK fun K hK => ?_ | refine T.block ?_ | (refine T.reg (by kernel_rfl) fun K' hK' => ?_; simp only [startSt, frOf, List.map_cons, List.map_nil]; (repeat' (first | (with_reducible refine WL.fin ?_; refine hK' _ ?_; clear hK' K') | (with_reducible refine WD.fin ?_) | ((first | (with_reducible refine WL.step fun K2 hK2 => ?_) | (with_reducible refine WD.step fun K2 hK2 => ?_)); simp only [WS, WH, WO, WOv, WG, dstOk, hasDst, aop, ASt.ev, aload, aloadC, afield, aindex, abin, abinI, aun, alen, acells, Nat.reduceEqDiff, Nat.reduceLT, Nat.reduceLeDiff, Nat.reduceAdd, reduceIte, reduceCtorEq, implies_true, ASt.add, setHp, asplice, Int.reduceEq, Int.reduceNe, Int.reduceLT, Int.reduceLE, Int.reduceSub, Int.reduceAdd, abuild, afill, abuildS, pureL, chunks, List.range, List.range.loop, Nat.reduceMul, Nat.reduceMod, apartF, apartI, aslice, evI, ASt.subst, AO.box, aval, pvals, ams, tys, mapTy_69, keyed_3, hx, hs, hd2, stC, gsP, tsP, inC, f1, f2, f3, f4, hx0, Int.toNat_zero]; (repeat' (first | (with_reducible refine hK2 _ ?_; clear hK2 K2) | (with_reducible refine And.intro ?_ ?_) | (with_reducible intro hb) | fail)))))) | refine T.skip ?_ | refine T.exit ?_ | refine T.condT rfl ?_ | refine T.condF rfl ?_ | refine T.cond rfl (fun hc => ?_) (fun hc => ?_) | refine T.ret ?_ | simp only [ThenA, InBlock, reduceIte, Nat.reduceEqDiff] | ((repeat ((fail_if_success (refine hK _ ?_)); clear hK K)); refine hK _ ?_; clear hK K))
              refine FinA.ret (.inr rfl) Try.results11 ?_; simp only [ares, aresL, ares1, WS, WH, WO, WOv, WG, dstOk, hasDst, aop, ASt.ev, aload, aloadC, afield, aindex, abin, abinI, aun, alen, acells, Nat.reduceEqDiff, Nat.reduceLT, Nat.reduceLeDiff, Nat.reduceAdd, reduceIte, reduceCtorEq, implies_true, ASt.add, setHp, asplice, Int.reduceEq, Int.reduceNe, Int.reduceLT, Int.reduceLE, Int.reduceSub, Int.reduceAdd, abuild, afill, abuildS, pureL, chunks, List.range, List.range.loop, Nat.reduceMul, Nat.reduceMod, apartF, apartI, aslice, evI, ASt.subst, AO.box, aval, pvals, ams, tys, mapTy_69, keyed_3, ]
              rw [hstop hok]
          · have f3 : ((s.gs.length : Int) != 1) = true := by simp; omega
            have hok : okSt k i s = false := by simp [okSt, e3]
            repeat' (first | refine T.seqK fun K hK => ?_ | refine T.block ?_ | (refine T.reg (by kernel_rfl) fun K' hK' => ?_; simp only [startSt, frOf, List.map_cons, List.map_nil]; (repeat' (first | (with_reducible refine WL.fin ?_; refine hK' _ ?_; clear hK' K') | (with_reducible refine WD.fin ?_) | ((first | (with_reducible refine WL.step fun K2 hK2 => ?_) | (with_reducible refine WD.step fun K2 hK2 => ?_)); simp only [WS, WH, WO, WOv, WG, dstOk, hasDst, aop, ASt.ev, aload, aloadC, afield, aindex, abin, abinI, aun, alen, acells, Nat.reduceEqDiff, Nat.reduceLT, Nat.reduceLeDiff, Nat.reduceAdd, reduceIte, reduceCtorEq, implies_true, ASt.add, setHp, asplice, Int.reduceEq, Int.reduceNe, Int.reduceLT, Int.reduceLE, Int.reduceSub, Int.reduceAdd, abuild, afill, abuildS, pureL, chunks, List.range, List.range.loop, Nat.reduceMul, Nat.reduceMod, apartF, apartI, aslice, evI, ASt.subst, AO.box, aval, pvals, ams, tys, mapTy_69, keyed_3, hx, hs, hd2, stC, gsP, tsP, inC, f1, f2, f3]; (repeat' (first | (with_reducible refine hK2 _ ?_; clear hK2 K2) | (with_reducible refine And.intro ?_ ?_) | (with_reducible intro hb) | fail)))))) | refine T.skip ?_ | refine T.exit ?_ | refine T.condT rfl ?_ | refine T.condF rfl ?_ | refine T.cond rfl (fun hc => ?_) (fun hc => ?_) | refine T.ret ?_ | simp only [ThenA, InBlock, reduceIte, Nat.reduceEqDiff] | ((repeat ((fail_if_success (refine hK _ ?_)); clear hK K)); refine hK _ ?_; clear hK K))
            refine FinA.ret (.inr rfl) Try.results11 ?_; simp only [ares, aresL, ares1, WS, WH, WO, WOv, WG, dstOk, hasDst, aop, ASt.ev, aload, aloadC, afield, aindex, abin, abinI, aun, alen, acells, Nat.reduceEqDiff, Nat.reduceLT, Nat.reduceLeDiff, Nat.reduceAdd, reduceIte, reduceCtorEq, implies_true, ASt.add, setHp, asplice, Int.reduceEq, Int.reduceNe, Int.reduceLT, Int.reduceLE, Int.reduceSub, Int.reduceAdd, abuild, afill, abuildS, pureL, chunks, List.range, List.range.loop, Nat.reduceMul, Nat.reduceMod, apartF, apartI, aslice, evI, ASt.subst, AO.box, aval, pvals, ams, tys, mapTy_69, keyed_3, ]
            rw [hstop hok]
        · have f2 : (s.c != (i : Int)) = true := by simp [e2]
          have hok : okSt k i s = false := by simp [okSt, e2]
          repeat' (first | refine T.seqK fun K hK => ?_ | refine T.block ?_ | (refine T.reg (by kernel_rfl) fun K' hK' => ?_; simp only [startSt, frOf, List.map_cons, List.map_nil]; (repeat' (first | (with_reducible refine WL.fin ?_; refine hK' _ ?_; clear hK' K') | (with_reducible refine WD.fin ?_) | ((first | (with_reducible refine WL.step fun K2 hK2 => ?_) | (with_reducible refine WD.step fun K2 hK2 => ?_)); simp only [WS, WH, WO, WOv, WG, dstOk, hasDst, aop, ASt.ev, aload, aloadC, afield, aindex, abin, abinI, aun, alen, acells, Nat.reduceEqDiff, Nat.reduceLT, Nat.reduceLeDiff, Nat.reduceAdd, reduceIte, reduceCtorEq, implies_true, ASt.add, setHp, asplice, Int.reduceEq, Int.reduceNe, Int.reduceLT, Int.reduceLE, Int.reduceSub, Int.reduceAdd, abuild, afill, abuildS, pureL, chunks, List.range, List.range.loop, Nat.reduceMul, Nat.reduceMod, apartF, apartI, aslice, evI, ASt.subst, AO.box, aval, pvals, ams, tys, mapTy_69, keyed_3, hx, hs, hd2, stC, gsP, tsP, inC, f1, f2]; (repeat' (first | (with_reducible refine hK2 _ ?_; clear hK2 K2) | (with_reducible refine And.intro ?_ ?_) | (with_reducible intro hb) | fail)))))) | refine T.skip ?_ | refine T.exit ?_ | refine T.condT rfl ?_ | refine T.condF rfl ?_ | refine T.cond rfl (fun hc => ?_) (fun hc => ?_) | refine T.ret ?_ | simp only [ThenA, InBlock, reduceIte, Nat.reduceEqDiff] | ((repeat ((fail_if_success (refine hK _ ?_)); clear hK K)); refine hK _ ?_; clear hK K))
          refine FinA.ret (.inr rfl) Try.results11 ?_; simp only [ares, aresL, ares1, WS, WH, WO, WOv, WG, dstOk, hasDst, aop, ASt.ev, aload, aloadC, afield, aindex, abin, abinI, aun, alen, acells, Nat.reduceEqDiff, Nat.reduceLT, Nat.reduceLeDiff, Nat.reduceAdd, reduceIte, reduceCtorEq, implies_true, ASt.add, setHp, asplice, Int.reduceEq, Int.reduceNe, Int.reduceLT, Int.reduceLE, Int.reduceSub, Int.reduceAdd, abuild, afill, abuildS, pureL, chunks, List.range, List.range.loop, Nat.reduceMul, Nat.reduceMod, apartF, apartI, aslice, evI, ASt.subst, AO.box, aval, pvals, ams, tys, mapTy_69, keyed_3, ]
          rw [hstop hok]
      · have f1 : (s.g != (k : Int)) = true := by simp [e1]
        have hok : okSt k i s = false := by simp [okSt, e1]
        repeat' (first | refine T.seqK fun K hK => ?_ | refine T.block ?_ | (refine T.reg (by kernel_rfl) fun K' hK' => ?_; simp only [startSt, frOf, List.map_cons, List.map_nil]; (repeat' (first | (with_reducible refine WL.fin ?_; refine hK' _ ?_; clear hK' K') | (with_reducible refine WD.fin ?_) | ((first | (with_reducible refine WL.step fun K2 hK2 => ?_) | (with_reducible refine WD.step fun K2 hK2 => ?_)); simp only [WS, WH, WO, WOv, WG, dstOk, hasDst, aop, ASt.ev, aload, aloadC, afield, aindex, abin, abinI, aun, alen, acells, Nat.reduceEqDiff, Nat.reduceLT, Nat.reduceLeDiff, Nat.reduceAdd, reduceIte, reduceCtorEq, implies_true, ASt.add, setHp, asplice, Int.reduceEq, Int.reduceNe, Int.reduceLT, Int.reduceLE, Int.reduceSub, Int.reduceAdd, abuild, afill, abuildS, pureL, chunks, List.range, List.range.loop, Nat.reduceMul, Nat.reduceMod, apartF, apartI, aslice, evI, ASt.subst, AO.box, aval, pvals, ams, tys, mapTy_69, keyed_3, hx, hs, hd2, stC, gsP, tsP, inC, f1]; (repeat' (first | (with_reducible refine hK2 _ ?_; clear hK2 K2) | (with_reducible refine And.intro ?_ ?_) | (with_reducible intro hb) | fail)))))) | refine T.skip ?_ | refine T.exit ?_ | refine T.condT rfl ?_ | refine T.condF rfl ?_ | refine T.cond rfl (fun hc => ?_) (fun hc => ?_) | refine T.ret ?_ | simp only [ThenA, InBlock, reduceIte, Nat.reduceEqDiff] | ((repeat ((fail_if_success (refine hK _ ?_)); clear hK K)); refine hK _ ?_; clear hK K))
        refine FinA.ret (.inr rfl) Try.results11 ?_; simp only [ares, aresL, ares1, WS, WH, WO, WOv, WG, dstOk, hasDst, aop, ASt.ev, aload, aloadC, afield, aindex, abin, abinI, aun, alen, acells, Nat.reduceEqDiff, Nat.reduceLT, Nat.reduceLeDiff, Nat.reduceAdd, reduceIte, reduceCtorEq, implies_true, ASt.add, setHp, asplice, Int.reduceEq, Int.reduceNe, Int.reduceLT, Int.reduceLE, Int.reduceSub, Int.reduceAdd, abuild, afill, abuildS, pureL, chunks, List.range, List.range.loop, Nat.reduceMul, Nat.reduceMod, apartF, apartI, aslice, evI, ASt.subst, AO.box, aval, pvals, ams, tys, mapTy_69, keyed_3, ]
        rw [hstop hok]
    · have hd2 : decide ((i : Int) < (l.length : Int)) = false := by simpa using hil
      rw [drop_end hil, okRow, Bool.true_and] at hm
      clear hKJ
      repeat' (first | refine T.seqK fun K hK => ?_ | refine T.block ?_ | (refine T.reg (by kernel_rfl) fun K' hK' => ?_; simp only [startSt, frOf, List.map_cons, List.map_nil]; (repeat' (first | (with_reducible refine WL.fin ?_; refine hK' _ ?_; clear hK' K') | (with_reducible refine WD.fin ?_) | ((first | (with_reducible refine WL.step fun K2 hK2 => ?_) | (with_reducible refine WD.step fun K2 hK2 => ?_)); simp only [WS, WH, WO, WOv, WG, dstOk, hasDst, aop, ASt.ev, aload, aloadC, afield, aindex, abin, abinI, aun, alen, acells, Nat.reduceEqDiff, Nat.reduceLT, Nat.reduceLeDiff, Nat.reduceAdd, reduceIte, reduceCtorEq, implies_true, ASt.add, setHp, asplice, Int.reduceEq, Int.reduceNe, Int.reduceLT, Int.reduceLE, Int.reduceSub, Int.reduceAdd, abuild, afill, abuildS, pureL, chunks, List.range, List.range.loop, Nat.reduceMul, Nat.reduceMod, apartF, apartI, aslice, evI, ASt.subst, AO.box, aval, pvals, ams, tys, mapTy_69, keyed_3, hx, hd2]; (repeat' (first | (with_reducible refine hK2 _ ?_; clear hK2 K2) | (with_reducible refine And.intro ?_ ?_) | (with_reducible intro hb) | fail)))))) | refine T.skip ?_ | refine T.exit ?_ | refine T.condT rfl ?_ | refine T.condF rfl ?_ | refine T.cond rfl (fun hc => ?_) (fun hc => ?_) | refine T.ret ?_ | simp only [ThenA, InBlock, reduceIte, Nat.reduceEqDiff] | ((repeat ((fail_if_success (refine hK _ ?_)); clear hK K)); refine hK _ ?_; clear hK K))
      exact hKL _ (k + 1) (by refine Weak.of' rfl ?_; simp only [wks, reduceIte, Nat.reduceEqDiff, ASt.okB, AV.okB, Nat.reduceLT, implies_true, wrap_succ (show k < 1152921504606846976 by omega), thsP, thP]) ⟨by omega, hm⟩ (by omega)
  · have hd : decide ((k : Int) < (ths.length : Int)) = false := by simpa using hlt
    obtain rfl : k = ths.length := by omega
    rw [drop_end (by simp), okAll] at hn
    rw [List.take_length]
    have hle : decide ((totB ths : Int) ≤ 12) = decide (totB ths ≤ 12) := by simp; omega
    repeat' (first | refine T.seqK fun K hK => ?_ | refine T.block ?_ | (refine T.reg (by kernel_rfl) fun K' hK' => ?_; simp only [startSt, frOf, List.map_cons, List.map_nil]; (repeat' (first | (with_reducible refine WL.fin ?_; refine hK' _ ?_; clear hK' K') | (with_reducible refine WD.fin ?_) | ((first | (with_reducible refine WL.step fun K2 hK2 => ?_) | (with_reducible refine WD.step fun K2 hK2 => ?_)); simp only [WS, WH, WO, WOv, WG, dstOk, hasDst, aop, ASt.ev, aload, aloadC, afield, aindex, abin, abinI, aun, alen, acells, Nat.reduceEqDiff, Nat.reduceLT, Nat.reduceLeDiff, Nat.reduceAdd, reduceIte, reduceCtorEq, implies_true, ASt.add, setHp, asplice, Int.reduceEq, Int.reduceNe, Int.reduceLT, Int.reduceLE, Int.reduceSub, Int.reduceAdd, abuild, afill, abuildS, pureL, chunks, List.range, List.range.loop, Nat.reduceMul, Nat.reduceMod, apartF, apartI, aslice, evI, ASt.subst, AO.box, aval, pvals, ams, tys, mapTy_69, keyed_3, hd]; (repeat' (first | (with_reducible refine hK2 _ ?_; clear hK2 K2) | (with_reducible refine And.intro ?_ ?_) | (with_reducible intro hb) | fail)))))) | refine T.skip ?_ | refine T.exit ?_ | refine T.condT rfl ?_ | refine T.condF rfl ?_ | refine T.cond rfl (fun hc => ?_) (fun hc => ?_) | refine T.ret ?_ | simp only [ThenA, InBlock, reduceIte, Nat.reduceEqDiff] | ((repeat ((fail_if_success (refine hK _ ?_)); clear hK K)); refine hK _ ?_; clear hK K))
    refine FinA.ret (.inr rfl) Try.results11 ?_; simp only [ares, aresL, ares1, WS, WH, WO, WOv, WG, dstOk, hasDst, aop, ASt.ev, aload, aloadC, afield, aindex, abin, abinI, aun, alen, acells, Nat.reduceEqDiff, Nat.reduceLT, Nat.reduceLeDiff, Nat.reduceAdd, reduceIte, reduceCtorEq, implies_true, ASt.add, setHp, asplice, Int.reduceEq, Int.reduceNe, Int.reduceLT, Int.reduceLE, Int.reduceSub, Int.reduceAdd, abuild, afill, abuildS, pureL, chunks, List.range, List.range.loop, Nat.reduceMul, Nat.reduceMod, apartF, apartI, aslice, evI, ASt.subst, AO.box, aval, pvals, ams, tys, mapTy_69, keyed_3, ]
    rw [hv, hn, Bool.true_and, hle]

def acSt (g : Int) (w : Bool) : St := ⟨g, 0, [g], [⟨1, 0, 0, w⟩]⟩
set_option maxHeartbeats 4000000 in
set_option maxRecDepth 100000 in
theorem access_ok (g : Int) (w : Bool) : PureC Try.prog 22 [.int g, .bool w] (.p (thP [acSt g w])) := by
  have h1 : 1 ≤ maxLen := by decide
  refine PureC.of Try.func22 rfl 14 rfl (by decide) (by simp [AV.okB]) ?_
  repeat' (first | refine T.seqK fun K hK => ?_ | refine T.block ?_ | (refine T.reg (by kernel_rfl) fun K' hK' => ?_; simp only [startSt, frOf, List.map_cons, List.map_nil]; (repeat' (first | (with_reducible refine WL.fin ?_; refine hK' _ ?_; clear hK' K') | (with_reducible refine WD.fin ?_) | ((first | (with_reducible refine WL.step fun K2 hK2 => ?_) | (with_reducible refine WD.step fun K2 hK2 => ?_)); simp only [WS, WH, WO, WOv, WG, dstOk, hasDst, aop, ASt.ev, aload, aloadC, afield, aindex, abin, abinI, aun, alen, acells, Nat.reduceEqDiff, Nat.reduceLT, Nat.reduceLeDiff, Nat.reduceAdd, reduceIte, reduceCtorEq, implies_true, ASt.add, setHp, asplice, Int.reduceEq, Int.reduceNe, Int.reduceLT, Int.reduceLE, Int.reduceSub, Int.reduceAdd, abuild, afill, abuildS, pureL, chunks, List.range, List.range.loop, Nat.reduceMul, Nat.reduceMod, apartF, apartI, aslice, evI, ASt.subst, AO.box, aval, pvals, ams, tys, mapTy_69, keyed_3, h1]; (repeat' (first | (with_reducible refine hK2 _ ?_; clear hK2 K2) | (with_reducible refine And.intro ?_ ?_) | (with_reducible intro hb) | fail)))))) | refine T.skip ?_ | refine T.exit ?_ | refine T.condT rfl ?_ | refine T.condF rfl ?_ | refine T.cond rfl (fun hc => ?_) (fun hc => ?_) | refine T.ret ?_ | simp only [ThenA, InBlock, reduceIte, Nat.reduceEqDiff] | ((repeat ((fail_if_success (refine hK _ ?_)); clear hK K)); refine hK _ ?_; clear hK K))
  refine FinA.ret (.inr rfl) Try.results22 ?_; simp only [ares, aresL, ares1, WS, WH, WO, WOv, WG, dstOk, hasDst, aop, ASt.ev, aload, aloadC, afield, aindex, abin, abinI, aun, alen, acells, Nat.reduceEqDiff, Nat.reduceLT, Nat.reduceLeDiff, Nat.reduceAdd, reduceIte, reduceCtorEq, implies_true, ASt.add, setHp, asplice, Int.reduceEq, Int.reduceNe, Int.reduceLT, Int.reduceLE, Int.reduceSub, Int.reduceAdd, abuild, afill, abuildS, pureL, chunks, List.range, List.range.loop, Nat.reduceMul, Nat.reduceMod, apartF, apartI, aslice, evI, ASt.subst, AO.box, aval, pvals, ams, tys, mapTy_69, keyed_3, ]
  simp [thP, stC, acSt, gsP, tsP, inC, tcC]
end Go.Proofs.Ytbhkcejjehgfcaa
/- The least linearization, as a plain function. -/
namespace Go.Proofs.Ytbhkcejjehgfcaa
open Go.RowKit Go.Sort
set_option linter.unusedSimpArgs false
set_option linter.unusedVariables false

def freeL (s : St) : List St → List Bool → Bool
  | x :: l, c :: ch => (c || !dpB x s) && freeL s l ch
  | _, _ => true
def pkLt (a b : St) : Bool := decide (a.g < b.g ∨ a.g = b.g ∧ a.c < b.c)
theorem pkLt_or (a b : St) : decide (orI [cmpI a.g b.g, cmpI a.c b.c] < 0) = pkLt a b := by
  unfold pkLt orI orI orI cmpI
  by_cases h1 : a.g < b.g
  · simp [h1]
  · by_cases h2 : b.g < a.g
    · have : ¬ a.g = b.g := by omega
      simp [h1, h2, this]
    · have h3 : a.g = b.g := by omega
      by_cases h4 : a.c < b.c
      · simp [h3, h4]
      · by_cases h5 : b.c < a.c <;> simp [h3, h4, h5]
/-- The step i is better than what is. -/
def betB (l : List St) (ch : List Bool) (b : Option Nat) (i : Nat) (s : St) : Bool := !(ch.getD i false) && (freeL s (l.take i) ch && (match b with
  | none => true
  | some j => match l[j]? with
    | some y => pkLt s y
    | none => false))
def bestStep (l : List St) (ch : List Bool) (b : Option Nat) (i : Nat) : Option Nat := match l[i]? with
  | none => b
  | some s => if betB l ch b i s = true then some i else b
def bestN (l : List St) (ch : List Bool) : Nat → Option Nat
  | 0 => none
  | n + 1 => bestStep l ch (bestN l ch n) n
def ordStep (l : List St) (p : List Nat × List Bool) : List Nat × List Bool := match bestN l p.2 l.length with
  | some b => (p.1 ++ [b], p.2.set b true)
  | none => p
def ordN (l : List St) : Nat → List Nat × List Bool
  | 0 => ([], List.replicate l.length false)
  | k + 1 => ordStep l (ordN l k)
def orderB (l : List St) : List Nat := (ordN l l.length).1
def leastB (l : List St) : List St := (orderB l).filterMap (l[·]?)
def pick (s : St) : Int × Int := (s.g, s.c)
def canB (l : List St) : List (Int × Int) := (leastB l).map pick

theorem freeL_all (s : St) : ∀ (l : List St) (ch : List Bool) , (∀ k, k < l.length → ch[k]? = some true) → freeL s l ch = true
  | [], _, _ => by cases ‹List Bool› <;> rfl
  | x :: l, [], _ => rfl
  | x :: l, c :: ch, h => by
    have := h 0 (by simp)
    simp only [List.getElem?_cons_zero, Option.some.injEq] at this
    rw [freeL, this, Bool.true_or, Bool.true_and]
    exact freeL_all s l ch fun k hk => by have := h (k + 1) (by simpa using hk); simpa using this
theorem best_lt (l : List St) (ch : List Bool) : ∀ n b, bestN l ch n = some b → b < n ∧ b < l.length ∧ ch.getD b false = false
  | 0, b, h => by cases h
  | n + 1, b, h => by
    rw [bestN, bestStep] at h
    split at h
    · have := best_lt l ch n b h; exact ⟨by omega, this.2⟩
    · rename_i s hs
      split at h
      · rename_i hb
        cases h
        refine ⟨by omega, (List.getElem?_eq_some_iff.1 hs).1, ?_⟩
        simp only [betB, Bool.and_eq_true, Bool.not_eq_true'] at hb
        exact hb.1
      · have := best_lt l ch n b h; exact ⟨by omega, this.2⟩
theorem best_some (l : List St) (ch : List Bool) (hc : ch.length = l.length) : ∀ n, n ≤ l.length → (∃ i, i < n ∧ ch[i]? = some false) → ∃ b, bestN l ch n = some b
  | 0, _, ⟨i, hi, _⟩ => by omega
  | n + 1, hn, ⟨i, hi, h⟩ => by
    obtain ⟨s, hs⟩ := at_lt (l := l) (k := n) (by omega)
    rw [bestN, bestStep, hs]
    by_cases hex : ∃ i, i < n ∧ ch[i]? = some false
    · obtain ⟨b, hb⟩ := best_some l ch hc n (by omega) hex
      rw [hb]
      dsimp only
      split <;> exact ⟨_, rfl⟩
    · have hall : ∀ k, k < n → ch[k]? = some true := fun k hk => by
        obtain ⟨c, hck⟩ := at_lt (l := ch) (k := k) (by omega)
        cases c
        · exact absurd ⟨k, hk, hck⟩ hex
        · exact hck
      have hin : i = n := by
        refine Nat.le_antisymm (by omega) (Nat.le_of_not_lt fun hlt => ?_)
        rw [hall i hlt] at h; cases h
      subst hin
      cases hb : bestN l ch i with
      | some b => dsimp only; split <;> exact ⟨_, rfl⟩
      | none =>
        refine ⟨i, ?_⟩
        have : betB l ch none i s = true := by
          simp only [betB, List.getD_eq_getElem?_getD, h, Option.getD_some, Bool.not_false, Bool.true_and, Bool.and_true]
          exact freeL_all s _ ch fun k hk => hall k (by simp at hk; omega)
        dsimp only
        rw [if_pos this]
theorem count_set (ch : List Bool) (b : Nat) (hb : ch[b]? = some false) : (ch.set b true).count false + 1 = ch.count false := by
  induction ch generalizing b with
  | nil => simp at hb
  | cons c r ih =>
    cases b with
    | zero => simp at hb; subst hb; simp
    | succ b =>
      have := ih b (by simpa using hb)
      rw [List.set_cons_succ, List.count_cons, List.count_cons]
      omega
theorem ord_inv (l : List St) : ∀ k, k ≤ l.length → (ordN l k).2.length = l.length ∧ (ordN l k).2.count false + k = l.length ∧ (ordN l k).1.length = k ∧ ∀ i ∈ (ordN l k).1, i < l.length
  | 0, _ => by simp [ordN]
  | k + 1, h => by
    obtain ⟨h1, h2, h3, h4⟩ := ord_inv l k (by omega)
    have hex : ∃ i, i < l.length ∧ (ordN l k).2[i]? = some false := by
      have : 0 < (ordN l k).2.count false := by omega
      obtain ⟨i, hi, e⟩ := List.getElem_of_mem (List.count_pos_iff.1 this)
      exact ⟨i, by omega, by rw [List.getElem?_eq_getElem hi, e]⟩
    obtain ⟨b, hb⟩ := best_some l _ h1 l.length (Nat.le_refl _) hex
    obtain ⟨b1, b2, b3⟩ := best_lt l _ _ b hb
    have hbf : (ordN l k).2[b]? = some false := by
      obtain ⟨c, hc⟩ := at_lt (l := (ordN l k).2) (k := b) (by omega)
      rw [List.getD_eq_getElem?_getD, hc] at b3
      rw [hc]; simpa using b3
    have := count_set _ b hbf
    rw [ordN, ordStep, hb]
    refine ⟨by simp [h1], by simp only; omega, by simp [h3], fun i hi => ?_⟩
    rcases List.mem_append.1 hi with hi | hi
    · exact h4 i hi
    · rw [List.mem_singleton.1 hi]; exact b2
theorem ord_next (l : List St) (k : Nat) (h : k < l.length) : ∃ b, bestN l (ordN l k).2 l.length = some b ∧ b < l.length ∧ ordN l (k + 1) = ((ordN l k).1 ++ [b], (ordN l k).2.set b true) := by
  obtain ⟨h1, h2, h3, h4⟩ := ord_inv l k (by omega)
  have hex : ∃ i, i < l.length ∧ (ordN l k).2[i]? = some false := by
    have : 0 < (ordN l k).2.count false := by omega
    obtain ⟨i, hi, e⟩ := List.getElem_of_mem (List.count_pos_iff.1 this)
    exact ⟨i, by omega, by rw [List.getElem?_eq_getElem hi, e]⟩
  obtain ⟨b, hb⟩ := best_some l _ h1 l.length (Nat.le_refl _) hex
  exact ⟨b, hb, (best_lt l _ _ b hb).2.1, by rw [ordN, ordStep, hb]⟩
end Go.Proofs.Ytbhkcejjehgfcaa
/- maps.Clone. -/
namespace Go.Proofs
open Go.Shelf Go.RowKit Go.Lib Go.Maps
def Ytbhkcejjehgfcaa.cloneK_ren : Go.Shelf.Ren := ⟨fun | 5 => 46 | 7 => 63 | n => n, fun | 23 => 69 | 25 => 3 | 3 => 4 | 4 => 4 | 20 => 20 | n => n, fun | n => n⟩
theorem Ytbhkcejjehgfcaa.cloneK : Go.Proofs.SlLaysW.n5 Try.prog Ytbhkcejjehgfcaa.cloneK_ren := {
  mixed := by kernel_rfl
  f5 := ⟨Try.f46.name, by decide, Try.func46.trans (congrArg some (by kernel_rfl))⟩
  f7 := Try.func63.trans (congrArg some (by kernel_rfl))
  t4 := Try.underlying4
  a4 := Try.isAgg4
  z4 := Try.sizeOf4
  v4 := Try.zeroValue4
  t20 := Try.underlying20
  a20 := Try.isAgg20
  z20 := Try.sizeOf20
  v20 := Try.zeroValue20
  t23 := Try.underlying69
  a23 := Try.isAgg69
  z23 := Try.sizeOf69
  v23 := Try.zeroValue69 }
end Go.Proofs
namespace Go.Proofs.Ytbhkcejjehgfcaa
open Go.RowKit Go.Sort
set_option linter.unusedSimpArgs false
set_option linter.unusedVariables false

theorem clone_arm (s : ASt) (tag n : Nat) (pin : Option Nat) (f : Lit → Option Value) (hlk : s.hp.lookup tag = some (.map pin Try.prog 3 n f)) : ∀ L loc w vs, HRel L s.N s.hp loc w → ARs s.N (Dm L loc) loc w [.own tag] vs →
    Calls Try.prog 46 vs.toArray w fun e w' => ∃ u, e = .returned u ∧ Blw w.heap.size w w' ∧ (∀ b, blkOf u = some b → w.heap.size ≤ b) ∧ u.oneCell' = true ∧ OR (s.N + 1) (Dm L (setLoc loc s.N u)) (setLoc loc s.N u) w' u (.map none Try.prog 3 n f) := by
  intro L loc w vs hh hvs
  obtain ⟨_, u, hu, b, D, rfl, hown, hmk, _⟩ := hh.at' tag _ hlk
  obtain ⟨v, rfl⟩ : ∃ v, vs = [v] := List.length_eq_one_iff.1 hvs.1
  have h1 := hvs.2 0 _ v rfl rfl
  cases h1 with
  | own _ _ _ _ hv =>
  obtain rfl := hv _ hu
  obtain ⟨es, clock, hb, F, hs, hD⟩ := hown
  refine (AnyW.maps_Clone cloneK b es clock w hb).mono fun e w' ⟨he, hw⟩ => ?_
  subst hw
  exact ⟨_, he, (Blw.refl _ w).alloc (Nat.le_refl _) _, fun b hb => by cases hb; exact Nat.le_refl _, rfl, w.heap.size, D, rfl, ⟨es, clock, (MapKept.heap_alloc w _).1, F, hs, hD⟩, hmk, fun p e => by cases e⟩
end Go.Proofs.Ytbhkcejjehgfcaa
/- visit, walked. -/
namespace Go.Proofs.Ytbhkcejjehgfcaa
open Go.RowKit Go.Sort
set_option linter.unusedSimpArgs false
set_option linter.unusedVariables false

def posR (pos : List Nat) : List (List PV) := pos.map fun (k : Nat) => [.val (.int .i64 (k : Int))]
def hpV (b : Nat) (ths : List (List St)) (pos : List Nat) (run : List St) (Y0 Y1 Y2 : AO) : Hp :=
  [(0, .boxP (some b) 67 [.p (thsP ths), .own 2, .own 1]), (1, .row 3 1 (posR pos)), (2, .row 48 4 (run.map stC)), (10, Y0), (11, Y1), (12, Y2)]
theorem AO.ren_box (t t' : Nat) (pin : Option Nat) (ty : TypeId) (cs : List AV) : AO.ren t t' (.boxP pin ty cs) = .boxP pin ty (cs.map (AV.ren t t')) := rfl
theorem AO.ren_row (t t' : Nat) (e n : Nat) (rows : List (List PV)) : AO.ren t t' (.row e n rows) = .row e n rows := rfl
theorem AO.ren_map (t t' : Nat) (pin : Option Nat) (P : Program) (k n : Nat) (f : Lit → Option Value) : AO.ren t t' (.map pin P k n f) = .map pin P k n f := rfl
theorem AO.ren_raw (t t' : Nat) (u : Value) (ob : Obj) : AO.ren t t' (.raw u ob) = .raw u ob := rfl
theorem AO.ren_lrec (t t' : Nat) (l : Nat) (sp : LSpec) (fr : List (Nat × AV)) : AO.ren t t' (.lrec l sp fr) = .lrec l sp (fr.map fun p => (p.1, AV.ren t t' p.2)) := rfl
theorem AO.cut_box (t m : Nat) (pin : Option Nat) (ty : TypeId) (cs : List AV) : AO.cut t m (.boxP pin ty cs) = .boxP pin ty (cs.map (AV.cut t m)) := rfl
theorem AO.cut_row (t m : Nat) (e n : Nat) (rows : List (List PV)) : AO.cut t m (.row e n rows) = .row e n rows := rfl
theorem AO.cut_map (t m : Nat) (pin : Option Nat) (P : Program) (k n : Nat) (f : Lit → Option Value) : AO.cut t m (.map pin P k n f) = .map pin P k n f := rfl
theorem AO.cut_raw (t m : Nat) (u : Value) (ob : Obj) : AO.cut t m (.raw u ob) = .raw u ob := rfl
theorem AO.cut_lrec (t m : Nat) (l : Nat) (sp : LSpec) (fr : List (Nat × AV)) : AO.cut t m (.lrec l sp fr) = .lrec l sp (fr.map fun p => (p.1, AV.cut t m p.2)) := rfl
theorem AO.keep_box (n : Nat) (ks : List Nat) (pin : Option Nat) (ty : TypeId) (cs : List AV) : AO.keep n ks (.boxP pin ty cs) = .boxP pin ty (cs.map (AV.keep n ks)) := rfl
theorem AO.keep_row (n : Nat) (ks : List Nat) (e m : Nat) (rows : List (List PV)) : AO.keep n ks (.row e m rows) = .row e m rows := rfl
theorem AO.keep_map (n : Nat) (ks : List Nat) (pin : Option Nat) (P : Program) (k m : Nat) (f : Lit → Option Value) : AO.keep n ks (.map pin P k m f) = .map pin P k m f := rfl
theorem AO.keep_raw (n : Nat) (ks : List Nat) (u : Value) (ob : Obj) : AO.keep n ks (.raw u ob) = .raw u ob := rfl
theorem AO.keep_lrec (n : Nat) (ks : List Nat) (l : Nat) (sp : LSpec) (fr : List (Nat × AV)) : AO.keep n ks (.lrec l sp fr) = .lrec l sp (fr.map fun p => (p.1, AV.keep n ks p.2)) := rfl
theorem AO.handle_box (b : Nat) (ty : TypeId) (cs : List AV) : AO.handle (.boxP (some b) ty cs) = some (.pointer (some ⟨b, 0, none⟩)) := rfl
/-- An object that knows of no tag but 10, 11, 12. -/
structure Mute (o : AO) : Prop where
  sub : ∀ t y, t < 10 ∨ 12 < t → o.sub t y = o
  cut : ∀ t m, t < 10 ∨ 12 < t → o.cut t m = o
  ren : ∀ t t', t < 10 ∨ 12 < t → t' < 10 ∨ 12 < t' → o.ren t t' = o
  ok : ∀ n, 13 ≤ n → o.okB n = true
theorem FinM.ret {P : Program} {fn : Func} {N : Nat} {Q : Hp → AV → Prop} {r : AV} {s s' : ASt} {e : Exit} (he : e = .normal ∨ e = .ret) {rs : Array ResultVar} (hrs : fn.results = rs) (hw : Weak s s') (hN : s'.N = N) (h : ares P s' rs.toList = some r) (hq : Q s'.hp r) : FinM P fn N Q e s := ⟨he, s', hw, hN, r, by rw [hrs]; exact h, hq⟩
def dd (ths : List (List St)) (pos : List Nat) (s : St) (u : Nat) : Bool := match stepOf ths pos u with
  | some x => dpB s x
  | none => false
theorem nextZ_dd (ths : List (List St)) (pos : List Nat) (s : St) (Z : Nat → Bool) : nextZ ths pos s Z = fun u => Z u && !dd ths pos s u := rfl
/-- The entry of u has come. -/
noncomputable def sk (es : Array MapEntry) (seen : Array Nat) (u : Nat) : Bool := open Classical in decide (∃ e ∈ es.toList, e.key = .int .i64 (u : Int) ∧ seen.contains e.born = true)
theorem sk_empty (es : Array MapEntry) (u : Nat) : sk es #[] u = false := by simp [sk]
theorem lefts_mem {es : Array MapEntry} {seen : Array Nat} {e : MapEntry} (h : e ∈ (lefts es seen).toList) : e ∈ es.toList ∧ seen.contains e.born = false := by
  unfold lefts leftOf at h
  simp only [Array.toList_filter, List.mem_filter, Bool.not_eq_true'] at h
  exact h
theorem born_eqL {e e' : MapEntry} (hb : e'.born = e.born) : ∀ (l : List MapEntry), (l.map (·.born)).Nodup → e ∈ l → e' ∈ l → e' = e
  | [], _, h, _ => by cases h
  | x :: r, hn, h, h' => by
    obtain ⟨h1, h2⟩ := List.nodup_cons.1 hn
    rcases List.mem_cons.1 h with rfl | h3
    · rcases List.mem_cons.1 h' with rfl | h'
      · rfl
      · exact absurd (List.mem_map.2 ⟨e', h', hb⟩) h1
    · rcases List.mem_cons.1 h' with rfl | h'
      · exact absurd (List.mem_map.2 ⟨e, h3, hb.symm⟩) h1
      · exact born_eqL hb r h2 h3 h'
theorem born_eq {es : Array MapEntry} (hn : (es.toList.map (·.born)).Nodup) {e e' : MapEntry} (h : e ∈ es.toList) (h' : e' ∈ es.toList) (hb : e'.born = e.born) : e' = e := born_eqL hb _ hn h h'
theorem nextArm {A : Nat → Nat → Nat → Nat → Nat → Array Nat → Array MapEntry → Nat → Prop} (a b c d e : Nat) (f : Array Nat) (g : Array MapEntry) (h : Nat) (k : A a b c d e f g h) : ∃ tm r b since c0 seen es ck, A tm r b since c0 seen es ck := ⟨a, b, c, d, e, f, g, h, k⟩
theorem entryArm {A : Nat → Nat → Nat → Nat → Array Nat → Array MapEntry → Nat → MapEntry → Prop} (a b c d : Nat) (f : Array Nat) (g : Array MapEntry) (h : Nat) (e : MapEntry) (k : A a b c d f g h e) : ∃ tm r b since seen es ck e, A tm r b since seen es ck e := ⟨a, b, c, d, f, g, h, e, k⟩
theorem sk_push {es : Array MapEntry} (hn : (es.toList.map (·.born)).Nodup) {seen : Array Nat} {e : MapEntry} (h : e ∈ es.toList) {t : Nat} (hk : e.key = .int .i64 (t : Int)) (u : Nat) : sk es (seen.push e.born) u = (sk es seen u || decide (u = t)) := by
  rw [Bool.eq_iff_iff]
  simp only [sk, Bool.or_eq_true, decide_eq_true_eq, contains_push]
  constructor
  · rintro ⟨e', h1, h2, h3⟩
    rcases h3 with h3 | h3
    · exact .inl ⟨e', h1, h2, h3⟩
    · have := born_eq hn h h1 (by simpa using h3)
      subst this
      rw [hk] at h2
      right
      have := (Value.int.inj h2).2
      omega
  · rintro (⟨e', h1, h2, h3⟩ | rfl)
    · exact ⟨e', h1, h2, .inl h3⟩
    · exact ⟨e, h, hk, .inr (by simp)⟩
structure Vi where
  k : Nat
  nb : Nat
  Z : Nat → Bool
  acc : List (List St)
set_option maxHeartbeats 8000000 in
set_option maxRecDepth 100000 in
theorem visit_ok (ths : List (List St)) (hlen : ths.length ≤ 100) (hst : ∀ l ∈ ths, l.length ≤ 1000 ∧ ∀ s ∈ l, StOk s) (b : Nat) (Y0 Y1 Y2 : List (List St) → AO) (M : Nat) (m0 : ∀ a, Mute (Y0 a)) (m1 : ∀ a, Mute (Y1 a)) (m2 : ∀ a, Mute (Y2 a)) (hv : Value) (hh : ∀ a, (Y2 a).handle = some hv)
    (hyld : ∀ pos run acc, acc.length < M → PosOk ths pos → RunIn ths run → ∃ l sp fr, Y2 acc = .lrec l sp fr ∧ YldC Try.prog l 13 (hpV b ths pos run (Y0 acc) (Y1 acc) (Y2 acc)) [.own 2] fun hp' r => hp' = hpV b ths pos run (Y0 (acc ++ [run])) (Y1 (acc ++ [run])) (Y2 (acc ++ [run])) ∧ r = .bool true) :
    ∀ m pos run Z n0 acc, PosOk ths pos → (∀ s ∈ run, ∃ l ∈ ths, s ∈ l) → remB ths pos ≤ m → (∀ u, Z u = true → (stepOf ths pos u).isSome = true) → n0 + (m + 1) * (ths.length + 1) ≤ 1000000000 → run.length + remB ths pos ≤ 100000 → acc.length + (visB ths (m + 1) pos run Z).length ≤ M →
    MemC Try.prog 37 13 ((3, .map none Try.prog 3 n0 (zf Z)) :: hpV b ths pos run (Y0 acc) (Y1 acc) (Y2 acc)) [.ptr 0 0, .own 3, .own 12] fun hp' r => hp' = hpV b ths pos run (Y0 (acc ++ visB ths (m + 1) pos run Z)) (Y1 (acc ++ visB ths (m + 1) pos run Z)) (Y2 (acc ++ visB ths (m + 1) pos run Z)) ∧ r = .bool true := by
  intro m
  induction m using Nat.strongRecOn with
  | _ m ih =>
  intro pos run Z n0 acc hp hri hrem hZ hn0 hrun hM
  simp only [hpV, thsP]
  refine MemC.of Try.func37 rfl 138 rfl (by decide) ?_; simp only [startM, frOf]
  repeat' (first | refine T.seqK fun K hK => ?_ | refine T.block ?_ | (refine T.reg (by kernel_rfl) fun K' hK' => ?_; simp only [startSt, frOf, List.map_cons, List.map_nil]; (repeat' (first | (with_reducible refine WL.fin ?_; refine hK' _ ?_; clear hK' K') | (with_reducible refine WD.fin ?_) | ((first | (with_reducible refine WL.step fun K2 hK2 => ?_) | (with_reducible refine WD.step fun K2 hK2 => ?_)); simp only [WS, WH, WO, WOv, WG, dstOk, hasDst, aop, ASt.ev, aload, aloadC, afield, aindex, abin, abinI, aun, alen, acells, Nat.reduceEqDiff, Nat.reduceLT, Nat.reduceLeDiff, Nat.reduceAdd, reduceIte, reduceCtorEq, implies_true, ASt.add, setHp, asplice, Int.reduceEq, Int.reduceNe, Int.reduceLT, Int.reduceLE, Int.reduceSub, Int.reduceAdd, abuild, afill, abuildS, pureL, chunks, List.range, List.range.loop, Nat.reduceMul, Nat.reduceMod, apartF, apartI, aslice, evI, ASt.subst, AO.box, aval, pvals, ams, tys, mapTy_69, keyed_3, (m0 acc).sub, (m1 acc).sub, (m2 acc).sub]; (repeat' (first | (with_reducible refine hK2 _ ?_; clear hK2 K2) | (with_reducible refine And.intro ?_ ?_) | (with_reducible intro hb) | (with_reducible refine callArmN (.map none Try.prog 3 _ _) (Ent.of Try.func46 (by kernel_rfl) rfl) (clone_arm _ _ _ _ _ rfl) ?_))))))) | refine T.skip ?_ | refine T.exit ?_ | refine T.condT rfl ?_ | refine T.condF rfl ?_ | refine T.cond rfl (fun hc => ?_) (fun hc => ?_) | refine T.ret ?_ | simp only [ThenA, InBlock, reduceIte, Nat.reduceEqDiff] | ((repeat ((fail_if_success (refine hK _ ?_)); clear hK K)); refine hK _ ?_; clear hK K))
  obtain ⟨tot, htot⟩ : ∃ tot, tot = acc ++ visB ths (m + 1) pos run Z := ⟨_, rfl⟩
  simp only [← htot]
  refine T.loopK (fun i : Vi => ⟨[(0, .ptr 0 0), (1, .own 13), (2, .own 12), (6, .bool false), (7, .bool (endU ths pos i.k)), (19, .p (thsP ths)), (20, .int ths.length), (21, .int i.k)], [(13, .map none Try.prog 3 i.nb (zf i.Z)), (0, .boxP (some b) 67 [.p (thsP ths), .own 2, .own 1]), (1, .row 3 1 (posR pos)), (2, .row 48 4 (run.map stC)), (10, Y0 i.acc), (11, Y1 i.acc), (12, Y2 i.acc)], 138, 14⟩)
    (fun i => i.k ≤ ths.length ∧ i.nb ≤ n0 + i.k ∧ (∀ u, i.Z u = true → (stepOf ths pos u).isSome = true) ∧ tot = i.acc ++ (loopB (visB ths m) ths pos run ((List.range ths.length).drop i.k) i.Z ++ (if endU ths pos ths.length = true then [run] else [])))
    (fun i => ths.length - i.k) ⟨0, n0, Z, acc⟩ ⟨Nat.zero_le _, Nat.le_refl _, hZ, by rw [htot, visB]; rfl⟩ (by refine Weak.of' rfl ?_; simp only [wks, reduceIte, Nat.reduceEqDiff, ASt.okB, AV.okB, Nat.reduceLT, implies_true, Int.natCast_zero, (m0 acc).ok 14 (by decide), (m1 acc).ok 14 (by decide), (m2 acc).ok 14 (by decide), thsP, endU_zero]) ?_
  rintro ⟨k, nb, Zk, ak⟩ ⟨hk, hnb, hZk, htk⟩ KL hKL
  simp only at hk hnb hZk htk ⊢
  simp only [thsP]
  have hkl : k < 1152921504606846976 := by omega
  by_cases hlt : k < ths.length
  · obtain ⟨l, hx⟩ := at_lt hlt
    obtain ⟨pk, hy⟩ := at_lt (l := pos) (k := k) (by rw [hp.len]; exact hlt)
    have hpl : k < pos.length := by rw [hp.len]; exact hlt
    have hd : decide ((k : Int) < (ths.length : Int)) = true := by simpa using hlt
    have hple := hp.le k l pk hx hy
    have hrg : (List.range ths.length)[k]? = some k := List.getElem?_range hlt
    have hkey := keyOf_3 (a := (k : Int)) (by omega) (by omega)
    rw [drop_at hrg] at htk
    cases hs : stepOf ths pos k with
    | none =>
      have hle : pk = l.length := by
        refine Nat.le_antisymm hple (Nat.le_of_not_lt fun e => ?_)
        obtain ⟨s, h3⟩ := at_lt e
        rw [stepOf_some.2 ⟨l, pk, hx, hy, h3⟩] at hs; cases hs
      have he : ((pk : Int) == (l.length : Int)) = true := by simp [hle]
      rw [loopB, hs] at htk
      simp only at htk
      repeat' (first | refine T.seqK fun K hK => ?_ | refine T.block ?_ | (refine T.reg (by kernel_rfl) fun K' hK' => ?_; simp only [startSt, frOf, List.map_cons, List.map_nil]; (repeat' (first | (with_reducible refine WL.fin ?_; refine hK' _ ?_; clear hK' K') | (with_reducible refine WD.fin ?_) | ((first | (with_reducible refine WL.step fun K2 hK2 => ?_) | (with_reducible refine WD.step fun K2 hK2 => ?_)); simp only [WS, WH, WO, WOv, WG, dstOk, hasDst, aop, ASt.ev, aload, aloadC, afield, aindex, abin, abinI, aun, alen, acells, Nat.reduceEqDiff, Nat.reduceLT, Nat.reduceLeDiff, Nat.reduceAdd, reduceIte, reduceCtorEq, implies_true, ASt.add, setHp, asplice, Int.reduceEq, Int.reduceNe, Int.reduceLT, Int.reduceLE, Int.reduceSub, Int.reduceAdd, abuild, afill, abuildS, pureL, chunks, List.range, List.range.loop, Nat.reduceMul, Nat.reduceMod, apartF, apartI, aslice, evI, ASt.subst, AO.box, aval, pvals, ams, tys, mapTy_69, keyed_3, hx, hy, hd, hpl, he, posR, thP]; (repeat' (first | (with_reducible refine hK2 _ ?_; clear hK2 K2) | (with_reducible refine And.intro ?_ ?_) | (with_reducible intro hb) | fail)))))) | refine T.skip ?_ | refine T.exit ?_ | refine T.condT rfl ?_ | refine T.condF rfl ?_ | refine T.cond rfl (fun hc => ?_) (fun hc => ?_) | refine T.ret ?_ | simp only [ThenA, InBlock, reduceIte, Nat.reduceEqDiff] | ((repeat ((fail_if_success (refine hK _ ?_)); clear hK K)); refine hK _ ?_; clear hK K))
      refine hKL _ ⟨k + 1, nb, Zk, ak⟩ (by refine Weak.of' rfl ?_; simp only [wks, reduceIte, Nat.reduceEqDiff, ASt.okB, AV.okB, Nat.reduceLT, implies_true, wrap_succ hkl, (m0 ak).ok 14 (by decide), (m1 ak).ok 14 (by decide), (m2 ak).ok 14 (by decide), thsP, thP, endU_succ, hs, Option.isNone_none, posR]) ⟨by simp only; omega, by simp only; omega, hZk, htk⟩ (by simp only; omega)
    | some s =>
      obtain ⟨l', pk', hx', hy', h3⟩ := stepOf_some.1 hs
      rw [hx] at hx'; cases hx'
      rw [hy] at hy'; cases hy'
      have hlt3 := (List.getElem?_eq_some_iff.1 h3).1
      have he : ((pk : Int) == (l.length : Int)) = false := by simp; omega
      rw [loopB, hs] at htk
      simp only at htk
      by_cases hz : Zk k = true
      · rw [if_pos hz] at htk
        repeat' (first | refine T.seqK fun K hK => ?_ | refine T.block ?_ | (refine T.reg (by kernel_rfl) fun K' hK' => ?_; simp only [startSt, frOf, List.map_cons, List.map_nil]; (repeat' (first | (with_reducible refine WL.fin ?_; refine hK' _ ?_; clear hK' K') | (with_reducible refine WD.fin ?_) | ((first | (with_reducible refine WL.step fun K2 hK2 => ?_) | (with_reducible refine WD.step fun K2 hK2 => ?_)); simp only [WS, WH, WO, WOv, WG, dstOk, hasDst, aop, ASt.ev, aload, aloadC, afield, aindex, abin, abinI, aun, alen, acells, Nat.reduceEqDiff, Nat.reduceLT, Nat.reduceLeDiff, Nat.reduceAdd, reduceIte, reduceCtorEq, implies_true, ASt.add, setHp, asplice, Int.reduceEq, Int.reduceNe, Int.reduceLT, Int.reduceLE, Int.reduceSub, Int.reduceAdd, abuild, afill, abuildS, pureL, chunks, List.range, List.range.loop, Nat.reduceMul, Nat.reduceMod, apartF, apartI, aslice, evI, ASt.subst, AO.box, aval, pvals, ams, tys, mapTy_69, keyed_3, hx, hy, hd, hpl, he, posR, thP, hkey, zf_look, hz]; (repeat' (first | (with_reducible refine hK2 _ ?_; clear hK2 K2) | (with_reducible refine And.intro ?_ ?_) | (with_reducible intro hb) | fail)))))) | refine T.skip ?_ | refine T.exit ?_ | refine T.condT rfl ?_ | refine T.condF rfl ?_ | refine T.cond rfl (fun hc => ?_) (fun hc => ?_) | refine T.ret ?_ | simp only [ThenA, InBlock, reduceIte, Nat.reduceEqDiff] | ((repeat ((fail_if_success (refine hK _ ?_)); clear hK K)); refine hK _ ?_; clear hK K))
        refine hKL _ ⟨k + 1, nb, Zk, ak⟩ (by refine Weak.of' rfl ?_; simp only [wks, reduceIte, Nat.reduceEqDiff, ASt.okB, AV.okB, Nat.reduceLT, implies_true, wrap_succ hkl, (m0 ak).ok 14 (by decide), (m1 ak).ok 14 (by decide), (m2 ak).ok 14 (by decide), thsP, thP, endU_succ, hs, Option.isNone_some, Bool.and_false, posR]) ⟨by simp only; omega, by simp only; omega, hZk, htk⟩ (by simp only; omega)
      · rw [if_neg hz] at htk
        have hz : Zk k = false := by simpa using hz
        repeat' (first | refine T.seqK fun K hK => ?_ | refine T.block ?_ | (refine T.reg (by kernel_rfl) fun K' hK' => ?_; simp only [startSt, frOf, List.map_cons, List.map_nil]; (repeat' (first | (with_reducible refine WL.fin ?_; refine hK' _ ?_; clear hK' K') | (with_reducible refine WD.fin ?_) | ((first | (with_reducible refine WL.step fun K2 hK2 => ?_) | (with_reducible refine WD.step fun K2 hK2 => ?_)); simp only [WS, WH, WO, WOv, WG, dstOk, hasDst, aop, ASt.ev, aload, aloadC, afield, aindex, abin, abinI, aun, alen, acells, Nat.reduceEqDiff, Nat.reduceLT, Nat.reduceLeDiff, Nat.reduceAdd, reduceIte, reduceCtorEq, implies_true, ASt.add, setHp, asplice, Int.reduceEq, Int.reduceNe, Int.reduceLT, Int.reduceLE, Int.reduceSub, Int.reduceAdd, abuild, afill, abuildS, pureL, chunks, List.range, List.range.loop, Nat.reduceMul, Nat.reduceMod, apartF, apartI, aslice, evI, ASt.subst, AO.box, aval, pvals, ams, tys, mapTy_69, keyed_3, hx, hy, hd, hpl, he, posR, thP, hkey, zf_look, hz, h3, stC]; (repeat' (first | (with_reducible refine hK2 _ ?_; clear hK2 K2) | (with_reducible refine And.intro ?_ ?_) | (with_reducible intro hb) | (with_reducible refine callArmN (.map none Try.prog 3 _ _) (Ent.of Try.func46 (by kernel_rfl) rfl) (clone_arm _ _ _ _ _ rfl) ?_))))))) | refine T.skip ?_ | refine T.exit ?_ | refine T.condT rfl ?_ | refine T.condF rfl ?_ | refine T.cond rfl (fun hc => ?_) (fun hc => ?_) | refine T.ret ?_ | simp only [ThenA, InBlock, reduceIte, Nat.reduceEqDiff] | ((repeat ((fail_if_success (refine hK _ ?_)); clear hK K)); refine hK _ ?_; clear hK K))
        rename_i bb rr es ck
        have hmi := hb
        clear hb
        have hke : ∀ e ∈ es.toList, ∃ u : Nat, e.key = .int .i64 (u : Int) ∧ u < ths.length ∧ Zk u = true := fun e hem => by
          obtain ⟨kl, h4, h5⟩ := hmi.entry keyed_3 hem
          unfold zf at h5
          split at h5
          · rename_i a
            split at h5
            · rename_i ha
              have hul : a.toNat < ths.length := by
                have := hZk _ ha.2
                obtain ⟨x, h6⟩ := Option.isSome_iff_exists.1 this
                obtain ⟨l6, k6, h7, _⟩ := stepOf_some.1 h6
                exact (List.getElem?_eq_some_iff.1 h7).1
              refine ⟨a.toNat, ?_, hul, ha.2⟩
              rw [Int.toNat_of_nonneg ha.1]
              exact keyed_3.inj h4 (keyOf_3 ha.1 (by omega))
            · cases h5
          · cases h5
        refine T.loopK (fun seen : Array Nat => ⟨[(0, .ptr 0 0), (1, .own 13), (2, .own 12), (6, .bool false), (7, .bool false), (8, .int k), (9, .p (thP l)), (10, .ptr 14 0), (11, .own 15), (19, .p (thsP ths)), (20, .int ths.length), (21, .int k), (52, .own 16)], [(16, .raw (.pointer (some ⟨rr, 0, none⟩)) (.mapIter (some bb) ck seen ck)), (15, .map none Try.prog 3 nb (zf fun u => Zk u && !(dd ths pos s u && sk es seen u))), (14, .boxP none 48 ((stC s).map .p)), (13, .raw (.map (some bb)) (.map es ck)), (0, .boxP (some b) 67 [.p (thsP ths), .own 2, .own 1]), (1, .row 3 1 (posR pos)), (2, .row 48 4 (run.map stC)), (10, Y0 ak), (11, Y1 ak), (12, Y2 ak)], 138, 17⟩)
          (fun _ => True) (fun seen => (lefts es seen).size) #[] trivial (by refine Weak.of' rfl ?_; simp only [wks, reduceIte, Nat.reduceEqDiff, ASt.okB, AV.okB, Nat.reduceLT, implies_true, (m0 ak).ok 17 (by decide), (m1 ak).ok 17 (by decide), (m2 ak).ok 17 (by decide), thsP, thP, stC, posR, sk_empty, Bool.and_false, Bool.not_false, Bool.and_true, List.map_cons, List.map_nil]) ?_
        rintro seen - KS hKS
        simp only [thsP, thP, stC, posR, List.map_cons, List.map_nil]
        repeat' (first | refine T.seqK fun K hK => ?_ | refine T.block ?_ | refine T.skip ?_ | refine T.exit ?_ | refine T.condT rfl ?_ | refine T.condF rfl ?_ | refine T.cond rfl (fun hc => ?_) (fun hc => ?_) | refine T.ret ?_ | simp only [ThenA, InBlock, reduceIte, Nat.reduceEqDiff] | ((repeat ((fail_if_success (refine hK _ ?_)); clear hK K)); refine hK _ ?_; clear hK K))
        (refine T.reg (by kernel_rfl) fun K' hK' => ?_; simp only [startSt, frOf, List.map_cons, List.map_nil]; (repeat' (first | (with_reducible refine WL.fin ?_; refine hK' _ ?_; clear hK' K') | (with_reducible refine WD.fin ?_) | ((first | (with_reducible refine WL.step fun K2 hK2 => ?_) | (with_reducible refine WD.step fun K2 hK2 => ?_)); simp only [WS, WH, WO, WOv, WG, dstOk, hasDst, aop, ASt.ev, aload, aloadC, afield, aindex, abin, abinI, aun, alen, acells, Nat.reduceEqDiff, Nat.reduceLT, Nat.reduceLeDiff, Nat.reduceAdd, reduceIte, reduceCtorEq, implies_true, ASt.add, setHp, asplice, Int.reduceEq, Int.reduceNe, Int.reduceLT, Int.reduceLE, Int.reduceSub, Int.reduceAdd, abuild, afill, abuildS, pureL, chunks, List.range, List.range.loop, Nat.reduceMul, Nat.reduceMod, apartF, apartI, aslice, evI, ASt.subst, AO.box, aval, pvals, ams, tys, mapTy_69, keyed_3]; (repeat' (first | (with_reducible refine hK2 _ ?_; clear hK2 K2) | (with_reducible refine And.intro ?_ ?_) | (with_reducible intro hb) | ((with_reducible refine nextArm 13 rr bb ck ck seen es ck ?_); refine ⟨⟨rfl, rfl, hmi.born, Nat.le_refl _⟩, fun h0 => ?_, fun e hem => ?_⟩) | fail))))); all_goals ((try simp only [ThenA, InBlock, reduceIte, Nat.reduceEqDiff]); (try ((repeat ((fail_if_success (refine hK _ ?_)); clear hK K)); refine hK _ ?_; clear hK K))))
        · clear hKS
          have hseen : (zf fun u => Zk u && !(dd ths pos s u && sk es seen u)) = zf (nextZ ths pos s Zk) := by
            refine zf_ext fun v => ?_
            rw [nextZ_dd]
            cases hv : Zk v with
            | false => simp [hv]
            | true =>
              have hvl : v < ths.length := by
                obtain ⟨x, h6⟩ := Option.isSome_iff_exists.1 (hZk v hv)
                obtain ⟨l6, k6, h7, _⟩ := stepOf_some.1 h6
                exact (List.getElem?_eq_some_iff.1 h7).1
              have : sk es seen v = true := by
                obtain ⟨e, he1, he2, _⟩ := hmi.mem keyed_3 (kl := .int .i64 (v : Int)) trivial (v := .bool true) (by rw [zf_at, if_pos hv])
                have he3 := keyed_3.inj he2 (keyOf_3 (a := (v : Int)) (by omega) (by omega))
                have he4 : seen.contains e.born = true := by
                  cases hc : seen.contains e.born with
                  | true => rfl
                  | false =>
                    have hmem : e ∈ (lefts es seen).toList := by
                      unfold lefts leftOf
                      simp only [Array.toList_filter, List.mem_filter, Bool.not_eq_true']
                      exact ⟨he1, hc⟩
                    rw [← Array.length_toList] at h0
                    rw [List.eq_nil_of_length_eq_zero h0] at hmem
                    cases hmem
                simp only [sk, decide_eq_true_eq]
                exact ⟨e, he1, he3, he4⟩
              simp [hv, this]
          rw [hseen]
          refine T.weak (Weak.unraw _ Try.prog 13 bb 3 nb (zf Zk) es ck none (fun p e => by cases e) rfl hmi) ?_
          simp only [setHp, List.map_cons, List.map_nil, reduceIte, Nat.reduceEqDiff]
          repeat' (first | refine T.seqK fun K hK => ?_ | refine T.block ?_ | refine T.skip ?_ | refine T.exit ?_ | refine T.condT rfl ?_ | refine T.condF rfl ?_ | refine T.cond rfl (fun hc => ?_) (fun hc => ?_) | refine T.ret ?_ | simp only [ThenA, InBlock, reduceIte, Nat.reduceEqDiff] | ((repeat ((fail_if_success (refine hK _ ?_)); clear hK K)); refine hK _ ?_; clear hK K))
          have hmn : nb < maxLen := by unfold maxLen; omega
          have hml : run.length + 1 ≤ maxLen := by unfold maxLen; omega
          have hmb : (run.length + 1) * 64 ≤ 140737488355328 := by omega
          refine T.comm [some (0, 1), some (0, 1), some (0, 1), some (0, 1), some (0, 0), some (0, 1), some (0, 0), none, some (1, 2), some (1, 1), none] (by kernel_rfl) (by kernel_rfl) fun K' hK' => ?_; simp only [List.map_cons, List.map_nil, List.zip_cons_cons, List.zip_nil_left]; (repeat' (first | (with_reducible refine WC.fin ?_; refine hK' _ ?_; clear hK' K') | ((first | (with_reducible refine WC.stepV fun K2 hK2 => ?_) | (with_reducible refine WC.stepW fun K2 hK2 => ?_)); simp only [WS, WH, WO, WOv, WG, dstOk, hasDst, aop, ASt.ev, aload, aloadC, afield, aindex, abin, abinI, aun, alen, acells, Nat.reduceEqDiff, Nat.reduceLT, Nat.reduceLeDiff, Nat.reduceAdd, reduceIte, reduceCtorEq, implies_true, ASt.add, setHp, asplice, Int.reduceEq, Int.reduceNe, Int.reduceLT, Int.reduceLE, Int.reduceSub, Int.reduceAdd, abuild, afill, abuildS, pureL, chunks, List.range, List.range.loop, Nat.reduceMul, Nat.reduceMod, apartF, apartI, aslice, evI, ASt.subst, AO.box, aval, pvals, ams, WCg, WCv, WOw, allP, dav, Chk, List.filter_cons, List.filter_nil, bne_self_eq_false, Nat.reduceBneDiff, Bool.false_eq_true, tys, mapTy_69, keyed_3, stC, hml, hmb, ml_1]; (repeat' (first | (with_reducible refine hK2 _ _ ?_; clear hK2 K2) | (with_reducible refine hK2 _ ?_; clear hK2 K2) | (with_reducible refine And.intro ?_ ?_) | (with_reducible intro hb) | (with_reducible rfl) | ((with_reducible show @Eq ASt _ _); rfl) | fail))))); all_goals ((try simp only [ThenA, InBlock, reduceIte, Nat.reduceEqDiff]); (try ((repeat ((fail_if_success (refine hK _ ?_)); clear hK K)); refine hK _ ?_; clear hK K)))
          refine T.weak (Weak.ren _ 17 2) ?_; simp only [ASt.ren, AV.ren_own, AV.ren_ptr, AV.ren_rptr, AV.ren_pre, AV.ren_p, AV.ren_elt, AV.ren_junk, AV.ren_cap0, AV.ren_fn, AV.ren_agg, AV.ren_tup, AO.ren_box, AO.ren_row, AO.ren_map, AO.ren_raw, List.map_cons, List.map_nil, List.filter_cons, List.filter_nil, lk_cons, lk_nil, reduceIte, Nat.reduceEqDiff, Nat.reduceLT, Nat.reduceBneDiff, bne_self_eq_false, Bool.and_true, Bool.and_false, Bool.true_and, Bool.false_and, Bool.and_self, Bool.false_eq_true, ne_eq, not_false_eq_true, not_true_eq_false, and_self, and_true, true_and, and_false, (m0 ak).ren 17 2 (by decide) (by decide), (m1 ak).ren 17 2 (by decide) (by decide), (m2 ak).ren 17 2 (by decide) (by decide)]
          refine T.weak (Weak.ren _ 15 3) ?_; simp only [ASt.ren, AV.ren_own, AV.ren_ptr, AV.ren_rptr, AV.ren_pre, AV.ren_p, AV.ren_elt, AV.ren_junk, AV.ren_cap0, AV.ren_fn, AV.ren_agg, AV.ren_tup, AO.ren_box, AO.ren_row, AO.ren_map, AO.ren_raw, List.map_cons, List.map_nil, List.filter_cons, List.filter_nil, lk_cons, lk_nil, reduceIte, Nat.reduceEqDiff, Nat.reduceLT, Nat.reduceBneDiff, bne_self_eq_false, Bool.and_true, Bool.and_false, Bool.true_and, Bool.false_and, Bool.and_self, Bool.false_eq_true, ne_eq, not_false_eq_true, not_true_eq_false, and_self, and_true, true_and, and_false, (m0 ak).ren 15 3 (by decide) (by decide), (m1 ak).ren 15 3 (by decide) (by decide), (m2 ak).ren 15 3 (by decide) (by decide)]
          obtain ⟨m', hm'⟩ : ∃ m', m = m' + 1 := ⟨m - 1, by have := rem_pos hs; omega⟩
          have hrb := rem_bump hs
          have hpb := pos_bump hp hs
          have hmul : (m + 1) * (ths.length + 1) = (m' + 1) * (ths.length + 1) + (ths.length + 1) := by rw [hm', Nat.add_mul (m' + 1) 1]; omega
          rw [hm'] at htk
          have hih := ih m' (by omega) (bump pos k) (run ++ [s]) (nextZ ths pos s Zk) nb ak hpb (fun x hx => (List.mem_append.1 hx).elim (hri x) fun hx => by obtain ⟨l0, k0, g1, g2, g3⟩ := stepOf_some.1 hs; rw [List.mem_singleton.1 hx]; exact ⟨l0, List.mem_of_getElem? g1, List.mem_of_getElem? g3⟩) (by omega) (fun u hu => by
            simp only [nextZ, Bool.and_eq_true] at hu
            rw [stepOf_bump (fun e => by rw [e, hz] at hu; exact absurd hu.1 (by simp))]
            exact hZk u hu.1) (by omega) (by simp; omega) (by
            have h6 := congrArg List.length htk
            have h7 := congrArg List.length htot
            simp only [List.length_append] at h6 h7
            omega)
          have hrow1 : (posR (bump pos k)) = (posR pos).set k [.val (.int .i64 ((pk : Int) + 1))] := by
            simp only [posR, bump, List.getD_eq_getElem?_getD, hy, Option.getD_some, List.map_set]
            simp
          have hpb1 : (bump pos k)[k]? = some (pk + 1) := by simp only [bump, List.getElem?_set_self hpl, List.getD_eq_getElem?_getD, hy, Option.getD_some]
          have hbl : k < (bump pos k).length := by simp [bump, hpl]
          have hwr : IntKind.i64.wrap ((pk : Int) + 1) = (pk : Int) + 1 := wrap_ok (by omega) (by have := (hst l (List.mem_of_getElem? hx)).1; omega)
          repeat' (first | refine T.seqK fun K hK => ?_ | refine T.block ?_ | refine T.skip ?_ | refine T.exit ?_ | refine T.condT rfl ?_ | refine T.condF rfl ?_ | refine T.cond rfl (fun hc => ?_) (fun hc => ?_) | refine T.ret ?_ | simp only [ThenA, InBlock, reduceIte, Nat.reduceEqDiff] | ((repeat ((fail_if_success (refine hK _ ?_)); clear hK K)); refine hK _ ?_; clear hK K))
          (refine T.reg (by kernel_rfl) fun K' hK' => ?_; simp only [startSt, frOf, List.map_cons, List.map_nil]; (repeat' (first | (with_reducible refine WL.fin ?_; refine hK' _ ?_; clear hK' K') | (with_reducible refine WD.fin ?_) | ((first | (with_reducible refine WL.step fun K2 hK2 => ?_) | (with_reducible refine WD.step fun K2 hK2 => ?_)); simp only [WS, WH, WO, WOv, WG, dstOk, hasDst, aop, ASt.ev, aload, aloadC, afield, aindex, abin, abinI, aun, alen, acells, Nat.reduceEqDiff, Nat.reduceLT, Nat.reduceLeDiff, Nat.reduceAdd, reduceIte, reduceCtorEq, implies_true, ASt.add, setHp, asplice, Int.reduceEq, Int.reduceNe, Int.reduceLT, Int.reduceLE, Int.reduceSub, Int.reduceAdd, abuild, afill, abuildS, pureL, chunks, List.range, List.range.loop, Nat.reduceMul, Nat.reduceMod, apartF, apartI, aslice, evI, ASt.subst, AO.box, aval, pvals, ams, tys, mapTy_69, keyed_3, hy, hpl, hwr]; (repeat' (first | (with_reducible refine hK2 _ ?_; clear hK2 K2) | (with_reducible refine And.intro ?_ ?_) | (with_reducible intro hb) | fail))))); all_goals ((try simp only [ThenA, InBlock, reduceIte, Nat.reduceEqDiff]); (try ((repeat ((fail_if_success (refine hK _ ?_)); clear hK K)); refine hK _ ?_; clear hK K))))
          repeat' (first | refine T.seqK fun K hK => ?_ | refine T.block ?_ | refine T.skip ?_ | refine T.exit ?_ | refine T.condT rfl ?_ | refine T.condF rfl ?_ | refine T.cond rfl (fun hc => ?_) (fun hc => ?_) | refine T.ret ?_ | simp only [ThenA, InBlock, reduceIte, Nat.reduceEqDiff] | ((repeat ((fail_if_success (refine hK _ ?_)); clear hK K)); refine hK _ ?_; clear hK K))
          have hrow2 : ((bump pos k).map fun (j : Nat) => [PV.val (.int .i64 (j : Int))]) = (pos.map fun (j : Nat) => [PV.val (.int .i64 (j : Int))]).set k [.val (.int .i64 ((pk : Int) + 1))] := hrow1
          have hrow3 : ((pos.map fun (j : Nat) => [PV.val (.int .i64 (j : Int))]).set k [.val (.int .i64 ((pk : Int) + 1))]).set k [.val (.int .i64 (pk : Int))] = pos.map fun (j : Nat) => [PV.val (.int .i64 (j : Int))] := by
            rw [List.set_set]
            apply List.ext_getElem?
            intro j
            by_cases ej : j = k
            · subst ej
              rw [List.getElem?_set_self (by simpa using hpl)]
              simp [hy]
            · rw [List.getElem?_set_ne (Ne.symm ej)]
          obtain ⟨nw, hnw⟩ : ∃ nw, nw = visB ths (m' + 1) (bump pos k) (run ++ [s]) (nextZ ths pos s Zk) := ⟨_, rfl⟩
          rw [← hnw] at hih htk
          refine T.reg (by kernel_rfl) fun K' hK' => ?_; simp only [startSt, frOf, List.map_cons, List.map_nil]
          iterate 3 ((with_reducible refine WL.step fun K2 hK2 => ?_); simp only [WS, WH, WO, WOv, WG, dstOk, hasDst, aop, ASt.ev, aload, aloadC, afield, aindex, abin, abinI, aun, alen, acells, Nat.reduceEqDiff, Nat.reduceLT, Nat.reduceLeDiff, Nat.reduceAdd, reduceIte, reduceCtorEq, implies_true, ASt.add, setHp, asplice, Int.reduceEq, Int.reduceNe, Int.reduceLT, Int.reduceLE, Int.reduceSub, Int.reduceAdd, abuild, afill, abuildS, pureL, chunks, List.range, List.range.loop, Nat.reduceMul, Nat.reduceMod, apartF, apartI, aslice, evI, ASt.subst, AO.box, aval, pvals, ams, tys, mapTy_69, keyed_3]; (repeat' (first | (with_reducible refine hK2 _ ?_; clear hK2 K2) | (with_reducible refine And.intro ?_ ?_) | (with_reducible intro hb))))
          (with_reducible refine WL.step fun K2 hK2 => ?_); simp only [WS, WH, WO, WOv, WG, dstOk, hasDst, aop, ASt.ev, aload, aloadC, afield, aindex, abin, abinI, aun, alen, acells, Nat.reduceEqDiff, Nat.reduceLT, Nat.reduceLeDiff, Nat.reduceAdd, reduceIte, reduceCtorEq, implies_true, ASt.add, setHp, asplice, Int.reduceEq, Int.reduceNe, Int.reduceLT, Int.reduceLE, Int.reduceSub, Int.reduceAdd, abuild, afill, abuildS, pureL, chunks, List.range, List.range.loop, Nat.reduceMul, Nat.reduceMod, apartF, apartI, aslice, evI, ASt.subst, AO.box, aval, pvals, ams, tys, mapTy_69, keyed_3]
          (with_reducible refine callArmM 13 _ _ [0, 12] (Ent.of Try.func37 (by kernel_rfl) rfl) hih ?_ ?_ ?_)
          · (refine ⟨Nat.le_of_ble_eq_true rfl, ?_, ?_⟩ <;> simp only [List.mem_cons, List.not_mem_nil, or_false, forall_eq_or_imp, forall_eq, lk_cons, lk_nil, reduceIte, Nat.reduceEqDiff, AO.okB_box, AO.okB_row, AO.okB_map, AO.okB_raw, AV.okB, AV.okB_agg, AV.okB_fn, AV.okB_tup, List.all_cons, List.all_nil, Bool.and_true, Bool.and_self, Nat.reduceLT, decide_true, true_and, and_true, Option.isSome_some, true_implies, false_implies, implies_true, and_self, Nat.lt_irrefl, Option.some.injEq, hpV, thsP, thP, posR, List.map_append, List.map_cons, List.map_nil, stC, hrow2, (m0 ak).ok 13 (by decide), (m1 ak).ok 13 (by decide), (m2 ak).ok 13 (by decide)])
          · simp [AV.okB]
          rintro hp' r ⟨rfl, rfl⟩
          refine ⟨by simp [Kept, hpV, AO.handle_box, hh, lk_cons], hK2 _ ?_⟩
          clear hK2 K2
          simp only [ASt.callM, AV.keep_own, AV.keep_ptr, AV.keep_rptr, AV.keep_pre, AV.keep_p, AV.keep_elt, AV.keep_junk, AV.keep_cap0, AV.keep_fn, AV.keep_agg, AV.keep_tup, AO.keep, List.map_cons, List.map_nil, List.filter_cons, List.filter_nil, Nat.reduceLeDiff, decide_true, decide_false, reduceIte, Bool.false_eq_true, List.cons_append, List.nil_append, List.mem_cons, List.not_mem_nil, or_false, false_or, or_true, true_or, Nat.reduceEqDiff, put_some, put_none, Nat.le_refl, hpV]
          (with_reducible refine WL.step fun K2 hK2 => ?_); simp only [WS, WH, WO, WOv, WG, dstOk, hasDst, aop, ASt.ev, aload, aloadC, afield, aindex, abin, abinI, aun, alen, acells, Nat.reduceEqDiff, Nat.reduceLT, Nat.reduceLeDiff, Nat.reduceAdd, reduceIte, reduceCtorEq, implies_true, ASt.add, setHp, asplice, Int.reduceEq, Int.reduceNe, Int.reduceLT, Int.reduceLE, Int.reduceSub, Int.reduceAdd, abuild, afill, abuildS, pureL, chunks, List.range, List.range.loop, Nat.reduceMul, Nat.reduceMod, apartF, apartI, aslice, evI, ASt.subst, AO.box, aval, pvals, ams, tys, mapTy_69, keyed_3]; (repeat' (first | (with_reducible refine hK2 _ ?_; clear hK2 K2) | (with_reducible refine And.intro ?_ ?_) | (with_reducible intro hb)))
          (with_reducible refine WL.fin ?_); refine hK' _ ?_; clear hK' K'; (try simp only [ThenA, InBlock, reduceIte, Nat.reduceEqDiff]); (try ((repeat ((fail_if_success (refine hK _ ?_)); clear hK K)); refine hK _ ?_; clear hK K))
          have hpb2 : (pos.map fun (j : Nat) => [PV.val (.int .i64 (j : Int))]).set k [.val (.int .i64 ((pk : Int) + 1))] = posR (bump pos k) := hrow1.symm
          have hw1 : IntKind.i64.wrap ((pk : Int) + 1 - 1) = (pk : Int) := by rw [wrap_ok (by omega) (by have := (hst l (List.mem_of_getElem? hx)).1; omega)]; omega
          have hat1 : ((pos.map fun (j : Nat) => [PV.val (.int .i64 (j : Int))]).set k [.val (.int .i64 ((pk : Int) + 1))])[k]? = some [.val (.int .i64 ((pk : Int) + 1))] := List.getElem?_set_self (by simpa using hpl)
          rw [← hpb2]
          repeat' (first | refine T.seqK fun K hK => ?_ | refine T.block ?_ | refine T.skip ?_ | refine T.exit ?_ | refine T.condT rfl ?_ | refine T.condF rfl ?_ | refine T.cond rfl (fun hc => ?_) (fun hc => ?_) | refine T.ret ?_ | simp only [ThenA, InBlock, reduceIte, Nat.reduceEqDiff] | ((repeat ((fail_if_success (refine hK _ ?_)); clear hK K)); refine hK _ ?_; clear hK K))
          (refine T.reg (by kernel_rfl) fun K' hK' => ?_; simp only [startSt, frOf, List.map_cons, List.map_nil]; (repeat' (first | (with_reducible refine WL.fin ?_; refine hK' _ ?_; clear hK' K') | (with_reducible refine WD.fin ?_) | ((first | (with_reducible refine WL.step fun K2 hK2 => ?_) | (with_reducible refine WD.step fun K2 hK2 => ?_)); simp only [WS, WH, WO, WOv, WG, dstOk, hasDst, aop, ASt.ev, aload, aloadC, afield, aindex, abin, abinI, aun, alen, acells, Nat.reduceEqDiff, Nat.reduceLT, Nat.reduceLeDiff, Nat.reduceAdd, reduceIte, reduceCtorEq, implies_true, ASt.add, setHp, asplice, Int.reduceEq, Int.reduceNe, Int.reduceLT, Int.reduceLE, Int.reduceSub, Int.reduceAdd, abuild, afill, abuildS, pureL, chunks, List.range, List.range.loop, Nat.reduceMul, Nat.reduceMod, apartF, apartI, aslice, evI, ASt.subst, AO.box, aval, pvals, ams, tys, mapTy_69, keyed_3, hat1, hpl, hw1, hrow3, List.length_set]; (repeat' (first | (with_reducible refine hK2 _ ?_; clear hK2 K2) | (with_reducible refine And.intro ?_ ?_) | (with_reducible intro hb) | fail))))); all_goals ((try simp only [ThenA, InBlock, reduceIte, Nat.reduceEqDiff]); (try ((repeat ((fail_if_success (refine hK _ ?_)); clear hK K)); refine hK _ ?_; clear hK K))))
          repeat' (first | refine T.seqK fun K hK => ?_ | refine T.block ?_ | refine T.skip ?_ | refine T.exit ?_ | refine T.condT rfl ?_ | refine T.condF rfl ?_ | refine T.cond rfl (fun hc => ?_) (fun hc => ?_) | refine T.ret ?_ | simp only [ThenA, InBlock, reduceIte, Nat.reduceEqDiff] | ((repeat ((fail_if_success (refine hK _ ?_)); clear hK K)); refine hK _ ?_; clear hK K))
          have hln : ((run ++ [s]).length : Int) = (run.length : Int) + 1 := by simp
          have hw2 : IntKind.i64.wrap (((run ++ [s]).length : Int) - 1) = (run.length : Int) := by rw [hln, wrap_ok (by omega) (by omega)]; omega
          have hl0 : 0 < (run ++ [s]).length := by simp
          have hle2 : (run.length : Int) ≤ ((run ++ [s]).length : Int) := by rw [hln]; omega
          have htake : (List.map stC (run ++ [s])).take run.length = List.map stC run := by simp [List.map_append]
          have hle3 : run.length ≤ (run ++ [s]).length := by simp
          refine T.drw 14 (by kernel_rfl) (by kernel_rfl) fun K' hK' => ?_; simp only [List.map_cons, List.map_nil]; (repeat' (first | (with_reducible refine WL.fin ?_; refine hK' _ ?_; clear hK' K') | (with_reducible refine WD.fin ?_) | ((first | (with_reducible refine WL.step fun K2 hK2 => ?_) | (with_reducible refine WD.step fun K2 hK2 => ?_)); simp only [WS, WH, WO, WOv, WG, dstOk, hasDst, aop, ASt.ev, aload, aloadC, afield, aindex, abin, abinI, aun, alen, acells, Nat.reduceEqDiff, Nat.reduceLT, Nat.reduceLeDiff, Nat.reduceAdd, reduceIte, reduceCtorEq, implies_true, ASt.add, setHp, asplice, Int.reduceEq, Int.reduceNe, Int.reduceLT, Int.reduceLE, Int.reduceSub, Int.reduceAdd, abuild, afill, abuildS, pureL, chunks, List.range, List.range.loop, Nat.reduceMul, Nat.reduceMod, apartF, apartI, aslice, evI, ASt.subst, AO.box, aval, pvals, ams, tys, mapTy_69, keyed_3, hw2, hl0, hle2]; (repeat' (first | (with_reducible refine hK2 _ ?_; clear hK2 K2) | (with_reducible refine And.intro ?_ ?_) | (with_reducible intro hb) | fail))))); all_goals ((try simp only [ThenA, InBlock, reduceIte, Nat.reduceEqDiff]); (try ((repeat ((fail_if_success (refine hK _ ?_)); clear hK K)); refine hK _ ?_; clear hK K)))
          refine T.weak (Weak.cut _ 2 run.length) ?_; simp only [ASt.cut, AV.cut_own, AV.cut_ptr, AV.cut_rptr, AV.cut_pre, AV.cut_p, AV.cut_elt, AV.cut_junk, AV.cut_cap0, AV.cut_fn, AV.cut_agg, AV.cut_tup, AO.cut_box, AO.cut_row, AO.cut_map, AO.cut_raw, setHp, List.map_cons, List.map_nil, lk_cons, lk_nil, reduceIte, Nat.reduceEqDiff, and_self, and_true, true_and, and_false, false_and, List.length_map, (m0 (ak ++ nw)).cut 2 run.length (by decide), (m1 (ak ++ nw)).cut 2 run.length (by decide), (m2 (ak ++ nw)).cut 2 run.length (by decide), htake, hle3, hl0]
          repeat' (first | refine T.seqK fun K hK => ?_ | refine T.block ?_ | (refine T.reg (by kernel_rfl) fun K' hK' => ?_; simp only [startSt, frOf, List.map_cons, List.map_nil]; (repeat' (first | (with_reducible refine WL.fin ?_; refine hK' _ ?_; clear hK' K') | (with_reducible refine WD.fin ?_) | ((first | (with_reducible refine WL.step fun K2 hK2 => ?_) | (with_reducible refine WD.step fun K2 hK2 => ?_)); simp only [WS, WH, WO, WOv, WG, dstOk, hasDst, aop, ASt.ev, aload, aloadC, afield, aindex, abin, abinI, aun, alen, acells, Nat.reduceEqDiff, Nat.reduceLT, Nat.reduceLeDiff, Nat.reduceAdd, reduceIte, reduceCtorEq, implies_true, ASt.add, setHp, asplice, Int.reduceEq, Int.reduceNe, Int.reduceLT, Int.reduceLE, Int.reduceSub, Int.reduceAdd, abuild, afill, abuildS, pureL, chunks, List.range, List.range.loop, Nat.reduceMul, Nat.reduceMod, apartF, apartI, aslice, evI, ASt.subst, AO.box, aval, pvals, ams, tys, mapTy_69, keyed_3, hkey, hmn]; (repeat' (first | (with_reducible refine hK2 _ ?_; clear hK2 K2) | (with_reducible refine And.intro ?_ ?_) | (with_reducible intro hb) | fail)))))) | refine T.skip ?_ | refine T.exit ?_ | refine T.condT rfl ?_ | refine T.condF rfl ?_ | refine T.cond rfl (fun hc => ?_) (fun hc => ?_) | refine T.ret ?_ | simp only [ThenA, InBlock, reduceIte, Nat.reduceEqDiff] | ((repeat ((fail_if_success (refine hK _ ?_)); clear hK K)); refine hK _ ?_; clear hK K))
          refine hKL _ ⟨k + 1, nb + 1, fun u => decide (u = k) || Zk u, ak ++ nw⟩ (by refine Weak.of' rfl ?_; simp only [wks, reduceIte, Nat.reduceEqDiff, ASt.okB, AV.okB, Nat.reduceLT, implies_true, wrap_succ hkl, (m0 (ak ++ nw)).ok 14 (by decide), (m1 (ak ++ nw)).ok 14 (by decide), (m2 (ak ++ nw)).ok 14 (by decide), thsP, thP, endU_succ, hs, Option.isNone_some, Bool.and_false, posR, zf_put]) ⟨by simp only; omega, by simp only; omega, fun u hu => ?_, ?_⟩ (by simp only; omega)
          · simp only [Bool.or_eq_true, decide_eq_true_eq] at hu
            rcases hu with rfl | hu
            · rw [hs]; rfl
            · exact hZk u hu
          · rw [htk, hm']; simp only [List.append_assoc]
        · obtain ⟨hin, hns⟩ := lefts_mem hem
          obtain ⟨u, hku, hul, hZu⟩ := hke e hin
          obtain ⟨x, hsu⟩ := Option.isSome_iff_exists.1 (hZk u hZu)
          obtain ⟨lu, pu, hxu, hyu, h3u⟩ := stepOf_some.1 hsu
          have hpu := (List.getElem?_eq_some_iff.1 hyu).1
          have hkeyu := keyOf_3 (a := (u : Int)) (by omega) (by omega)
          have hms : s ∈ l := List.mem_of_getElem? h3
          have hmx : x ∈ lu := List.mem_of_getElem? h3u
          have hokS := (hst l (List.mem_of_getElem? hx)).2 s hms
          have hokX := (hst lu (List.mem_of_getElem? hxu)).2 x hmx
          have hddu : dd ths pos s u = dpB s x := by simp [dd, hsu]
          have hmeas : (lefts es (seen.push e.born)).size < (lefts es seen).size := left_shrinks es seen e hem
          repeat' (first | refine T.seqK fun K hK => ?_ | refine T.block ?_ | refine T.skip ?_ | refine T.exit ?_ | refine T.condT rfl ?_ | refine T.condF rfl ?_ | refine T.cond rfl (fun hc => ?_) (fun hc => ?_) | refine T.ret ?_ | simp only [ThenA, InBlock, reduceIte, Nat.reduceEqDiff] | ((repeat ((fail_if_success (refine hK _ ?_)); clear hK K)); refine hK _ ?_; clear hK K))
          (refine T.reg (by kernel_rfl) fun K' hK' => ?_; simp only [startSt, frOf, List.map_cons, List.map_nil]; (repeat' (first | (with_reducible refine WL.fin ?_; refine hK' _ ?_; clear hK' K') | (with_reducible refine WD.fin ?_) | ((first | (with_reducible refine WL.step fun K2 hK2 => ?_) | (with_reducible refine WD.step fun K2 hK2 => ?_)); simp only [WS, WH, WO, WOv, WG, dstOk, hasDst, aop, ASt.ev, aload, aloadC, afield, aindex, abin, abinI, aun, alen, acells, Nat.reduceEqDiff, Nat.reduceLT, Nat.reduceLeDiff, Nat.reduceAdd, reduceIte, reduceCtorEq, implies_true, ASt.add, setHp, asplice, Int.reduceEq, Int.reduceNe, Int.reduceLT, Int.reduceLE, Int.reduceSub, Int.reduceAdd, abuild, afill, abuildS, pureL, chunks, List.range, List.range.loop, Nat.reduceMul, Nat.reduceMod, apartF, apartI, aslice, evI, ASt.subst, AO.box, aval, pvals, ams, tys, mapTy_69, keyed_3, hku]; (repeat' (first | (with_reducible refine hK2 _ ?_; clear hK2 K2) | (with_reducible refine And.intro ?_ ?_) | (with_reducible intro hb) | ((with_reducible refine entryArm 13 rr bb ck seen es ck e ?_); refine ⟨⟨rfl, rfl, hin, hmi.nodup⟩, ?_⟩) | fail))))); all_goals ((try simp only [ThenA, InBlock, reduceIte, Nat.reduceEqDiff]); (try ((repeat ((fail_if_success (refine hK _ ?_)); clear hK K)); refine hK _ ?_; clear hK K))))
          repeat' (first | refine T.seqK fun K hK => ?_ | refine T.block ?_ | refine T.skip ?_ | refine T.exit ?_ | refine T.condT rfl ?_ | refine T.condF rfl ?_ | refine T.cond rfl (fun hc => ?_) (fun hc => ?_) | refine T.ret ?_ | simp only [ThenA, InBlock, reduceIte, Nat.reduceEqDiff] | ((repeat ((fail_if_success (refine hK _ ?_)); clear hK K)); refine hK _ ?_; clear hK K))
          have hdc := dep_ok s x hokS hokX
          cases hdep : dpB s x with
          | true =>
            rw [hdep] at hddu hdc
            have hset : updF (zf fun u => Zk u && !(dd ths pos s u && sk es seen u)) (.int .i64 (u : Int)) none = zf fun u => Zk u && !(dd ths pos s u && sk es (seen.push e.born) u) := by
              rw [zf_del]
              refine zf_ext fun v => ?_
              rw [sk_push hmi.nodup hin hku]
              by_cases ev : v = u
              · subst ev; simp [hddu]
              · simp [ev]
            refine T.drw 18 (by kernel_rfl) (by kernel_rfl) fun K' hK' => ?_; simp only [List.map_cons, List.map_nil]; (repeat' (first | (with_reducible refine WL.fin ?_; refine hK' _ ?_; clear hK' K') | (with_reducible refine WD.fin ?_) | ((first | (with_reducible refine WL.step fun K2 hK2 => ?_) | (with_reducible refine WD.step fun K2 hK2 => ?_)); simp only [WS, WH, WO, WOv, WG, dstOk, hasDst, aop, ASt.ev, aload, aloadC, afield, aindex, abin, abinI, aun, alen, acells, Nat.reduceEqDiff, Nat.reduceLT, Nat.reduceLeDiff, Nat.reduceAdd, reduceIte, reduceCtorEq, implies_true, ASt.add, setHp, asplice, Int.reduceEq, Int.reduceNe, Int.reduceLT, Int.reduceLE, Int.reduceSub, Int.reduceAdd, abuild, afill, abuildS, pureL, chunks, List.range, List.range.loop, Nat.reduceMul, Nat.reduceMod, apartF, apartI, aslice, evI, ASt.subst, AO.box, aval, pvals, ams, tys, mapTy_69, keyed_3, hxu, hyu, hpu, h3u, stC, hdep]; (repeat' (first | (with_reducible refine hK2 _ ?_; clear hK2 K2) | (with_reducible refine And.intro ?_ ?_) | (with_reducible intro hb) | ((first | (with_reducible apply callArmO) | (with_reducible apply callArm)); case h => exact CallV.plain (Ent.of Try.func47 (by kernel_rfl) rfl) (hdc) (by simp [AV.okB]))))))); all_goals ((try simp only [ThenA, InBlock, reduceIte, Nat.reduceEqDiff]); (try ((repeat ((fail_if_success (refine hK _ ?_)); clear hK K)); refine hK _ ?_; clear hK K)))
            repeat' (first | refine T.seqK fun K hK => ?_ | refine T.block ?_ | (refine T.reg (by kernel_rfl) fun K' hK' => ?_; simp only [startSt, frOf, List.map_cons, List.map_nil]; (repeat' (first | (with_reducible refine WL.fin ?_; refine hK' _ ?_; clear hK' K') | (with_reducible refine WD.fin ?_) | ((first | (with_reducible refine WL.step fun K2 hK2 => ?_) | (with_reducible refine WD.step fun K2 hK2 => ?_)); simp only [WS, WH, WO, WOv, WG, dstOk, hasDst, aop, ASt.ev, aload, aloadC, afield, aindex, abin, abinI, aun, alen, acells, Nat.reduceEqDiff, Nat.reduceLT, Nat.reduceLeDiff, Nat.reduceAdd, reduceIte, reduceCtorEq, implies_true, ASt.add, setHp, asplice, Int.reduceEq, Int.reduceNe, Int.reduceLT, Int.reduceLE, Int.reduceSub, Int.reduceAdd, abuild, afill, abuildS, pureL, chunks, List.range, List.range.loop, Nat.reduceMul, Nat.reduceMod, apartF, apartI, aslice, evI, ASt.subst, AO.box, aval, pvals, ams, tys, mapTy_69, keyed_3, hdep, hkeyu]; (repeat' (first | (with_reducible refine hK2 _ ?_; clear hK2 K2) | (with_reducible refine And.intro ?_ ?_) | (with_reducible intro hb) | fail)))))) | refine T.skip ?_ | refine T.exit ?_ | refine T.condT rfl ?_ | refine T.condF rfl ?_ | refine T.cond rfl (fun hc => ?_) (fun hc => ?_) | refine T.ret ?_ | simp only [ThenA, InBlock, reduceIte, Nat.reduceEqDiff] | ((repeat ((fail_if_success (refine hK _ ?_)); clear hK K)); refine hK _ ?_; clear hK K))
            refine hKS _ (seen.push e.born) (by refine Weak.of' rfl ?_; simp only [wks, reduceIte, Nat.reduceEqDiff, ASt.okB, AV.okB, Nat.reduceLT, implies_true, (m0 ak).ok 17 (by decide), (m1 ak).ok 17 (by decide), (m2 ak).ok 17 (by decide), thsP, thP, stC, posR, List.map_cons, List.map_nil, hset]) trivial hmeas
          | false =>
            rw [hdep] at hddu hdc
            have hset : (zf fun u => Zk u && !(dd ths pos s u && sk es (seen.push e.born) u)) = zf fun u => Zk u && !(dd ths pos s u && sk es seen u) := by
              refine zf_ext fun v => ?_
              rw [sk_push hmi.nodup hin hku]
              by_cases ev : v = u
              · subst ev; simp [hddu]
              · simp [ev]
            refine T.drw 18 (by kernel_rfl) (by kernel_rfl) fun K' hK' => ?_; simp only [List.map_cons, List.map_nil]; (repeat' (first | (with_reducible refine WL.fin ?_; refine hK' _ ?_; clear hK' K') | (with_reducible refine WD.fin ?_) | ((first | (with_reducible refine WL.step fun K2 hK2 => ?_) | (with_reducible refine WD.step fun K2 hK2 => ?_)); simp only [WS, WH, WO, WOv, WG, dstOk, hasDst, aop, ASt.ev, aload, aloadC, afield, aindex, abin, abinI, aun, alen, acells, Nat.reduceEqDiff, Nat.reduceLT, Nat.reduceLeDiff, Nat.reduceAdd, reduceIte, reduceCtorEq, implies_true, ASt.add, setHp, asplice, Int.reduceEq, Int.reduceNe, Int.reduceLT, Int.reduceLE, Int.reduceSub, Int.reduceAdd, abuild, afill, abuildS, pureL, chunks, List.range, List.range.loop, Nat.reduceMul, Nat.reduceMod, apartF, apartI, aslice, evI, ASt.subst, AO.box, aval, pvals, ams, tys, mapTy_69, keyed_3, hxu, hyu, hpu, h3u, stC, hdep]; (repeat' (first | (with_reducible refine hK2 _ ?_; clear hK2 K2) | (with_reducible refine And.intro ?_ ?_) | (with_reducible intro hb) | ((first | (with_reducible apply callArmO) | (with_reducible apply callArm)); case h => exact CallV.plain (Ent.of Try.func47 (by kernel_rfl) rfl) (hdc) (by simp [AV.okB]))))))); all_goals ((try simp only [ThenA, InBlock, reduceIte, Nat.reduceEqDiff]); (try ((repeat ((fail_if_success (refine hK _ ?_)); clear hK K)); refine hK _ ?_; clear hK K)))
            repeat' (first | refine T.seqK fun K hK => ?_ | refine T.block ?_ | (refine T.reg (by kernel_rfl) fun K' hK' => ?_; simp only [startSt, frOf, List.map_cons, List.map_nil]; (repeat' (first | (with_reducible refine WL.fin ?_; refine hK' _ ?_; clear hK' K') | (with_reducible refine WD.fin ?_) | ((first | (with_reducible refine WL.step fun K2 hK2 => ?_) | (with_reducible refine WD.step fun K2 hK2 => ?_)); simp only [WS, WH, WO, WOv, WG, dstOk, hasDst, aop, ASt.ev, aload, aloadC, afield, aindex, abin, abinI, aun, alen, acells, Nat.reduceEqDiff, Nat.reduceLT, Nat.reduceLeDiff, Nat.reduceAdd, reduceIte, reduceCtorEq, implies_true, ASt.add, setHp, asplice, Int.reduceEq, Int.reduceNe, Int.reduceLT, Int.reduceLE, Int.reduceSub, Int.reduceAdd, abuild, afill, abuildS, pureL, chunks, List.range, List.range.loop, Nat.reduceMul, Nat.reduceMod, apartF, apartI, aslice, evI, ASt.subst, AO.box, aval, pvals, ams, tys, mapTy_69, keyed_3, hdep, hkeyu]; (repeat' (first | (with_reducible refine hK2 _ ?_; clear hK2 K2) | (with_reducible refine And.intro ?_ ?_) | (with_reducible intro hb) | fail)))))) | refine T.skip ?_ | refine T.exit ?_ | refine T.condT rfl ?_ | refine T.condF rfl ?_ | refine T.cond rfl (fun hc => ?_) (fun hc => ?_) | refine T.ret ?_ | simp only [ThenA, InBlock, reduceIte, Nat.reduceEqDiff] | ((repeat ((fail_if_success (refine hK _ ?_)); clear hK K)); refine hK _ ?_; clear hK K))
            refine hKS _ (seen.push e.born) (by refine Weak.of' rfl ?_; simp only [wks, reduceIte, Nat.reduceEqDiff, ASt.okB, AV.okB, Nat.reduceLT, implies_true, (m0 ak).ok 17 (by decide), (m1 ak).ok 17 (by decide), (m2 ak).ok 17 (by decide), thsP, thP, stC, posR, List.map_cons, List.map_nil, hset]) trivial hmeas
  · have hd : decide ((k : Int) < (ths.length : Int)) = false := by simpa using hlt
    obtain rfl : k = ths.length := by omega
    rw [drop_end (by simp), loopB, List.nil_append] at htk
    clear hKL
    cases hen : endU ths pos ths.length with
    | false =>
      rw [hen] at htk
      simp only [Bool.false_eq_true, if_false, List.append_nil] at htk
      subst htk
      repeat' (first | refine T.seqK fun K hK => ?_ | refine T.block ?_ | (refine T.reg (by kernel_rfl) fun K' hK' => ?_; simp only [startSt, frOf, List.map_cons, List.map_nil]; (repeat' (first | (with_reducible refine WL.fin ?_; refine hK' _ ?_; clear hK' K') | (with_reducible refine WD.fin ?_) | ((first | (with_reducible refine WL.step fun K2 hK2 => ?_) | (with_reducible refine WD.step fun K2 hK2 => ?_)); simp only [WS, WH, WO, WOv, WG, dstOk, hasDst, aop, ASt.ev, aload, aloadC, afield, aindex, abin, abinI, aun, alen, acells, Nat.reduceEqDiff, Nat.reduceLT, Nat.reduceLeDiff, Nat.reduceAdd, reduceIte, reduceCtorEq, implies_true, ASt.add, setHp, asplice, Int.reduceEq, Int.reduceNe, Int.reduceLT, Int.reduceLE, Int.reduceSub, Int.reduceAdd, abuild, afill, abuildS, pureL, chunks, List.range, List.range.loop, Nat.reduceMul, Nat.reduceMod, apartF, apartI, aslice, evI, ASt.subst, AO.box, aval, pvals, ams, tys, mapTy_69, keyed_3, hd, hen]; (repeat' (first | (with_reducible refine hK2 _ ?_; clear hK2 K2) | (with_reducible refine And.intro ?_ ?_) | (with_reducible intro hb) | fail)))))) | refine T.skip ?_ | refine T.exit ?_ | refine T.condT rfl ?_ | refine T.condF rfl ?_ | refine T.cond rfl (fun hc => ?_) (fun hc => ?_) | refine T.ret ?_ | simp only [ThenA, InBlock, reduceIte, Nat.reduceEqDiff] | ((repeat ((fail_if_success (refine hK _ ?_)); clear hK K)); refine hK _ ?_; clear hK K))
      refine FinM.ret (s' := ⟨[(6, .bool true)], hpV b ths pos run (Y0 tot) (Y1 tot) (Y2 tot), 138, 13⟩) (r := .bool true) (.inr rfl) Try.results37 (by refine Weak.of' rfl ?_; simp only [wks, reduceIte, Nat.reduceEqDiff, ASt.okB, AV.okB, Nat.reduceLT, implies_true, (m0 tot).ok 13 (by decide), (m1 tot).ok 13 (by decide), (m2 tot).ok 13 (by decide), thsP, thP, posR, hpV]) rfl ?_ ?_; (focus (simp only [ares, aresL, ares1, WS, WH, WO, WOv, WG, dstOk, hasDst, aop, ASt.ev, aload, aloadC, afield, aindex, abin, abinI, aun, alen, acells, Nat.reduceEqDiff, Nat.reduceLT, Nat.reduceLeDiff, Nat.reduceAdd, reduceIte, reduceCtorEq, implies_true, ASt.add, setHp, asplice, Int.reduceEq, Int.reduceNe, Int.reduceLT, Int.reduceLE, Int.reduceSub, Int.reduceAdd, abuild, afill, abuildS, pureL, chunks, List.range, List.range.loop, Nat.reduceMul, Nat.reduceMod, apartF, apartI, aslice, evI, ASt.subst, AO.box, aval, pvals, ams, tys, mapTy_69, keyed_3, ]; done))
      exact ⟨by simp only [hpV, thsP, htot], rfl⟩
    | true =>
      rw [hen] at htk
      simp only [if_true] at htk
      have hal : ak.length < M := by rw [htot] at htk; have := congrArg List.length htk; simp only [List.length_append, List.length_singleton] at this; omega
      obtain ⟨yl, ysp, yfr, hy2, hyc⟩ := hyld pos run ak hal hp ⟨by omega, hri⟩
      subst htk
      repeat' (first | refine T.seqK fun K hK => ?_ | refine T.block ?_ | refine T.skip ?_ | refine T.exit ?_ | refine T.condT rfl ?_ | refine T.condF rfl ?_ | refine T.cond rfl (fun hc => ?_) (fun hc => ?_) | refine T.ret ?_ | simp only [ThenA, InBlock, reduceIte, Nat.reduceEqDiff] | ((repeat ((fail_if_success (refine hK _ ?_)); clear hK K)); refine hK _ ?_; clear hK K))
      (refine T.reg (by kernel_rfl) fun K' hK' => ?_; simp only [startSt, frOf, List.map_cons, List.map_nil]; (repeat' (first | (with_reducible refine WL.fin ?_; refine hK' _ ?_; clear hK' K') | (with_reducible refine WD.fin ?_) | ((first | (with_reducible refine WL.step fun K2 hK2 => ?_) | (with_reducible refine WD.step fun K2 hK2 => ?_)); simp only [WS, WH, WO, WOv, WG, dstOk, hasDst, aop, ASt.ev, aload, aloadC, afield, aindex, abin, abinI, aun, alen, acells, Nat.reduceEqDiff, Nat.reduceLT, Nat.reduceLeDiff, Nat.reduceAdd, reduceIte, reduceCtorEq, implies_true, ASt.add, setHp, asplice, Int.reduceEq, Int.reduceNe, Int.reduceLT, Int.reduceLE, Int.reduceSub, Int.reduceAdd, abuild, afill, abuildS, pureL, chunks, List.range, List.range.loop, Nat.reduceMul, Nat.reduceMod, apartF, apartI, aslice, evI, ASt.subst, AO.box, aval, pvals, ams, tys, mapTy_69, keyed_3, hd, hen]; (repeat' (first | (with_reducible refine hK2 _ ?_; clear hK2 K2) | (with_reducible refine And.intro ?_ ?_) | (with_reducible intro hb) | fail))))); all_goals ((try simp only [ThenA, InBlock, reduceIte, Nat.reduceEqDiff]); (try ((repeat ((fail_if_success (refine hK _ ?_)); clear hK K)); refine hK _ ?_; clear hK K))))
      repeat' (first | refine T.seqK fun K hK => ?_ | refine T.block ?_ | refine T.skip ?_ | refine T.exit ?_ | refine T.condT rfl ?_ | refine T.condF rfl ?_ | refine T.cond rfl (fun hc => ?_) (fun hc => ?_) | refine T.ret ?_ | simp only [ThenA, InBlock, reduceIte, Nat.reduceEqDiff] | ((repeat ((fail_if_success (refine hK _ ?_)); clear hK K)); refine hK _ ?_; clear hK K))
      refine T.regI (by kernel_rfl) fun K' hK' => ?_; simp only [List.map_cons, List.map_nil]
      iterate 8 ((with_reducible refine WLI.stepP fun K2 hK2 => ?_); simp only [WS, WH, WO, WOv, WG, dstOk, hasDst, aop, ASt.ev, aload, aloadC, afield, aindex, abin, abinI, aun, alen, acells, Nat.reduceEqDiff, Nat.reduceLT, Nat.reduceLeDiff, Nat.reduceAdd, reduceIte, reduceCtorEq, implies_true, ASt.add, setHp, asplice, Int.reduceEq, Int.reduceNe, Int.reduceLT, Int.reduceLE, Int.reduceSub, Int.reduceAdd, abuild, afill, abuildS, pureL, chunks, List.range, List.range.loop, Nat.reduceMul, Nat.reduceMod, apartF, apartI, aslice, evI, ASt.subst, AO.box, aval, pvals, ams, tys, mapTy_69, keyed_3, hen]; (repeat' (first | (with_reducible refine hK2 _ ?_; clear hK2 K2) | (with_reducible refine And.intro ?_ ?_) | (with_reducible intro hb))))
      (with_reducible refine WLI.stepY fun K2 hK2 => ?_)
      simp only [WSY, WY, WS, WH, WO, WOv, WG, dstOk, hasDst, aop, ASt.ev, aload, aloadC, afield, aindex, abin, abinI, aun, alen, acells, Nat.reduceEqDiff, Nat.reduceLT, Nat.reduceLeDiff, Nat.reduceAdd, reduceIte, reduceCtorEq, implies_true, ASt.add, setHp, asplice, Int.reduceEq, Int.reduceNe, Int.reduceLT, Int.reduceLE, Int.reduceSub, Int.reduceAdd, abuild, afill, abuildS, pureL, chunks, List.range, List.range.loop, Nat.reduceMul, Nat.reduceMod, apartF, apartI, aslice, evI, ASt.subst, AO.box, aval, pvals, ams]
      have hl12 : List.lookup 12 [(13, AO.map none Try.prog 3 nb (zf Zk)), (0, AO.boxP (some b) 67 [AV.p (thsP ths), AV.own 2, AV.own 1]), (1, AO.row 3 1 (posR pos)), (2, AO.row 48 4 (List.map stC run)), (10, Y0 ak), (11, Y1 ak), (12, Y2 ak)] = some (.lrec yl ysp yfr) := by rw [← hy2]; rfl
      refine ⟨13, hpV b ths pos run (Y0 ak) (Y1 ak) (Y2 ak), _, [], yl, ysp, yfr, hyc, hl12, ?_, by simp [AV.okB], ?_⟩
      · (refine ⟨Nat.le_of_ble_eq_true rfl, ?_, ?_⟩ <;> simp only [List.mem_cons, List.not_mem_nil, or_false, forall_eq_or_imp, forall_eq, lk_cons, lk_nil, reduceIte, Nat.reduceEqDiff, AO.okB_box, AO.okB_row, AO.okB_map, AO.okB_raw, AV.okB, AV.okB_agg, AV.okB_fn, AV.okB_tup, List.all_cons, List.all_nil, Bool.and_true, Bool.and_self, Nat.reduceLT, decide_true, true_and, and_true, Option.isSome_some, true_implies, false_implies, implies_true, and_self, Nat.lt_irrefl, Option.some.injEq, hpV, thsP, thP, posR, (m0 ak).ok 13 (by decide), (m1 ak).ok 13 (by decide), (m2 ak).ok 13 (by decide)])
      · rintro hp' r ⟨rfl, rfl⟩
        refine ⟨by simp, hK2 _ ?_⟩
        clear hK2 K2
        simp only [ASt.callM, AV.keep_own, AV.keep_ptr, AV.keep_rptr, AV.keep_pre, AV.keep_p, AV.keep_elt, AV.keep_junk, AV.keep_cap0, AV.keep_fn, AV.keep_agg, AV.keep_tup, AO.keep, List.map_cons, List.map_nil, List.filter_cons, List.filter_nil, Nat.reduceLeDiff, decide_true, decide_false, reduceIte, Bool.false_eq_true, List.cons_append, List.nil_append, List.mem_cons, List.not_mem_nil, or_false, false_or, or_true, true_or, Nat.reduceEqDiff, put_some, put_none, Nat.le_refl, hpV]
        iterate 2 ((with_reducible refine WLI.stepP fun K2 hK2 => ?_); simp only [WS, WH, WO, WOv, WG, dstOk, hasDst, aop, ASt.ev, aload, aloadC, afield, aindex, abin, abinI, aun, alen, acells, Nat.reduceEqDiff, Nat.reduceLT, Nat.reduceLeDiff, Nat.reduceAdd, reduceIte, reduceCtorEq, implies_true, ASt.add, setHp, asplice, Int.reduceEq, Int.reduceNe, Int.reduceLT, Int.reduceLE, Int.reduceSub, Int.reduceAdd, abuild, afill, abuildS, pureL, chunks, List.range, List.range.loop, Nat.reduceMul, Nat.reduceMod, apartF, apartI, aslice, evI, ASt.subst, AO.box, aval, pvals, ams, tys, mapTy_69, keyed_3, hen]; (repeat' (first | (with_reducible refine hK2 _ ?_; clear hK2 K2) | (with_reducible refine And.intro ?_ ?_) | (with_reducible intro hb))))
        (with_reducible refine WLI.fin ?_); refine hK' _ ?_; clear hK' K'; (try simp only [ThenA, InBlock, reduceIte, Nat.reduceEqDiff]); (try ((repeat ((fail_if_success (refine hK _ ?_)); clear hK K)); refine hK _ ?_; clear hK K))
        repeat' (first | refine T.seqK fun K hK => ?_ | refine T.block ?_ | (refine T.reg (by kernel_rfl) fun K' hK' => ?_; simp only [startSt, frOf, List.map_cons, List.map_nil]; (repeat' (first | (with_reducible refine WL.fin ?_; refine hK' _ ?_; clear hK' K') | (with_reducible refine WD.fin ?_) | ((first | (with_reducible refine WL.step fun K2 hK2 => ?_) | (with_reducible refine WD.step fun K2 hK2 => ?_)); simp only [WS, WH, WO, WOv, WG, dstOk, hasDst, aop, ASt.ev, aload, aloadC, afield, aindex, abin, abinI, aun, alen, acells, Nat.reduceEqDiff, Nat.reduceLT, Nat.reduceLeDiff, Nat.reduceAdd, reduceIte, reduceCtorEq, implies_true, ASt.add, setHp, asplice, Int.reduceEq, Int.reduceNe, Int.reduceLT, Int.reduceLE, Int.reduceSub, Int.reduceAdd, abuild, afill, abuildS, pureL, chunks, List.range, List.range.loop, Nat.reduceMul, Nat.reduceMod, apartF, apartI, aslice, evI, ASt.subst, AO.box, aval, pvals, ams, tys, mapTy_69, keyed_3]; (repeat' (first | (with_reducible refine hK2 _ ?_; clear hK2 K2) | (with_reducible refine And.intro ?_ ?_) | (with_reducible intro hb) | fail)))))) | refine T.skip ?_ | refine T.exit ?_ | refine T.condT rfl ?_ | refine T.condF rfl ?_ | refine T.cond rfl (fun hc => ?_) (fun hc => ?_) | refine T.ret ?_ | simp only [ThenA, InBlock, reduceIte, Nat.reduceEqDiff] | ((repeat ((fail_if_success (refine hK _ ?_)); clear hK K)); refine hK _ ?_; clear hK K))
        refine FinM.ret (s' := ⟨[(6, .bool true)], hpV b ths pos run (Y0 (ak ++ [run])) (Y1 (ak ++ [run])) (Y2 (ak ++ [run])), 138, 13⟩) (r := .bool true) (.inr rfl) Try.results37 (by refine Weak.of' rfl ?_; simp only [wks, reduceIte, Nat.reduceEqDiff, ASt.okB, AV.okB, Nat.reduceLT, implies_true, (m0 (ak ++ [run])).ok 13 (by decide), (m1 (ak ++ [run])).ok 13 (by decide), (m2 (ak ++ [run])).ok 13 (by decide), thsP, thP, posR, hpV]) rfl ?_ ?_; (focus (simp only [ares, aresL, ares1, WS, WH, WO, WOv, WG, dstOk, hasDst, aop, ASt.ev, aload, aloadC, afield, aindex, abin, abinI, aun, alen, acells, Nat.reduceEqDiff, Nat.reduceLT, Nat.reduceLeDiff, Nat.reduceAdd, reduceIte, reduceCtorEq, implies_true, ASt.add, setHp, asplice, Int.reduceEq, Int.reduceNe, Int.reduceLT, Int.reduceLE, Int.reduceSub, Int.reduceAdd, abuild, afill, abuildS, pureL, chunks, List.range, List.range.loop, Nat.reduceMul, Nat.reduceMod, apartF, apartI, aslice, evI, ASt.subst, AO.box, aval, pvals, ams, tys, mapTy_69, keyed_3, ]; done))
        exact ⟨by simp only [hpV, thsP, ← htot], rfl⟩
end Go.Proofs.Ytbhkcejjehgfcaa
/- The iterator over the runs. -/
namespace Go.Proofs.Ytbhkcejjehgfcaa
open Go.RowKit Go.Sort
set_option linter.unusedSimpArgs false
set_option linter.unusedVariables false

/-- An empty slice may be thought of at any time. -/
theorem Weak.nilrow (s : ASt) (e n : Nat) : Weak s (s.add (.row e n [])) := fun L loc a w hr => by
  have hb := Blw.refl w.heap.size w
  exact ⟨_, hr.add hb (.slice none 0 0) (.row e n []) (fun b e => by cases e) ⟨[], World.ownsRow_nil _ _ _ _, fun r hr => (by cases hr), fun k r j x h => (by simp at h), fun v hv => (by cases hv)⟩, .add hb _ _ (fun b e => by cases e)⟩
set_option maxHeartbeats 4000000 in
set_option maxRecDepth 100000 in
theorem runs_ok (ths : List (List St)) : PureC Try.prog 23 [.p (thsP ths)] (.fn (.func 36) [.elt [thsP ths] 0]) := by
  refine PureC.of Try.func23 rfl 4 rfl (by decide) (by simp [AV.okB]) ?_
  repeat' (first | refine T.seqK fun K hK => ?_ | refine T.block ?_ | (refine T.reg (by kernel_rfl) fun K' hK' => ?_; simp only [startSt, frOf, List.map_cons, List.map_nil]; (repeat' (first | (with_reducible refine WL.fin ?_; refine hK' _ ?_; clear hK' K') | (with_reducible refine WD.fin ?_) | ((first | (with_reducible refine WL.step fun K2 hK2 => ?_) | (with_reducible refine WD.step fun K2 hK2 => ?_)); simp only [WS, WH, WO, WOv, WG, dstOk, hasDst, aop, ASt.ev, aload, aloadC, afield, aindex, abin, abinI, aun, alen, acells, Nat.reduceEqDiff, Nat.reduceLT, Nat.reduceLeDiff, Nat.reduceAdd, reduceIte, reduceCtorEq, implies_true, ASt.add, setHp, asplice, Int.reduceEq, Int.reduceNe, Int.reduceLT, Int.reduceLE, Int.reduceSub, Int.reduceAdd, abuild, afill, abuildS, pureL, chunks, List.range, List.range.loop, Nat.reduceMul, Nat.reduceMod, apartF, apartI, aslice, evI, ASt.subst, AO.box, aval, pvals, ams, tys, mapTy_69, keyed_3]; (repeat' (first | (with_reducible refine hK2 _ ?_; clear hK2 K2) | (with_reducible refine And.intro ?_ ?_) | (with_reducible intro hb) | fail)))))) | refine T.skip ?_ | refine T.exit ?_ | refine T.condT rfl ?_ | refine T.condF rfl ?_ | refine T.cond rfl (fun hc => ?_) (fun hc => ?_) | refine T.ret ?_ | simp only [ThenA, InBlock, reduceIte, Nat.reduceEqDiff] | ((repeat ((fail_if_success (refine hK _ ?_)); clear hK K)); refine hK _ ?_; clear hK K))
  refine FinA.retW (.inr rfl) Try.results23 (Weak.dat _ 0 none 22 [thsP ths] rfl) ?_
  simp only [ares, aresL, ares1, AV.dat_ptr, AV.dat_own, AV.dat_p, AV.dat_fn, List.map_cons, List.map_nil, reduceIte, WS, WH, WO, WOv, WG, dstOk, hasDst, aop, ASt.ev, aload, aloadC, afield, aindex, abin, abinI, aun, alen, acells, Nat.reduceEqDiff, Nat.reduceLT, Nat.reduceLeDiff, Nat.reduceAdd, reduceIte, reduceCtorEq, implies_true, ASt.add, setHp, asplice, Int.reduceEq, Int.reduceNe, Int.reduceLT, Int.reduceLE, Int.reduceSub, Int.reduceAdd, abuild, afill, abuildS, pureL, chunks, List.range, List.range.loop, Nat.reduceMul, Nat.reduceMod, apartF, apartI, aslice, evI, ASt.subst, AO.box, aval, pvals, ams]
set_option maxHeartbeats 4000000 in
set_option maxRecDepth 100000 in
theorem runs1_ok (ths : List (List St)) (hlen : ths.length ≤ 100) (hst : ∀ l ∈ ths, l.length ≤ 1000 ∧ ∀ s ∈ l, StOk s) (Y0 Y1 Y2 : List (List St) → AO) (M : Nat) (m0 : ∀ a, Mute (Y0 a)) (m1 : ∀ a, Mute (Y1 a)) (m2 : ∀ a, Mute (Y2 a)) (hv : Value) (hh : ∀ a, (Y2 a).handle = some hv)
    (hyld : ∀ b pos run acc, acc.length < M → PosOk ths pos → RunIn ths run → ∃ l sp fr, Y2 acc = .lrec l sp fr ∧ YldC Try.prog l 13 (hpV b ths pos run (Y0 acc) (Y1 acc) (Y2 acc)) [.own 2] fun hp' r => hp' = hpV b ths pos run (Y0 (acc ++ [run])) (Y1 (acc ++ [run])) (Y2 (acc ++ [run])) ∧ r = .bool true)
    (m : Nat) (hm : remB ths (List.replicate ths.length 0) ≤ m) (hm2 : m ≤ 100000) (hM : (visB ths (m + 1) (List.replicate ths.length 0) [] fun _ => false).length ≤ M) :
    MemC Try.prog 36 13 [(10, Y0 []), (11, Y1 []), (12, Y2 [])] [.own 12, .elt [thsP ths] 0] fun hp' r => hp' = [(10, Y0 (visB ths (m + 1) (List.replicate ths.length 0) [] fun _ => false)), (11, Y1 (visB ths (m + 1) (List.replicate ths.length 0) [] fun _ => false)), (12, Y2 (visB ths (m + 1) (List.replicate ths.length 0) [] fun _ => false))] ∧ r = .tup [] := by
  have hp : PosOk ths (List.replicate ths.length 0) := ⟨by simp, fun t l k h1 h2 => by
    rw [List.getElem?_replicate] at h2
    split at h2
    · cases h2; exact Nat.zero_le _
    · cases h2⟩
  obtain ⟨res, hres⟩ : ∃ res, res = visB ths (m + 1) (List.replicate ths.length 0) [] fun _ => false := ⟨_, rfl⟩
  rw [← hres] at hM ⊢
  have hml : ths.length ≤ maxLen := by unfold maxLen; omega
  have hmb : 8 * ths.length ≤ 140737488355328 := by omega
  simp only [thsP]
  refine MemC.of Try.func36 rfl 14 rfl (by decide) ?_; simp only [startM, frOf]
  repeat' (first | refine T.seqK fun K hK => ?_ | refine T.block ?_ | refine T.skip ?_ | refine T.exit ?_ | refine T.condT rfl ?_ | refine T.condF rfl ?_ | refine T.cond rfl (fun hc => ?_) (fun hc => ?_) | refine T.ret ?_ | simp only [ThenA, InBlock, reduceIte, Nat.reduceEqDiff] | ((repeat ((fail_if_success (refine hK _ ?_)); clear hK K)); refine hK _ ?_; clear hK K))
  refine T.comm [some (0, 2), some (0, 2), some (0, 0), none, some (1, 1), none, some (2, 2)] (by kernel_rfl) (by kernel_rfl) fun K' hK' => ?_; simp only [List.map_cons, List.map_nil, List.zip_cons_cons, List.zip_nil_left]; (repeat' (first | (with_reducible refine WC.fin ?_; refine hK' _ ?_; clear hK' K') | ((first | (with_reducible refine WC.stepV fun K2 hK2 => ?_) | (with_reducible refine WC.stepW fun K2 hK2 => ?_)); simp only [WS, WH, WO, WOv, WG, dstOk, hasDst, aop, ASt.ev, aload, aloadC, afield, aindex, abin, abinI, aun, alen, acells, Nat.reduceEqDiff, Nat.reduceLT, Nat.reduceLeDiff, Nat.reduceAdd, reduceIte, reduceCtorEq, implies_true, ASt.add, setHp, asplice, Int.reduceEq, Int.reduceNe, Int.reduceLT, Int.reduceLE, Int.reduceSub, Int.reduceAdd, abuild, afill, abuildS, pureL, chunks, List.range, List.range.loop, Nat.reduceMul, Nat.reduceMod, apartF, apartI, aslice, evI, ASt.subst, AO.box, aval, pvals, ams, WCg, WCv, WOw, allP, dav, Chk, List.filter_cons, List.filter_nil, bne_self_eq_false, Nat.reduceBneDiff, Bool.false_eq_true, tys, mapTy_69, keyed_3, hml, hmb]; (repeat' (first | (with_reducible refine hK2 _ _ ?_; clear hK2 K2) | (with_reducible refine hK2 _ ?_; clear hK2 K2) | (with_reducible refine And.intro ?_ ?_) | (with_reducible intro hb) | (with_reducible rfl) | ((with_reducible show @Eq ASt _ _); rfl) | fail))))); all_goals ((try simp only [ThenA, InBlock, reduceIte, Nat.reduceEqDiff]); (try ((repeat ((fail_if_success (refine hK _ ?_)); clear hK K)); refine hK _ ?_; clear hK K)))
  refine T.weak (Weak.ren _ 13 1) ?_; simp only [ASt.ren, AV.ren_own, AV.ren_ptr, AV.ren_rptr, AV.ren_pre, AV.ren_p, AV.ren_elt, AV.ren_junk, AV.ren_cap0, AV.ren_fn, AV.ren_agg, AV.ren_tup, AO.ren_box, AO.ren_row, AO.ren_map, AO.ren_raw, List.map_cons, List.map_nil, List.filter_cons, List.filter_nil, lk_cons, lk_nil, reduceIte, Nat.reduceEqDiff, Nat.reduceLT, Nat.reduceBneDiff, bne_self_eq_false, Bool.and_true, Bool.and_false, Bool.true_and, Bool.false_and, Bool.and_self, Bool.false_eq_true, ne_eq, not_false_eq_true, not_true_eq_false, and_self, and_true, true_and, and_false, (m0 []).ren 13 1 (by decide) (by decide), (m1 []).ren 13 1 (by decide) (by decide), (m2 []).ren 13 1 (by decide) (by decide)]
  refine T.weak (Weak.ren _ 14 0) ?_; simp only [ASt.ren, AV.ren_own, AV.ren_ptr, AV.ren_rptr, AV.ren_pre, AV.ren_p, AV.ren_elt, AV.ren_junk, AV.ren_cap0, AV.ren_fn, AV.ren_agg, AV.ren_tup, AO.ren_box, AO.ren_row, AO.ren_map, AO.ren_raw, List.map_cons, List.map_nil, List.filter_cons, List.filter_nil, lk_cons, lk_nil, reduceIte, Nat.reduceEqDiff, Nat.reduceLT, Nat.reduceBneDiff, bne_self_eq_false, Bool.and_true, Bool.and_false, Bool.true_and, Bool.false_and, Bool.and_self, Bool.false_eq_true, ne_eq, not_false_eq_true, not_true_eq_false, and_self, and_true, true_and, and_false, (m0 []).ren 14 0 (by decide) (by decide), (m1 []).ren 14 0 (by decide) (by decide), (m2 []).ren 14 0 (by decide) (by decide)]
  refine T.weak (Weak.newrowB _ 0 1 48 4 _ _ _ rfl rfl) ?_; simp only [setHp, List.map_cons, List.map_nil, reduceIte, Nat.reduceEqDiff, List.set_cons_succ, List.set_cons_zero, Nat.reduceAdd]
  refine T.weak (Weak.ren _ 15 2) ?_; simp only [ASt.ren, AV.ren_own, AV.ren_ptr, AV.ren_rptr, AV.ren_pre, AV.ren_p, AV.ren_elt, AV.ren_junk, AV.ren_cap0, AV.ren_fn, AV.ren_agg, AV.ren_tup, AO.ren_box, AO.ren_row, AO.ren_map, AO.ren_raw, List.map_cons, List.map_nil, List.filter_cons, List.filter_nil, lk_cons, lk_nil, reduceIte, Nat.reduceEqDiff, Nat.reduceLT, Nat.reduceBneDiff, bne_self_eq_false, Bool.and_true, Bool.and_false, Bool.true_and, Bool.false_and, Bool.and_self, Bool.false_eq_true, ne_eq, not_false_eq_true, not_true_eq_false, and_self, and_true, true_and, and_false, (m0 []).ren 15 2 (by decide) (by decide), (m1 []).ren 15 2 (by decide) (by decide), (m2 []).ren 15 2 (by decide) (by decide)]
  refine T.pin 0 _ rfl fun b => ?_; simp only [setHp, AO.pin, List.map_cons, List.map_nil, reduceIte, Nat.reduceEqDiff]
  have hz : (fun _ : Lit => (none : Option Value)) = zf (fun _ => false) := zf_none.symm
  have hih := visit_ok ths hlen hst b Y0 Y1 Y2 M m0 m1 m2 hv hh (hyld b) m (List.replicate ths.length 0) [] (fun _ => false) 0 [] hp (fun s hs => by cases hs) hm (fun u hu => by cases hu) (by
    have : (m + 1) * (ths.length + 1) ≤ 100001 * 101 := Nat.mul_le_mul (by omega) (by omega)
    omega) (by simp; omega) (by rw [← hres]; simpa using hM)
  rw [← hres, List.nil_append] at hih
  refine T.regI (by kernel_rfl) fun K' hK' => ?_; simp only [List.map_cons, List.map_nil]
  iterate 2 ((with_reducible refine WLI.stepP fun K2 hK2 => ?_); simp only [WS, WH, WO, WOv, WG, dstOk, hasDst, aop, ASt.ev, aload, aloadC, afield, aindex, abin, abinI, aun, alen, acells, Nat.reduceEqDiff, Nat.reduceLT, Nat.reduceLeDiff, Nat.reduceAdd, reduceIte, reduceCtorEq, implies_true, ASt.add, setHp, asplice, Int.reduceEq, Int.reduceNe, Int.reduceLT, Int.reduceLE, Int.reduceSub, Int.reduceAdd, abuild, afill, abuildS, pureL, chunks, List.range, List.range.loop, Nat.reduceMul, Nat.reduceMod, apartF, apartI, aslice, evI, ASt.subst, AO.box, aval, pvals, ams, tys, mapTy_69, keyed_3]; (repeat' (first | (with_reducible refine hK2 _ ?_; clear hK2 K2) | (with_reducible refine And.intro ?_ ?_) | (with_reducible intro hb))))
  refine WLI.weak (Weak.ren _ 16 3) ?_; simp only [ASt.ren, AV.ren_own, AV.ren_ptr, AV.ren_rptr, AV.ren_pre, AV.ren_p, AV.ren_elt, AV.ren_junk, AV.ren_cap0, AV.ren_fn, AV.ren_agg, AV.ren_tup, AO.ren_box, AO.ren_row, AO.ren_map, AO.ren_raw, List.map_cons, List.map_nil, List.filter_cons, List.filter_nil, lk_cons, lk_nil, reduceIte, Nat.reduceEqDiff, Nat.reduceLT, Nat.reduceBneDiff, bne_self_eq_false, Bool.and_true, Bool.and_false, Bool.true_and, Bool.false_and, Bool.and_self, Bool.false_eq_true, ne_eq, not_false_eq_true, not_true_eq_false, and_self, and_true, true_and, and_false, (m0 []).ren 16 3 (by decide) (by decide), (m1 []).ren 16 3 (by decide) (by decide), (m2 []).ren 16 3 (by decide) (by decide)]
  (with_reducible refine WLI.stepP fun K2 hK2 => ?_); simp only [WS, WH, WO, WOv, WG, dstOk, hasDst, aop, ASt.ev, aload, aloadC, afield, aindex, abin, abinI, aun, alen, acells, Nat.reduceEqDiff, Nat.reduceLT, Nat.reduceLeDiff, Nat.reduceAdd, reduceIte, reduceCtorEq, implies_true, ASt.add, setHp, asplice, Int.reduceEq, Int.reduceNe, Int.reduceLT, Int.reduceLE, Int.reduceSub, Int.reduceAdd, abuild, afill, abuildS, pureL, chunks, List.range, List.range.loop, Nat.reduceMul, Nat.reduceMod, apartF, apartI, aslice, evI, ASt.subst, AO.box, aval, pvals, ams, tys, mapTy_69, keyed_3]; (repeat' (first | (with_reducible refine hK2 _ ?_; clear hK2 K2) | (with_reducible refine And.intro ?_ ?_) | (with_reducible intro hb)))
  (with_reducible refine WLI.stepP fun K2 hK2 => ?_); simp only [WS, WH, WO, WOv, WG, dstOk, hasDst, aop, ASt.ev, aload, aloadC, afield, aindex, abin, abinI, aun, alen, acells, Nat.reduceEqDiff, Nat.reduceLT, Nat.reduceLeDiff, Nat.reduceAdd, reduceIte, reduceCtorEq, implies_true, ASt.add, setHp, asplice, Int.reduceEq, Int.reduceNe, Int.reduceLT, Int.reduceLE, Int.reduceSub, Int.reduceAdd, abuild, afill, abuildS, pureL, chunks, List.range, List.range.loop, Nat.reduceMul, Nat.reduceMod, apartF, apartI, aslice, evI, ASt.subst, AO.box, aval, pvals, ams, tys, mapTy_69, keyed_3]
  have hrep : posR (List.replicate ths.length 0) = List.replicate ths.length [.val (.int .i64 0)] := by simp [posR]
  (with_reducible refine callArmM 13 _ _ [] (Ent.of Try.func37 (by kernel_rfl) rfl) hih ?_ ?_ ?_)
  · (refine ⟨Nat.le_of_ble_eq_true rfl, ?_, ?_⟩ <;> simp only [List.mem_cons, List.not_mem_nil, or_false, forall_eq_or_imp, forall_eq, lk_cons, lk_nil, reduceIte, Nat.reduceEqDiff, AO.okB_box, AO.okB_row, AO.okB_map, AO.okB_raw, AV.okB, AV.okB_agg, AV.okB_fn, AV.okB_tup, List.all_cons, List.all_nil, Bool.and_true, Bool.and_self, Nat.reduceLT, decide_true, true_and, and_true, Option.isSome_some, true_implies, false_implies, implies_true, and_self, Nat.lt_irrefl, Option.some.injEq, hpV, thsP, hrep, List.map_nil, zf_none, (m0 []).ok 13 (by decide), (m1 []).ok 13 (by decide), (m2 []).ok 13 (by decide)])
  · simp [AV.okB]
  rintro hp' r ⟨rfl, rfl⟩
  refine ⟨by simp, hK2 _ ?_⟩
  clear hK2 K2
  simp only [ASt.callM, AV.keep_own, AV.keep_ptr, AV.keep_rptr, AV.keep_pre, AV.keep_p, AV.keep_elt, AV.keep_junk, AV.keep_cap0, AV.keep_fn, AV.keep_agg, AV.keep_tup, AO.keep, List.map_cons, List.map_nil, List.filter_cons, List.filter_nil, Nat.reduceLeDiff, decide_true, decide_false, reduceIte, Bool.false_eq_true, List.cons_append, List.nil_append, List.mem_cons, List.not_mem_nil, or_false, false_or, or_true, true_or, Nat.reduceEqDiff, put_some, put_none, Nat.le_refl, hpV]
  (with_reducible refine WLI.fin ?_); refine hK' _ ?_; clear hK' K'; (try simp only [ThenA, InBlock, reduceIte, Nat.reduceEqDiff]); (try ((repeat ((fail_if_success (refine hK _ ?_)); clear hK K)); refine hK _ ?_; clear hK K))
  all_goals repeat' (first | refine T.seqK fun K hK => ?_ | refine T.block ?_ | (refine T.reg (by kernel_rfl) fun K' hK' => ?_; simp only [startSt, frOf, List.map_cons, List.map_nil]; (repeat' (first | (with_reducible refine WL.fin ?_; refine hK' _ ?_; clear hK' K') | (with_reducible refine WD.fin ?_) | ((first | (with_reducible refine WL.step fun K2 hK2 => ?_) | (with_reducible refine WD.step fun K2 hK2 => ?_)); simp only [WS, WH, WO, WOv, WG, dstOk, hasDst, aop, ASt.ev, aload, aloadC, afield, aindex, abin, abinI, aun, alen, acells, Nat.reduceEqDiff, Nat.reduceLT, Nat.reduceLeDiff, Nat.reduceAdd, reduceIte, reduceCtorEq, implies_true, ASt.add, setHp, asplice, Int.reduceEq, Int.reduceNe, Int.reduceLT, Int.reduceLE, Int.reduceSub, Int.reduceAdd, abuild, afill, abuildS, pureL, chunks, List.range, List.range.loop, Nat.reduceMul, Nat.reduceMod, apartF, apartI, aslice, evI, ASt.subst, AO.box, aval, pvals, ams, tys, mapTy_69, keyed_3]; (repeat' (first | (with_reducible refine hK2 _ ?_; clear hK2 K2) | (with_reducible refine And.intro ?_ ?_) | (with_reducible intro hb) | fail)))))) | refine T.skip ?_ | refine T.exit ?_ | refine T.condT rfl ?_ | refine T.condF rfl ?_ | refine T.cond rfl (fun hc => ?_) (fun hc => ?_) | refine T.ret ?_ | simp only [ThenA, InBlock, reduceIte, Nat.reduceEqDiff] | ((repeat ((fail_if_success (refine hK _ ?_)); clear hK K)); refine hK _ ?_; clear hK K))
  refine FinM.ret (s' := ⟨[], [(10, Y0 res), (11, Y1 res), (12, Y2 res)], 14, 13⟩) (r := .tup []) (.inl rfl) Try.results36 (by refine Weak.of' rfl ?_; simp only [wks, reduceIte, Nat.reduceEqDiff, ASt.okB, AV.okB, Nat.reduceLT, implies_true, (m0 res).ok 13 (by decide), (m1 res).ok 13 (by decide), (m2 res).ok 13 (by decide)]) rfl rfl ⟨rfl, rfl⟩
end Go.Proofs.Ytbhkcejjehgfcaa
