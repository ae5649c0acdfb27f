/- Texts Dy, Ed, Ee, Ef, Eg, Mf. -/
import Derived.Test.YtbhkcejjehgfcaaZ05
namespace Go.Proofs.Ytbhkcejjehgfcaa
open Go.RowKit Go.Sort
set_option linter.unusedSimpArgs false
set_option linter.unusedVariables false
def cY0 (bb : Nat) (acc : List (List St)) : AO := .boxP (some bb) 3 [.int acc.length]
def cY1 (acc : List (List St)) : AO := .row 3 1 []
def cY2 (l : Nat) (sp : LSpec) (acc : List (List St)) : AO := .lrec l sp [(3, .ptr 10 0)]
theorem cm0 (bb : Nat) (a : List (List St)) : Mute (cY0 bb a) := ⟨fun _ _ _ => by simp [cY0, AO.sub_box, AV.sub_p], fun _ _ _ => by simp [cY0, AO.cut_box, AV.cut_p], fun _ _ _ _ => by simp [cY0, AO.ren_box, AV.ren_p], fun _ _ => by simp [cY0, AO.okB_box, AV.okB]⟩
theorem cm1 (a : List (List St)) : Mute (cY1 a) := ⟨fun _ _ _ => rfl, fun _ _ _ => rfl, fun _ _ _ _ => rfl, fun _ _ => rfl⟩
theorem cm2 (l : Nat) (sp : LSpec) (a : List (List St)) : Mute (cY2 l sp a) := ⟨fun t y h => by
  have e : ¬ 10 = t := by omega
  simp [cY2, AO.sub_lrec, AV.sub_ptr, e], fun t m h => by simp [cY2, AO.cut_lrec, AV.cut_ptr], fun t t' h h' => by
  have e : ¬ 10 = t := by omega
  have e' : ¬ 10 = t' := by omega
  simp [cY2, AO.ren_lrec, AV.ren_ptr, e, e'], fun n h => by
  have e : 10 < n := by omega
  simp [cY2, AO.okB_lrec, AV.okB, e]⟩
theorem HRel.congr {L : Nat → Prop} {N : Nat} {hp hp' : Hp} {loc : Nat → Option Value} {w : World} (h : HRel L N hp loc w) (e : ∀ t, hp'.lookup t = hp.lookup t) : HRel L N hp' loc w := ⟨fun t o ho => h.at' t o (e t ▸ ho), fun t ho => h.dead t (e t ▸ ho), h.apart, h.inL, h.notL⟩
theorem YldC.mono {P : Program} {l n : Nat} {hp : Hp} {xs : List AV} {Q Q' : Hp → AV → Prop} (h : YldC P l n hp xs Q) (hq : ∀ hp' r, Q hp' r → ∃ hp'', Q' hp'' r ∧ ∀ t, hp''.lookup t = hp'.lookup t) : YldC P l n hp xs Q' := fun L loc w vs hh hvs => by
  obtain ⟨f, tmps, assign, body, h1, h2⟩ := h L loc w vs hh hvs
  refine ⟨f, tmps, assign, body, h1, h2.mono fun e w' ⟨v, loc', hp', r, g1, g2, g3, g4, g5⟩ => ?_⟩
  obtain ⟨hp'', k1, k2⟩ := hq hp' r g2
  exact ⟨v, loc', hp'', r, g1, k1, g3.congr k2, g4, g5⟩
theorem T.rangeFS {P : Program} {Q : Exit → ASt → Prop} {s : ASt} {g : Operand} {ps : Array Tmp} {assign body : Code} (gf : FuncId) (caps : List AV) (fr : List (Nat × AV)) (hg : s.ev g = .fn (.func gf) caps) (he : Ent P gf) (hfr : ∀ p ∈ fr, s.get p.1 = p.2)
    (hc : ∀ l sp, sp.n = s.n → sp.ps = ps → sp.assign = assign → sp.body = body → ∃ n hp I ks, MemC P gf n hp (.own s.N :: caps) I ∧ Passes (s.add (.lrec l sp fr)) n hp ∧ ((AV.own s.N :: caps).all (·.okB n)) = true ∧ ∀ hp' r, I hp' r → (∀ t ∈ ks, t < n → Kept hp hp' t) ∧ (∃ fr', hp'.lookup s.N = some (.lrec l sp fr')) ∧
      ∀ ob, Q .normal { (s.add (.lrec l sp fr)).callM n ks hp' with hp := setHp ((s.add (.lrec l sp fr)).callM n ks hp').hp s.N (.raw (.func (.yield l) #[] #[]) ob) }) : T Fence.wide P (.rangeFunc g ps assign body) Q s :=
  T.rangeF gf caps fr hg he hfr fun l fn D => hc l ⟨s.n, fn, ps, assign, body, D⟩ rfl rfl rfl rfl
set_option maxHeartbeats 4000000 in
set_option maxRecDepth 100000 in
theorem classes_ok (ths : List (List St)) (hst : ∀ l ∈ ths, l.length ≤ 1000 ∧ ∀ s ∈ l, StOk s) (v : Bool) (hval : PureC Try.prog 12 [.p (thsP ths)] (.bool v)) (hv : v = true → ths.length ≤ 8 ∧ remB ths (List.replicate ths.length 0) ≤ 12) :
    PureC Try.prog 14 [.p (thsP ths)] (.int (if v = true then (visB ths 13 (List.replicate ths.length 0) [] fun _ => false).length else 0)) := by
  cases v with
  | false =>
    simp only [Bool.false_eq_true, if_false]
    simp only [thsP] at hval ⊢
    refine PureC.of Try.func14 rfl 12 rfl (by decide) (by simp [AV.okB]) ?_
    repeat' (first | refine T.seqK fun K hK => ?_ | refine T.block ?_ | (refine T.reg (by kernel_rfl) fun K' hK' => ?_; simp only [startSt, frOf, List.map_cons, List.map_nil]; (repeat' (first | (with_reducible refine WL.fin ?_; refine hK' _ ?_; clear hK' K') | (with_reducible refine WD.fin ?_) | ((first | (with_reducible refine WL.step fun K2 hK2 => ?_) | (with_reducible refine WD.step fun K2 hK2 => ?_)); simp only [WS, WH, WO, WOv, WG, dstOk, hasDst, aop, ASt.ev, aload, aloadC, afield, aindex, abin, abinI, aun, alen, acells, Nat.reduceEqDiff, Nat.reduceLT, Nat.reduceLeDiff, Nat.reduceAdd, reduceIte, reduceCtorEq, implies_true, ASt.add, setHp, asplice, Int.reduceEq, Int.reduceNe, Int.reduceLT, Int.reduceLE, Int.reduceSub, Int.reduceAdd, abuild, afill, abuildS, pureL, chunks, List.range, List.range.loop, Nat.reduceMul, Nat.reduceMod, apartF, apartI, aslice, evI, ASt.subst, AO.box, aval, pvals, ams, tys, mapTy_69, keyed_3]; (repeat' (first | (with_reducible refine hK2 _ ?_; clear hK2 K2) | (with_reducible refine And.intro ?_ ?_) | (with_reducible intro hb) | ((first | (with_reducible apply callArmO) | (with_reducible apply callArm)); case h => exact CallV.plain (Ent.of Try.func12 (by kernel_rfl) rfl) (hval) (by simp [AV.okB])))))))) | refine T.skip ?_ | refine T.exit ?_ | refine T.condT rfl ?_ | refine T.condF rfl ?_ | refine T.cond rfl (fun hc => ?_) (fun hc => ?_) | refine T.ret ?_ | simp only [ThenA, InBlock, reduceIte, Nat.reduceEqDiff] | ((repeat ((fail_if_success (refine hK _ ?_)); clear hK K)); refine hK _ ?_; clear hK K))
    refine FinA.ret (.inr rfl) Try.results14 ?_; simp only [ares, aresL, ares1, WS, WH, WO, WOv, WG, dstOk, hasDst, aop, ASt.ev, aload, aloadC, afield, aindex, abin, abinI, aun, alen, acells, Nat.reduceEqDiff, Nat.reduceLT, Nat.reduceLeDiff, Nat.reduceAdd, reduceIte, reduceCtorEq, implies_true, ASt.add, setHp, asplice, Int.reduceEq, Int.reduceNe, Int.reduceLT, Int.reduceLE, Int.reduceSub, Int.reduceAdd, abuild, afill, abuildS, pureL, chunks, List.range, List.range.loop, Nat.reduceMul, Nat.reduceMod, apartF, apartI, aslice, evI, ASt.subst, AO.box, aval, pvals, ams, tys, mapTy_69, keyed_3, ]
  | true =>
    obtain ⟨h8, h12⟩ := hv rfl
    simp only [if_true]
    obtain ⟨res, hres⟩ : ∃ res, res = visB ths 13 (List.replicate ths.length 0) [] fun _ => false := ⟨_, rfl⟩
    rw [← hres]
    have hM : res.length ≤ 9 ^ 13 := by
      rw [hres]
      exact Nat.le_trans (vis_len ths 13 _ _ _) (Nat.pow_le_pow_left (by omega) 13)
    have hruns := runs_ok ths
    simp only [thsP] at hval hruns ⊢
    refine PureC.of Try.func14 rfl 12 rfl (by decide) (by simp [AV.okB]) ?_
    repeat' (first | refine T.seqK fun K hK => ?_ | refine T.block ?_ | (refine T.reg (by kernel_rfl) fun K' hK' => ?_; simp only [startSt, frOf, List.map_cons, List.map_nil]; (repeat' (first | (with_reducible refine WL.fin ?_; refine hK' _ ?_; clear hK' K') | (with_reducible refine WD.fin ?_) | ((first | (with_reducible refine WL.step fun K2 hK2 => ?_) | (with_reducible refine WD.step fun K2 hK2 => ?_)); simp only [WS, WH, WO, WOv, WG, dstOk, hasDst, aop, ASt.ev, aload, aloadC, afield, aindex, abin, abinI, aun, alen, acells, Nat.reduceEqDiff, Nat.reduceLT, Nat.reduceLeDiff, Nat.reduceAdd, reduceIte, reduceCtorEq, implies_true, ASt.add, setHp, asplice, Int.reduceEq, Int.reduceNe, Int.reduceLT, Int.reduceLE, Int.reduceSub, Int.reduceAdd, abuild, afill, abuildS, pureL, chunks, List.range, List.range.loop, Nat.reduceMul, Nat.reduceMod, apartF, apartI, aslice, evI, ASt.subst, AO.box, aval, pvals, ams, tys, mapTy_69, keyed_3]; (repeat' (first | (with_reducible refine hK2 _ ?_; clear hK2 K2) | (with_reducible refine And.intro ?_ ?_) | (with_reducible intro hb) | ((first | (with_reducible apply callArmO) | (with_reducible apply callArm)); case h => exact CallV.plain (Ent.of Try.func12 (by kernel_rfl) rfl) (hval) (by simp [AV.okB])) | ((first | (with_reducible apply callArmO) | (with_reducible apply callArm)); case h => exact CallV.plain (Ent.of Try.func23 (by kernel_rfl) rfl) (hruns) (by simp [AV.okB])))))))) | refine T.skip ?_ | refine T.exit ?_ | refine T.condT rfl ?_ | refine T.condF rfl ?_ | refine T.cond rfl (fun hc => ?_) (fun hc => ?_) | refine T.ret ?_ | simp only [ThenA, InBlock, reduceIte, Nat.reduceEqDiff] | ((repeat ((fail_if_success (refine hK _ ?_)); clear hK K)); refine hK _ ?_; clear hK K))
    refine T.weak (s' := ⟨[(3, .ptr 0 0), (7, .fn (.func 36) [.elt [thsP ths] 0])], [(0, .boxP none 3 [.int 0])], 12, 12⟩) (by refine Weak.of' rfl ?_; simp only [wks, reduceIte, Nat.reduceEqDiff, ASt.okB, AV.okB, Nat.reduceLT, implies_true, thsP]) ?_
    refine T.weak (Weak.ren _ 0 10) ?_; simp only [ASt.ren, AV.ren_own, AV.ren_ptr, AV.ren_rptr, AV.ren_pre, AV.ren_p, AV.ren_elt, AV.ren_junk, AV.ren_cap0, AV.ren_fn, AV.ren_agg, AV.ren_tup, AO.ren_box, AO.ren_row, AO.ren_map, AO.ren_raw, List.map_cons, List.map_nil, List.filter_cons, List.filter_nil, lk_cons, lk_nil, reduceIte, Nat.reduceEqDiff, Nat.reduceLT, Nat.reduceBneDiff, bne_self_eq_false, Bool.and_true, Bool.and_false, Bool.true_and, Bool.false_and, Bool.and_self, Bool.false_eq_true, ne_eq, not_false_eq_true, not_true_eq_false, and_self, and_true, true_and, and_false, bne_self_eq_false]
    refine T.weak (Weak.nilrow _ 3 1) ?_; simp only [ASt.add, Nat.reduceAdd]
    refine T.weak (Weak.ren _ 12 11) ?_; simp only [ASt.ren, AV.ren_own, AV.ren_ptr, AV.ren_rptr, AV.ren_pre, AV.ren_p, AV.ren_elt, AV.ren_junk, AV.ren_cap0, AV.ren_fn, AV.ren_agg, AV.ren_tup, AO.ren_box, AO.ren_row, AO.ren_map, AO.ren_raw, List.map_cons, List.map_nil, List.filter_cons, List.filter_nil, lk_cons, lk_nil, reduceIte, Nat.reduceEqDiff, Nat.reduceLT, Nat.reduceBneDiff, bne_self_eq_false, Bool.and_true, Bool.and_false, Bool.true_and, Bool.false_and, Bool.and_self, Bool.false_eq_true, ne_eq, not_false_eq_true, not_true_eq_false, and_self, and_true, true_and, and_false, bne_self_eq_false]
    refine T.weak (s' := ⟨[(3, .ptr 10 0), (7, .fn (.func 36) [.elt [thsP ths] 0])], [(10, .boxP none 3 [.int 0]), (11, .row 3 1 [])], 12, 12⟩) (by refine Weak.of' rfl ?_; simp only [wks, reduceIte, Nat.reduceEqDiff, ASt.okB, AV.okB, Nat.reduceLT, implies_true, thsP]) ?_
    refine T.pin 10 _ rfl fun bb => ?_; simp only [setHp, AO.pin, List.map_cons, List.map_nil, reduceIte, Nat.reduceEqDiff]
    refine T.rangeFS 36 [.elt [thsP ths] 0] [(3, .ptr 10 0)] rfl (Ent.of Try.func36 (by kernel_rfl) rfl) (by simp [get_mk, lk_cons]) fun l sp hsn hsp hsa hsb => ?_
    have hfr : ∀ p ∈ [(3, AV.ptr 10 0)], p.2.keep 13 [10] = p.2 := by simp [AV.keep_ptr]
    have hyld : ∀ b pos run acc, acc.length < res.length → PosOk ths pos → RunIn ths run → ∃ l' sp' fr', cY2 l sp acc = .lrec l' sp' fr' ∧ YldC Try.prog l' 13 (hpV b ths pos run (cY0 bb acc) (cY1 acc) (cY2 l sp acc)) [.own 2] fun hp' r => hp' = hpV b ths pos run (cY0 bb (acc ++ [run])) (cY1 (acc ++ [run])) (cY2 l sp (acc ++ [run])) ∧ r = .bool true := by
      intro b pos run acc hac hpos hrin
      refine ⟨l, sp, [(3, .ptr 10 0)], rfl, YldC.mono (YldC.of 12 [10] (fun hp3 => hp3 = [(0, .boxP (some b) 67 [.p (thsP ths), .own 2, .own 1]), (1, .row 3 1 (posR pos)), (2, .row 48 4 (run.map stC)), (10, cY0 bb (acc ++ [run])), (11, cY1 (acc ++ [run]))]) (Q := fun hp' r => hp' = (12, .lrec l sp [(3, .ptr 10 0)]) :: [(0, .boxP (some b) 67 [.p (thsP ths), .own 2, .own 1]), (1, .row 3 1 (posR pos)), (2, .row 48 4 (run.map stC)), (10, cY0 bb (acc ++ [run])), (11, cY1 (acc ++ [run]))] ∧ r = .bool true) rfl (by rw [hsp]; rfl) (by rw [hsp, hsn]; simp) hfr ?_ ?_ (by simp [AV.okB])) ?_⟩
      · rw [hsa, hsb, hsp, hsn]
        simp only [hpV, frPut, List.filter_cons, List.filter_nil, Nat.reduceBneDiff, bne_self_eq_false, reduceIte, Bool.false_eq_true, cY0, cY1]
        have hwa : IntKind.i64.wrap ((acc.length : Int) + 1) = (((acc ++ [run]).length : Nat) : Int) := by rw [wrap_succ (by omega)]; simp
        refine T.skip ?_
        simp only [ThenA]
        repeat' (first | refine T.seqK fun K hK => ?_ | refine T.block ?_ | (refine T.reg (by kernel_rfl) fun K' hK' => ?_; simp only [startSt, frOf, List.map_cons, List.map_nil]; (repeat' (first | (with_reducible refine WL.fin ?_; refine hK' _ ?_; clear hK' K') | (with_reducible refine WD.fin ?_) | ((first | (with_reducible refine WL.step fun K2 hK2 => ?_) | (with_reducible refine WD.step fun K2 hK2 => ?_)); simp only [WS, WH, WO, WOv, WG, dstOk, hasDst, aop, ASt.ev, aload, aloadC, afield, aindex, abin, abinI, aun, alen, acells, Nat.reduceEqDiff, Nat.reduceLT, Nat.reduceLeDiff, Nat.reduceAdd, reduceIte, reduceCtorEq, implies_true, ASt.add, setHp, asplice, Int.reduceEq, Int.reduceNe, Int.reduceLT, Int.reduceLE, Int.reduceSub, Int.reduceAdd, abuild, afill, abuildS, pureL, chunks, List.range, List.range.loop, Nat.reduceMul, Nat.reduceMod, apartF, apartI, aslice, evI, ASt.subst, AO.box, aval, pvals, ams, tys, mapTy_69, keyed_3, hwa]; (repeat' (first | (with_reducible refine hK2 _ ?_; clear hK2 K2) | (with_reducible refine And.intro ?_ ?_) | (with_reducible intro hb) | fail)))))) | refine T.skip ?_ | refine T.exit ?_ | refine T.condT rfl ?_ | refine T.condF rfl ?_ | refine T.cond rfl (fun hc => ?_) (fun hc => ?_) | refine T.ret ?_ | simp only [ThenA, InBlock, reduceIte, Nat.reduceEqDiff] | ((repeat ((fail_if_success (refine hK _ ?_)); clear hK K)); refine hK _ ?_; clear hK K))
        refine ⟨rfl, ⟨[], [(0, .boxP (some b) 67 [.p (thsP ths), .own 2, .own 1]), (1, .row 3 1 (posR pos)), (2, .row 48 4 (run.map stC)), (10, cY0 bb (acc ++ [run])), (11, cY1 (acc ++ [run]))], 12, 13⟩, (by refine Weak.of' rfl ?_; simp only [wks, reduceIte, Nat.reduceEqDiff, ASt.okB, AV.okB, Nat.reduceLT, implies_true, cY0, cY1]), rfl, rfl, rfl⟩
      · rintro hp3 rfl
        refine ⟨by simp [Kept, hpV, lk_cons, cY0, AO.handle_box], by simp [AO.sub_box, AO.sub_row, AV.sub_p, AV.sub_own, cY0, cY1], rfl, rfl⟩
      · rintro hp' r ⟨rfl, rfl⟩
        refine ⟨_, ⟨rfl, rfl⟩, fun t => ?_⟩
        simp only [hpV, cY2, lk_cons, lk_nil]
        by_cases e0 : t = 0
        · subst e0; rfl
        · by_cases e1 : t = 1
          · subst e1; rfl
          · by_cases e2 : t = 2
            · subst e2; rfl
            · by_cases e10 : t = 10
              · subst e10; rfl
              · by_cases e11 : t = 11
                · subst e11; rfl
                · simp [e0, e1, e2, e10, e11]
    have h1c := runs1_ok ths (by omega) hst (cY0 bb) cY1 (cY2 l sp) res.length (cm0 bb) cm1 (cm2 l sp) (.func (.yield l) #[] #[]) (fun _ => rfl) hyld 12 h12 (by omega) (by rw [← hres]; exact Nat.le_refl _)
    rw [← hres] at h1c
    refine ⟨13, [(10, cY0 bb []), (11, cY1 []), (12, cY2 l sp [])], _, [10], h1c, ?_, by simp [AV.okB, AV.okB_fn], ?_⟩
    · refine ⟨Nat.le_refl _, ?_, ?_⟩ <;> simp [ASt.add, cY0, cY1, cY2, lk_cons, AO.okB_box, AO.okB_row, AO.okB_lrec, AV.okB]
    rintro hp' r ⟨rfl, rfl⟩
    refine ⟨by simp [Kept, lk_cons, cY0, AO.handle_box], ⟨_, rfl⟩, fun ob => ?_⟩
    simp only [ASt.add, cY0, cY1, cY2]
    simp only [ASt.callM, AV.keep_own, AV.keep_ptr, AV.keep_rptr, AV.keep_pre, AV.keep_p, AV.keep_elt, AV.keep_junk, AV.keep_cap0, AV.keep_fn, AV.keep_agg, AV.keep_tup, AO.keep, List.map_cons, List.map_nil, List.filter_cons, List.filter_nil, Nat.reduceLeDiff, decide_true, decide_false, reduceIte, Bool.false_eq_true, List.cons_append, List.nil_append, List.mem_cons, List.not_mem_nil, or_false, false_or, or_true, true_or, Nat.reduceEqDiff, put_some, put_none, Nat.le_refl, setHp, List.length_nil]
    (try simp only [ThenA, InBlock, reduceIte, Nat.reduceEqDiff]); (try ((repeat ((fail_if_success (refine hK _ ?_)); clear hK K)); refine hK _ ?_; clear hK K))
    repeat' (first | refine T.seqK fun K hK => ?_ | refine T.block ?_ | (refine T.reg (by kernel_rfl) fun K' hK' => ?_; simp only [startSt, frOf, List.map_cons, List.map_nil]; (repeat' (first | (with_reducible refine WL.fin ?_; refine hK' _ ?_; clear hK' K') | (with_reducible refine WD.fin ?_) | ((first | (with_reducible refine WL.step fun K2 hK2 => ?_) | (with_reducible refine WD.step fun K2 hK2 => ?_)); simp only [WS, WH, WO, WOv, WG, dstOk, hasDst, aop, ASt.ev, aload, aloadC, afield, aindex, abin, abinI, aun, alen, acells, Nat.reduceEqDiff, Nat.reduceLT, Nat.reduceLeDiff, Nat.reduceAdd, reduceIte, reduceCtorEq, implies_true, ASt.add, setHp, asplice, Int.reduceEq, Int.reduceNe, Int.reduceLT, Int.reduceLE, Int.reduceSub, Int.reduceAdd, abuild, afill, abuildS, pureL, chunks, List.range, List.range.loop, Nat.reduceMul, Nat.reduceMod, apartF, apartI, aslice, evI, ASt.subst, AO.box, aval, pvals, ams, tys, mapTy_69, keyed_3]; (repeat' (first | (with_reducible refine hK2 _ ?_; clear hK2 K2) | (with_reducible refine And.intro ?_ ?_) | (with_reducible intro hb) | fail)))))) | refine T.skip ?_ | refine T.exit ?_ | refine T.condT rfl ?_ | refine T.condF rfl ?_ | refine T.cond rfl (fun hc => ?_) (fun hc => ?_) | refine T.ret ?_ | simp only [ThenA, InBlock, reduceIte, Nat.reduceEqDiff] | ((repeat ((fail_if_success (refine hK _ ?_)); clear hK K)); refine hK _ ?_; clear hK K))
    refine FinA.ret (.inr rfl) Try.results14 ?_; simp only [ares, aresL, ares1, WS, WH, WO, WOv, WG, dstOk, hasDst, aop, ASt.ev, aload, aloadC, afield, aindex, abin, abinI, aun, alen, acells, Nat.reduceEqDiff, Nat.reduceLT, Nat.reduceLeDiff, Nat.reduceAdd, reduceIte, reduceCtorEq, implies_true, ASt.add, setHp, asplice, Int.reduceEq, Int.reduceNe, Int.reduceLT, Int.reduceLE, Int.reduceSub, Int.reduceAdd, abuild, afill, abuildS, pureL, chunks, List.range, List.range.loop, Nat.reduceMul, Nat.reduceMod, apartF, apartI, aslice, evI, ASt.subst, AO.box, aval, pvals, ams, tys, mapTy_69, keyed_3, ]
end Go.Proofs.Ytbhkcejjehgfcaa
namespace Go.Proofs.Ytbhkcejjehgfcaa
open Go.RowKit Go.Sort
set_option linter.unusedSimpArgs false
set_option linter.unusedVariables false
structure StV (s : St) : Prop where
  ok : StOk s
  gs : s.gs = [s.g]
  lo : 0 ≤ s.g
  hi : s.g < 8
set_option maxHeartbeats 4000000 in
set_option maxRecDepth 100000 in
theorem stepValid_ok (s : St) (h : StV s) : PureC Try.prog 48 [stA s] (.bool true) := by
  obtain ⟨g, c, gs, ts⟩ := s
  obtain ⟨hok, hgs, h0, h8⟩ := h
  simp only at hgs h0 h8
  subst hgs
  have d0 : decide (g < 0) = false := by simp; omega
  have d8 : decide ((8 : Int) ≤ g) = false := by simp; omega
  have hcon : [g].contains g = true := by simp
  simp only [stA, stC, List.map_cons, List.map_nil, gsP, tsP]
  refine PureC.of Try.func48 rfl 40 rfl (by decide) (by simp [AV.okB]) ?_
  repeat' (first | refine T.seqK fun K hK => ?_ | refine T.block ?_ | (refine T.reg (by kernel_rfl) fun K' hK' => ?_; simp only [startSt, frOf, List.map_cons, List.map_nil]; (repeat' (first | (with_reducible refine WL.fin ?_; refine hK' _ ?_; clear hK' K') | (with_reducible refine WD.fin ?_) | ((first | (with_reducible refine WL.step fun K2 hK2 => ?_) | (with_reducible refine WD.step fun K2 hK2 => ?_)); simp only [WS, WH, WO, WOv, WG, dstOk, hasDst, aop, ASt.ev, aload, aloadC, afield, aindex, abin, abinI, aun, alen, acells, Nat.reduceEqDiff, Nat.reduceLT, Nat.reduceLeDiff, Nat.reduceAdd, reduceIte, reduceCtorEq, implies_true, ASt.add, setHp, asplice, Int.reduceEq, Int.reduceNe, Int.reduceLT, Int.reduceLE, Int.reduceSub, Int.reduceAdd, abuild, afill, abuildS, pureL, chunks, List.range, List.range.loop, Nat.reduceMul, Nat.reduceMod, apartF, apartI, aslice, evI, ASt.subst, AO.box, aval, pvals, ams, tys, mapTy_69, keyed_3]; (repeat' (first | (with_reducible refine hK2 _ ?_; clear hK2 K2) | (with_reducible refine And.intro ?_ ?_) | (with_reducible intro hb) | fail)))))) | refine T.skip ?_ | refine T.exit ?_ | refine T.condT rfl ?_ | refine T.condF rfl ?_ | refine T.cond rfl (fun hc => ?_) (fun hc => ?_) | refine T.ret ?_ | simp only [ThenA, InBlock, reduceIte, Nat.reduceEqDiff] | ((repeat ((fail_if_success (refine hK _ ?_)); clear hK K)); refine hK _ ?_; clear hK K))
  refine T.loopK (fun k : Nat => ⟨[(1, .ptr 0 0), (6, .p (gsP [g])), (7, .int 1), (8, .int k)], [(0, .boxP none 48 [.int g, .int c, .p (gsP [g]), .p (tsP ts)])], 40, 1⟩) (fun k => k ≤ 1) (fun k => 1 - k) 0 (by omega) (by refine Weak.of' rfl ?_; simp only [wks, reduceIte, Nat.reduceEqDiff, ASt.okB, AV.okB, Nat.reduceLT, implies_true, Int.natCast_zero, gsP, tsP, List.map_cons, List.map_nil, List.length_cons, List.length_nil, show ((0 + 1 : Nat) : Int) = 1 from rfl, show ((1 : Nat) : Int) = 1 from rfl]) ?_
  rintro k hk KL hKL
  simp only [gsP, tsP]
  by_cases hlt : k < 1
  · obtain rfl : k = 0 := by omega
    repeat' (first | refine T.seqK fun K hK => ?_ | refine T.block ?_ | (refine T.reg (by kernel_rfl) fun K' hK' => ?_; simp only [startSt, frOf, List.map_cons, List.map_nil]; (repeat' (first | (with_reducible refine WL.fin ?_; refine hK' _ ?_; clear hK' K') | (with_reducible refine WD.fin ?_) | ((first | (with_reducible refine WL.step fun K2 hK2 => ?_) | (with_reducible refine WD.step fun K2 hK2 => ?_)); simp only [WS, WH, WO, WOv, WG, dstOk, hasDst, aop, ASt.ev, aload, aloadC, afield, aindex, abin, abinI, aun, alen, acells, Nat.reduceEqDiff, Nat.reduceLT, Nat.reduceLeDiff, Nat.reduceAdd, reduceIte, reduceCtorEq, implies_true, ASt.add, setHp, asplice, Int.reduceEq, Int.reduceNe, Int.reduceLT, Int.reduceLE, Int.reduceSub, Int.reduceAdd, abuild, afill, abuildS, pureL, chunks, List.range, List.range.loop, Nat.reduceMul, Nat.reduceMod, apartF, apartI, aslice, evI, ASt.subst, AO.box, aval, pvals, ams, tys, mapTy_69, keyed_3, inC, Int.natCast_zero, d0, d8, decide_true, decide_false, Int.lt_irrefl, Int.reduceToNat, Int.toNat_zero]; (repeat' (first | (with_reducible refine hK2 _ ?_; clear hK2 K2) | (with_reducible refine And.intro ?_ ?_) | (with_reducible intro hb) | fail)))))) | refine T.skip ?_ | refine T.exit ?_ | refine T.condT rfl ?_ | refine T.condF rfl ?_ | refine T.cond rfl (fun hc => ?_) (fun hc => ?_) | refine T.ret ?_ | simp only [ThenA, InBlock, reduceIte, Nat.reduceEqDiff] | ((repeat ((fail_if_success (refine hK _ ?_)); clear hK K)); refine hK _ ?_; clear hK K))
    exact hKL _ 1 (by refine Weak.of' rfl ?_; simp only [wks, reduceIte, Nat.reduceEqDiff, ASt.okB, AV.okB, Nat.reduceLT, implies_true, show IntKind.i64.wrap 1 = ((1 : Nat) : Int) from rfl, gsP, tsP, inC, List.map_cons, List.map_nil]) (by omega) (by omega)
  · obtain rfl : k = 1 := by omega
    have h11 := contains_ok [g] g (by simp)
    rw [hcon] at h11
    simp only [gsP] at h11
    repeat' (first | refine T.seqK fun K hK => ?_ | refine T.block ?_ | (refine T.reg (by kernel_rfl) fun K' hK' => ?_; simp only [startSt, frOf, List.map_cons, List.map_nil]; (repeat' (first | (with_reducible refine WL.fin ?_; refine hK' _ ?_; clear hK' K') | (with_reducible refine WD.fin ?_) | ((first | (with_reducible refine WL.step fun K2 hK2 => ?_) | (with_reducible refine WD.step fun K2 hK2 => ?_)); simp only [WS, WH, WO, WOv, WG, dstOk, hasDst, aop, ASt.ev, aload, aloadC, afield, aindex, abin, abinI, aun, alen, acells, Nat.reduceEqDiff, Nat.reduceLT, Nat.reduceLeDiff, Nat.reduceAdd, reduceIte, reduceCtorEq, implies_true, ASt.add, setHp, asplice, Int.reduceEq, Int.reduceNe, Int.reduceLT, Int.reduceLE, Int.reduceSub, Int.reduceAdd, abuild, afill, abuildS, pureL, chunks, List.range, List.range.loop, Nat.reduceMul, Nat.reduceMod, apartF, apartI, aslice, evI, ASt.subst, AO.box, aval, pvals, ams, tys, mapTy_69, keyed_3, Int.lt_irrefl, decide_false]; (repeat' (first | (with_reducible refine hK2 _ ?_; clear hK2 K2) | (with_reducible refine And.intro ?_ ?_) | (with_reducible intro hb) | ((first | (with_reducible apply callArmO) | (with_reducible apply callArm)); case h => exact CallV.plain (Ent.of Try.func64 (by kernel_rfl) rfl) (h11) (by simp [AV.okB])))))))) | refine T.skip ?_ | refine T.exit ?_ | refine T.condT rfl ?_ | refine T.condF rfl ?_ | refine T.cond rfl (fun hc => ?_) (fun hc => ?_) | refine T.ret ?_ | simp only [ThenA, InBlock, reduceIte, Nat.reduceEqDiff] | ((repeat ((fail_if_success (refine hK _ ?_)); clear hK K)); refine hK _ ?_; clear hK K))
    refine FinA.ret (.inr rfl) Try.results48 ?_; simp only [ares, aresL, ares1, WS, WH, WO, WOv, WG, dstOk, hasDst, aop, ASt.ev, aload, aloadC, afield, aindex, abin, abinI, aun, alen, acells, Nat.reduceEqDiff, Nat.reduceLT, Nat.reduceLeDiff, Nat.reduceAdd, reduceIte, reduceCtorEq, implies_true, ASt.add, setHp, asplice, Int.reduceEq, Int.reduceNe, Int.reduceLT, Int.reduceLE, Int.reduceSub, Int.reduceAdd, abuild, afill, abuildS, pureL, chunks, List.range, List.range.loop, Nat.reduceMul, Nat.reduceMod, apartF, apartI, aslice, evI, ASt.subst, AO.box, aval, pvals, ams, tys, mapTy_69, keyed_3, ]
def bC (b : Bool) : List PV := [.val (.bool b)]
def chR (ch : List Bool) : List (List PV) := ch.map bC
set_option maxHeartbeats 4000000 in
set_option maxRecDepth 100000 in
theorem free_ok (l : List St) (hl : l.length ≤ 1000000) (hv : ∀ s ∈ l, StOk s) (ch : List Bool) (hch : ch.length = l.length) (i : Nat) (s : St) (hs : l[i]? = some s) (b0 b2 : Nat) :
    MemC Try.prog 49 3 [(2, .boxP (some b2) 80 [.own 1]), (1, .row 4 1 (chR ch)), (0, .boxP (some b0) 30 [.p (thP l)])] [.int i, .ptr 2 0, .ptr 0 0]
      fun hp' r => hp' = [(2, .boxP (some b2) 80 [.own 1]), (1, .row 4 1 (chR ch)), (0, .boxP (some b0) 30 [.p (thP l)])] ∧ r = .bool (freeL s (l.take i) ch) := by
  have hil := (List.getElem?_eq_some_iff.1 hs).1
  simp only [thP, chR]
  refine MemC.of Try.func49 rfl 27 rfl (by decide) ?_; simp only [startM, frOf]
  repeat' (first | refine T.seqK fun K hK => ?_ | refine T.block ?_ | (refine T.reg (by kernel_rfl) fun K' hK' => ?_; simp only [startSt, frOf, List.map_cons, List.map_nil]; (repeat' (first | (with_reducible refine WL.fin ?_; refine hK' _ ?_; clear hK' K') | (with_reducible refine WD.fin ?_) | ((first | (with_reducible refine WL.step fun K2 hK2 => ?_) | (with_reducible refine WD.step fun K2 hK2 => ?_)); simp only [WS, WH, WO, WOv, WG, dstOk, hasDst, aop, ASt.ev, aload, aloadC, afield, aindex, abin, abinI, aun, alen, acells, Nat.reduceEqDiff, Nat.reduceLT, Nat.reduceLeDiff, Nat.reduceAdd, reduceIte, reduceCtorEq, implies_true, ASt.add, setHp, asplice, Int.reduceEq, Int.reduceNe, Int.reduceLT, Int.reduceLE, Int.reduceSub, Int.reduceAdd, abuild, afill, abuildS, pureL, chunks, List.range, List.range.loop, Nat.reduceMul, Nat.reduceMod, apartF, apartI, aslice, evI, ASt.subst, AO.box, aval, pvals, ams, tys, mapTy_69, keyed_3]; (repeat' (first | (with_reducible refine hK2 _ ?_; clear hK2 K2) | (with_reducible refine And.intro ?_ ?_) | (with_reducible intro hb) | fail)))))) | refine T.skip ?_ | refine T.exit ?_ | refine T.condT rfl ?_ | refine T.condF rfl ?_ | refine T.cond rfl (fun hc => ?_) (fun hc => ?_) | refine T.ret ?_ | simp only [ThenA, InBlock, reduceIte, Nat.reduceEqDiff] | ((repeat ((fail_if_success (refine hK _ ?_)); clear hK K)); refine hK _ ?_; clear hK K))
  refine T.loopK (fun k : Nat => ⟨[(0, .int i), (1, .ptr 2 0), (2, .ptr 0 0), (6, .int i), (7, .int k)], [(2, .boxP (some b2) 80 [.own 1]), (1, .row 4 1 (chR ch)), (0, .boxP (some b0) 30 [.p (thP l)])], 27, 3⟩) (fun k => k ≤ i ∧ freeL s (l.take i) ch = freeL s ((l.take i).drop k) (ch.drop k)) (fun k => i - k) 0 ⟨Nat.zero_le _, rfl⟩ (by refine Weak.of' rfl ?_; simp only [wks, reduceIte, Nat.reduceEqDiff, ASt.okB, AV.okB, Nat.reduceLT, implies_true, Int.natCast_zero, thP, chR]) ?_
  rintro k ⟨hk, hn⟩ KL hKL
  simp only [thP, chR]
  by_cases hlt : k < i
  · have hd : decide ((k : Int) < (i : Int)) = true := by simpa using hlt
    obtain ⟨x, hx⟩ := at_lt (l := l) (k := k) (by omega)
    obtain ⟨c, hc⟩ := at_lt (l := ch) (k := k) (by omega)
    have hx2 : (l.take i)[k]? = some x := by rw [List.getElem?_take, if_pos hlt, hx]
    rw [drop_at hx2, drop_at hc, freeL] at hn
    have hkc : k < ch.length := by omega
    have hdep := dep_ok x s (hv x (List.mem_of_getElem? hx)) (hv s (List.mem_of_getElem? hs))
    simp only [stA, stC, List.map_cons, List.map_nil] at hdep
    cases c with
    | true =>
      simp only [Bool.true_or, Bool.true_and] at hn
      repeat' (first | refine T.seqK fun K hK => ?_ | refine T.block ?_ | (refine T.reg (by kernel_rfl) fun K' hK' => ?_; simp only [startSt, frOf, List.map_cons, List.map_nil]; (repeat' (first | (with_reducible refine WL.fin ?_; refine hK' _ ?_; clear hK' K') | (with_reducible refine WD.fin ?_) | ((first | (with_reducible refine WL.step fun K2 hK2 => ?_) | (with_reducible refine WD.step fun K2 hK2 => ?_)); simp only [WS, WH, WO, WOv, WG, dstOk, hasDst, aop, ASt.ev, aload, aloadC, afield, aindex, abin, abinI, aun, alen, acells, Nat.reduceEqDiff, Nat.reduceLT, Nat.reduceLeDiff, Nat.reduceAdd, reduceIte, reduceCtorEq, implies_true, ASt.add, setHp, asplice, Int.reduceEq, Int.reduceNe, Int.reduceLT, Int.reduceLE, Int.reduceSub, Int.reduceAdd, abuild, afill, abuildS, pureL, chunks, List.range, List.range.loop, Nat.reduceMul, Nat.reduceMod, apartF, apartI, aslice, evI, ASt.subst, AO.box, aval, pvals, ams, tys, mapTy_69, keyed_3, hd]; (repeat' (first | (with_reducible refine hK2 _ ?_; clear hK2 K2) | (with_reducible refine And.intro ?_ ?_) | (with_reducible intro hb) | fail)))))) | refine T.skip ?_ | refine T.exit ?_ | refine T.condT rfl ?_ | refine T.condF rfl ?_ | refine T.cond rfl (fun hc => ?_) (fun hc => ?_) | refine T.ret ?_ | simp only [ThenA, InBlock, reduceIte, Nat.reduceEqDiff] | ((repeat ((fail_if_success (refine hK _ ?_)); clear hK K)); refine hK _ ?_; clear hK K))
      refine T.drw 14 (by kernel_rfl) (by kernel_rfl) fun K' hK' => ?_; simp only [List.map_cons, List.map_nil]; (repeat' (first | (with_reducible refine WL.fin ?_; refine hK' _ ?_; clear hK' K') | (with_reducible refine WD.fin ?_) | ((first | (with_reducible refine WL.step fun K2 hK2 => ?_) | (with_reducible refine WD.step fun K2 hK2 => ?_)); simp only [WS, WH, WO, WOv, WG, dstOk, hasDst, aop, ASt.ev, aload, aloadC, afield, aindex, abin, abinI, aun, alen, acells, Nat.reduceEqDiff, Nat.reduceLT, Nat.reduceLeDiff, Nat.reduceAdd, reduceIte, reduceCtorEq, implies_true, ASt.add, setHp, asplice, Int.reduceEq, Int.reduceNe, Int.reduceLT, Int.reduceLE, Int.reduceSub, Int.reduceAdd, abuild, afill, abuildS, pureL, chunks, List.range, List.range.loop, Nat.reduceMul, Nat.reduceMod, apartF, apartI, aslice, evI, ASt.subst, AO.box, aval, pvals, ams, tys, mapTy_69, keyed_3, hc, bC, hkc, hx]; (repeat' (first | (with_reducible refine hK2 _ ?_; clear hK2 K2) | (with_reducible refine And.intro ?_ ?_) | (with_reducible intro hb) | fail))))); all_goals ((try simp only [ThenA, InBlock, reduceIte, Nat.reduceEqDiff]); (try ((repeat ((fail_if_success (refine hK _ ?_)); clear hK K)); refine hK _ ?_; clear hK K)))
      all_goals (repeat' (first | refine T.seqK fun K hK => ?_ | refine T.block ?_ | (refine T.reg (by kernel_rfl) fun K' hK' => ?_; simp only [startSt, frOf, List.map_cons, List.map_nil]; (repeat' (first | (with_reducible refine WL.fin ?_; refine hK' _ ?_; clear hK' K') | (with_reducible refine WD.fin ?_) | ((first | (with_reducible refine WL.step fun K2 hK2 => ?_) | (with_reducible refine WD.step fun K2 hK2 => ?_)); simp only [WS, WH, WO, WOv, WG, dstOk, hasDst, aop, ASt.ev, aload, aloadC, afield, aindex, abin, abinI, aun, alen, acells, Nat.reduceEqDiff, Nat.reduceLT, Nat.reduceLeDiff, Nat.reduceAdd, reduceIte, reduceCtorEq, implies_true, ASt.add, setHp, asplice, Int.reduceEq, Int.reduceNe, Int.reduceLT, Int.reduceLE, Int.reduceSub, Int.reduceAdd, abuild, afill, abuildS, pureL, chunks, List.range, List.range.loop, Nat.reduceMul, Nat.reduceMod, apartF, apartI, aslice, evI, ASt.subst, AO.box, aval, pvals, ams, tys, mapTy_69, keyed_3]; (repeat' (first | (with_reducible refine hK2 _ ?_; clear hK2 K2) | (with_reducible refine And.intro ?_ ?_) | (with_reducible intro hb) | fail)))))) | refine T.skip ?_ | refine T.exit ?_ | refine T.condT rfl ?_ | refine T.condF rfl ?_ | refine T.cond rfl (fun hc => ?_) (fun hc => ?_) | refine T.ret ?_ | simp only [ThenA, InBlock, reduceIte, Nat.reduceEqDiff] | ((repeat ((fail_if_success (refine hK _ ?_)); clear hK K)); refine hK _ ?_; clear hK K)))
      exact hKL _ (k + 1) (by refine Weak.of' rfl ?_; simp only [wks, reduceIte, Nat.reduceEqDiff, ASt.okB, AV.okB, Nat.reduceLT, implies_true, wrap_succ (show k < 1152921504606846976 by omega), thP, chR]) ⟨by omega, hn⟩ (by omega)
    | false =>
      cases hdb : dpB x s with
      | true =>
        rw [hdb] at hdep hn
        repeat' (first | refine T.seqK fun K hK => ?_ | refine T.block ?_ | (refine T.reg (by kernel_rfl) fun K' hK' => ?_; simp only [startSt, frOf, List.map_cons, List.map_nil]; (repeat' (first | (with_reducible refine WL.fin ?_; refine hK' _ ?_; clear hK' K') | (with_reducible refine WD.fin ?_) | ((first | (with_reducible refine WL.step fun K2 hK2 => ?_) | (with_reducible refine WD.step fun K2 hK2 => ?_)); simp only [WS, WH, WO, WOv, WG, dstOk, hasDst, aop, ASt.ev, aload, aloadC, afield, aindex, abin, abinI, aun, alen, acells, Nat.reduceEqDiff, Nat.reduceLT, Nat.reduceLeDiff, Nat.reduceAdd, reduceIte, reduceCtorEq, implies_true, ASt.add, setHp, asplice, Int.reduceEq, Int.reduceNe, Int.reduceLT, Int.reduceLE, Int.reduceSub, Int.reduceAdd, abuild, afill, abuildS, pureL, chunks, List.range, List.range.loop, Nat.reduceMul, Nat.reduceMod, apartF, apartI, aslice, evI, ASt.subst, AO.box, aval, pvals, ams, tys, mapTy_69, keyed_3, hd]; (repeat' (first | (with_reducible refine hK2 _ ?_; clear hK2 K2) | (with_reducible refine And.intro ?_ ?_) | (with_reducible intro hb) | fail)))))) | refine T.skip ?_ | refine T.exit ?_ | refine T.condT rfl ?_ | refine T.condF rfl ?_ | refine T.cond rfl (fun hc => ?_) (fun hc => ?_) | refine T.ret ?_ | simp only [ThenA, InBlock, reduceIte, Nat.reduceEqDiff] | ((repeat ((fail_if_success (refine hK _ ?_)); clear hK K)); refine hK _ ?_; clear hK K))
        refine T.drw 14 (by kernel_rfl) (by kernel_rfl) fun K' hK' => ?_; simp only [List.map_cons, List.map_nil]; (repeat' (first | (with_reducible refine WL.fin ?_; refine hK' _ ?_; clear hK' K') | (with_reducible refine WD.fin ?_) | ((first | (with_reducible refine WL.step fun K2 hK2 => ?_) | (with_reducible refine WD.step fun K2 hK2 => ?_)); simp only [WS, WH, WO, WOv, WG, dstOk, hasDst, aop, ASt.ev, aload, aloadC, afield, aindex, abin, abinI, aun, alen, acells, Nat.reduceEqDiff, Nat.reduceLT, Nat.reduceLeDiff, Nat.reduceAdd, reduceIte, reduceCtorEq, implies_true, ASt.add, setHp, asplice, Int.reduceEq, Int.reduceNe, Int.reduceLT, Int.reduceLE, Int.reduceSub, Int.reduceAdd, abuild, afill, abuildS, pureL, chunks, List.range, List.range.loop, Nat.reduceMul, Nat.reduceMod, apartF, apartI, aslice, evI, ASt.subst, AO.box, aval, pvals, ams, tys, mapTy_69, keyed_3, hc, bC, hkc, hx, hs, stC]; (repeat' (first | (with_reducible refine hK2 _ ?_; clear hK2 K2) | (with_reducible refine And.intro ?_ ?_) | (with_reducible intro hb) | ((first | (with_reducible apply callArmO) | (with_reducible apply callArm)); case h => exact CallV.plain (Ent.of Try.func47 (by kernel_rfl) rfl) (hdep) (by simp [AV.okB]))))))); all_goals ((try simp only [ThenA, InBlock, reduceIte, Nat.reduceEqDiff]); (try ((repeat ((fail_if_success (refine hK _ ?_)); clear hK K)); refine hK _ ?_; clear hK K)))
        all_goals (repeat' (first | refine T.seqK fun K hK => ?_ | refine T.block ?_ | (refine T.reg (by kernel_rfl) fun K' hK' => ?_; simp only [startSt, frOf, List.map_cons, List.map_nil]; (repeat' (first | (with_reducible refine WL.fin ?_; refine hK' _ ?_; clear hK' K') | (with_reducible refine WD.fin ?_) | ((first | (with_reducible refine WL.step fun K2 hK2 => ?_) | (with_reducible refine WD.step fun K2 hK2 => ?_)); simp only [WS, WH, WO, WOv, WG, dstOk, hasDst, aop, ASt.ev, aload, aloadC, afield, aindex, abin, abinI, aun, alen, acells, Nat.reduceEqDiff, Nat.reduceLT, Nat.reduceLeDiff, Nat.reduceAdd, reduceIte, reduceCtorEq, implies_true, ASt.add, setHp, asplice, Int.reduceEq, Int.reduceNe, Int.reduceLT, Int.reduceLE, Int.reduceSub, Int.reduceAdd, abuild, afill, abuildS, pureL, chunks, List.range, List.range.loop, Nat.reduceMul, Nat.reduceMod, apartF, apartI, aslice, evI, ASt.subst, AO.box, aval, pvals, ams, tys, mapTy_69, keyed_3]; (repeat' (first | (with_reducible refine hK2 _ ?_; clear hK2 K2) | (with_reducible refine And.intro ?_ ?_) | (with_reducible intro hb) | fail)))))) | refine T.skip ?_ | refine T.exit ?_ | refine T.condT rfl ?_ | refine T.condF rfl ?_ | refine T.cond rfl (fun hc => ?_) (fun hc => ?_) | refine T.ret ?_ | simp only [ThenA, InBlock, reduceIte, Nat.reduceEqDiff] | ((repeat ((fail_if_success (refine hK _ ?_)); clear hK K)); refine hK _ ?_; clear hK K)))
        refine FinM.ret (s' := ⟨[(4, .bool false)], [(2, .boxP (some b2) 80 [.own 1]), (1, .row 4 1 (chR ch)), (0, .boxP (some b0) 30 [.p (thP l)])], 27, 3⟩) (r := .bool false) (.inr rfl) Try.results49 (by refine Weak.of' rfl ?_; simp only [wks, reduceIte, Nat.reduceEqDiff, ASt.okB, AV.okB, Nat.reduceLT, implies_true, thP, chR]) rfl ?_ ?_; (focus (simp only [ares, aresL, ares1, WS, WH, WO, WOv, WG, dstOk, hasDst, aop, ASt.ev, aload, aloadC, afield, aindex, abin, abinI, aun, alen, acells, Nat.reduceEqDiff, Nat.reduceLT, Nat.reduceLeDiff, Nat.reduceAdd, reduceIte, reduceCtorEq, implies_true, ASt.add, setHp, asplice, Int.reduceEq, Int.reduceNe, Int.reduceLT, Int.reduceLE, Int.reduceSub, Int.reduceAdd, abuild, afill, abuildS, pureL, chunks, List.range, List.range.loop, Nat.reduceMul, Nat.reduceMod, apartF, apartI, aslice, evI, ASt.subst, AO.box, aval, pvals, ams, tys, mapTy_69, keyed_3, ]; done))
        exact ⟨rfl, by rw [hn]; rfl⟩
      | false =>
        rw [hdb] at hdep hn
        simp only [Bool.not_false, Bool.or_true, Bool.true_and] at hn
        repeat' (first | refine T.seqK fun K hK => ?_ | refine T.block ?_ | (refine T.reg (by kernel_rfl) fun K' hK' => ?_; simp only [startSt, frOf, List.map_cons, List.map_nil]; (repeat' (first | (with_reducible refine WL.fin ?_; refine hK' _ ?_; clear hK' K') | (with_reducible refine WD.fin ?_) | ((first | (with_reducible refine WL.step fun K2 hK2 => ?_) | (with_reducible refine WD.step fun K2 hK2 => ?_)); simp only [WS, WH, WO, WOv, WG, dstOk, hasDst, aop, ASt.ev, aload, aloadC, afield, aindex, abin, abinI, aun, alen, acells, Nat.reduceEqDiff, Nat.reduceLT, Nat.reduceLeDiff, Nat.reduceAdd, reduceIte, reduceCtorEq, implies_true, ASt.add, setHp, asplice, Int.reduceEq, Int.reduceNe, Int.reduceLT, Int.reduceLE, Int.reduceSub, Int.reduceAdd, abuild, afill, abuildS, pureL, chunks, List.range, List.range.loop, Nat.reduceMul, Nat.reduceMod, apartF, apartI, aslice, evI, ASt.subst, AO.box, aval, pvals, ams, tys, mapTy_69, keyed_3, hd]; (repeat' (first | (with_reducible refine hK2 _ ?_; clear hK2 K2) | (with_reducible refine And.intro ?_ ?_) | (with_reducible intro hb) | fail)))))) | refine T.skip ?_ | refine T.exit ?_ | refine T.condT rfl ?_ | refine T.condF rfl ?_ | refine T.cond rfl (fun hc => ?_) (fun hc => ?_) | refine T.ret ?_ | simp only [ThenA, InBlock, reduceIte, Nat.reduceEqDiff] | ((repeat ((fail_if_success (refine hK _ ?_)); clear hK K)); refine hK _ ?_; clear hK K))
        refine T.drw 14 (by kernel_rfl) (by kernel_rfl) fun K' hK' => ?_; simp only [List.map_cons, List.map_nil]; (repeat' (first | (with_reducible refine WL.fin ?_; refine hK' _ ?_; clear hK' K') | (with_reducible refine WD.fin ?_) | ((first | (with_reducible refine WL.step fun K2 hK2 => ?_) | (with_reducible refine WD.step fun K2 hK2 => ?_)); simp only [WS, WH, WO, WOv, WG, dstOk, hasDst, aop, ASt.ev, aload, aloadC, afield, aindex, abin, abinI, aun, alen, acells, Nat.reduceEqDiff, Nat.reduceLT, Nat.reduceLeDiff, Nat.reduceAdd, reduceIte, reduceCtorEq, implies_true, ASt.add, setHp, asplice, Int.reduceEq, Int.reduceNe, Int.reduceLT, Int.reduceLE, Int.reduceSub, Int.reduceAdd, abuild, afill, abuildS, pureL, chunks, List.range, List.range.loop, Nat.reduceMul, Nat.reduceMod, apartF, apartI, aslice, evI, ASt.subst, AO.box, aval, pvals, ams, tys, mapTy_69, keyed_3, hc, bC, hkc, hx, hs, stC]; (repeat' (first | (with_reducible refine hK2 _ ?_; clear hK2 K2) | (with_reducible refine And.intro ?_ ?_) | (with_reducible intro hb) | ((first | (with_reducible apply callArmO) | (with_reducible apply callArm)); case h => exact CallV.plain (Ent.of Try.func47 (by kernel_rfl) rfl) (hdep) (by simp [AV.okB]))))))); all_goals ((try simp only [ThenA, InBlock, reduceIte, Nat.reduceEqDiff]); (try ((repeat ((fail_if_success (refine hK _ ?_)); clear hK K)); refine hK _ ?_; clear hK K)))
        all_goals (repeat' (first | refine T.seqK fun K hK => ?_ | refine T.block ?_ | (refine T.reg (by kernel_rfl) fun K' hK' => ?_; simp only [startSt, frOf, List.map_cons, List.map_nil]; (repeat' (first | (with_reducible refine WL.fin ?_; refine hK' _ ?_; clear hK' K') | (with_reducible refine WD.fin ?_) | ((first | (with_reducible refine WL.step fun K2 hK2 => ?_) | (with_reducible refine WD.step fun K2 hK2 => ?_)); simp only [WS, WH, WO, WOv, WG, dstOk, hasDst, aop, ASt.ev, aload, aloadC, afield, aindex, abin, abinI, aun, alen, acells, Nat.reduceEqDiff, Nat.reduceLT, Nat.reduceLeDiff, Nat.reduceAdd, reduceIte, reduceCtorEq, implies_true, ASt.add, setHp, asplice, Int.reduceEq, Int.reduceNe, Int.reduceLT, Int.reduceLE, Int.reduceSub, Int.reduceAdd, abuild, afill, abuildS, pureL, chunks, List.range, List.range.loop, Nat.reduceMul, Nat.reduceMod, apartF, apartI, aslice, evI, ASt.subst, AO.box, aval, pvals, ams, tys, mapTy_69, keyed_3]; (repeat' (first | (with_reducible refine hK2 _ ?_; clear hK2 K2) | (with_reducible refine And.intro ?_ ?_) | (with_reducible intro hb) | fail)))))) | refine T.skip ?_ | refine T.exit ?_ | refine T.condT rfl ?_ | refine T.condF rfl ?_ | refine T.cond rfl (fun hc => ?_) (fun hc => ?_) | refine T.ret ?_ | simp only [ThenA, InBlock, reduceIte, Nat.reduceEqDiff] | ((repeat ((fail_if_success (refine hK _ ?_)); clear hK K)); refine hK _ ?_; clear hK K)))
        exact hKL _ (k + 1) (by refine Weak.of' rfl ?_; simp only [wks, reduceIte, Nat.reduceEqDiff, ASt.okB, AV.okB, Nat.reduceLT, implies_true, wrap_succ (show k < 1152921504606846976 by omega), thP, chR]) ⟨by omega, hn⟩ (by omega)
  · have hd : decide ((k : Int) < (i : Int)) = false := by simpa using hlt
    rw [List.drop_eq_nil_of_le (by simp; omega)] at hn
    repeat' (first | refine T.seqK fun K hK => ?_ | refine T.block ?_ | (refine T.reg (by kernel_rfl) fun K' hK' => ?_; simp only [startSt, frOf, List.map_cons, List.map_nil]; (repeat' (first | (with_reducible refine WL.fin ?_; refine hK' _ ?_; clear hK' K') | (with_reducible refine WD.fin ?_) | ((first | (with_reducible refine WL.step fun K2 hK2 => ?_) | (with_reducible refine WD.step fun K2 hK2 => ?_)); simp only [WS, WH, WO, WOv, WG, dstOk, hasDst, aop, ASt.ev, aload, aloadC, afield, aindex, abin, abinI, aun, alen, acells, Nat.reduceEqDiff, Nat.reduceLT, Nat.reduceLeDiff, Nat.reduceAdd, reduceIte, reduceCtorEq, implies_true, ASt.add, setHp, asplice, Int.reduceEq, Int.reduceNe, Int.reduceLT, Int.reduceLE, Int.reduceSub, Int.reduceAdd, abuild, afill, abuildS, pureL, chunks, List.range, List.range.loop, Nat.reduceMul, Nat.reduceMod, apartF, apartI, aslice, evI, ASt.subst, AO.box, aval, pvals, ams, tys, mapTy_69, keyed_3, hd]; (repeat' (first | (with_reducible refine hK2 _ ?_; clear hK2 K2) | (with_reducible refine And.intro ?_ ?_) | (with_reducible intro hb) | fail)))))) | refine T.skip ?_ | refine T.exit ?_ | refine T.condT rfl ?_ | refine T.condF rfl ?_ | refine T.cond rfl (fun hc => ?_) (fun hc => ?_) | refine T.ret ?_ | simp only [ThenA, InBlock, reduceIte, Nat.reduceEqDiff] | ((repeat ((fail_if_success (refine hK _ ?_)); clear hK K)); refine hK _ ?_; clear hK K))
    refine FinM.ret (s' := ⟨[(4, .bool true)], [(2, .boxP (some b2) 80 [.own 1]), (1, .row 4 1 (chR ch)), (0, .boxP (some b0) 30 [.p (thP l)])], 27, 3⟩) (r := .bool true) (.inr rfl) Try.results49 (by refine Weak.of' rfl ?_; simp only [wks, reduceIte, Nat.reduceEqDiff, ASt.okB, AV.okB, Nat.reduceLT, implies_true, thP, chR]) rfl ?_ ?_; (focus (simp only [ares, aresL, ares1, WS, WH, WO, WOv, WG, dstOk, hasDst, aop, ASt.ev, aload, aloadC, afield, aindex, abin, abinI, aun, alen, acells, Nat.reduceEqDiff, Nat.reduceLT, Nat.reduceLeDiff, Nat.reduceAdd, reduceIte, reduceCtorEq, implies_true, ASt.add, setHp, asplice, Int.reduceEq, Int.reduceNe, Int.reduceLT, Int.reduceLE, Int.reduceSub, Int.reduceAdd, abuild, afill, abuildS, pureL, chunks, List.range, List.range.loop, Nat.reduceMul, Nat.reduceMod, apartF, apartI, aslice, evI, ASt.subst, AO.box, aval, pvals, ams, tys, mapTy_69, keyed_3, ]; done))
    exact ⟨rfl, by rw [hn]; simp [freeL]⟩
end Go.Proofs.Ytbhkcejjehgfcaa
namespace Go.Proofs.Ytbhkcejjehgfcaa
open Go.RowKit Go.Sort
set_option linter.unusedSimpArgs false
set_option linter.unusedVariables false
def bestI : Option Nat → Int
  | none => -1
  | some b => b
theorem bestI_some (b : Nat) : bestI (some b) = (b : Int) := rfl
theorem bestI_none : bestI none = -1 := rfl
def outR (l : List Nat) : List (List PV) := l.map fun (i : Nat) => inC (i : Int)
set_option maxHeartbeats 8000000 in
set_option maxRecDepth 100000 in
theorem order_ok (l : List St) (hl : l.length ≤ 1000000) (hv : ∀ s ∈ l, StV s) : PureC Try.prog 38 [.p (thP l)] (.tup [.p (.seq 1 (outR (orderB l))), .bool true]) := by
  have hml : l.length ≤ maxLen := by unfold maxLen; omega
  have hm1 : 1 ≤ maxLen := by decide
  have hm2 : 2 ≤ maxLen := by decide
  have hmb : 1 * l.length ≤ 140737488355328 := by omega
  simp only [thP]
  refine PureC.of Try.func38 rfl 85 rfl (by decide) (by simp [AV.okB]) ?_
  repeat' (first | refine T.seqK fun K hK => ?_ | refine T.block ?_ | (refine T.reg (by kernel_rfl) fun K' hK' => ?_; simp only [startSt, frOf, List.map_cons, List.map_nil]; (repeat' (first | (with_reducible refine WL.fin ?_; refine hK' _ ?_; clear hK' K') | (with_reducible refine WD.fin ?_) | ((first | (with_reducible refine WL.step fun K2 hK2 => ?_) | (with_reducible refine WD.step fun K2 hK2 => ?_)); simp only [WS, WH, WO, WOv, WG, dstOk, hasDst, aop, ASt.ev, aload, aloadC, afield, aindex, abin, abinI, aun, alen, acells, Nat.reduceEqDiff, Nat.reduceLT, Nat.reduceLeDiff, Nat.reduceAdd, reduceIte, reduceCtorEq, implies_true, ASt.add, setHp, asplice, Int.reduceEq, Int.reduceNe, Int.reduceLT, Int.reduceLE, Int.reduceSub, Int.reduceAdd, abuild, afill, abuildS, pureL, chunks, List.range, List.range.loop, Nat.reduceMul, Nat.reduceMod, apartF, apartI, aslice, evI, ASt.subst, AO.box, aval, pvals, ams, tys, mapTy_69, keyed_3]; (repeat' (first | (with_reducible refine hK2 _ ?_; clear hK2 K2) | (with_reducible refine And.intro ?_ ?_) | (with_reducible intro hb) | fail)))))) | refine T.skip ?_ | refine T.exit ?_ | refine T.condT rfl ?_ | refine T.condF rfl ?_ | refine T.cond rfl (fun hc => ?_) (fun hc => ?_) | refine T.ret ?_ | simp only [ThenA, InBlock, reduceIte, Nat.reduceEqDiff] | ((repeat ((fail_if_success (refine hK _ ?_)); clear hK K)); refine hK _ ?_; clear hK K))
  refine T.loopK (fun k : Nat => ⟨[(1, .ptr 0 0), (12, .p (thP l)), (13, .int l.length), (14, .int k)], [(0, .boxP none 30 [.p (thP l)])], 85, 1⟩) (fun k => k ≤ l.length) (fun k => l.length - k) 0 (Nat.zero_le _) (by refine Weak.of' rfl ?_; simp only [wks, reduceIte, Nat.reduceEqDiff, ASt.okB, AV.okB, Nat.reduceLT, implies_true, Int.natCast_zero, thP]) ?_
  rintro k hk KL hKL
  simp only [thP]
  by_cases hlt : k < l.length
  · obtain ⟨s, hs⟩ := at_lt hlt
    have hd : decide ((k : Int) < (l.length : Int)) = true := by simpa using hlt
    have hsv := stepValid_ok s (hv s (List.mem_of_getElem? hs))
    simp only [stA, stC, List.map_cons, List.map_nil] at hsv
    repeat' (first | refine T.seqK fun K hK => ?_ | refine T.block ?_ | (refine T.reg (by kernel_rfl) fun K' hK' => ?_; simp only [startSt, frOf, List.map_cons, List.map_nil]; (repeat' (first | (with_reducible refine WL.fin ?_; refine hK' _ ?_; clear hK' K') | (with_reducible refine WD.fin ?_) | ((first | (with_reducible refine WL.step fun K2 hK2 => ?_) | (with_reducible refine WD.step fun K2 hK2 => ?_)); simp only [WS, WH, WO, WOv, WG, dstOk, hasDst, aop, ASt.ev, aload, aloadC, afield, aindex, abin, abinI, aun, alen, acells, Nat.reduceEqDiff, Nat.reduceLT, Nat.reduceLeDiff, Nat.reduceAdd, reduceIte, reduceCtorEq, implies_true, ASt.add, setHp, asplice, Int.reduceEq, Int.reduceNe, Int.reduceLT, Int.reduceLE, Int.reduceSub, Int.reduceAdd, abuild, afill, abuildS, pureL, chunks, List.range, List.range.loop, Nat.reduceMul, Nat.reduceMod, apartF, apartI, aslice, evI, ASt.subst, AO.box, aval, pvals, ams, tys, mapTy_69, keyed_3, hd, hs, stC]; (repeat' (first | (with_reducible refine hK2 _ ?_; clear hK2 K2) | (with_reducible refine And.intro ?_ ?_) | (with_reducible intro hb) | ((first | (with_reducible apply callArmO) | (with_reducible apply callArm)); case h => exact CallV.plain (Ent.of Try.func48 (by kernel_rfl) rfl) (hsv) (by simp [AV.okB])))))))) | refine T.skip ?_ | refine T.exit ?_ | refine T.condT rfl ?_ | refine T.condF rfl ?_ | refine T.cond rfl (fun hc => ?_) (fun hc => ?_) | refine T.ret ?_ | simp only [ThenA, InBlock, reduceIte, Nat.reduceEqDiff] | ((repeat ((fail_if_success (refine hK _ ?_)); clear hK K)); refine hK _ ?_; clear hK K))
    exact hKL _ (k + 1) (by refine Weak.of' rfl ?_; simp only [wks, reduceIte, Nat.reduceEqDiff, ASt.okB, AV.okB, Nat.reduceLT, implies_true, wrap_succ (show k < 1152921504606846976 by omega), thP]) (by omega) (by omega)
  have hd : decide ((k : Int) < (l.length : Int)) = false := by simpa using hlt
  clear hKL
  repeat' (first | refine T.seqK fun K hK => ?_ | refine T.block ?_ | (refine T.reg (by kernel_rfl) fun K' hK' => ?_; simp only [startSt, frOf, List.map_cons, List.map_nil]; (repeat' (first | (with_reducible refine WL.fin ?_; refine hK' _ ?_; clear hK' K') | (with_reducible refine WD.fin ?_) | ((first | (with_reducible refine WL.step fun K2 hK2 => ?_) | (with_reducible refine WD.step fun K2 hK2 => ?_)); simp only [WS, WH, WO, WOv, WG, dstOk, hasDst, aop, ASt.ev, aload, aloadC, afield, aindex, abin, abinI, aun, alen, acells, Nat.reduceEqDiff, Nat.reduceLT, Nat.reduceLeDiff, Nat.reduceAdd, reduceIte, reduceCtorEq, implies_true, ASt.add, setHp, asplice, Int.reduceEq, Int.reduceNe, Int.reduceLT, Int.reduceLE, Int.reduceSub, Int.reduceAdd, abuild, afill, abuildS, pureL, chunks, List.range, List.range.loop, Nat.reduceMul, Nat.reduceMod, apartF, apartI, aslice, evI, ASt.subst, AO.box, aval, pvals, ams, tys, mapTy_69, keyed_3, hd, hml, hmb]; (repeat' (first | (with_reducible refine hK2 _ ?_; clear hK2 K2) | (with_reducible refine And.intro ?_ ?_) | (with_reducible intro hb) | fail)))))) | refine T.skip ?_ | refine T.exit ?_ | refine T.condT rfl ?_ | refine T.condF rfl ?_ | refine T.cond rfl (fun hc => ?_) (fun hc => ?_) | refine T.ret ?_ | simp only [ThenA, InBlock, reduceIte, Nat.reduceEqDiff] | ((repeat ((fail_if_success (refine hK _ ?_)); clear hK K)); refine hK _ ?_; clear hK K))
  refine T.pin 0 _ rfl fun b0 => ?_; simp only [setHp, AO.pin, List.map_cons, List.map_nil, reduceIte, Nat.reduceEqDiff]
  refine T.pin 2 _ rfl fun b2 => ?_; simp only [setHp, AO.pin, List.map_cons, List.map_nil, reduceIte, Nat.reduceEqDiff]
  clear hd hlt hk
  refine T.loopK (fun k : Nat => ⟨[(1, .ptr 0 0), (6, .ptr 2 0), (7, .fn (.func 49) [.ptr 2 0, .ptr 0 0]), (8, .own 3), (27, .int l.length), (28, .int k)], [(3, .row 3 1 (outR (ordN l k).1)), (2, .boxP (some b2) 80 [.own 1]), (1, .row 4 1 (chR (ordN l k).2)), (0, .boxP (some b0) 30 [.p (thP l)])], 85, 4⟩)
    (fun k => k ≤ l.length) (fun k => l.length - k) 0 (Nat.zero_le _) ?_ ?_
  · exact (Weak.newrow _ 8 3 1 (show 8 < 85 by decide) rfl).trans (by refine Weak.of' rfl ?_; simp only [wks, reduceIte, Nat.reduceEqDiff, ASt.okB, AV.okB, Nat.reduceLT, implies_true, ASt.add, put_some, Int.natCast_zero, thP, ordN, outR, chR, bC, List.map_replicate, List.map_nil, List.cons_append, List.nil_append])
  clear k
  rintro k hk KL hKL
  simp only [thP]
  by_cases hlt : k < l.length
  · have hd : decide ((k : Int) < (l.length : Int)) = true := by simpa using hlt
    obtain ⟨best, hb1, hb2, hnx⟩ := ord_next l k hlt
    obtain ⟨hcl, -, hol, -⟩ := ord_inv l k hk
    obtain ⟨ch, hch⟩ : ∃ ch, ch = (ordN l k).2 := ⟨_, rfl⟩
    obtain ⟨outs, houts⟩ : ∃ outs, outs = (ordN l k).1 := ⟨_, rfl⟩
    rw [← hch] at hb1 hcl
    rw [← hch, ← houts] at hnx ⊢
    rw [← houts] at hol
    repeat' (first | refine T.seqK fun K hK => ?_ | refine T.block ?_ | (refine T.reg (by kernel_rfl) fun K' hK' => ?_; simp only [startSt, frOf, List.map_cons, List.map_nil]; (repeat' (first | (with_reducible refine WL.fin ?_; refine hK' _ ?_; clear hK' K') | (with_reducible refine WD.fin ?_) | ((first | (with_reducible refine WL.step fun K2 hK2 => ?_) | (with_reducible refine WD.step fun K2 hK2 => ?_)); simp only [WS, WH, WO, WOv, WG, dstOk, hasDst, aop, ASt.ev, aload, aloadC, afield, aindex, abin, abinI, aun, alen, acells, Nat.reduceEqDiff, Nat.reduceLT, Nat.reduceLeDiff, Nat.reduceAdd, reduceIte, reduceCtorEq, implies_true, ASt.add, setHp, asplice, Int.reduceEq, Int.reduceNe, Int.reduceLT, Int.reduceLE, Int.reduceSub, Int.reduceAdd, abuild, afill, abuildS, pureL, chunks, List.range, List.range.loop, Nat.reduceMul, Nat.reduceMod, apartF, apartI, aslice, evI, ASt.subst, AO.box, aval, pvals, ams, tys, mapTy_69, keyed_3, hd]; (repeat' (first | (with_reducible refine hK2 _ ?_; clear hK2 K2) | (with_reducible refine And.intro ?_ ?_) | (with_reducible intro hb) | fail)))))) | refine T.skip ?_ | refine T.exit ?_ | refine T.condT rfl ?_ | refine T.condF rfl ?_ | refine T.cond rfl (fun hc => ?_) (fun hc => ?_) | refine T.ret ?_ | simp only [ThenA, InBlock, reduceIte, Nat.reduceEqDiff] | ((repeat ((fail_if_success (refine hK _ ?_)); clear hK K)); refine hK _ ?_; clear hK K))
    refine T.loopK (fun i : Nat => ⟨[(1, .ptr 0 0), (6, .ptr 2 0), (7, .fn (.func 49) [.ptr 2 0, .ptr 0 0]), (8, .own 3), (9, .int (bestI (bestN l ch i))), (27, .int l.length), (28, .int k), (30, .p (thP l)), (31, .int l.length), (32, .int i)], [(3, .row 3 1 (outR outs)), (2, .boxP (some b2) 80 [.own 1]), (1, .row 4 1 (chR ch)), (0, .boxP (some b0) 30 [.p (thP l)])], 85, 4⟩)
      (fun i => i ≤ l.length) (fun i => l.length - i) 0 (Nat.zero_le _) (by refine Weak.of' rfl ?_; simp only [wks, reduceIte, Nat.reduceEqDiff, ASt.okB, AV.okB, Nat.reduceLT, implies_true, Int.natCast_zero, thP, bestN, bestI]) ?_
    rintro i hi KJ hKJ
    simp only [thP, chR]
    by_cases hil : i < l.length
    · obtain ⟨s, hs⟩ := at_lt hil
      have hd2 : decide ((i : Int) < (l.length : Int)) = true := by simpa using hil
      obtain ⟨c, hc⟩ := at_lt (l := ch) (k := i) (by omega)
      have hic : i < ch.length := by omega
      have hb3 : bestN l ch (i + 1) = if betB l ch (bestN l ch i) i s = true then some i else bestN l ch i := by rw [bestN, bestStep, hs]
      have hgetc : ch.getD i false = c := by rw [List.getD_eq_getElem?_getD, hc]; rfl
      have hskip : betB l ch (bestN l ch i) i s = false → bestN l ch (i + 1) = bestN l ch i := fun h => by rw [hb3, if_neg (by rw [h]; simp)]
      cases c with
      | true =>
        have hb4 := hskip (by simp only [betB, hgetc, Bool.not_true, Bool.false_and])
        repeat' (first | refine T.seqK fun K hK => ?_ | refine T.block ?_ | (refine T.reg (by kernel_rfl) fun K' hK' => ?_; simp only [startSt, frOf, List.map_cons, List.map_nil]; (repeat' (first | (with_reducible refine WL.fin ?_; refine hK' _ ?_; clear hK' K') | (with_reducible refine WD.fin ?_) | ((first | (with_reducible refine WL.step fun K2 hK2 => ?_) | (with_reducible refine WD.step fun K2 hK2 => ?_)); simp only [WS, WH, WO, WOv, WG, dstOk, hasDst, aop, ASt.ev, aload, aloadC, afield, aindex, abin, abinI, aun, alen, acells, Nat.reduceEqDiff, Nat.reduceLT, Nat.reduceLeDiff, Nat.reduceAdd, reduceIte, reduceCtorEq, implies_true, ASt.add, setHp, asplice, Int.reduceEq, Int.reduceNe, Int.reduceLT, Int.reduceLE, Int.reduceSub, Int.reduceAdd, abuild, afill, abuildS, pureL, chunks, List.range, List.range.loop, Nat.reduceMul, Nat.reduceMod, apartF, apartI, aslice, evI, ASt.subst, AO.box, aval, pvals, ams, tys, mapTy_69, keyed_3, hd2, hs, stC, hc, bC, hic]; (repeat' (first | (with_reducible refine hK2 _ ?_; clear hK2 K2) | (with_reducible refine And.intro ?_ ?_) | (with_reducible intro hb) | fail)))))) | refine T.skip ?_ | refine T.exit ?_ | refine T.condT rfl ?_ | refine T.condF rfl ?_ | refine T.cond rfl (fun hc => ?_) (fun hc => ?_) | refine T.ret ?_ | simp only [ThenA, InBlock, reduceIte, Nat.reduceEqDiff] | ((repeat ((fail_if_success (refine hK _ ?_)); clear hK K)); refine hK _ ?_; clear hK K))
        exact hKJ _ (i + 1) (by refine Weak.of' rfl ?_; simp only [wks, reduceIte, Nat.reduceEqDiff, ASt.okB, AV.okB, Nat.reduceLT, implies_true, wrap_succ (show i < 1152921504606846976 by omega), thP, chR, hb4]) (by omega) (by omega)
      | false =>
        have hfree := free_ok l hl (fun s hs => (hv s hs).ok) ch hcl i s hs b0 b2
        cases hfb : freeL s (l.take i) ch with
        | false =>
          have hb4 := hskip (by simp only [betB, hgetc, hfb, Bool.not_false, Bool.true_and, Bool.false_and])
          rw [hfb] at hfree
          simp only [thP, chR] at hfree
          repeat' (first | refine T.seqK fun K hK => ?_ | refine T.block ?_ | (refine T.reg (by kernel_rfl) fun K' hK' => ?_; simp only [startSt, frOf, List.map_cons, List.map_nil]; (repeat' (first | (with_reducible refine WL.fin ?_; refine hK' _ ?_; clear hK' K') | (with_reducible refine WD.fin ?_) | ((first | (with_reducible refine WL.step fun K2 hK2 => ?_) | (with_reducible refine WD.step fun K2 hK2 => ?_)); simp only [WS, WH, WO, WOv, WG, dstOk, hasDst, aop, ASt.ev, aload, aloadC, afield, aindex, abin, abinI, aun, alen, acells, Nat.reduceEqDiff, Nat.reduceLT, Nat.reduceLeDiff, Nat.reduceAdd, reduceIte, reduceCtorEq, implies_true, ASt.add, setHp, asplice, Int.reduceEq, Int.reduceNe, Int.reduceLT, Int.reduceLE, Int.reduceSub, Int.reduceAdd, abuild, afill, abuildS, pureL, chunks, List.range, List.range.loop, Nat.reduceMul, Nat.reduceMod, apartF, apartI, aslice, evI, ASt.subst, AO.box, aval, pvals, ams, tys, mapTy_69, keyed_3, hd2, hs, stC, hc, bC, hic]; (repeat' (first | (with_reducible refine hK2 _ ?_; clear hK2 K2) | (with_reducible refine And.intro ?_ ?_) | (with_reducible intro hb) | ((with_reducible refine callArmM 3 _ _ [0, 2] (Ent.of Try.func49 (by kernel_rfl) rfl) (hfree) ?_ ?_ ?_); (focus ((refine ⟨Nat.le_of_ble_eq_true rfl, ?_, ?_⟩ <;> simp only [List.mem_cons, List.not_mem_nil, or_false, forall_eq_or_imp, forall_eq, lk_cons, lk_nil, reduceIte, Nat.reduceEqDiff, AO.okB_box, AO.okB_row, AO.okB_map, AO.okB_raw, AV.okB, AV.okB_agg, AV.okB_fn, AV.okB_tup, List.all_cons, List.all_nil, Bool.and_true, Bool.and_self, Nat.reduceLT, decide_true, true_and, and_true, Option.isSome_some, true_implies, false_implies, implies_true, and_self, Nat.lt_irrefl, Option.some.injEq, ]); done)); (focus (simp [AV.okB]; done)); rintro hp' r ⟨rfl, rfl⟩; refine ⟨by simp [Kept, lk_cons, AO.handle_box], ?_⟩; simp only [ASt.callM, AV.keep_own, AV.keep_ptr, AV.keep_rptr, AV.keep_pre, AV.keep_p, AV.keep_elt, AV.keep_junk, AV.keep_cap0, AV.keep_fn, AV.keep_agg, AV.keep_tup, AO.keep, List.map_cons, List.map_nil, List.filter_cons, List.filter_nil, Nat.reduceLeDiff, decide_true, decide_false, reduceIte, Bool.false_eq_true, List.cons_append, List.nil_append, List.mem_cons, List.not_mem_nil, or_false, false_or, or_true, true_or, Nat.reduceEqDiff, put_some, put_none, Nat.le_refl, ]))))))) | refine T.skip ?_ | refine T.exit ?_ | refine T.condT rfl ?_ | refine T.condF rfl ?_ | refine T.cond rfl (fun hc => ?_) (fun hc => ?_) | refine T.ret ?_ | simp only [ThenA, InBlock, reduceIte, Nat.reduceEqDiff] | ((repeat ((fail_if_success (refine hK _ ?_)); clear hK K)); refine hK _ ?_; clear hK K))
          exact hKJ _ (i + 1) (by refine Weak.of' rfl ?_; simp only [wks, reduceIte, Nat.reduceEqDiff, ASt.okB, AV.okB, Nat.reduceLT, implies_true, wrap_succ (show i < 1152921504606846976 by omega), thP, chR, hb4]) (by omega) (by omega)
        | true =>
          rw [hfb] at hfree
          simp only [thP, chR] at hfree
          cases hbn : bestN l ch i with
          | none =>
            have hb4 : bestN l ch (i + 1) = some i := by rw [hb3, if_pos]; simp only [betB, hgetc, hfb, hbn, Bool.not_false, Bool.true_and]
            simp only [bestI_none]
            repeat' (first | refine T.seqK fun K hK => ?_ | refine T.block ?_ | (refine T.reg (by kernel_rfl) fun K' hK' => ?_; simp only [startSt, frOf, List.map_cons, List.map_nil]; (repeat' (first | (with_reducible refine WL.fin ?_; refine hK' _ ?_; clear hK' K') | (with_reducible refine WD.fin ?_) | ((first | (with_reducible refine WL.step fun K2 hK2 => ?_) | (with_reducible refine WD.step fun K2 hK2 => ?_)); simp only [WS, WH, WO, WOv, WG, dstOk, hasDst, aop, ASt.ev, aload, aloadC, afield, aindex, abin, abinI, aun, alen, acells, Nat.reduceEqDiff, Nat.reduceLT, Nat.reduceLeDiff, Nat.reduceAdd, reduceIte, reduceCtorEq, implies_true, ASt.add, setHp, asplice, Int.reduceEq, Int.reduceNe, Int.reduceLT, Int.reduceLE, Int.reduceSub, Int.reduceAdd, abuild, afill, abuildS, pureL, chunks, List.range, List.range.loop, Nat.reduceMul, Nat.reduceMod, apartF, apartI, aslice, evI, ASt.subst, AO.box, aval, pvals, ams, tys, mapTy_69, keyed_3, hd2, hs, stC, hc, bC, hic]; (repeat' (first | (with_reducible refine hK2 _ ?_; clear hK2 K2) | (with_reducible refine And.intro ?_ ?_) | (with_reducible intro hb) | ((with_reducible refine callArmM 3 _ _ [0, 2] (Ent.of Try.func49 (by kernel_rfl) rfl) (hfree) ?_ ?_ ?_); (focus ((refine ⟨Nat.le_of_ble_eq_true rfl, ?_, ?_⟩ <;> simp only [List.mem_cons, List.not_mem_nil, or_false, forall_eq_or_imp, forall_eq, lk_cons, lk_nil, reduceIte, Nat.reduceEqDiff, AO.okB_box, AO.okB_row, AO.okB_map, AO.okB_raw, AV.okB, AV.okB_agg, AV.okB_fn, AV.okB_tup, List.all_cons, List.all_nil, Bool.and_true, Bool.and_self, Nat.reduceLT, decide_true, true_and, and_true, Option.isSome_some, true_implies, false_implies, implies_true, and_self, Nat.lt_irrefl, Option.some.injEq, ]); done)); (focus (simp [AV.okB]; done)); rintro hp' r ⟨rfl, rfl⟩; refine ⟨by simp [Kept, lk_cons, AO.handle_box], ?_⟩; simp only [ASt.callM, AV.keep_own, AV.keep_ptr, AV.keep_rptr, AV.keep_pre, AV.keep_p, AV.keep_elt, AV.keep_junk, AV.keep_cap0, AV.keep_fn, AV.keep_agg, AV.keep_tup, AO.keep, List.map_cons, List.map_nil, List.filter_cons, List.filter_nil, Nat.reduceLeDiff, decide_true, decide_false, reduceIte, Bool.false_eq_true, List.cons_append, List.nil_append, List.mem_cons, List.not_mem_nil, or_false, false_or, or_true, true_or, Nat.reduceEqDiff, put_some, put_none, Nat.le_refl, ]))))))) | refine T.skip ?_ | refine T.exit ?_ | refine T.condT rfl ?_ | refine T.condF rfl ?_ | refine T.cond rfl (fun hc => ?_) (fun hc => ?_) | refine T.ret ?_ | simp only [ThenA, InBlock, reduceIte, Nat.reduceEqDiff] | ((repeat ((fail_if_success (refine hK _ ?_)); clear hK K)); refine hK _ ?_; clear hK K))
            refine T.drw 22 (by kernel_rfl) (by kernel_rfl) fun K' hK' => ?_; simp only [List.map_cons, List.map_nil]; (repeat' (first | (with_reducible refine WL.fin ?_; refine hK' _ ?_; clear hK' K') | (with_reducible refine WD.fin ?_) | ((first | (with_reducible refine WL.step fun K2 hK2 => ?_) | (with_reducible refine WD.step fun K2 hK2 => ?_)); simp only [WS, WH, WO, WOv, WG, dstOk, hasDst, aop, ASt.ev, aload, aloadC, afield, aindex, abin, abinI, aun, alen, acells, Nat.reduceEqDiff, Nat.reduceLT, Nat.reduceLeDiff, Nat.reduceAdd, reduceIte, reduceCtorEq, implies_true, ASt.add, setHp, asplice, Int.reduceEq, Int.reduceNe, Int.reduceLT, Int.reduceLE, Int.reduceSub, Int.reduceAdd, abuild, afill, abuildS, pureL, chunks, List.range, List.range.loop, Nat.reduceMul, Nat.reduceMod, apartF, apartI, aslice, evI, ASt.subst, AO.box, aval, pvals, ams, tys, mapTy_69, keyed_3, decide_true, show decide ((-1 : Int) < 0) = true from rfl]; (repeat' (first | (with_reducible refine hK2 _ ?_; clear hK2 K2) | (with_reducible refine And.intro ?_ ?_) | (with_reducible intro hb) | fail))))); all_goals ((try simp only [ThenA, InBlock, reduceIte, Nat.reduceEqDiff]); (try ((repeat ((fail_if_success (refine hK _ ?_)); clear hK K)); refine hK _ ?_; clear hK K)))
            all_goals (repeat' (first | refine T.seqK fun K hK => ?_ | refine T.block ?_ | (refine T.reg (by kernel_rfl) fun K' hK' => ?_; simp only [startSt, frOf, List.map_cons, List.map_nil]; (repeat' (first | (with_reducible refine WL.fin ?_; refine hK' _ ?_; clear hK' K') | (with_reducible refine WD.fin ?_) | ((first | (with_reducible refine WL.step fun K2 hK2 => ?_) | (with_reducible refine WD.step fun K2 hK2 => ?_)); simp only [WS, WH, WO, WOv, WG, dstOk, hasDst, aop, ASt.ev, aload, aloadC, afield, aindex, abin, abinI, aun, alen, acells, Nat.reduceEqDiff, Nat.reduceLT, Nat.reduceLeDiff, Nat.reduceAdd, reduceIte, reduceCtorEq, implies_true, ASt.add, setHp, asplice, Int.reduceEq, Int.reduceNe, Int.reduceLT, Int.reduceLE, Int.reduceSub, Int.reduceAdd, abuild, afill, abuildS, pureL, chunks, List.range, List.range.loop, Nat.reduceMul, Nat.reduceMod, apartF, apartI, aslice, evI, ASt.subst, AO.box, aval, pvals, ams, tys, mapTy_69, keyed_3]; (repeat' (first | (with_reducible refine hK2 _ ?_; clear hK2 K2) | (with_reducible refine And.intro ?_ ?_) | (with_reducible intro hb) | fail)))))) | refine T.skip ?_ | refine T.exit ?_ | refine T.condT rfl ?_ | refine T.condF rfl ?_ | refine T.cond rfl (fun hc => ?_) (fun hc => ?_) | refine T.ret ?_ | simp only [ThenA, InBlock, reduceIte, Nat.reduceEqDiff] | ((repeat ((fail_if_success (refine hK _ ?_)); clear hK K)); refine hK _ ?_; clear hK K)))
            exact hKJ _ (i + 1) (by refine Weak.of' rfl ?_; simp only [wks, reduceIte, Nat.reduceEqDiff, ASt.okB, AV.okB, Nat.reduceLT, implies_true, wrap_succ (show i < 1152921504606846976 by omega), thP, chR, hb4, bestI_some]) (by omega) (by omega)
          | some j =>
            obtain ⟨-, hjl, -⟩ := best_lt l ch i j hbn
            obtain ⟨y, hy⟩ := at_lt hjl
            have hb5 : betB l ch (bestN l ch i) i s = pkLt s y := by simp only [betB, hgetc, hfb, hbn, hy, Bool.not_false, Bool.true_and]
            have hneg : decide ((j : Int) < 0) = false := by simp
            have hor := or_ok [cmpI s.g y.g, cmpI s.c y.c] (by simp)
            simp only [gsP, List.map_cons, List.map_nil, inC] at hor
            have hlo := pkLt_or s y
            simp only [bestI_some]
            repeat' (first | refine T.seqK fun K hK => ?_ | refine T.block ?_ | (refine T.reg (by kernel_rfl) fun K' hK' => ?_; simp only [startSt, frOf, List.map_cons, List.map_nil]; (repeat' (first | (with_reducible refine WL.fin ?_; refine hK' _ ?_; clear hK' K') | (with_reducible refine WD.fin ?_) | ((first | (with_reducible refine WL.step fun K2 hK2 => ?_) | (with_reducible refine WD.step fun K2 hK2 => ?_)); simp only [WS, WH, WO, WOv, WG, dstOk, hasDst, aop, ASt.ev, aload, aloadC, afield, aindex, abin, abinI, aun, alen, acells, Nat.reduceEqDiff, Nat.reduceLT, Nat.reduceLeDiff, Nat.reduceAdd, reduceIte, reduceCtorEq, implies_true, ASt.add, setHp, asplice, Int.reduceEq, Int.reduceNe, Int.reduceLT, Int.reduceLE, Int.reduceSub, Int.reduceAdd, abuild, afill, abuildS, pureL, chunks, List.range, List.range.loop, Nat.reduceMul, Nat.reduceMod, apartF, apartI, aslice, evI, ASt.subst, AO.box, aval, pvals, ams, tys, mapTy_69, keyed_3, hd2, hs, stC, hc, bC, hic]; (repeat' (first | (with_reducible refine hK2 _ ?_; clear hK2 K2) | (with_reducible refine And.intro ?_ ?_) | (with_reducible intro hb) | ((with_reducible refine callArmM 3 _ _ [0, 2] (Ent.of Try.func49 (by kernel_rfl) rfl) (hfree) ?_ ?_ ?_); (focus ((refine ⟨Nat.le_of_ble_eq_true rfl, ?_, ?_⟩ <;> simp only [List.mem_cons, List.not_mem_nil, or_false, forall_eq_or_imp, forall_eq, lk_cons, lk_nil, reduceIte, Nat.reduceEqDiff, AO.okB_box, AO.okB_row, AO.okB_map, AO.okB_raw, AV.okB, AV.okB_agg, AV.okB_fn, AV.okB_tup, List.all_cons, List.all_nil, Bool.and_true, Bool.and_self, Nat.reduceLT, decide_true, true_and, and_true, Option.isSome_some, true_implies, false_implies, implies_true, and_self, Nat.lt_irrefl, Option.some.injEq, ]); done)); (focus (simp [AV.okB]; done)); rintro hp' r ⟨rfl, rfl⟩; refine ⟨by simp [Kept, lk_cons, AO.handle_box], ?_⟩; simp only [ASt.callM, AV.keep_own, AV.keep_ptr, AV.keep_rptr, AV.keep_pre, AV.keep_p, AV.keep_elt, AV.keep_junk, AV.keep_cap0, AV.keep_fn, AV.keep_agg, AV.keep_tup, AO.keep, List.map_cons, List.map_nil, List.filter_cons, List.filter_nil, Nat.reduceLeDiff, decide_true, decide_false, reduceIte, Bool.false_eq_true, List.cons_append, List.nil_append, List.mem_cons, List.not_mem_nil, or_false, false_or, or_true, true_or, Nat.reduceEqDiff, put_some, put_none, Nat.le_refl, ]))))))) | refine T.skip ?_ | refine T.exit ?_ | refine T.condT rfl ?_ | refine T.condF rfl ?_ | refine T.cond rfl (fun hc => ?_) (fun hc => ?_) | refine T.ret ?_ | simp only [ThenA, InBlock, reduceIte, Nat.reduceEqDiff] | ((repeat ((fail_if_success (refine hK _ ?_)); clear hK K)); refine hK _ ?_; clear hK K))
            have hjn : j < l.length := hjl
            cases hpk : pkLt s y with
            | true =>
              rw [hpk] at hlo hb5
              have hb4 : bestN l ch (i + 1) = some i := by rw [hb3, hb5, if_pos rfl]
              refine T.drw 22 (by kernel_rfl) (by kernel_rfl) fun K' hK' => ?_; simp only [List.map_cons, List.map_nil]; (repeat' (first | (with_reducible refine WL.fin ?_; refine hK' _ ?_; clear hK' K') | (with_reducible refine WD.fin ?_) | ((first | (with_reducible refine WL.step fun K2 hK2 => ?_) | (with_reducible refine WD.step fun K2 hK2 => ?_)); simp only [WS, WH, WO, WOv, WG, dstOk, hasDst, aop, ASt.ev, aload, aloadC, afield, aindex, abin, abinI, aun, alen, acells, Nat.reduceEqDiff, Nat.reduceLT, Nat.reduceLeDiff, Nat.reduceAdd, reduceIte, reduceCtorEq, implies_true, ASt.add, setHp, asplice, Int.reduceEq, Int.reduceNe, Int.reduceLT, Int.reduceLE, Int.reduceSub, Int.reduceAdd, abuild, afill, abuildS, pureL, chunks, List.range, List.range.loop, Nat.reduceMul, Nat.reduceMod, apartF, apartI, aslice, evI, ASt.subst, AO.box, aval, pvals, ams, tys, mapTy_69, keyed_3, hneg, hs, hy, stC, hlo, Int.toNat_natCast, hm2]; (repeat' (first | (with_reducible refine hK2 _ ?_; clear hK2 K2) | (with_reducible refine And.intro ?_ ?_) | (with_reducible intro hb) | ((first | (with_reducible apply callArmO) | (with_reducible apply callArm)); case h => exact CallV.plain (Ent.of Try.func30 (by kernel_rfl) rfl) (compare_ok _ _) (by simp [AV.okB])) | ((first | (with_reducible apply callArmO) | (with_reducible apply callArm)); case h => exact CallV.plain (Ent.of Try.func29 (by kernel_rfl) rfl) (hor) (by simp [AV.okB]))))))); all_goals ((try simp only [ThenA, InBlock, reduceIte, Nat.reduceEqDiff]); (try ((repeat ((fail_if_success (refine hK _ ?_)); clear hK K)); refine hK _ ?_; clear hK K)))
              all_goals (repeat' (first | refine T.seqK fun K hK => ?_ | refine T.block ?_ | (refine T.reg (by kernel_rfl) fun K' hK' => ?_; simp only [startSt, frOf, List.map_cons, List.map_nil]; (repeat' (first | (with_reducible refine WL.fin ?_; refine hK' _ ?_; clear hK' K') | (with_reducible refine WD.fin ?_) | ((first | (with_reducible refine WL.step fun K2 hK2 => ?_) | (with_reducible refine WD.step fun K2 hK2 => ?_)); simp only [WS, WH, WO, WOv, WG, dstOk, hasDst, aop, ASt.ev, aload, aloadC, afield, aindex, abin, abinI, aun, alen, acells, Nat.reduceEqDiff, Nat.reduceLT, Nat.reduceLeDiff, Nat.reduceAdd, reduceIte, reduceCtorEq, implies_true, ASt.add, setHp, asplice, Int.reduceEq, Int.reduceNe, Int.reduceLT, Int.reduceLE, Int.reduceSub, Int.reduceAdd, abuild, afill, abuildS, pureL, chunks, List.range, List.range.loop, Nat.reduceMul, Nat.reduceMod, apartF, apartI, aslice, evI, ASt.subst, AO.box, aval, pvals, ams, tys, mapTy_69, keyed_3]; (repeat' (first | (with_reducible refine hK2 _ ?_; clear hK2 K2) | (with_reducible refine And.intro ?_ ?_) | (with_reducible intro hb) | fail)))))) | refine T.skip ?_ | refine T.exit ?_ | refine T.condT rfl ?_ | refine T.condF rfl ?_ | refine T.cond rfl (fun hc => ?_) (fun hc => ?_) | refine T.ret ?_ | simp only [ThenA, InBlock, reduceIte, Nat.reduceEqDiff] | ((repeat ((fail_if_success (refine hK _ ?_)); clear hK K)); refine hK _ ?_; clear hK K)))
              exact hKJ _ (i + 1) (by refine Weak.of' rfl ?_; simp only [wks, reduceIte, Nat.reduceEqDiff, ASt.okB, AV.okB, Nat.reduceLT, implies_true, wrap_succ (show i < 1152921504606846976 by omega), thP, chR, hb4, bestI_some]) (by omega) (by omega)
            | false =>
              rw [hpk] at hlo hb5
              have hb4 : bestN l ch (i + 1) = some j := by rw [hb3, hb5, if_neg (by simp), hbn]
              refine T.drw 22 (by kernel_rfl) (by kernel_rfl) fun K' hK' => ?_; simp only [List.map_cons, List.map_nil]; (repeat' (first | (with_reducible refine WL.fin ?_; refine hK' _ ?_; clear hK' K') | (with_reducible refine WD.fin ?_) | ((first | (with_reducible refine WL.step fun K2 hK2 => ?_) | (with_reducible refine WD.step fun K2 hK2 => ?_)); simp only [WS, WH, WO, WOv, WG, dstOk, hasDst, aop, ASt.ev, aload, aloadC, afield, aindex, abin, abinI, aun, alen, acells, Nat.reduceEqDiff, Nat.reduceLT, Nat.reduceLeDiff, Nat.reduceAdd, reduceIte, reduceCtorEq, implies_true, ASt.add, setHp, asplice, Int.reduceEq, Int.reduceNe, Int.reduceLT, Int.reduceLE, Int.reduceSub, Int.reduceAdd, abuild, afill, abuildS, pureL, chunks, List.range, List.range.loop, Nat.reduceMul, Nat.reduceMod, apartF, apartI, aslice, evI, ASt.subst, AO.box, aval, pvals, ams, tys, mapTy_69, keyed_3, hneg, hs, hy, stC, hlo, Int.toNat_natCast, hm2]; (repeat' (first | (with_reducible refine hK2 _ ?_; clear hK2 K2) | (with_reducible refine And.intro ?_ ?_) | (with_reducible intro hb) | ((first | (with_reducible apply callArmO) | (with_reducible apply callArm)); case h => exact CallV.plain (Ent.of Try.func30 (by kernel_rfl) rfl) (compare_ok _ _) (by simp [AV.okB])) | ((first | (with_reducible apply callArmO) | (with_reducible apply callArm)); case h => exact CallV.plain (Ent.of Try.func29 (by kernel_rfl) rfl) (hor) (by simp [AV.okB]))))))); all_goals ((try simp only [ThenA, InBlock, reduceIte, Nat.reduceEqDiff]); (try ((repeat ((fail_if_success (refine hK _ ?_)); clear hK K)); refine hK _ ?_; clear hK K)))
              all_goals (repeat' (first | refine T.seqK fun K hK => ?_ | refine T.block ?_ | (refine T.reg (by kernel_rfl) fun K' hK' => ?_; simp only [startSt, frOf, List.map_cons, List.map_nil]; (repeat' (first | (with_reducible refine WL.fin ?_; refine hK' _ ?_; clear hK' K') | (with_reducible refine WD.fin ?_) | ((first | (with_reducible refine WL.step fun K2 hK2 => ?_) | (with_reducible refine WD.step fun K2 hK2 => ?_)); simp only [WS, WH, WO, WOv, WG, dstOk, hasDst, aop, ASt.ev, aload, aloadC, afield, aindex, abin, abinI, aun, alen, acells, Nat.reduceEqDiff, Nat.reduceLT, Nat.reduceLeDiff, Nat.reduceAdd, reduceIte, reduceCtorEq, implies_true, ASt.add, setHp, asplice, Int.reduceEq, Int.reduceNe, Int.reduceLT, Int.reduceLE, Int.reduceSub, Int.reduceAdd, abuild, afill, abuildS, pureL, chunks, List.range, List.range.loop, Nat.reduceMul, Nat.reduceMod, apartF, apartI, aslice, evI, ASt.subst, AO.box, aval, pvals, ams, tys, mapTy_69, keyed_3]; (repeat' (first | (with_reducible refine hK2 _ ?_; clear hK2 K2) | (with_reducible refine And.intro ?_ ?_) | (with_reducible intro hb) | fail)))))) | refine T.skip ?_ | refine T.exit ?_ | refine T.condT rfl ?_ | refine T.condF rfl ?_ | refine T.cond rfl (fun hc => ?_) (fun hc => ?_) | refine T.ret ?_ | simp only [ThenA, InBlock, reduceIte, Nat.reduceEqDiff] | ((repeat ((fail_if_success (refine hK _ ?_)); clear hK K)); refine hK _ ?_; clear hK K)))
              exact hKJ _ (i + 1) (by refine Weak.of' rfl ?_; simp only [wks, reduceIte, Nat.reduceEqDiff, ASt.okB, AV.okB, Nat.reduceLT, implies_true, wrap_succ (show i < 1152921504606846976 by omega), thP, chR, hb4, bestI_some]) (by omega) (by omega)
    · have hd2 : decide ((i : Int) < (l.length : Int)) = false := by simpa using hil
      obtain rfl : i = l.length := by omega
      clear hKJ
      rw [hb1]
      have hset : (List.map bC ch).set best [.val (.bool true)] = List.map bC (ch.set best true) := by rw [List.map_set]; rfl
      have hbc : best < ch.length := by omega
      obtain ⟨cb, hcb⟩ := at_lt hbc
      have hout : (outR outs).length + 1 ≤ maxLen := by simp only [outR, List.length_map, hol]; unfold maxLen; omega
      have hout2 : ((outR outs).length + 1) * 8 ≤ 140737488355328 := by simp only [outR, List.length_map, hol]; omega
      repeat' (first | refine T.seqK fun K hK => ?_ | refine T.block ?_ | (refine T.reg (by kernel_rfl) fun K' hK' => ?_; simp only [startSt, frOf, List.map_cons, List.map_nil]; (repeat' (first | (with_reducible refine WL.fin ?_; refine hK' _ ?_; clear hK' K') | (with_reducible refine WD.fin ?_) | ((first | (with_reducible refine WL.step fun K2 hK2 => ?_) | (with_reducible refine WD.step fun K2 hK2 => ?_)); simp only [WS, WH, WO, WOv, WG, dstOk, hasDst, aop, ASt.ev, aload, aloadC, afield, aindex, abin, abinI, aun, alen, acells, Nat.reduceEqDiff, Nat.reduceLT, Nat.reduceLeDiff, Nat.reduceAdd, reduceIte, reduceCtorEq, implies_true, ASt.add, setHp, asplice, Int.reduceEq, Int.reduceNe, Int.reduceLT, Int.reduceLE, Int.reduceSub, Int.reduceAdd, abuild, afill, abuildS, pureL, chunks, List.range, List.range.loop, Nat.reduceMul, Nat.reduceMod, apartF, apartI, aslice, evI, ASt.subst, AO.box, aval, pvals, ams, tys, mapTy_69, keyed_3, hd2, bestI_some, hbc, hcb, bC, hset, hm1, hout, hout2]; (repeat' (first | (with_reducible refine hK2 _ ?_; clear hK2 K2) | (with_reducible refine And.intro ?_ ?_) | (with_reducible intro hb) | fail)))))) | refine T.skip ?_ | refine T.exit ?_ | refine T.condT rfl ?_ | refine T.condF rfl ?_ | refine T.cond rfl (fun hc => ?_) (fun hc => ?_) | refine T.ret ?_ | simp only [ThenA, InBlock, reduceIte, Nat.reduceEqDiff] | ((repeat ((fail_if_success (refine hK _ ?_)); clear hK K)); refine hK _ ?_; clear hK K))
      refine hKL _ (k + 1) ?_ (by omega) (by omega)
      rw [hnx]
      refine Weak.of' rfl ?_; simp only [wks, reduceIte, Nat.reduceEqDiff, ASt.okB, AV.okB, Nat.reduceLT, implies_true, wrap_succ (show k < 1152921504606846976 by omega), thP, outR, List.map_append, List.map_cons, List.map_nil, chR, inC]
  · have hd : decide ((k : Int) < (l.length : Int)) = false := by simpa using hlt
    obtain rfl : k = l.length := by omega
    clear hKL
    repeat' (first | refine T.seqK fun K hK => ?_ | refine T.block ?_ | (refine T.reg (by kernel_rfl) fun K' hK' => ?_; simp only [startSt, frOf, List.map_cons, List.map_nil]; (repeat' (first | (with_reducible refine WL.fin ?_; refine hK' _ ?_; clear hK' K') | (with_reducible refine WD.fin ?_) | ((first | (with_reducible refine WL.step fun K2 hK2 => ?_) | (with_reducible refine WD.step fun K2 hK2 => ?_)); simp only [WS, WH, WO, WOv, WG, dstOk, hasDst, aop, ASt.ev, aload, aloadC, afield, aindex, abin, abinI, aun, alen, acells, Nat.reduceEqDiff, Nat.reduceLT, Nat.reduceLeDiff, Nat.reduceAdd, reduceIte, reduceCtorEq, implies_true, ASt.add, setHp, asplice, Int.reduceEq, Int.reduceNe, Int.reduceLT, Int.reduceLE, Int.reduceSub, Int.reduceAdd, abuild, afill, abuildS, pureL, chunks, List.range, List.range.loop, Nat.reduceMul, Nat.reduceMod, apartF, apartI, aslice, evI, ASt.subst, AO.box, aval, pvals, ams, tys, mapTy_69, keyed_3, hd]; (repeat' (first | (with_reducible refine hK2 _ ?_; clear hK2 K2) | (with_reducible refine And.intro ?_ ?_) | (with_reducible intro hb) | fail)))))) | refine T.skip ?_ | refine T.exit ?_ | refine T.condT rfl ?_ | refine T.condF rfl ?_ | refine T.cond rfl (fun hc => ?_) (fun hc => ?_) | refine T.ret ?_ | simp only [ThenA, InBlock, reduceIte, Nat.reduceEqDiff] | ((repeat ((fail_if_success (refine hK _ ?_)); clear hK K)); refine hK _ ?_; clear hK K))
    refine FinA.retW (.inr rfl) Try.results38 (Weak.frz _ 3) ?_; simp only [ares, aresL, ares1, ASt.frz, ASt.subst, AO.sub_box, AO.sub_row, AO.sub_map, AO.sub_raw, AO.sub_lrec, AV.sub_p, AV.sub_elt, AV.sub_ptr, AV.sub_rptr, AV.sub_own, AV.sub_junk, AV.sub_cap0, AV.sub_agg, AV.sub_fn, AV.sub_tup, List.filter_cons, List.filter_nil, bne_self_eq_false, Nat.reduceBneDiff, Nat.reduceEqDiff, Bool.false_eq_true, WS, WH, WO, WOv, WG, dstOk, hasDst, aop, ASt.ev, aload, aloadC, afield, aindex, abin, abinI, aun, alen, acells, Nat.reduceEqDiff, Nat.reduceLT, Nat.reduceLeDiff, Nat.reduceAdd, reduceIte, reduceCtorEq, implies_true, ASt.add, setHp, asplice, Int.reduceEq, Int.reduceNe, Int.reduceLT, Int.reduceLE, Int.reduceSub, Int.reduceAdd, abuild, afill, abuildS, pureL, chunks, List.range, List.range.loop, Nat.reduceMul, Nat.reduceMod, apartF, apartI, aslice, evI, ASt.subst, AO.box, aval, pvals, ams, tys, mapTy_69, keyed_3, orderB]
end Go.Proofs.Ytbhkcejjehgfcaa
namespace Go.Proofs.Ytbhkcejjehgfcaa
open Go.RowKit Go.Sort
set_option linter.unusedSimpArgs false
set_option linter.unusedVariables false
def pkC (s : St) : List PV := [.val (.int .i64 s.g), .val (.int .i64 s.c)]
theorem order_lt (l : List St) : ∀ i ∈ orderB l, i < l.length := (ord_inv l l.length (Nat.le_refl _)).2.2.2
theorem order_len (l : List St) : (orderB l).length = l.length := (ord_inv l l.length (Nat.le_refl _)).2.2.1
set_option maxHeartbeats 8000000 in
set_option maxRecDepth 100000 in
theorem canonical_ok (l : List St) (hl : l.length ≤ 1000000) (hv : ∀ s ∈ l, StV s) : PureF Try.prog 24 [.p (thP l)] (.seq 2 ((leastB l).map pkC)) := by
  have hm1 : 1 ≤ maxLen := by decide
  have hor := order_ok l hl hv
  have hol := order_len l
  have holt := order_lt l
  unfold leastB
  obtain ⟨os, hos⟩ : ∃ os, os = orderB l := ⟨_, rfl⟩
  rw [← hos] at hor hol holt ⊢
  simp only [thP] at hor ⊢
  refine PureF.of Try.func24 rfl 29 rfl (by decide) ?_
  repeat' (first | refine T.seqK fun K hK => ?_ | refine T.block ?_ | (refine T.reg (by kernel_rfl) fun K' hK' => ?_; simp only [startSt, frOf, List.map_cons, List.map_nil]; (repeat' (first | (with_reducible refine WL.fin ?_; refine hK' _ ?_; clear hK' K') | (with_reducible refine WD.fin ?_) | ((first | (with_reducible refine WL.step fun K2 hK2 => ?_) | (with_reducible refine WD.step fun K2 hK2 => ?_)); simp only [WS, WH, WO, WOv, WG, dstOk, hasDst, aop, ASt.ev, aload, aloadC, afield, aindex, abin, abinI, aun, alen, acells, Nat.reduceEqDiff, Nat.reduceLT, Nat.reduceLeDiff, Nat.reduceAdd, reduceIte, reduceCtorEq, implies_true, ASt.add, setHp, asplice, Int.reduceEq, Int.reduceNe, Int.reduceLT, Int.reduceLE, Int.reduceSub, Int.reduceAdd, abuild, afill, abuildS, pureL, chunks, List.range, List.range.loop, Nat.reduceMul, Nat.reduceMod, apartF, apartI, aslice, evI, ASt.subst, AO.box, aval, pvals, ams, tys, mapTy_69, keyed_3]; (repeat' (first | (with_reducible refine hK2 _ ?_; clear hK2 K2) | (with_reducible refine And.intro ?_ ?_) | (with_reducible intro hb) | ((first | (with_reducible apply callArmO) | (with_reducible apply callArm)); case h => exact CallV.plain (Ent.of Try.func38 (by kernel_rfl) rfl) (hor) (by simp [AV.okB])))))))) | refine T.skip ?_ | refine T.exit ?_ | refine T.condT rfl ?_ | refine T.condF rfl ?_ | refine T.cond rfl (fun hc => ?_) (fun hc => ?_) | refine T.ret ?_ | simp only [ThenA, InBlock, reduceIte, Nat.reduceEqDiff] | ((repeat ((fail_if_success (refine hK _ ?_)); clear hK K)); refine hK _ ?_; clear hK K))
  refine T.loopK (fun k : Nat => ⟨[(0, .p (thP l)), (5, .own 0), (13, .p (.seq 1 (outR os))), (14, .int os.length), (15, .int k)], [(0, .row 44 2 (((os.take k).filterMap (l[·]?)).map pkC))], 29, 1⟩) (fun k => k ≤ os.length) (fun k => os.length - k) 0 (Nat.zero_le _) ?_ ?_
  · exact (Weak.newrow _ 5 44 2 (show 5 < 29 by decide) rfl).trans (by refine Weak.of' rfl ?_; simp only [wks, reduceIte, Nat.reduceEqDiff, ASt.okB, AV.okB, Nat.reduceLT, implies_true, ASt.add, put_some, Int.natCast_zero, thP, outR, List.length_map, List.take_zero, List.filterMap_nil, List.map_nil])
  rintro k hk KL hKL
  simp only [thP, outR]
  by_cases hlt : k < os.length
  · obtain ⟨i, hi⟩ := at_lt hlt
    have hd : decide ((k : Int) < (os.length : Int)) = true := by simpa using hlt
    obtain ⟨s, hs⟩ := at_lt (holt i (List.mem_of_getElem? hi))
    have hnx : (os.take (k + 1)).filterMap (l[·]?) = (os.take k).filterMap (l[·]?) ++ [s] := by rw [List.take_add_one, hi, List.filterMap_append]; simp [hs]
    obtain ⟨ac, hac⟩ : ∃ ac, ac = (os.take k).filterMap (l[·]?) := ⟨_, rfl⟩
    have hal : ac.length ≤ k := by rw [hac]; exact Nat.le_trans (List.length_filterMap_le _ _) (by simp; omega)
    rw [← hac] at hnx ⊢
    have ho1 : (ac.map pkC).length + 1 ≤ maxLen := by simp only [List.length_map]; unfold maxLen; omega
    have ho2 : ((ac.map pkC).length + 1) * 16 ≤ 140737488355328 := by simp only [List.length_map]; omega
    simp only [List.length_map] at ho1 ho2
    repeat' (first | refine T.seqK fun K hK => ?_ | refine T.block ?_ | (refine T.reg (by kernel_rfl) fun K' hK' => ?_; simp only [startSt, frOf, List.map_cons, List.map_nil]; (repeat' (first | (with_reducible refine WL.fin ?_; refine hK' _ ?_; clear hK' K') | (with_reducible refine WD.fin ?_) | ((first | (with_reducible refine WL.step fun K2 hK2 => ?_) | (with_reducible refine WD.step fun K2 hK2 => ?_)); simp only [WS, WH, WO, WOv, WG, dstOk, hasDst, aop, ASt.ev, aload, aloadC, afield, aindex, abin, abinI, aun, alen, acells, Nat.reduceEqDiff, Nat.reduceLT, Nat.reduceLeDiff, Nat.reduceAdd, reduceIte, reduceCtorEq, implies_true, ASt.add, setHp, asplice, Int.reduceEq, Int.reduceNe, Int.reduceLT, Int.reduceLE, Int.reduceSub, Int.reduceAdd, abuild, afill, abuildS, pureL, chunks, List.range, List.range.loop, Nat.reduceMul, Nat.reduceMod, apartF, apartI, aslice, evI, ASt.subst, AO.box, aval, pvals, ams, tys, mapTy_69, keyed_3, hd, hi, hs, inC, stC, hm1, ho1, ho2]; (repeat' (first | (with_reducible refine hK2 _ ?_; clear hK2 K2) | (with_reducible refine And.intro ?_ ?_) | (with_reducible intro hb) | fail)))))) | refine T.skip ?_ | refine T.exit ?_ | refine T.condT rfl ?_ | refine T.condF rfl ?_ | refine T.cond rfl (fun hc => ?_) (fun hc => ?_) | refine T.ret ?_ | simp only [ThenA, InBlock, reduceIte, Nat.reduceEqDiff] | ((repeat ((fail_if_success (refine hK _ ?_)); clear hK K)); refine hK _ ?_; clear hK K))
    refine hKL _ (k + 1) ?_ (by omega) (by omega)
    rw [hnx]
    refine Weak.of' rfl ?_; simp only [wks, reduceIte, Nat.reduceEqDiff, ASt.okB, AV.okB, Nat.reduceLT, implies_true, wrap_succ (show k < 1152921504606846976 by omega), thP, outR, List.map_append, pkC, inC, List.map_cons, List.map_nil]
  · have hd : decide ((k : Int) < (os.length : Int)) = false := by simpa using hlt
    clear hKL
    rw [List.take_of_length_le (by omega)]
    repeat' (first | refine T.seqK fun K hK => ?_ | refine T.block ?_ | (refine T.reg (by kernel_rfl) fun K' hK' => ?_; simp only [startSt, frOf, List.map_cons, List.map_nil]; (repeat' (first | (with_reducible refine WL.fin ?_; refine hK' _ ?_; clear hK' K') | (with_reducible refine WD.fin ?_) | ((first | (with_reducible refine WL.step fun K2 hK2 => ?_) | (with_reducible refine WD.step fun K2 hK2 => ?_)); simp only [WS, WH, WO, WOv, WG, dstOk, hasDst, aop, ASt.ev, aload, aloadC, afield, aindex, abin, abinI, aun, alen, acells, Nat.reduceEqDiff, Nat.reduceLT, Nat.reduceLeDiff, Nat.reduceAdd, reduceIte, reduceCtorEq, implies_true, ASt.add, setHp, asplice, Int.reduceEq, Int.reduceNe, Int.reduceLT, Int.reduceLE, Int.reduceSub, Int.reduceAdd, abuild, afill, abuildS, pureL, chunks, List.range, List.range.loop, Nat.reduceMul, Nat.reduceMod, apartF, apartI, aslice, evI, ASt.subst, AO.box, aval, pvals, ams, tys, mapTy_69, keyed_3, hd]; (repeat' (first | (with_reducible refine hK2 _ ?_; clear hK2 K2) | (with_reducible refine And.intro ?_ ?_) | (with_reducible intro hb) | fail)))))) | refine T.skip ?_ | refine T.exit ?_ | refine T.condT rfl ?_ | refine T.condF rfl ?_ | refine T.cond rfl (fun hc => ?_) (fun hc => ?_) | refine T.ret ?_ | simp only [ThenA, InBlock, reduceIte, Nat.reduceEqDiff] | ((repeat ((fail_if_success (refine hK _ ?_)); clear hK K)); refine hK _ ?_; clear hK K))
    refine FinF.ret 0 44 (.inr rfl) Try.results24 (Weak.refl _) ?_ rfl ?_; (focus (simp only [ares, aresL, ares1, WS, WH, WO, WOv, WG, dstOk, hasDst, aop, ASt.ev, aload, aloadC, afield, aindex, abin, abinI, aun, alen, acells, Nat.reduceEqDiff, Nat.reduceLT, Nat.reduceLeDiff, Nat.reduceAdd, reduceIte, reduceCtorEq, implies_true, ASt.add, setHp, asplice, Int.reduceEq, Int.reduceNe, Int.reduceLT, Int.reduceLE, Int.reduceSub, Int.reduceAdd, abuild, afill, abuildS, pureL, chunks, List.range, List.range.loop, Nat.reduceMul, Nat.reduceMod, apartF, apartI, aslice, evI, ASt.subst, AO.box, aval, pvals, ams, tys, mapTy_69, keyed_3, ]; done))
    intro r hr x hx
    obtain ⟨s, -, rfl⟩ := List.mem_map.1 hr
    simp only [pkC, List.mem_cons, List.not_mem_nil, or_false] at hx
    rcases hx with rfl | rfl <;> exact ⟨_, rfl⟩
end Go.Proofs.Ytbhkcejjehgfcaa
namespace Go.Proofs.Ytbhkcejjehgfcaa
open Go.RowKit Go.Sort
set_option linter.unusedSimpArgs false
set_option linter.unusedVariables false
abbrev Pk := Int × Int
def pkR (x : Pk) : List PV := [.val (.int .i64 x.1), .val (.int .i64 x.2)]
def pksP (l : List Pk) : PV := .seq 2 (l.map pkR)
def cmpP (x y : Pk) : Int := orI [cmpI x.1 y.1, cmpI x.2 y.2]
def cmpL : List Pk → List Pk → Int
  | [], [] => 0
  | [], _ :: _ => -1
  | _ :: _, [] => 1
  | x :: a, y :: b => if cmpP x y = 0 then cmpL a b else cmpP x y
def pkL (x y : Pk) : Prop := x.1 < y.1 ∨ x.1 = y.1 ∧ x.2 < y.2
theorem cmpP_cases (x y : Pk) : (cmpP x y = -1 ∧ pkL x y) ∨ (cmpP x y = 0 ∧ x = y) ∨ (cmpP x y = 1 ∧ pkL y x) := by
  unfold cmpP orI orI orI cmpI pkL
  by_cases h1 : x.1 < y.1
  · simp [h1]
  · by_cases h2 : y.1 < x.1
    · have : ¬ x.1 = y.1 := by omega
      simp [h1, h2, this]
    · have h3 : x.1 = y.1 := by omega
      by_cases h4 : x.2 < y.2
      · simp [h3, h4]
      · by_cases h5 : y.2 < x.2
        · simp [h3, h4, h5]
        · have h6 : x.2 = y.2 := by omega
          simp [h3, h6, Prod.ext_iff]
theorem pkL_trans {x y z : Pk} (h : pkL x y) (k : pkL y z) : pkL x z := by unfold pkL at *; omega
theorem pkL_irr {x : Pk} : ¬ pkL x x := by unfold pkL; omega
theorem pkL_asym {x y : Pk} (h : pkL x y) (k : pkL y x) : False := by unfold pkL at *; omega
theorem cmpP_self (x : Pk) : cmpP x x = 0 := by rcases cmpP_cases x x with h | h | h <;> first | exact h.1 | exact absurd h.2 pkL_irr
theorem cmpL_cases : ∀ a b : List Pk, (cmpL a b = -1 ∧ cmpL b a = 1) ∨ (cmpL a b = 0 ∧ a = b) ∨ (cmpL a b = 1 ∧ cmpL b a = -1)
  | [], [] => by simp [cmpL]
  | [], _ :: _ => by simp [cmpL]
  | _ :: _, [] => by simp [cmpL]
  | x :: a, y :: b => by
    have ih := cmpL_cases a b
    rcases cmpP_cases x y with ⟨h, hl⟩ | ⟨h, rfl⟩ | ⟨h, hl⟩
    · rcases cmpP_cases y x with ⟨h', hl'⟩ | ⟨h', e⟩ | ⟨h', hl'⟩
      · exact (pkL_asym hl hl').elim
      · rw [e] at hl; exact (pkL_irr hl).elim
      · left; simp [cmpL, h, h']
    · simp only [cmpL, h, if_true]
      rcases ih with h | ⟨h, rfl⟩ | h
      · exact .inl h
      · exact .inr (.inl ⟨h, rfl⟩)
      · exact .inr (.inr h)
    · rcases cmpP_cases y x with ⟨h', hl'⟩ | ⟨h', e⟩ | ⟨h', hl'⟩
      · right; right; simp [cmpL, h, h']
      · rw [e] at hl; exact (pkL_irr hl).elim
      · exact (pkL_asym hl hl').elim
theorem cmpL_trans : ∀ a b c : List Pk, cmpL a b < 0 → cmpL b c < 0 → cmpL a c < 0
  | [], [], _, h, _ => by simp [cmpL] at h
  | [], _ :: _, [], _, k => by simp [cmpL] at k
  | [], _ :: _, _ :: _, _, _ => by simp [cmpL]
  | _ :: _, [], _, h, _ => by simp [cmpL] at h
  | _ :: _, _ :: _, [], _, k => by simp [cmpL] at k
  | x :: a, y :: b, z :: c, h, k => by
    have ih := cmpL_trans a b c
    simp only [cmpL] at h k ⊢
    rcases cmpP_cases x y with ⟨h1, hl⟩ | ⟨h1, rfl⟩ | ⟨h1, hl⟩
    · rcases cmpP_cases y z with ⟨h2, hl2⟩ | ⟨h2, rfl⟩ | ⟨h2, hl2⟩
      · rcases cmpP_cases x z with ⟨h3, hl3⟩ | ⟨h3, rfl⟩ | ⟨h3, hl3⟩
        · simp [h3]
        · exact (pkL_asym hl hl2).elim
        · exact (pkL_asym (pkL_trans hl hl2) hl3).elim
      · simp [h1]
      · simp [h2] at k
    · rcases cmpP_cases x z with ⟨h2, hl2⟩ | ⟨h2, rfl⟩ | ⟨h2, hl2⟩
      · simp [h2]
      · simp only [h2, if_true] at k ⊢
        simp only [h1, if_true] at h
        exact ih h k
      · simp [h2] at k
    · simp [h1] at h
theorem cmpL_swo : SWO (fun a b => decide (cmpL a b < 0)) where
  irrefl a := by
    rcases cmpL_cases a a with h | h | h
    · omega
    · simp [h.1]
    · omega
  trans a b c h k := by simpa using cmpL_trans a b c (by simpa using h) (by simpa using k)
  ntrans a b c h k := by
    simp only [decide_eq_false_iff_not] at *
    intro hac
    rcases cmpL_cases a b with h1 | ⟨_, rfl⟩ | h1
    · omega
    · exact k hac
    · rcases cmpL_cases b c with h2 | ⟨_, rfl⟩ | h2
      · omega
      · exact h hac
      · have := cmpL_trans b a c (by omega) hac
        omega
theorem cmpL_zero {a b : List Pk} : cmpL a b = 0 ↔ a = b := by
  constructor
  · intro h
    rcases cmpL_cases a b with h1 | ⟨_, h1⟩ | h1
    · omega
    · exact h1
    · omega
  · rintro rfl
    rcases cmpL_cases a a with h1 | ⟨h1, _⟩ | h1
    · omega
    · exact h1
    · omega
set_option maxHeartbeats 4000000 in
set_option maxRecDepth 100000 in
theorem cmpP_ok (x y : Pk) : PureC Try.prog 28 [.agg ((pkR x).map .p), .agg ((pkR y).map .p)] (.int (cmpP x y)) := by
  have hm2 : 2 ≤ maxLen := by decide
  have hor := or_ok [cmpI x.1 y.1, cmpI x.2 y.2] (by simp)
  simp only [gsP, List.map_cons, List.map_nil, inC] at hor
  simp only [pkR, List.map_cons, List.map_nil]
  refine PureC.of Try.func28 rfl 17 rfl (by decide) (by simp [AV.okB]) ?_
  repeat' (first | refine T.seqK fun K hK => ?_ | refine T.block ?_ | (refine T.reg (by kernel_rfl) fun K' hK' => ?_; simp only [startSt, frOf, List.map_cons, List.map_nil]; (repeat' (first | (with_reducible refine WL.fin ?_; refine hK' _ ?_; clear hK' K') | (with_reducible refine WD.fin ?_) | ((first | (with_reducible refine WL.step fun K2 hK2 => ?_) | (with_reducible refine WD.step fun K2 hK2 => ?_)); simp only [WS, WH, WO, WOv, WG, dstOk, hasDst, aop, ASt.ev, aload, aloadC, afield, aindex, abin, abinI, aun, alen, acells, Nat.reduceEqDiff, Nat.reduceLT, Nat.reduceLeDiff, Nat.reduceAdd, reduceIte, reduceCtorEq, implies_true, ASt.add, setHp, asplice, Int.reduceEq, Int.reduceNe, Int.reduceLT, Int.reduceLE, Int.reduceSub, Int.reduceAdd, abuild, afill, abuildS, pureL, chunks, List.range, List.range.loop, Nat.reduceMul, Nat.reduceMod, apartF, apartI, aslice, evI, ASt.subst, AO.box, aval, pvals, ams, tys, mapTy_69, keyed_3]; (repeat' (first | (with_reducible refine hK2 _ ?_; clear hK2 K2) | (with_reducible refine And.intro ?_ ?_) | (with_reducible intro hb) | fail)))))) | refine T.skip ?_ | refine T.exit ?_ | refine T.condT rfl ?_ | refine T.condF rfl ?_ | refine T.cond rfl (fun hc => ?_) (fun hc => ?_) | refine T.ret ?_ | simp only [ThenA, InBlock, reduceIte, Nat.reduceEqDiff] | ((repeat ((fail_if_success (refine hK _ ?_)); clear hK K)); refine hK _ ?_; clear hK K))
  refine T.drw 9 (by kernel_rfl) (by kernel_rfl) fun K' hK' => ?_; simp only [List.map_cons, List.map_nil]; (repeat' (first | (with_reducible refine WL.fin ?_; refine hK' _ ?_; clear hK' K') | (with_reducible refine WD.fin ?_) | ((first | (with_reducible refine WL.step fun K2 hK2 => ?_) | (with_reducible refine WD.step fun K2 hK2 => ?_)); simp only [WS, WH, WO, WOv, WG, dstOk, hasDst, aop, ASt.ev, aload, aloadC, afield, aindex, abin, abinI, aun, alen, acells, Nat.reduceEqDiff, Nat.reduceLT, Nat.reduceLeDiff, Nat.reduceAdd, reduceIte, reduceCtorEq, implies_true, ASt.add, setHp, asplice, Int.reduceEq, Int.reduceNe, Int.reduceLT, Int.reduceLE, Int.reduceSub, Int.reduceAdd, abuild, afill, abuildS, pureL, chunks, List.range, List.range.loop, Nat.reduceMul, Nat.reduceMod, apartF, apartI, aslice, evI, ASt.subst, AO.box, aval, pvals, ams, tys, mapTy_69, keyed_3, hm2]; (repeat' (first | (with_reducible refine hK2 _ ?_; clear hK2 K2) | (with_reducible refine And.intro ?_ ?_) | (with_reducible intro hb) | ((first | (with_reducible apply callArmO) | (with_reducible apply callArm)); case h => exact CallV.plain (Ent.of Try.func30 (by kernel_rfl) rfl) (compare_ok _ _) (by simp [AV.okB])) | ((first | (with_reducible apply callArmO) | (with_reducible apply callArm)); case h => exact CallV.plain (Ent.of Try.func29 (by kernel_rfl) rfl) (hor) (by simp [AV.okB]))))))); all_goals ((try simp only [ThenA, InBlock, reduceIte, Nat.reduceEqDiff]); (try ((repeat ((fail_if_success (refine hK _ ?_)); clear hK K)); refine hK _ ?_; clear hK K)))
  all_goals (repeat' (first | refine T.seqK fun K hK => ?_ | refine T.block ?_ | (refine T.reg (by kernel_rfl) fun K' hK' => ?_; simp only [startSt, frOf, List.map_cons, List.map_nil]; (repeat' (first | (with_reducible refine WL.fin ?_; refine hK' _ ?_; clear hK' K') | (with_reducible refine WD.fin ?_) | ((first | (with_reducible refine WL.step fun K2 hK2 => ?_) | (with_reducible refine WD.step fun K2 hK2 => ?_)); simp only [WS, WH, WO, WOv, WG, dstOk, hasDst, aop, ASt.ev, aload, aloadC, afield, aindex, abin, abinI, aun, alen, acells, Nat.reduceEqDiff, Nat.reduceLT, Nat.reduceLeDiff, Nat.reduceAdd, reduceIte, reduceCtorEq, implies_true, ASt.add, setHp, asplice, Int.reduceEq, Int.reduceNe, Int.reduceLT, Int.reduceLE, Int.reduceSub, Int.reduceAdd, abuild, afill, abuildS, pureL, chunks, List.range, List.range.loop, Nat.reduceMul, Nat.reduceMod, apartF, apartI, aslice, evI, ASt.subst, AO.box, aval, pvals, ams, tys, mapTy_69, keyed_3]; (repeat' (first | (with_reducible refine hK2 _ ?_; clear hK2 K2) | (with_reducible refine And.intro ?_ ?_) | (with_reducible intro hb) | fail)))))) | refine T.skip ?_ | refine T.exit ?_ | refine T.condT rfl ?_ | refine T.condF rfl ?_ | refine T.cond rfl (fun hc => ?_) (fun hc => ?_) | refine T.ret ?_ | simp only [ThenA, InBlock, reduceIte, Nat.reduceEqDiff] | ((repeat ((fail_if_success (refine hK _ ?_)); clear hK K)); refine hK _ ?_; clear hK K)))
  refine FinA.ret (.inr rfl) Try.results28 ?_; simp only [ares, aresL, ares1, WS, WH, WO, WOv, WG, dstOk, hasDst, aop, ASt.ev, aload, aloadC, afield, aindex, abin, abinI, aun, alen, acells, Nat.reduceEqDiff, Nat.reduceLT, Nat.reduceLeDiff, Nat.reduceAdd, reduceIte, reduceCtorEq, implies_true, ASt.add, setHp, asplice, Int.reduceEq, Int.reduceNe, Int.reduceLT, Int.reduceLE, Int.reduceSub, Int.reduceAdd, abuild, afill, abuildS, pureL, chunks, List.range, List.range.loop, Nat.reduceMul, Nat.reduceMod, apartF, apartI, aslice, evI, ASt.subst, AO.box, aval, pvals, ams, tys, mapTy_69, keyed_3, cmpP]
set_option maxHeartbeats 4000000 in
set_option maxRecDepth 100000 in
theorem cmpF_ok (a b : List Pk) (ha : a.length ≤ 1000000) (hb : b.length ≤ 1000000) : PureC Try.prog 27 [.p (pksP a), .p (pksP b), .fn (.func 28) []] (.int (cmpL a b)) := by
  simp only [pksP]
  refine PureC.of Try.func27 rfl 39 rfl (by decide) (by simp [AV.okB]) ?_
  repeat' (first | refine T.seqK fun K hK => ?_ | refine T.block ?_ | (refine T.reg (by kernel_rfl) fun K' hK' => ?_; simp only [startSt, frOf, List.map_cons, List.map_nil]; (repeat' (first | (with_reducible refine WL.fin ?_; refine hK' _ ?_; clear hK' K') | (with_reducible refine WD.fin ?_) | ((first | (with_reducible refine WL.step fun K2 hK2 => ?_) | (with_reducible refine WD.step fun K2 hK2 => ?_)); simp only [WS, WH, WO, WOv, WG, dstOk, hasDst, aop, ASt.ev, aload, aloadC, afield, aindex, abin, abinI, aun, alen, acells, Nat.reduceEqDiff, Nat.reduceLT, Nat.reduceLeDiff, Nat.reduceAdd, reduceIte, reduceCtorEq, implies_true, ASt.add, setHp, asplice, Int.reduceEq, Int.reduceNe, Int.reduceLT, Int.reduceLE, Int.reduceSub, Int.reduceAdd, abuild, afill, abuildS, pureL, chunks, List.range, List.range.loop, Nat.reduceMul, Nat.reduceMod, apartF, apartI, aslice, evI, ASt.subst, AO.box, aval, pvals, ams, tys, mapTy_69, keyed_3]; (repeat' (first | (with_reducible refine hK2 _ ?_; clear hK2 K2) | (with_reducible refine And.intro ?_ ?_) | (with_reducible intro hb) | fail)))))) | refine T.skip ?_ | refine T.exit ?_ | refine T.condT rfl ?_ | refine T.condF rfl ?_ | refine T.cond rfl (fun hc => ?_) (fun hc => ?_) | refine T.ret ?_ | simp only [ThenA, InBlock, reduceIte, Nat.reduceEqDiff] | ((repeat ((fail_if_success (refine hK _ ?_)); clear hK K)); refine hK _ ?_; clear hK K))
  refine T.loopK (fun k : Nat => ⟨[(0, .p (pksP a)), (1, .p (pksP b)), (2, .fn (.func 28) []), (11, .p (pksP a)), (12, .int a.length), (13, .int k)], [], 39, 0⟩) (fun k => k ≤ a.length ∧ k ≤ b.length ∧ cmpL a b = cmpL (a.drop k) (b.drop k)) (fun k => a.length - k) 0 ⟨Nat.zero_le _, Nat.zero_le _, rfl⟩ (by refine Weak.of' rfl ?_; simp only [wks, reduceIte, Nat.reduceEqDiff, ASt.okB, AV.okB, Nat.reduceLT, implies_true, Int.natCast_zero, pksP]) ?_
  rintro k ⟨hk, hkb, hn⟩ KL hKL
  simp only [pksP]
  by_cases hlt : k < a.length
  · obtain ⟨x, hx⟩ := at_lt hlt
    have hd : decide ((k : Int) < (a.length : Int)) = true := by simpa using hlt
    rw [drop_at hx] at hn
    by_cases hlb : k < b.length
    · obtain ⟨y, hy⟩ := at_lt hlb
      have hd2 : decide ((b.length : Int) ≤ (k : Int)) = false := by simp; omega
      rw [drop_at hy, cmpL] at hn
      have hcp := cmpP_ok x y
      simp only [pkR, List.map_cons, List.map_nil] at hcp
      by_cases h0 : cmpP x y = 0
      · rw [if_pos h0] at hn
        have h00 : (cmpP x y != 0) = false := by simp [h0]
        repeat' (first | refine T.seqK fun K hK => ?_ | refine T.block ?_ | (refine T.reg (by kernel_rfl) fun K' hK' => ?_; simp only [startSt, frOf, List.map_cons, List.map_nil]; (repeat' (first | (with_reducible refine WL.fin ?_; refine hK' _ ?_; clear hK' K') | (with_reducible refine WD.fin ?_) | ((first | (with_reducible refine WL.step fun K2 hK2 => ?_) | (with_reducible refine WD.step fun K2 hK2 => ?_)); simp only [WS, WH, WO, WOv, WG, dstOk, hasDst, aop, ASt.ev, aload, aloadC, afield, aindex, abin, abinI, aun, alen, acells, Nat.reduceEqDiff, Nat.reduceLT, Nat.reduceLeDiff, Nat.reduceAdd, reduceIte, reduceCtorEq, implies_true, ASt.add, setHp, asplice, Int.reduceEq, Int.reduceNe, Int.reduceLT, Int.reduceLE, Int.reduceSub, Int.reduceAdd, abuild, afill, abuildS, pureL, chunks, List.range, List.range.loop, Nat.reduceMul, Nat.reduceMod, apartF, apartI, aslice, evI, ASt.subst, AO.box, aval, pvals, ams, tys, mapTy_69, keyed_3, hx, hy, hd, hd2, pkR, h00]; (repeat' (first | (with_reducible refine hK2 _ ?_; clear hK2 K2) | (with_reducible refine And.intro ?_ ?_) | (with_reducible intro hb) | ((with_reducible refine Or.inl ⟨_, ⟨(Ent.of Try.func28 (by kernel_rfl) rfl), hcp, ?_⟩, ?_⟩); (focus (simp [AV.okB]; done))))))))) | refine T.skip ?_ | refine T.exit ?_ | refine T.condT rfl ?_ | refine T.condF rfl ?_ | refine T.cond rfl (fun hc => ?_) (fun hc => ?_) | refine T.ret ?_ | simp only [ThenA, InBlock, reduceIte, Nat.reduceEqDiff] | ((repeat ((fail_if_success (refine hK _ ?_)); clear hK K)); refine hK _ ?_; clear hK K))
        exact hKL _ (k + 1) (by refine Weak.of' rfl ?_; simp only [wks, reduceIte, Nat.reduceEqDiff, ASt.okB, AV.okB, Nat.reduceLT, implies_true, wrap_succ (show k < 1152921504606846976 by omega), pksP]) ⟨by omega, by omega, hn⟩ (by omega)
      · rw [if_neg h0] at hn
        have h00 : (cmpP x y != 0) = true := by simp [h0]
        repeat' (first | refine T.seqK fun K hK => ?_ | refine T.block ?_ | (refine T.reg (by kernel_rfl) fun K' hK' => ?_; simp only [startSt, frOf, List.map_cons, List.map_nil]; (repeat' (first | (with_reducible refine WL.fin ?_; refine hK' _ ?_; clear hK' K') | (with_reducible refine WD.fin ?_) | ((first | (with_reducible refine WL.step fun K2 hK2 => ?_) | (with_reducible refine WD.step fun K2 hK2 => ?_)); simp only [WS, WH, WO, WOv, WG, dstOk, hasDst, aop, ASt.ev, aload, aloadC, afield, aindex, abin, abinI, aun, alen, acells, Nat.reduceEqDiff, Nat.reduceLT, Nat.reduceLeDiff, Nat.reduceAdd, reduceIte, reduceCtorEq, implies_true, ASt.add, setHp, asplice, Int.reduceEq, Int.reduceNe, Int.reduceLT, Int.reduceLE, Int.reduceSub, Int.reduceAdd, abuild, afill, abuildS, pureL, chunks, List.range, List.range.loop, Nat.reduceMul, Nat.reduceMod, apartF, apartI, aslice, evI, ASt.subst, AO.box, aval, pvals, ams, tys, mapTy_69, keyed_3, hx, hy, hd, hd2, pkR, h00]; (repeat' (first | (with_reducible refine hK2 _ ?_; clear hK2 K2) | (with_reducible refine And.intro ?_ ?_) | (with_reducible intro hb) | ((with_reducible refine Or.inl ⟨_, ⟨(Ent.of Try.func28 (by kernel_rfl) rfl), hcp, ?_⟩, ?_⟩); (focus (simp [AV.okB]; done))))))))) | refine T.skip ?_ | refine T.exit ?_ | refine T.condT rfl ?_ | refine T.condF rfl ?_ | refine T.cond rfl (fun hc => ?_) (fun hc => ?_) | refine T.ret ?_ | simp only [ThenA, InBlock, reduceIte, Nat.reduceEqDiff] | ((repeat ((fail_if_success (refine hK _ ?_)); clear hK K)); refine hK _ ?_; clear hK K))
        refine FinA.ret (.inr rfl) Try.results27 ?_; simp only [ares, aresL, ares1, WS, WH, WO, WOv, WG, dstOk, hasDst, aop, ASt.ev, aload, aloadC, afield, aindex, abin, abinI, aun, alen, acells, Nat.reduceEqDiff, Nat.reduceLT, Nat.reduceLeDiff, Nat.reduceAdd, reduceIte, reduceCtorEq, implies_true, ASt.add, setHp, asplice, Int.reduceEq, Int.reduceNe, Int.reduceLT, Int.reduceLE, Int.reduceSub, Int.reduceAdd, abuild, afill, abuildS, pureL, chunks, List.range, List.range.loop, Nat.reduceMul, Nat.reduceMod, apartF, apartI, aslice, evI, ASt.subst, AO.box, aval, pvals, ams, tys, mapTy_69, keyed_3, ]
        rw [hn]
    · have hd2 : decide ((b.length : Int) ≤ (k : Int)) = true := by simp; omega
      rw [drop_end hlb, cmpL] at hn
      repeat' (first | refine T.seqK fun K hK => ?_ | refine T.block ?_ | (refine T.reg (by kernel_rfl) fun K' hK' => ?_; simp only [startSt, frOf, List.map_cons, List.map_nil]; (repeat' (first | (with_reducible refine WL.fin ?_; refine hK' _ ?_; clear hK' K') | (with_reducible refine WD.fin ?_) | ((first | (with_reducible refine WL.step fun K2 hK2 => ?_) | (with_reducible refine WD.step fun K2 hK2 => ?_)); simp only [WS, WH, WO, WOv, WG, dstOk, hasDst, aop, ASt.ev, aload, aloadC, afield, aindex, abin, abinI, aun, alen, acells, Nat.reduceEqDiff, Nat.reduceLT, Nat.reduceLeDiff, Nat.reduceAdd, reduceIte, reduceCtorEq, implies_true, ASt.add, setHp, asplice, Int.reduceEq, Int.reduceNe, Int.reduceLT, Int.reduceLE, Int.reduceSub, Int.reduceAdd, abuild, afill, abuildS, pureL, chunks, List.range, List.range.loop, Nat.reduceMul, Nat.reduceMod, apartF, apartI, aslice, evI, ASt.subst, AO.box, aval, pvals, ams, tys, mapTy_69, keyed_3, hx, hd, hd2, pkR]; (repeat' (first | (with_reducible refine hK2 _ ?_; clear hK2 K2) | (with_reducible refine And.intro ?_ ?_) | (with_reducible intro hb) | fail)))))) | refine T.skip ?_ | refine T.exit ?_ | refine T.condT rfl ?_ | refine T.condF rfl ?_ | refine T.cond rfl (fun hc => ?_) (fun hc => ?_) | refine T.ret ?_ | simp only [ThenA, InBlock, reduceIte, Nat.reduceEqDiff] | ((repeat ((fail_if_success (refine hK _ ?_)); clear hK K)); refine hK _ ?_; clear hK K))
      refine FinA.ret (.inr rfl) Try.results27 ?_; simp only [ares, aresL, ares1, WS, WH, WO, WOv, WG, dstOk, hasDst, aop, ASt.ev, aload, aloadC, afield, aindex, abin, abinI, aun, alen, acells, Nat.reduceEqDiff, Nat.reduceLT, Nat.reduceLeDiff, Nat.reduceAdd, reduceIte, reduceCtorEq, implies_true, ASt.add, setHp, asplice, Int.reduceEq, Int.reduceNe, Int.reduceLT, Int.reduceLE, Int.reduceSub, Int.reduceAdd, abuild, afill, abuildS, pureL, chunks, List.range, List.range.loop, Nat.reduceMul, Nat.reduceMod, apartF, apartI, aslice, evI, ASt.subst, AO.box, aval, pvals, ams, tys, mapTy_69, keyed_3, ]
      rw [hn]
  · have hd : decide ((k : Int) < (a.length : Int)) = false := by simpa using hlt
    rw [drop_end hlt] at hn
    clear hKL
    by_cases hlb : k < b.length
    · obtain ⟨y, hy⟩ := at_lt hlb
      rw [drop_at hy, cmpL] at hn
      have hd2 : decide ((a.length : Int) < (b.length : Int)) = true := by simp; omega
      repeat' (first | refine T.seqK fun K hK => ?_ | refine T.block ?_ | (refine T.reg (by kernel_rfl) fun K' hK' => ?_; simp only [startSt, frOf, List.map_cons, List.map_nil]; (repeat' (first | (with_reducible refine WL.fin ?_; refine hK' _ ?_; clear hK' K') | (with_reducible refine WD.fin ?_) | ((first | (with_reducible refine WL.step fun K2 hK2 => ?_) | (with_reducible refine WD.step fun K2 hK2 => ?_)); simp only [WS, WH, WO, WOv, WG, dstOk, hasDst, aop, ASt.ev, aload, aloadC, afield, aindex, abin, abinI, aun, alen, acells, Nat.reduceEqDiff, Nat.reduceLT, Nat.reduceLeDiff, Nat.reduceAdd, reduceIte, reduceCtorEq, implies_true, ASt.add, setHp, asplice, Int.reduceEq, Int.reduceNe, Int.reduceLT, Int.reduceLE, Int.reduceSub, Int.reduceAdd, abuild, afill, abuildS, pureL, chunks, List.range, List.range.loop, Nat.reduceMul, Nat.reduceMod, apartF, apartI, aslice, evI, ASt.subst, AO.box, aval, pvals, ams, tys, mapTy_69, keyed_3, hd, hd2]; (repeat' (first | (with_reducible refine hK2 _ ?_; clear hK2 K2) | (with_reducible refine And.intro ?_ ?_) | (with_reducible intro hb) | fail)))))) | refine T.skip ?_ | refine T.exit ?_ | refine T.condT rfl ?_ | refine T.condF rfl ?_ | refine T.cond rfl (fun hc => ?_) (fun hc => ?_) | refine T.ret ?_ | simp only [ThenA, InBlock, reduceIte, Nat.reduceEqDiff] | ((repeat ((fail_if_success (refine hK _ ?_)); clear hK K)); refine hK _ ?_; clear hK K))
      refine FinA.ret (.inr rfl) Try.results27 ?_; simp only [ares, aresL, ares1, WS, WH, WO, WOv, WG, dstOk, hasDst, aop, ASt.ev, aload, aloadC, afield, aindex, abin, abinI, aun, alen, acells, Nat.reduceEqDiff, Nat.reduceLT, Nat.reduceLeDiff, Nat.reduceAdd, reduceIte, reduceCtorEq, implies_true, ASt.add, setHp, asplice, Int.reduceEq, Int.reduceNe, Int.reduceLT, Int.reduceLE, Int.reduceSub, Int.reduceAdd, abuild, afill, abuildS, pureL, chunks, List.range, List.range.loop, Nat.reduceMul, Nat.reduceMod, apartF, apartI, aslice, evI, ASt.subst, AO.box, aval, pvals, ams, tys, mapTy_69, keyed_3, ]
      rw [hn]
    · rw [drop_end hlb, cmpL] at hn
      have hd2 : decide ((a.length : Int) < (b.length : Int)) = false := by simp; omega
      repeat' (first | refine T.seqK fun K hK => ?_ | refine T.block ?_ | (refine T.reg (by kernel_rfl) fun K' hK' => ?_; simp only [startSt, frOf, List.map_cons, List.map_nil]; (repeat' (first | (with_reducible refine WL.fin ?_; refine hK' _ ?_; clear hK' K') | (with_reducible refine WD.fin ?_) | ((first | (with_reducible refine WL.step fun K2 hK2 => ?_) | (with_reducible refine WD.step fun K2 hK2 => ?_)); simp only [WS, WH, WO, WOv, WG, dstOk, hasDst, aop, ASt.ev, aload, aloadC, afield, aindex, abin, abinI, aun, alen, acells, Nat.reduceEqDiff, Nat.reduceLT, Nat.reduceLeDiff, Nat.reduceAdd, reduceIte, reduceCtorEq, implies_true, ASt.add, setHp, asplice, Int.reduceEq, Int.reduceNe, Int.reduceLT, Int.reduceLE, Int.reduceSub, Int.reduceAdd, abuild, afill, abuildS, pureL, chunks, List.range, List.range.loop, Nat.reduceMul, Nat.reduceMod, apartF, apartI, aslice, evI, ASt.subst, AO.box, aval, pvals, ams, tys, mapTy_69, keyed_3, hd, hd2]; (repeat' (first | (with_reducible refine hK2 _ ?_; clear hK2 K2) | (with_reducible refine And.intro ?_ ?_) | (with_reducible intro hb) | fail)))))) | refine T.skip ?_ | refine T.exit ?_ | refine T.condT rfl ?_ | refine T.condF rfl ?_ | refine T.cond rfl (fun hc => ?_) (fun hc => ?_) | refine T.ret ?_ | simp only [ThenA, InBlock, reduceIte, Nat.reduceEqDiff] | ((repeat ((fail_if_success (refine hK _ ?_)); clear hK K)); refine hK _ ?_; clear hK K))
      refine FinA.ret (.inr rfl) Try.results27 ?_; simp only [ares, aresL, ares1, WS, WH, WO, WOv, WG, dstOk, hasDst, aop, ASt.ev, aload, aloadC, afield, aindex, abin, abinI, aun, alen, acells, Nat.reduceEqDiff, Nat.reduceLT, Nat.reduceLeDiff, Nat.reduceAdd, reduceIte, reduceCtorEq, implies_true, ASt.add, setHp, asplice, Int.reduceEq, Int.reduceNe, Int.reduceLT, Int.reduceLE, Int.reduceSub, Int.reduceAdd, abuild, afill, abuildS, pureL, chunks, List.range, List.range.loop, Nat.reduceMul, Nat.reduceMod, apartF, apartI, aslice, evI, ASt.subst, AO.box, aval, pvals, ams, tys, mapTy_69, keyed_3, ]
      rw [hn]
set_option maxHeartbeats 4000000 in
theorem cmp_ok (a b : List Pk) (ha : a.length ≤ 1000000) (hb : b.length ≤ 1000000) : PureC Try.prog 26 [.p (pksP a), .p (pksP b)] (.int (cmpL a b)) := by
  have h := cmpF_ok a b ha hb
  simp only [pksP] at h ⊢
  refine PureC.of Try.func26 rfl 8 rfl (by decide) (by simp [AV.okB]) ?_
  repeat' (first | refine T.seqK fun K hK => ?_ | refine T.block ?_ | (refine T.reg (by kernel_rfl) fun K' hK' => ?_; simp only [startSt, frOf, List.map_cons, List.map_nil]; (repeat' (first | (with_reducible refine WL.fin ?_; refine hK' _ ?_; clear hK' K') | (with_reducible refine WD.fin ?_) | ((first | (with_reducible refine WL.step fun K2 hK2 => ?_) | (with_reducible refine WD.step fun K2 hK2 => ?_)); simp only [WS, WH, WO, WOv, WG, dstOk, hasDst, aop, ASt.ev, aload, aloadC, afield, aindex, abin, abinI, aun, alen, acells, Nat.reduceEqDiff, Nat.reduceLT, Nat.reduceLeDiff, Nat.reduceAdd, reduceIte, reduceCtorEq, implies_true, ASt.add, setHp, asplice, Int.reduceEq, Int.reduceNe, Int.reduceLT, Int.reduceLE, Int.reduceSub, Int.reduceAdd, abuild, afill, abuildS, pureL, chunks, List.range, List.range.loop, Nat.reduceMul, Nat.reduceMod, apartF, apartI, aslice, evI, ASt.subst, AO.box, aval, pvals, ams, tys, mapTy_69, keyed_3]; (repeat' (first | (with_reducible refine hK2 _ ?_; clear hK2 K2) | (with_reducible refine And.intro ?_ ?_) | (with_reducible intro hb) | ((first | (with_reducible apply callArmO) | (with_reducible apply callArm)); case h => exact CallV.plain (Ent.of Try.func27 (by kernel_rfl) rfl) (h) (by simp [AV.okB])))))))) | refine T.skip ?_ | refine T.exit ?_ | refine T.condT rfl ?_ | refine T.condF rfl ?_ | refine T.cond rfl (fun hc => ?_) (fun hc => ?_) | refine T.ret ?_ | simp only [ThenA, InBlock, reduceIte, Nat.reduceEqDiff] | ((repeat ((fail_if_success (refine hK _ ?_)); clear hK K)); refine hK _ ?_; clear hK K))
  refine FinA.ret (.inr rfl) Try.results26 ?_; simp only [ares, aresL, ares1, WS, WH, WO, WOv, WG, dstOk, hasDst, aop, ASt.ev, aload, aloadC, afield, aindex, abin, abinI, aun, alen, acells, Nat.reduceEqDiff, Nat.reduceLT, Nat.reduceLeDiff, Nat.reduceAdd, reduceIte, reduceCtorEq, implies_true, ASt.add, setHp, asplice, Int.reduceEq, Int.reduceNe, Int.reduceLT, Int.reduceLE, Int.reduceSub, Int.reduceAdd, abuild, afill, abuildS, pureL, chunks, List.range, List.range.loop, Nat.reduceMul, Nat.reduceMod, apartF, apartI, aslice, evI, ASt.subst, AO.box, aval, pvals, ams, tys, mapTy_69, keyed_3, ]
end Go.Proofs.Ytbhkcejjehgfcaa
namespace Go.Proofs.Ytbhkcejjehgfcaa
open Go.RowKit Go.Sort
set_option linter.unusedSimpArgs false
set_option linter.unusedVariables false
theorem Frn.unique {α : Type} {D : α → α → Bool} {x : α} (hx : D x x = true) : ∀ {l m m' : List α}, Frn D l x m → Frn D l x m' → m = m'
  | [], m, m', h, _ => by obtain ⟨u, v, h, _⟩ := h; simp at h
  | y :: l, m, m', h, h' => by
    rcases h.uncons with ⟨rfl, rfl⟩ | ⟨n, rfl, h1, h2, h3⟩
    · rcases h'.uncons with ⟨_, rfl⟩ | ⟨n', rfl, _, h5, _⟩
      · rfl
      · rw [hx] at h5; cases h5
    · rcases h'.uncons with ⟨rfl, rfl⟩ | ⟨n', rfl, h4, _, _⟩
      · rw [hx] at h2; cases h2
      · rw [Frn.unique hx h1 h4]
theorem Frn.mem {α : Type} {D : α → α → Bool} {x : α} {l m : List α} (h : Frn D l x m) : x ∈ l ∧ ∀ y ∈ m, y ∈ l := by
  obtain ⟨u, v, rfl, rfl, _⟩ := h
  refine ⟨by simp, fun y hy => ?_⟩
  rcases List.mem_append.1 hy with h | h
  · exact List.mem_append.2 (.inl h)
  · exact List.mem_append.2 (.inr (List.mem_cons_of_mem _ h))
inductive Lst {α : Type} (D lt : α → α → Bool) : List α → List α → Prop
  | nil : Lst D lt [] []
  | cons {l l' out : List α} {x : α} (h : Frn D l x l') (hm : ∀ y, Ini D l y → lt y x = false) (k : Lst D lt l' out) : Lst D lt l (x :: out)
theorem Lst.sw {α : Type} {D lt : α → α → Bool} {l out : List α} (h : Lst D lt l out) : Sw D l out := by
  induction h with
  | nil => exact .refl _
  | cons h _ _ ih => exact h.sw.trans (.cons _ ih)
theorem Lst.unique {α : Type} {D lt : α → α → Bool} {l out : List α} (h : Lst D lt l out) : ∀ {m out' : List α}, Lst D lt m out' → Sw D l m → (∀ x ∈ l, D x x = true) → (∀ x ∈ l, ∀ y ∈ l, lt x y = false → lt y x = false → x = y) → out = out' := by
  induction h with
  | nil =>
    intro m out' k hs _ _
    rw [hs.nil_left] at k
    cases k with
    | nil => rfl
    | cons h _ _ => obtain ⟨u, v, h, _⟩ := h; simp at h
  | @cons l l' out x hf hm hl ih =>
    intro m out' k hs hD hI
    cases k with
    | nil => rw [hs.symm.nil_left] at hf; obtain ⟨u, v, h, _⟩ := hf; simp at h
    | @cons _ m' out'' y hf' hm' hl' =>
      have hx := hf.mem.1
      have hy := hs.perm.mem_iff.2 hf'.mem.1
      obtain rfl : x = y := hI x hx y hy (hm' x (Ini.sw ⟨_, hf⟩ hs)) (hm y (Ini.sw ⟨_, hf'⟩ hs.symm))
      obtain ⟨n, g1, g2⟩ := hs.frn hf
      obtain rfl := Frn.unique (hD x hx) g1 hf'
      rw [ih hl' g2 (fun z hz => hD z (hf.mem.2 z hz)) fun z hz z' hz' => hI z (hf.mem.2 z hz) z' (hf.mem.2 z' hz')]
def restB : List St → List Bool → List St
  | x :: l, c :: ch => if c = true then restB l ch else x :: restB l ch
  | _, _ => []
theorem rest_free (s : St) : ∀ (l : List St) (ch : List Bool), freeL s l ch = true ↔ ∀ y ∈ restB l ch, dpB y s = false
  | [], ch => by cases ch <;> simp [freeL, restB]
  | x :: l, [] => by simp [freeL, restB]
  | x :: l, c :: ch => by
    rw [freeL, restB, Bool.and_eq_true, rest_free s l ch]
    cases c <;> simp
theorem rest_take (s : St) (l : List St) (ch : List Bool) (i : Nat) : freeL s (l.take i) ch = freeL s (l.take i) (ch.take i) := by
  induction l generalizing ch i with
  | nil => cases ch <;> cases i <;> simp [freeL]
  | cons x l ih =>
    cases i with
    | zero => simp [freeL]
    | succ i =>
      cases ch with
      | nil => simp [freeL]
      | cons c ch => simp only [List.take_succ_cons, freeL]; rw [ih ch i]
theorem rest_split : ∀ (l : List St) (ch : List Bool) (i : Nat) (s : St), l[i]? = some s → ch[i]? = some false → restB l ch = restB (l.take i) (ch.take i) ++ s :: restB (l.drop (i + 1)) (ch.drop (i + 1)) ∧ restB l (ch.set i true) = restB (l.take i) (ch.take i) ++ restB (l.drop (i + 1)) (ch.drop (i + 1))
  | [], ch, i, s, h, _ => by simp at h
  | x :: l, [], i, s, _, h => by simp at h
  | x :: l, c :: ch, 0, s, h, h' => by
    simp only [List.getElem?_cons_zero, Option.some.injEq] at h h'
    subst h; subst h'
    simp [restB]
  | x :: l, c :: ch, i + 1, s, h, h' => by
    obtain ⟨h1, h2⟩ := rest_split l ch i s (by simpa using h) (by simpa using h')
    simp only [List.set_cons_succ, List.take_succ_cons, List.drop_succ_cons, restB]
    cases c <;> simp [h1, h2]
theorem rest_at : ∀ (l : List St) (ch : List Bool), ch.length = l.length → ∀ (u v : List St) (y : St), restB l ch = u ++ y :: v → ∃ i, l[i]? = some y ∧ ch[i]? = some false ∧ restB (l.take i) (ch.take i) = u
  | [], ch, hc, u, v, y, h => by cases ch <;> simp [restB] at h
  | x :: l, [], hc, _, _, _, _ => by simp at hc
  | x :: l, c :: ch, hc, u, v, y, h => by
    rw [restB] at h
    cases c with
    | true =>
      obtain ⟨i, h1, h2, h3⟩ := rest_at l ch (by simpa using hc) u v y (by simpa using h)
      exact ⟨i + 1, by simpa using h1, by simpa using h2, by simp [restB, h3]⟩
    | false =>
      simp only [Bool.false_eq_true, if_false] at h
      cases u with
      | nil => cases h; exact ⟨0, rfl, rfl, by simp [restB]⟩
      | cons z u =>
        simp only [List.cons_append, List.cons.injEq] at h
        obtain ⟨i, h1, h2, h3⟩ := rest_at l ch (by simpa using hc) u v y h.2
        exact ⟨i + 1, by simpa using h1, by simpa using h2, by simp [restB, h3, h.1]⟩
theorem pkLt_iff {a b : St} : pkLt a b = true ↔ (a.g < b.g ∨ a.g = b.g ∧ a.c < b.c) := by simp [pkLt]
theorem pkLt_false {a b : St} : pkLt a b = false ↔ ¬ (a.g < b.g ∨ a.g = b.g ∧ a.c < b.c) := by simp [pkLt]
theorem best_least (l : List St) (ch : List Bool) : ∀ n b, bestN l ch n = some b → ∃ s, l[b]? = some s ∧ freeL s (l.take b) ch = true ∧ ∀ i x, i < n → l[i]? = some x → ch.getD i false = false → freeL x (l.take i) ch = true → pkLt x s = false
  | 0, b, h => by cases h
  | n + 1, b, h => by
    rw [bestN, bestStep] at h
    split at h
    · rename_i hn
      obtain ⟨s, h1, h2, h3⟩ := best_least l ch n b h
      refine ⟨s, h1, h2, fun i x hi hx => h3 i x ?_ hx⟩
      rcases Nat.lt_succ_iff_lt_or_eq.1 hi with hi | rfl
      · exact hi
      · rw [hn] at hx; cases hx
    · rename_i t ht
      cases hb : bestN l ch n with
      | none =>
        rw [hb] at h
        split at h
        · rename_i hbt
          cases h
          simp only [betB, Bool.and_eq_true, Bool.not_eq_true'] at hbt
          refine ⟨t, ht, hbt.2.1, fun i x hi hx hc hf => ?_⟩
          rcases Nat.lt_succ_iff_lt_or_eq.1 hi with hi | rfl
          · exfalso
            obtain ⟨b', hb'⟩ : ∃ b', bestN l ch n = some b' := by
              clear hbt ht hb
              induction n with
              | zero => omega
              | succ n ih =>
                rw [bestN, bestStep]
                by_cases e : i = n
                · subst e
                  rw [hx]
                  dsimp only
                  cases hb : bestN l ch i with
                  | none => exact ⟨i, if_pos (by simp only [betB, hc, hf, Bool.not_false, Bool.true_and])⟩
                  | some j => split <;> exact ⟨_, rfl⟩
                · obtain ⟨b', hb'⟩ := ih (by omega) (by omega)
                  rw [hb']
                  split
                  · exact ⟨_, rfl⟩
                  · split <;> exact ⟨_, rfl⟩
            rw [hb] at hb'; cases hb'
          · rw [ht] at hx; cases hx; exact pkLt_false.2 (by omega)
        · cases h
      | some j =>
        obtain ⟨s, h1, h2, h3⟩ := best_least l ch n j hb
        rw [hb] at h
        split at h
        · rename_i hbt
          cases h
          simp only [betB, h1, Bool.and_eq_true, Bool.not_eq_true'] at hbt
          obtain ⟨e1, e2, e3⟩ := hbt
          refine ⟨t, ht, e2, fun i x hi hx hc hf => ?_⟩
          rcases Nat.lt_succ_iff_lt_or_eq.1 hi with hi | rfl
          · have := h3 i x hi hx hc hf
            rw [pkLt_false] at this ⊢
            rw [pkLt_iff] at e3
            omega
          · rw [ht] at hx; cases hx; exact pkLt_false.2 (by omega)
        · rename_i hbt
          cases h
          refine ⟨s, h1, h2, fun i x hi hx hc hf => ?_⟩
          rcases Nat.lt_succ_iff_lt_or_eq.1 hi with hi | rfl
          · exact h3 i x hi hx hc hf
          · rw [ht] at hx; cases hx
            cases hp : pkLt t s with
            | false => rfl
            | true => exact absurd (by simp only [betB, hc, hf, h1, hp, Bool.not_false, Bool.true_and]) hbt
theorem rest_true : ∀ (l : List St) (ch : List Bool), ch.count false = 0 → restB l ch = []
  | [], ch, _ => by cases ch <;> rfl
  | x :: l, [], _ => rfl
  | x :: l, c :: ch, h => by
    rw [List.count_cons] at h
    cases c with
    | true => rw [restB, if_pos rfl]; exact rest_true l ch (by simpa using h)
    | false => simp at h
theorem rest_init : ∀ l : List St, restB l (List.replicate l.length false) = l
  | [] => rfl
  | x :: l => by rw [List.length_cons, List.replicate_succ, restB, if_neg (by simp), rest_init l]
theorem ord_least (l : List St) (hD : ∀ x ∈ l, ∀ y ∈ l, dpB x y = dpB y x) : ∀ j k, k + j = l.length → ∃ o : List Nat, orderB l = (ordN l k).1 ++ o ∧ Lst dpB pkLt (restB l (ordN l k).2) (o.filterMap (l[·]?))
  | 0, k, hk => by
    obtain ⟨h1, h2, h3, h4⟩ := ord_inv l k (by omega)
    have e : k = l.length := by omega
    subst e
    refine ⟨[], by simp [orderB], ?_⟩
    rw [rest_true _ _ (by omega)]
    exact .nil
  | j + 1, k, hk => by
    obtain ⟨h1, h2, h3, h4⟩ := ord_inv l k (by omega)
    obtain ⟨b, hb, hbl, hnx⟩ := ord_next l k (by omega)
    obtain ⟨o, ho, hl⟩ := ord_least l hD j (k + 1) (by omega)
    rw [hnx] at ho hl
    obtain ⟨s, hs, hf, hm⟩ := best_least l _ _ b hb
    obtain ⟨_, _, b3⟩ := best_lt l _ _ b hb
    have hbf : (ordN l k).2[b]? = some false := by
      obtain ⟨c, hc⟩ := at_lt (l := (ordN l k).2) (k := b) (by omega)
      rw [List.getD_eq_getElem?_getD, hc] at b3
      rw [hc]; simpa using b3
    obtain ⟨e1, e2⟩ := rest_split l _ b s hs hbf
    refine ⟨b :: o, by rw [ho]; simp, ?_⟩
    rw [List.filterMap_cons, hs]
    refine .cons ⟨_, _, e1, e2, fun y hy => ?_⟩ (fun y hy => ?_) hl
    · rw [rest_take] at hf
      have h5 := (rest_free s _ _).1 hf y hy
      exact ⟨h5, by rw [dpB_symm]; exact h5⟩
    · obtain ⟨m, u, v, g1, g2, g3⟩ := hy
      obtain ⟨i, hi, hci, hu⟩ := rest_at l _ h1 u v y g1
      refine hm i y (List.getElem?_eq_some_iff.1 hi).1 hi (by rw [List.getD_eq_getElem?_getD, hci]; rfl) ?_
      rw [rest_take, rest_free, hu]
      exact fun z hz => (g3 z hz).1
theorem least_lst (l : List St) : Lst dpB pkLt l (leastB l) := by
  obtain ⟨o, h1, h2⟩ := ord_least l (fun x _ y _ => dpB_symm x y) l.length 0 (by omega)
  simp only [ordN, List.nil_append] at h1 h2
  rw [rest_init] at h2
  unfold leastB
  rw [h1]
  exact h2
theorem least_sw (l : List St) : Sw dpB l (leastB l) := (least_lst l).sw
structure Told (S : List St) : Prop where
  self : ∀ x ∈ S, dpB x x = true
  inj : ∀ x ∈ S, ∀ y ∈ S, pick x = pick y → x = y
theorem least_eq {S l m : List St} (hT : Told S) (hl : ∀ x ∈ l, x ∈ S) (h : Sw dpB l m) : leastB l = leastB m :=
  (least_lst l).unique (least_lst m) h (fun x hx => hT.self x (hl x hx)) fun x hx y hy h1 h2 => hT.inj x (hl x hx) y (hl y hy) (by
    rw [pkLt_false] at h1 h2
    have : x.g = y.g := by omega
    have : x.c = y.c := by omega
    simp only [pick, *])
theorem map_inj {S : List St} (hT : Told S) : ∀ {l m : List St}, (∀ x ∈ l, x ∈ S) → (∀ x ∈ m, x ∈ S) → l.map pick = m.map pick → l = m
  | [], [], _, _, _ => rfl
  | [], y :: m, _, _, h => by simp at h
  | x :: l, [], _, _, h => by simp at h
  | x :: l, y :: m, h1, h2, h => by
    simp only [List.map_cons, List.cons.injEq] at h
    rw [hT.inj x (h1 x (by simp)) y (h2 y (by simp)) h.1, map_inj hT (fun z hz => h1 z (List.mem_cons_of_mem _ hz)) (fun z hz => h2 z (List.mem_cons_of_mem _ hz)) h.2]
theorem can_iff {S l m : List St} (hT : Told S) (hl : ∀ x ∈ l, x ∈ S) (hm : ∀ x ∈ m, x ∈ S) : canB l = canB m ↔ Sw dpB l m := by
  constructor
  · intro h
    have e : leastB l = leastB m := map_inj hT (fun x hx => hl x ((least_sw l).perm.mem_iff.2 hx)) (fun x hx => hm x ((least_sw m).perm.mem_iff.2 hx)) h
    exact (least_sw l).trans (e ▸ (least_sw m).symm)
  · intro h
    unfold canB
    rw [least_eq hT hl h]
theorem thok_told {ths : List (List St)} (ho : ThOk ths) : Told (stepsOf ths) := ⟨fun x hx => by
    obtain ⟨l, hl, hsl⟩ := List.mem_flatten.1 hx
    obtain ⟨t, ht⟩ := List.mem_iff_getElem?.1 hl
    obtain ⟨i, hi⟩ := List.mem_iff_getElem?.1 hsl
    obtain ⟨_, _, e3⟩ := ho.at' t l ht i x hi
    exact dp_same e3 e3, fun x hx y hy h => by
    obtain ⟨l, hl, hsl⟩ := List.mem_flatten.1 hx
    obtain ⟨t, ht⟩ := List.mem_iff_getElem?.1 hl
    obtain ⟨i, hi⟩ := List.mem_iff_getElem?.1 hsl
    obtain ⟨e1, e2, _⟩ := ho.at' t l ht i x hi
    obtain ⟨l', hl', hsl'⟩ := List.mem_flatten.1 hy
    obtain ⟨t', ht'⟩ := List.mem_iff_getElem?.1 hl'
    obtain ⟨i', hi'⟩ := List.mem_iff_getElem?.1 hsl'
    obtain ⟨f1, f2, _⟩ := ho.at' t' l' ht' i' y hi'
    simp only [pick, Prod.mk.injEq] at h
    obtain rfl : t = t' := by omega
    obtain rfl : i = i' := by omega
    rw [ht] at ht'; cases ht'
    rw [hi] at hi'; cases hi'
    rfl⟩
end Go.Proofs.Ytbhkcejjehgfcaa
