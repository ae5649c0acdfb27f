/- 'the runs found are complete, pairwise not equivalent, and every complete run is equivalent to one of them' -/
import Derived.ProofKit
import Derived.HandedShaped
import Derived.OpenShut
import Derived.Test.YtbhkcejjehgfcaaZ09
namespace Go.Proofs.Ytbhkcejjehgfcaa
open Go.RowKit Go.Sort
set_option linter.unusedSimpArgs false
set_option linter.unusedVariables false
theorem reps {ths : List (List St)} (hv : validB ths = true) : ∃ Q : List (List St), exploreB (validB ths) ths = Q.map (·.map pick) ∧ (∀ q ∈ Q, CompB ths (List.replicate ths.length 0) q) ∧ Q.Pairwise (fun a b => ¬ Sw dpB a b) ∧ ∀ r, CompB ths (List.replicate ths.length 0) r → ∃ q ∈ Q, Sw dpB q r := by
  obtain ⟨h1, h2, h3⟩ := visA_told hv
  have ho := valid_thok hv
  have hT := thok_told ho
  have hex : exploreB (validB ths) ths = sortPk ((visA ths).map canB) := by simp [exploreB, visA, hv]
  have hmem : ∀ x ∈ exploreB (validB ths) ths, ∃ q, CompB ths (List.replicate ths.length 0) q ∧ x = q.map pick ∧ ∃ r ∈ visA ths, Sw dpB r q := fun x hx => by
    rw [hex, (sort_perm _).mem_iff, List.mem_map] at hx
    obtain ⟨r, hr, rfl⟩ := hx
    exact ⟨leastB r, comp_sw ho (least_sw r) (h1 r hr), rfl, r, hr, least_sw r⟩
  have hall : ∀ L : List (List Pk), (∀ x ∈ L, ∃ q, CompB ths (List.replicate ths.length 0) q ∧ x = q.map pick ∧ ∃ r ∈ visA ths, Sw dpB r q) → ∃ Q : List (List St), L = Q.map (·.map pick) ∧ ∀ q ∈ Q, CompB ths (List.replicate ths.length 0) q ∧ canB q = q.map pick ∨ CompB ths (List.replicate ths.length 0) q := fun L => by
    induction L with
    | nil => exact fun _ => ⟨[], rfl, fun q h => by cases h⟩
    | cons x L ih =>
      intro h
      obtain ⟨Q, e1, e2⟩ := ih fun y hy => h y (List.mem_cons_of_mem _ hy)
      obtain ⟨q, g1, g2, _⟩ := h x (by simp)
      refine ⟨q :: Q, by rw [e1, g2]; rfl, fun z hz => ?_⟩
      rcases List.mem_cons.1 hz with rfl | hz
      · exact .inr g1
      · exact e2 z hz
  obtain ⟨Q, e1, e2⟩ := hall _ hmem
  have e3 : ∀ q ∈ Q, CompB ths (List.replicate ths.length 0) q := fun q hq => (e2 q hq).elim (fun h => h.1) id
  -- the run behind a canonical sequence is the least one
  have e4 : ∀ q ∈ Q, ∃ r ∈ visA ths, q = leastB r := fun q hq => by
    have hx : q.map pick ∈ exploreB (validB ths) ths := by rw [e1]; exact List.mem_map.2 ⟨q, hq, rfl⟩
    rw [hex, (sort_perm _).mem_iff, List.mem_map] at hx
    obtain ⟨r, hr, he⟩ := hx
    refine ⟨r, hr, ?_⟩
    have hm : ∀ x ∈ leastB r, x ∈ stepsOf ths := comp_mem (comp_sw ho (least_sw r) (h1 r hr))
    exact (map_inj hT hm (comp_mem (e3 q hq)) he).symm
  have e5 : ∀ q ∈ Q, canB q = q.map pick := fun q hq => by
    obtain ⟨r, hr, rfl⟩ := e4 q hq
    have := (can_iff hT (comp_mem (h1 r hr)) (comp_mem (comp_sw ho (least_sw r) (h1 r hr)))).2 (least_sw r)
    rw [← this]; rfl
  have hss := sort_ss hv
  rw [← hex, e1] at hss
  refine ⟨Q, e1, e3, ?_, fun r hr => ?_⟩
  · refine (List.pairwise_map.1 hss).imp_of_mem fun {a b} ha hb hlt hsw => ?_
    have := (can_iff hT (comp_mem (e3 a ha)) (comp_mem (e3 b hb))).2 hsw
    rw [e5 a ha, e5 b hb] at this
    rw [this] at hlt
    have := (cmpL_zero (a := b.map pick) (b := b.map pick)).2 rfl
    omega
  · obtain ⟨r', hr', hsw⟩ := h2 r hr
    have hx : canB r' ∈ exploreB (validB ths) ths := by rw [hex, (sort_perm _).mem_iff]; exact List.mem_map.2 ⟨r', hr', rfl⟩
    rw [e1, List.mem_map] at hx
    obtain ⟨q, hq, he⟩ := hx
    refine ⟨q, hq, ?_⟩
    have hq2 : canB q = canB r' := (e5 q hq).trans he
    exact ((can_iff hT (comp_mem (e3 q hq)) (comp_mem (h1 r' hr'))).1 hq2).trans hsw.symm
theorem countP_one {α : Type} {R : α → α → Prop} {p : α → Bool} : ∀ {l : List α}, l.Pairwise (fun a b => ¬ R a b) → (∀ a b, p a = true → p b = true → R a b) → (∃ x ∈ l, p x = true) → l.countP p = 1
  | [], _, _, ⟨x, h, _⟩ => by cases h
  | a :: l, hp, hR, ⟨x, hx, hpx⟩ => by
    obtain ⟨h1, h2⟩ := List.pairwise_cons.1 hp
    rw [List.countP_cons]
    cases ha : p a with
    | true =>
      have : l.countP p = 0 := List.countP_eq_zero.2 fun y hy hpy => h1 y hy (hR a y ha hpy)
      rw [this]; rfl
    | false =>
      rcases List.mem_cons.1 hx with rfl | hx
      · rw [ha] at hpx; cases hpx
      · rw [countP_one h2 hR ⟨x, hx, hpx⟩]; rfl
theorem comp_len {ths : List (List St)} : ∀ {r : List St} {pos : List Nat}, CompB ths pos r → r.length ≤ remB ths pos
  | [], pos, h => Nat.zero_le _
  | s :: r, pos, ⟨t, h1, h2⟩ => by
    have := comp_len h2
    have := rem_bump h1
    simp only [List.length_cons]; omega
theorem comp_same {ths : List (List St)} {pos : List Nat} (ho : ThOk ths) {a b : List St} (hp : PosOk ths pos) (ha : CompB ths pos a) (hb : CompB ths pos b) : a.length = b.length := by
  have key : ∀ {r : List St} {pos : List Nat}, PosOk ths pos → CompB ths pos r → remB ths pos ≤ r.length := by
    intro r
    induction r with
    | nil =>
      intro pos hp h
      rw [rem_left, List.map_congr_left (g := fun _ => 0) (fun t ht => left_none hp (List.mem_range.1 ht) (end_iff.1 h t))]
      induction List.range ths.length <;> simp_all
    | cons s r ih =>
      intro pos hp ⟨t, h1, h2⟩
      have := ih (pos_bump hp h1) h2
      have := rem_bump h1
      simp only [List.length_cons]; omega
  have h1 := comp_len ha
  have h2 := comp_len hb
  have h3 := key hp ha
  have h4 := key hp hb
  omega
set_option maxHeartbeats 8000000 in
set_option maxRecDepth 100000 in
theorem sleepRep_ok (ths : List (List St)) (scr : List Nat) (hscr : ∀ x ∈ scr, x < 256) : PureC Try.prog 6 [.p (thsP ths), .p (scrP scr)] (.bool true) := by
  have haw := awake_ok
  have hfw := few_ok ths
  cases hf : fewB ths with
  | false =>
    rw [hf] at hfw
    simp only [thsP, scrP] at hfw ⊢
    refine PureC.of Try.func6 rfl 79 rfl (by decide) (by simp [AV.okB]) ?_
    repeat' (first | refine T.seqK fun K hK => ?_ | refine T.block ?_ | (refine T.reg (by kernel_rfl) fun K' hK' => ?_; simp only [startSt, frOf, List.map_cons, List.map_nil]; (repeat' (first | (with_reducible refine WL.fin ?_; refine hK' _ ?_; clear hK' K') | (with_reducible refine WD.fin ?_) | ((first | (with_reducible refine WL.step fun K2 hK2 => ?_) | (with_reducible refine WD.step fun K2 hK2 => ?_)); simp only [WS, WH, WO, WOv, WG, dstOk, hasDst, aop, ASt.ev, aload, aloadC, afield, aindex, abin, abinI, aun, alen, acells, Nat.reduceEqDiff, Nat.reduceLT, Nat.reduceLeDiff, Nat.reduceAdd, reduceIte, reduceCtorEq, implies_true, ASt.add, setHp, asplice, Int.reduceEq, Int.reduceNe, Int.reduceLT, Int.reduceLE, Int.reduceSub, Int.reduceAdd, abuild, afill, abuildS, pureL, chunks, List.range, List.range.loop, Nat.reduceMul, Nat.reduceMod, apartF, apartI, aslice, evI, ASt.subst, AO.box, aval, pvals, ams, tys, mapTy_69, keyed_3]; (repeat' (first | (with_reducible refine hK2 _ ?_; clear hK2 K2) | (with_reducible refine And.intro ?_ ?_) | (with_reducible intro hb) | ((first | (with_reducible apply callArmO) | (with_reducible apply callArm)); case h => exact CallV.plain (Ent.of Try.func9 (by kernel_rfl) rfl) (haw) (by simp [AV.okB])) | ((first | (with_reducible apply callArmO) | (with_reducible apply callArm)); case h => exact CallV.plain (Ent.of Try.func10 (by kernel_rfl) rfl) (hfw) (by simp [AV.okB])))))))) | refine T.skip ?_ | refine T.exit ?_ | refine T.condT rfl ?_ | refine T.condF rfl ?_ | refine T.cond rfl (fun hc => ?_) (fun hc => ?_) | refine T.ret ?_ | simp only [ThenA, InBlock, reduceIte, Nat.reduceEqDiff] | ((repeat ((fail_if_success (refine hK _ ?_)); clear hK K)); refine hK _ ?_; clear hK K))
    refine FinA.ret (.inr rfl) Try.results6 ?_; simp only [ares, aresL, ares1, WS, WH, WO, WOv, WG, dstOk, hasDst, aop, ASt.ev, aload, aloadC, afield, aindex, abin, abinI, aun, alen, acells, Nat.reduceEqDiff, Nat.reduceLT, Nat.reduceLeDiff, Nat.reduceAdd, reduceIte, reduceCtorEq, implies_true, ASt.add, setHp, asplice, Int.reduceEq, Int.reduceNe, Int.reduceLT, Int.reduceLE, Int.reduceSub, Int.reduceAdd, abuild, afill, abuildS, pureL, chunks, List.range, List.range.loop, Nat.reduceMul, Nat.reduceMod, apartF, apartI, aslice, evI, ASt.subst, AO.box, aval, pvals, ams, tys, mapTy_69, keyed_3, ]
  | true =>
    rw [hf] at hfw
    have hsm := small_ok ths hf
    have hrv := rvalid_at ths hf
    cases hs : smallB ths with
    | false =>
      rw [hs] at hsm
      simp only [thsP, scrP] at hfw hsm ⊢
      refine PureC.of Try.func6 rfl 79 rfl (by decide) (by simp [AV.okB]) ?_
      repeat' (first | refine T.seqK fun K hK => ?_ | refine T.block ?_ | (refine T.reg (by kernel_rfl) fun K' hK' => ?_; simp only [startSt, frOf, List.map_cons, List.map_nil]; (repeat' (first | (with_reducible refine WL.fin ?_; refine hK' _ ?_; clear hK' K') | (with_reducible refine WD.fin ?_) | ((first | (with_reducible refine WL.step fun K2 hK2 => ?_) | (with_reducible refine WD.step fun K2 hK2 => ?_)); simp only [WS, WH, WO, WOv, WG, dstOk, hasDst, aop, ASt.ev, aload, aloadC, afield, aindex, abin, abinI, aun, alen, acells, Nat.reduceEqDiff, Nat.reduceLT, Nat.reduceLeDiff, Nat.reduceAdd, reduceIte, reduceCtorEq, implies_true, ASt.add, setHp, asplice, Int.reduceEq, Int.reduceNe, Int.reduceLT, Int.reduceLE, Int.reduceSub, Int.reduceAdd, abuild, afill, abuildS, pureL, chunks, List.range, List.range.loop, Nat.reduceMul, Nat.reduceMod, apartF, apartI, aslice, evI, ASt.subst, AO.box, aval, pvals, ams, tys, mapTy_69, keyed_3]; (repeat' (first | (with_reducible refine hK2 _ ?_; clear hK2 K2) | (with_reducible refine And.intro ?_ ?_) | (with_reducible intro hb) | ((first | (with_reducible apply callArmO) | (with_reducible apply callArm)); case h => exact CallV.plain (Ent.of Try.func9 (by kernel_rfl) rfl) (haw) (by simp [AV.okB])) | ((first | (with_reducible apply callArmO) | (with_reducible apply callArm)); case h => exact CallV.plain (Ent.of Try.func10 (by kernel_rfl) rfl) (hfw) (by simp [AV.okB])) | ((first | (with_reducible apply callArmO) | (with_reducible apply callArm)); case h => exact CallV.plain (Ent.of Try.func15 (by kernel_rfl) rfl) (hsm) (by simp [AV.okB])))))))) | refine T.skip ?_ | refine T.exit ?_ | refine T.condT rfl ?_ | refine T.condF rfl ?_ | refine T.cond rfl (fun hc => ?_) (fun hc => ?_) | refine T.ret ?_ | simp only [ThenA, InBlock, reduceIte, Nat.reduceEqDiff] | ((repeat ((fail_if_success (refine hK _ ?_)); clear hK K)); refine hK _ ?_; clear hK K))
      refine FinA.ret (.inr rfl) Try.results6 ?_; simp only [ares, aresL, ares1, WS, WH, WO, WOv, WG, dstOk, hasDst, aop, ASt.ev, aload, aloadC, afield, aindex, abin, abinI, aun, alen, acells, Nat.reduceEqDiff, Nat.reduceLT, Nat.reduceLeDiff, Nat.reduceAdd, reduceIte, reduceCtorEq, implies_true, ASt.add, setHp, asplice, Int.reduceEq, Int.reduceNe, Int.reduceLT, Int.reduceLE, Int.reduceSub, Int.reduceAdd, abuild, afill, abuildS, pureL, chunks, List.range, List.range.loop, Nat.reduceMul, Nat.reduceMod, apartF, apartI, aslice, evI, ASt.subst, AO.box, aval, pvals, ams, tys, mapTy_69, keyed_3, ]
    | true =>
      rw [hs] at hsm
      cases hv : validB ths with
      | false =>
        rw [hv] at hrv
        simp only [thsP, scrP] at hfw hsm hrv ⊢
        refine PureC.of Try.func6 rfl 79 rfl (by decide) (by simp [AV.okB]) ?_
        repeat' (first | refine T.seqK fun K hK => ?_ | refine T.block ?_ | (refine T.reg (by kernel_rfl) fun K' hK' => ?_; simp only [startSt, frOf, List.map_cons, List.map_nil]; (repeat' (first | (with_reducible refine WL.fin ?_; refine hK' _ ?_; clear hK' K') | (with_reducible refine WD.fin ?_) | ((first | (with_reducible refine WL.step fun K2 hK2 => ?_) | (with_reducible refine WD.step fun K2 hK2 => ?_)); simp only [WS, WH, WO, WOv, WG, dstOk, hasDst, aop, ASt.ev, aload, aloadC, afield, aindex, abin, abinI, aun, alen, acells, Nat.reduceEqDiff, Nat.reduceLT, Nat.reduceLeDiff, Nat.reduceAdd, reduceIte, reduceCtorEq, implies_true, ASt.add, setHp, asplice, Int.reduceEq, Int.reduceNe, Int.reduceLT, Int.reduceLE, Int.reduceSub, Int.reduceAdd, abuild, afill, abuildS, pureL, chunks, List.range, List.range.loop, Nat.reduceMul, Nat.reduceMod, apartF, apartI, aslice, evI, ASt.subst, AO.box, aval, pvals, ams, tys, mapTy_69, keyed_3]; (repeat' (first | (with_reducible refine hK2 _ ?_; clear hK2 K2) | (with_reducible refine And.intro ?_ ?_) | (with_reducible intro hb) | ((first | (with_reducible apply callArmO) | (with_reducible apply callArm)); case h => exact CallV.plain (Ent.of Try.func9 (by kernel_rfl) rfl) (haw) (by simp [AV.okB])) | ((first | (with_reducible apply callArmO) | (with_reducible apply callArm)); case h => exact CallV.plain (Ent.of Try.func10 (by kernel_rfl) rfl) (hfw) (by simp [AV.okB])) | ((first | (with_reducible apply callArmO) | (with_reducible apply callArm)); case h => exact CallV.plain (Ent.of Try.func15 (by kernel_rfl) rfl) (hsm) (by simp [AV.okB])) | ((first | (with_reducible apply callArmO) | (with_reducible apply callArm)); case h => exact CallV.plain (Ent.of Try.func11 (by kernel_rfl) rfl) (hrv) (by simp [AV.okB])))))))) | refine T.skip ?_ | refine T.exit ?_ | refine T.condT rfl ?_ | refine T.condF rfl ?_ | refine T.cond rfl (fun hc => ?_) (fun hc => ?_) | refine T.ret ?_ | simp only [ThenA, InBlock, reduceIte, Nat.reduceEqDiff] | ((repeat ((fail_if_success (refine hK _ ?_)); clear hK K)); refine hK _ ?_; clear hK K))
        refine FinA.ret (.inr rfl) Try.results6 ?_; simp only [ares, aresL, ares1, WS, WH, WO, WOv, WG, dstOk, hasDst, aop, ASt.ev, aload, aloadC, afield, aindex, abin, abinI, aun, alen, acells, Nat.reduceEqDiff, Nat.reduceLT, Nat.reduceLeDiff, Nat.reduceAdd, reduceIte, reduceCtorEq, implies_true, ASt.add, setHp, asplice, Int.reduceEq, Int.reduceNe, Int.reduceLT, Int.reduceLE, Int.reduceSub, Int.reduceAdd, abuild, afill, abuildS, pureL, chunks, List.range, List.range.loop, Nat.reduceMul, Nat.reduceMod, apartF, apartI, aslice, evI, ASt.subst, AO.box, aval, pvals, ams, tys, mapTy_69, keyed_3, ]
      | true =>
        rw [hv] at hrv
        have ho := valid_thok hv
        obtain ⟨_, h8, h12, _⟩ := validB_ok hv
        have hst : ∀ l ∈ ths, l.length ≤ 1000 := fun l hl => (few_st hf l hl).1
        have hsv := valid_stv hf hv
        have hpl := play_ok ths h8 hst (by omega) scr hscr
        obtain ⟨run0, hr0, hrc⟩ := play_comp (ths := ths) scr (remB ths (List.replicate ths.length 0) + 1) 0 (List.replicate ths.length 0) [] (by omega)
        rw [List.nil_append] at hr0
        rw [hr0] at hpl
        obtain ⟨Q, hQ, hQc, hQp, hQf⟩ := reps hv
        have hexl := (explore_small hv hs).1
        have hex := explore_at ths hf
        rw [hQ] at hex hexl
        rw [List.length_map] at hexl
        have hrow : rowOf pksP (Q.map (·.map pick)) = Q.map fun q => [pksP (q.map pick)] := by simp [rowOf]
        rw [hrow] at hex
        have hvq : ∀ q, CompB ths (List.replicate ths.length 0) q → ∀ s ∈ q, StV s := fun q hq s hs => by
          obtain ⟨l, hl, hsl⟩ := List.mem_flatten.1 (comp_mem hq s hs)
          exact hsv l hl s hsl
        have hql : ∀ q, CompB ths (List.replicate ths.length 0) q → q.length ≤ 1000 := fun q hq => by have := comp_len hq; omega
        have hself : ∀ q, CompB ths (List.replicate ths.length 0) q → ∀ x ∈ q, dpB x x = true := fun q hq x hx => (thok_told ho).self x (comp_mem hq x hx)
        have hst2 : ∀ q, CompB ths (List.replicate ths.length 0) q → PureC Try.prog 19 [.p (thsP ths), .p (pksP (q.map pick))] (.tup [.p (thP q), .bool true]) := fun q hq => steps_ok ths ho h8 hst q (hql q hq) hq
        have heqv : ∀ a b, CompB ths (List.replicate ths.length 0) a → CompB ths (List.replicate ths.length 0) b → PureC Try.prog 20 [.p (thP a), .p (thP b)] (.bool (eqvB a b)) := fun a b ha hb => equivalent_ok a b (by have := hql a ha; omega) (by have := hql b hb; omega) (hvq a ha) (hvq b hb) (comp_same ho (pos_zero ths) ha hb)
        have heq2 : ∀ a b, CompB ths (List.replicate ths.length 0) a → CompB ths (List.replicate ths.length 0) b → (eqvB a b = true ↔ Sw dpB a b) := fun a b ha hb => eqv_iff (comp_same ho (pos_zero ths) ha hb) (hself a ha)
        simp only [thsP, scrP, thP, pksP] at hfw hsm hrv hpl hex hst2 heqv ⊢
        refine PureC.of Try.func6 rfl 79 rfl (by decide) (by simp [AV.okB]) ?_
        repeat' (first | refine T.seqK fun K hK => ?_ | refine T.block ?_ | (refine T.reg (by kernel_rfl) fun K' hK' => ?_; simp only [startSt, frOf, List.map_cons, List.map_nil]; (repeat' (first | (with_reducible refine WL.fin ?_; refine hK' _ ?_; clear hK' K') | (with_reducible refine WD.fin ?_) | ((first | (with_reducible refine WL.step fun K2 hK2 => ?_) | (with_reducible refine WD.step fun K2 hK2 => ?_)); simp only [WS, WH, WO, WOv, WG, dstOk, hasDst, aop, ASt.ev, aload, aloadC, afield, aindex, abin, abinI, aun, alen, acells, Nat.reduceEqDiff, Nat.reduceLT, Nat.reduceLeDiff, Nat.reduceAdd, reduceIte, reduceCtorEq, implies_true, ASt.add, setHp, asplice, Int.reduceEq, Int.reduceNe, Int.reduceLT, Int.reduceLE, Int.reduceSub, Int.reduceAdd, abuild, afill, abuildS, pureL, chunks, List.range, List.range.loop, Nat.reduceMul, Nat.reduceMod, apartF, apartI, aslice, evI, ASt.subst, AO.box, aval, pvals, ams, tys, mapTy_69, keyed_3]; (repeat' (first | (with_reducible refine hK2 _ ?_; clear hK2 K2) | (with_reducible refine And.intro ?_ ?_) | (with_reducible intro hb) | ((first | (with_reducible apply callArmO) | (with_reducible apply callArm)); case h => exact CallV.plain (Ent.of Try.func9 (by kernel_rfl) rfl) (haw) (by simp [AV.okB])) | ((first | (with_reducible apply callArmO) | (with_reducible apply callArm)); case h => exact CallV.plain (Ent.of Try.func10 (by kernel_rfl) rfl) (hfw) (by simp [AV.okB])) | ((first | (with_reducible apply callArmO) | (with_reducible apply callArm)); case h => exact CallV.plain (Ent.of Try.func15 (by kernel_rfl) rfl) (hsm) (by simp [AV.okB])) | ((first | (with_reducible apply callArmO) | (with_reducible apply callArm)); case h => exact CallV.plain (Ent.of Try.func11 (by kernel_rfl) rfl) (hrv) (by simp [AV.okB])) | ((first | (with_reducible apply callArmO) | (with_reducible apply callArm)); case h => exact CallV.plain (Ent.of Try.func18 (by kernel_rfl) rfl) (hpl) (by simp [AV.okB])) | ((first | (with_reducible apply callArmO) | (with_reducible apply callArm)); case h => exact CallV.plain (Ent.of Try.func13 (by kernel_rfl) rfl) (hex) (by simp [AV.okB])))))))) | refine T.skip ?_ | refine T.exit ?_ | refine T.condT rfl ?_ | refine T.condF rfl ?_ | refine T.cond rfl (fun hc => ?_) (fun hc => ?_) | refine T.ret ?_ | simp only [ThenA, InBlock, reduceIte, Nat.reduceEqDiff] | ((repeat ((fail_if_success (refine hK _ ?_)); clear hK K)); refine hK _ ?_; clear hK K))
        refine T.loopK (fun i : Nat => ⟨[(0, .p (thsP ths)), (5, .p (thP run0)), (6, .p (.seq 1 (Q.map fun q => [pksP (q.map pick)]))), (7, .int ((Q.take i).countP fun q => eqvB q run0)), (8, .int i)], [], 79, 0⟩)
          (fun i => i ≤ Q.length) (fun i => Q.length - i) 0 (Nat.zero_le _) (by refine Weak.of' rfl ?_; simp only [wks, reduceIte, Nat.reduceEqDiff, ASt.okB, AV.okB, Nat.reduceLT, implies_true, Int.natCast_zero, thsP, thP, pksP, List.take_zero, List.countP_nil]) ?_
        rintro i hi KL hKL
        simp only [thsP, thP, pksP]
        by_cases hlt : i < Q.length
        · have hd : decide ((i : Int) < (Q.length : Int)) = true := by simpa using hlt
          obtain ⟨q, hq⟩ := at_lt hlt
          have hqm := List.mem_of_getElem? hq
          have hqc := hQc q hqm
          have hs1 := hst2 q hqc
          have he1 := heqv q run0 hqc hrc
          have htk : Q.take (i + 1) = Q.take i ++ [q] := by rw [List.take_add_one, hq]; rfl
          have hcp : (Q.take (i + 1)).countP (fun q => eqvB q run0) = (Q.take i).countP (fun q => eqvB q run0) + (if eqvB q run0 = true then 1 else 0) := by rw [htk, List.countP_append, List.countP_singleton]
          have hcl : (Q.take i).countP (fun q => eqvB q run0) ≤ 400 := Nat.le_trans List.countP_le_length (by rw [List.length_take]; omega)
          obtain ⟨c, hc⟩ : ∃ c, c = (Q.take i).countP (fun q => eqvB q run0) := ⟨_, rfl⟩
          obtain ⟨c', hc'⟩ : ∃ c', c' = (Q.take (i + 1)).countP (fun q => eqvB q run0) := ⟨_, rfl⟩
          rw [← hc, ← hc'] at hcp
          rw [← hc] at hcl ⊢
          have inner : ∀ {K : ASt → Prop} {fr : List (Nat × AV)}, True := fun {_ _} => trivial
          cases hev : eqvB q run0 with
          | true =>
            rw [hev] at he1
            rw [hev, if_pos rfl] at hcp
            have hwc : IntKind.i64.wrap ((c : Int) + 1) = (c' : Int) := by rw [hcp]; exact wrap_succ (by omega)
            repeat' (first | refine T.seqK fun K hK => ?_ | refine T.block ?_ | (refine T.reg (by kernel_rfl) fun K' hK' => ?_; simp only [startSt, frOf, List.map_cons, List.map_nil]; (repeat' (first | (with_reducible refine WL.fin ?_; refine hK' _ ?_; clear hK' K') | (with_reducible refine WD.fin ?_) | ((first | (with_reducible refine WL.step fun K2 hK2 => ?_) | (with_reducible refine WD.step fun K2 hK2 => ?_)); simp only [WS, WH, WO, WOv, WG, dstOk, hasDst, aop, ASt.ev, aload, aloadC, afield, aindex, abin, abinI, aun, alen, acells, Nat.reduceEqDiff, Nat.reduceLT, Nat.reduceLeDiff, Nat.reduceAdd, reduceIte, reduceCtorEq, implies_true, ASt.add, setHp, asplice, Int.reduceEq, Int.reduceNe, Int.reduceLT, Int.reduceLE, Int.reduceSub, Int.reduceAdd, abuild, afill, abuildS, pureL, chunks, List.range, List.range.loop, Nat.reduceMul, Nat.reduceMod, apartF, apartI, aslice, evI, ASt.subst, AO.box, aval, pvals, ams, tys, mapTy_69, keyed_3, hd, hq, hwc]; (repeat' (first | (with_reducible refine hK2 _ ?_; clear hK2 K2) | (with_reducible refine And.intro ?_ ?_) | (with_reducible intro hb) | ((first | (with_reducible apply callArmO) | (with_reducible apply callArm)); case h => exact CallV.plain (Ent.of Try.func19 (by kernel_rfl) rfl) (hs1) (by simp [AV.okB])) | ((first | (with_reducible apply callArmO) | (with_reducible apply callArm)); case h => exact CallV.plain (Ent.of Try.func20 (by kernel_rfl) rfl) (he1) (by simp [AV.okB])))))))) | refine T.skip ?_ | refine T.exit ?_ | refine T.condT rfl ?_ | refine T.condF rfl ?_ | refine T.cond rfl (fun hc => ?_) (fun hc => ?_) | refine T.ret ?_ | simp only [ThenA, InBlock, reduceIte, Nat.reduceEqDiff] | ((repeat ((fail_if_success (refine hK _ ?_)); clear hK K)); refine hK _ ?_; clear hK K))
            refine T.loopK (fun k : Nat => ⟨[(0, .p (thsP ths)), (5, .p (thP run0)), (6, .p (.seq 1 (Q.map fun q => [pksP (q.map pick)]))), (7, .int c'), (8, .int i), (9, .p (thP q)), (11, .int k)], [], 79, 0⟩)
              (fun k => k ≤ i) (fun k => i - k) 0 (Nat.zero_le _) (by refine Weak.of' rfl ?_; simp only [wks, reduceIte, Nat.reduceEqDiff, ASt.okB, AV.okB, Nat.reduceLT, implies_true, Int.natCast_zero, thsP, thP, pksP]) ?_
            rintro k hk KJ hKJ
            simp only [thsP, thP, pksP]
            by_cases hki : k < i
            · have hd2 : decide ((k : Int) < (i : Int)) = true := by simpa using hki
              obtain ⟨q2, hq2⟩ := at_lt (l := Q) (k := k) (by omega)
              have hq2c := hQc q2 (List.mem_of_getElem? hq2)
              have hs2 := hst2 q2 hq2c
              have he2 := heqv q q2 hqc hq2c
              have hne : eqvB q q2 = false := by
                cases h : eqvB q q2 with
                | false => rfl
                | true =>
                  exfalso
                  have hsw := ((heq2 q q2 hqc hq2c).1 h).symm
                  obtain ⟨a1, a2⟩ := List.getElem?_eq_some_iff.1 hq2
                  obtain ⟨b1, b2⟩ := List.getElem?_eq_some_iff.1 hq
                  have := List.pairwise_iff_getElem.1 hQp k i a1 b1 hki
                  rw [a2, b2] at this
                  exact this hsw
              rw [hne] at he2
              repeat' (first | refine T.seqK fun K hK => ?_ | refine T.block ?_ | (refine T.reg (by kernel_rfl) fun K' hK' => ?_; simp only [startSt, frOf, List.map_cons, List.map_nil]; (repeat' (first | (with_reducible refine WL.fin ?_; refine hK' _ ?_; clear hK' K') | (with_reducible refine WD.fin ?_) | ((first | (with_reducible refine WL.step fun K2 hK2 => ?_) | (with_reducible refine WD.step fun K2 hK2 => ?_)); simp only [WS, WH, WO, WOv, WG, dstOk, hasDst, aop, ASt.ev, aload, aloadC, afield, aindex, abin, abinI, aun, alen, acells, Nat.reduceEqDiff, Nat.reduceLT, Nat.reduceLeDiff, Nat.reduceAdd, reduceIte, reduceCtorEq, implies_true, ASt.add, setHp, asplice, Int.reduceEq, Int.reduceNe, Int.reduceLT, Int.reduceLE, Int.reduceSub, Int.reduceAdd, abuild, afill, abuildS, pureL, chunks, List.range, List.range.loop, Nat.reduceMul, Nat.reduceMod, apartF, apartI, aslice, evI, ASt.subst, AO.box, aval, pvals, ams, tys, mapTy_69, keyed_3, hd2, hq2]; (repeat' (first | (with_reducible refine hK2 _ ?_; clear hK2 K2) | (with_reducible refine And.intro ?_ ?_) | (with_reducible intro hb) | ((first | (with_reducible apply callArmO) | (with_reducible apply callArm)); case h => exact CallV.plain (Ent.of Try.func19 (by kernel_rfl) rfl) (hs2) (by simp [AV.okB])) | ((first | (with_reducible apply callArmO) | (with_reducible apply callArm)); case h => exact CallV.plain (Ent.of Try.func20 (by kernel_rfl) rfl) (he2) (by simp [AV.okB])))))))) | refine T.skip ?_ | refine T.exit ?_ | refine T.condT rfl ?_ | refine T.condF rfl ?_ | refine T.cond rfl (fun hc => ?_) (fun hc => ?_) | refine T.ret ?_ | simp only [ThenA, InBlock, reduceIte, Nat.reduceEqDiff] | ((repeat ((fail_if_success (refine hK _ ?_)); clear hK K)); refine hK _ ?_; clear hK K))
              exact hKJ _ (k + 1) (by refine Weak.of' rfl ?_; simp only [wks, reduceIte, Nat.reduceEqDiff, ASt.okB, AV.okB, Nat.reduceLT, implies_true, wrap_succ (show k < 1152921504606846976 by omega), thsP, thP, pksP]) (by omega) (by omega)
            · have hd2 : decide ((k : Int) < (i : Int)) = false := by simpa using hki
              clear hKJ
              repeat' (first | refine T.seqK fun K hK => ?_ | refine T.block ?_ | (refine T.reg (by kernel_rfl) fun K' hK' => ?_; simp only [startSt, frOf, List.map_cons, List.map_nil]; (repeat' (first | (with_reducible refine WL.fin ?_; refine hK' _ ?_; clear hK' K') | (with_reducible refine WD.fin ?_) | ((first | (with_reducible refine WL.step fun K2 hK2 => ?_) | (with_reducible refine WD.step fun K2 hK2 => ?_)); simp only [WS, WH, WO, WOv, WG, dstOk, hasDst, aop, ASt.ev, aload, aloadC, afield, aindex, abin, abinI, aun, alen, acells, Nat.reduceEqDiff, Nat.reduceLT, Nat.reduceLeDiff, Nat.reduceAdd, reduceIte, reduceCtorEq, implies_true, ASt.add, setHp, asplice, Int.reduceEq, Int.reduceNe, Int.reduceLT, Int.reduceLE, Int.reduceSub, Int.reduceAdd, abuild, afill, abuildS, pureL, chunks, List.range, List.range.loop, Nat.reduceMul, Nat.reduceMod, apartF, apartI, aslice, evI, ASt.subst, AO.box, aval, pvals, ams, tys, mapTy_69, keyed_3, hd2]; (repeat' (first | (with_reducible refine hK2 _ ?_; clear hK2 K2) | (with_reducible refine And.intro ?_ ?_) | (with_reducible intro hb) | fail)))))) | refine T.skip ?_ | refine T.exit ?_ | refine T.condT rfl ?_ | refine T.condF rfl ?_ | refine T.cond rfl (fun hc => ?_) (fun hc => ?_) | refine T.ret ?_ | simp only [ThenA, InBlock, reduceIte, Nat.reduceEqDiff] | ((repeat ((fail_if_success (refine hK _ ?_)); clear hK K)); refine hK _ ?_; clear hK K))
              refine hKL _ (i + 1) ?_ (by omega) (by omega)
              rw [← hc']
              refine Weak.of' rfl ?_; simp only [wks, reduceIte, Nat.reduceEqDiff, ASt.okB, AV.okB, Nat.reduceLT, implies_true, wrap_succ (show i < 1152921504606846976 by omega), thsP, thP, pksP]
          | false =>
            rw [hev] at he1
            rw [hev, if_neg (by simp), Nat.add_zero] at hcp
            subst hcp
            repeat' (first | refine T.seqK fun K hK => ?_ | refine T.block ?_ | (refine T.reg (by kernel_rfl) fun K' hK' => ?_; simp only [startSt, frOf, List.map_cons, List.map_nil]; (repeat' (first | (with_reducible refine WL.fin ?_; refine hK' _ ?_; clear hK' K') | (with_reducible refine WD.fin ?_) | ((first | (with_reducible refine WL.step fun K2 hK2 => ?_) | (with_reducible refine WD.step fun K2 hK2 => ?_)); simp only [WS, WH, WO, WOv, WG, dstOk, hasDst, aop, ASt.ev, aload, aloadC, afield, aindex, abin, abinI, aun, alen, acells, Nat.reduceEqDiff, Nat.reduceLT, Nat.reduceLeDiff, Nat.reduceAdd, reduceIte, reduceCtorEq, implies_true, ASt.add, setHp, asplice, Int.reduceEq, Int.reduceNe, Int.reduceLT, Int.reduceLE, Int.reduceSub, Int.reduceAdd, abuild, afill, abuildS, pureL, chunks, List.range, List.range.loop, Nat.reduceMul, Nat.reduceMod, apartF, apartI, aslice, evI, ASt.subst, AO.box, aval, pvals, ams, tys, mapTy_69, keyed_3, hd, hq]; (repeat' (first | (with_reducible refine hK2 _ ?_; clear hK2 K2) | (with_reducible refine And.intro ?_ ?_) | (with_reducible intro hb) | ((first | (with_reducible apply callArmO) | (with_reducible apply callArm)); case h => exact CallV.plain (Ent.of Try.func19 (by kernel_rfl) rfl) (hs1) (by simp [AV.okB])) | ((first | (with_reducible apply callArmO) | (with_reducible apply callArm)); case h => exact CallV.plain (Ent.of Try.func20 (by kernel_rfl) rfl) (he1) (by simp [AV.okB])))))))) | refine T.skip ?_ | refine T.exit ?_ | refine T.condT rfl ?_ | refine T.condF rfl ?_ | refine T.cond rfl (fun hc => ?_) (fun hc => ?_) | refine T.ret ?_ | simp only [ThenA, InBlock, reduceIte, Nat.reduceEqDiff] | ((repeat ((fail_if_success (refine hK _ ?_)); clear hK K)); refine hK _ ?_; clear hK K))
            refine T.loopK (fun k : Nat => ⟨[(0, .p (thsP ths)), (5, .p (thP run0)), (6, .p (.seq 1 (Q.map fun q => [pksP (q.map pick)]))), (7, .int c'), (8, .int i), (9, .p (thP q)), (11, .int k)], [], 79, 0⟩)
              (fun k => k ≤ i) (fun k => i - k) 0 (Nat.zero_le _) (by refine Weak.of' rfl ?_; simp only [wks, reduceIte, Nat.reduceEqDiff, ASt.okB, AV.okB, Nat.reduceLT, implies_true, Int.natCast_zero, thsP, thP, pksP]) ?_
            rintro k hk KJ hKJ
            simp only [thsP, thP, pksP]
            by_cases hki : k < i
            · have hd2 : decide ((k : Int) < (i : Int)) = true := by simpa using hki
              obtain ⟨q2, hq2⟩ := at_lt (l := Q) (k := k) (by omega)
              have hq2c := hQc q2 (List.mem_of_getElem? hq2)
              have hs2 := hst2 q2 hq2c
              have he2 := heqv q q2 hqc hq2c
              have hne : eqvB q q2 = false := by
                cases h : eqvB q q2 with
                | false => rfl
                | true =>
                  exfalso
                  have hsw := ((heq2 q q2 hqc hq2c).1 h).symm
                  obtain ⟨a1, a2⟩ := List.getElem?_eq_some_iff.1 hq2
                  obtain ⟨b1, b2⟩ := List.getElem?_eq_some_iff.1 hq
                  have := List.pairwise_iff_getElem.1 hQp k i a1 b1 hki
                  rw [a2, b2] at this
                  exact this hsw
              rw [hne] at he2
              repeat' (first | refine T.seqK fun K hK => ?_ | refine T.block ?_ | (refine T.reg (by kernel_rfl) fun K' hK' => ?_; simp only [startSt, frOf, List.map_cons, List.map_nil]; (repeat' (first | (with_reducible refine WL.fin ?_; refine hK' _ ?_; clear hK' K') | (with_reducible refine WD.fin ?_) | ((first | (with_reducible refine WL.step fun K2 hK2 => ?_) | (with_reducible refine WD.step fun K2 hK2 => ?_)); simp only [WS, WH, WO, WOv, WG, dstOk, hasDst, aop, ASt.ev, aload, aloadC, afield, aindex, abin, abinI, aun, alen, acells, Nat.reduceEqDiff, Nat.reduceLT, Nat.reduceLeDiff, Nat.reduceAdd, reduceIte, reduceCtorEq, implies_true, ASt.add, setHp, asplice, Int.reduceEq, Int.reduceNe, Int.reduceLT, Int.reduceLE, Int.reduceSub, Int.reduceAdd, abuild, afill, abuildS, pureL, chunks, List.range, List.range.loop, Nat.reduceMul, Nat.reduceMod, apartF, apartI, aslice, evI, ASt.subst, AO.box, aval, pvals, ams, tys, mapTy_69, keyed_3, hd2, hq2]; (repeat' (first | (with_reducible refine hK2 _ ?_; clear hK2 K2) | (with_reducible refine And.intro ?_ ?_) | (with_reducible intro hb) | ((first | (with_reducible apply callArmO) | (with_reducible apply callArm)); case h => exact CallV.plain (Ent.of Try.func19 (by kernel_rfl) rfl) (hs2) (by simp [AV.okB])) | ((first | (with_reducible apply callArmO) | (with_reducible apply callArm)); case h => exact CallV.plain (Ent.of Try.func20 (by kernel_rfl) rfl) (he2) (by simp [AV.okB])))))))) | refine T.skip ?_ | refine T.exit ?_ | refine T.condT rfl ?_ | refine T.condF rfl ?_ | refine T.cond rfl (fun hc => ?_) (fun hc => ?_) | refine T.ret ?_ | simp only [ThenA, InBlock, reduceIte, Nat.reduceEqDiff] | ((repeat ((fail_if_success (refine hK _ ?_)); clear hK K)); refine hK _ ?_; clear hK K))
              exact hKJ _ (k + 1) (by refine Weak.of' rfl ?_; simp only [wks, reduceIte, Nat.reduceEqDiff, ASt.okB, AV.okB, Nat.reduceLT, implies_true, wrap_succ (show k < 1152921504606846976 by omega), thsP, thP, pksP]) (by omega) (by omega)
            · have hd2 : decide ((k : Int) < (i : Int)) = false := by simpa using hki
              clear hKJ
              repeat' (first | refine T.seqK fun K hK => ?_ | refine T.block ?_ | (refine T.reg (by kernel_rfl) fun K' hK' => ?_; simp only [startSt, frOf, List.map_cons, List.map_nil]; (repeat' (first | (with_reducible refine WL.fin ?_; refine hK' _ ?_; clear hK' K') | (with_reducible refine WD.fin ?_) | ((first | (with_reducible refine WL.step fun K2 hK2 => ?_) | (with_reducible refine WD.step fun K2 hK2 => ?_)); simp only [WS, WH, WO, WOv, WG, dstOk, hasDst, aop, ASt.ev, aload, aloadC, afield, aindex, abin, abinI, aun, alen, acells, Nat.reduceEqDiff, Nat.reduceLT, Nat.reduceLeDiff, Nat.reduceAdd, reduceIte, reduceCtorEq, implies_true, ASt.add, setHp, asplice, Int.reduceEq, Int.reduceNe, Int.reduceLT, Int.reduceLE, Int.reduceSub, Int.reduceAdd, abuild, afill, abuildS, pureL, chunks, List.range, List.range.loop, Nat.reduceMul, Nat.reduceMod, apartF, apartI, aslice, evI, ASt.subst, AO.box, aval, pvals, ams, tys, mapTy_69, keyed_3, hd2]; (repeat' (first | (with_reducible refine hK2 _ ?_; clear hK2 K2) | (with_reducible refine And.intro ?_ ?_) | (with_reducible intro hb) | fail)))))) | refine T.skip ?_ | refine T.exit ?_ | refine T.condT rfl ?_ | refine T.condF rfl ?_ | refine T.cond rfl (fun hc => ?_) (fun hc => ?_) | refine T.ret ?_ | simp only [ThenA, InBlock, reduceIte, Nat.reduceEqDiff] | ((repeat ((fail_if_success (refine hK _ ?_)); clear hK K)); refine hK _ ?_; clear hK K))
              refine hKL _ (i + 1) ?_ (by omega) (by omega)
              rw [← hc']
              refine Weak.of' rfl ?_; simp only [wks, reduceIte, Nat.reduceEqDiff, ASt.okB, AV.okB, Nat.reduceLT, implies_true, wrap_succ (show i < 1152921504606846976 by omega), thsP, thP, pksP]
        · have hd : decide ((i : Int) < (Q.length : Int)) = false := by simpa using hlt
          obtain rfl : i = Q.length := by omega
          clear hKL
          have hone : Q.countP (fun q => eqvB q run0) = 1 := by
            have hQ2 : ∀ q ∈ Q, (eqvB q run0 = true ↔ Sw dpB q run0) := fun q hq => heq2 q run0 (hQc q hq) hrc
            obtain ⟨q, hq, hsw⟩ := hQf run0 hrc
            refine countP_one (R := fun a b => a ∈ Q → b ∈ Q → Sw dpB a b) (List.Pairwise.imp_of_mem (fun {a b} ha hb h k => h (k ha hb)) hQp) (fun a b ha hb ma mb => ((hQ2 a ma).1 ha).trans ((hQ2 b mb).1 hb).symm) ⟨q, hq, (hQ2 q hq).2 hsw⟩
          have h1 : (((Q.take Q.length).countP (fun q => eqvB q run0) : Nat) : Int) = 1 := by rw [List.take_length, hone]; rfl
          rw [h1]
          repeat' (first | refine T.seqK fun K hK => ?_ | refine T.block ?_ | (refine T.reg (by kernel_rfl) fun K' hK' => ?_; simp only [startSt, frOf, List.map_cons, List.map_nil]; (repeat' (first | (with_reducible refine WL.fin ?_; refine hK' _ ?_; clear hK' K') | (with_reducible refine WD.fin ?_) | ((first | (with_reducible refine WL.step fun K2 hK2 => ?_) | (with_reducible refine WD.step fun K2 hK2 => ?_)); simp only [WS, WH, WO, WOv, WG, dstOk, hasDst, aop, ASt.ev, aload, aloadC, afield, aindex, abin, abinI, aun, alen, acells, Nat.reduceEqDiff, Nat.reduceLT, Nat.reduceLeDiff, Nat.reduceAdd, reduceIte, reduceCtorEq, implies_true, ASt.add, setHp, asplice, Int.reduceEq, Int.reduceNe, Int.reduceLT, Int.reduceLE, Int.reduceSub, Int.reduceAdd, abuild, afill, abuildS, pureL, chunks, List.range, List.range.loop, Nat.reduceMul, Nat.reduceMod, apartF, apartI, aslice, evI, ASt.subst, AO.box, aval, pvals, ams, tys, mapTy_69, keyed_3, hd, beq_self_eq_true]; (repeat' (first | (with_reducible refine hK2 _ ?_; clear hK2 K2) | (with_reducible refine And.intro ?_ ?_) | (with_reducible intro hb) | fail)))))) | refine T.skip ?_ | refine T.exit ?_ | refine T.condT rfl ?_ | refine T.condF rfl ?_ | refine T.cond rfl (fun hc => ?_) (fun hc => ?_) | refine T.ret ?_ | simp only [ThenA, InBlock, reduceIte, Nat.reduceEqDiff] | ((repeat ((fail_if_success (refine hK _ ?_)); clear hK K)); refine hK _ ?_; clear hK K))
          refine FinA.ret (.inr rfl) Try.results6 ?_; simp only [ares, aresL, ares1, WS, WH, WO, WOv, WG, dstOk, hasDst, aop, ASt.ev, aload, aloadC, afield, aindex, abin, abinI, aun, alen, acells, Nat.reduceEqDiff, Nat.reduceLT, Nat.reduceLeDiff, Nat.reduceAdd, reduceIte, reduceCtorEq, implies_true, ASt.add, setHp, asplice, Int.reduceEq, Int.reduceNe, Int.reduceLT, Int.reduceLE, Int.reduceSub, Int.reduceAdd, abuild, afill, abuildS, pureL, chunks, List.range, List.range.loop, Nat.reduceMul, Nat.reduceMod, apartF, apartI, aslice, evI, ASt.subst, AO.box, aval, pvals, ams, tys, mapTy_69, keyed_3, ]
end Go.Proofs.Ytbhkcejjehgfcaa
namespace Go.Proofs.Ytbhkcejjehgfcaa
open Go.RowKit Go.Sort Go.ChangeShapes Go.WideShapes Go.ChangeAt
theorem trodAll_length {H : Type} {enc : TypeId × Value → H} {P : Program} {w : World} {base : Nat} {spare : Nat → Bool} {held : Bool} : ∀ {ts : List TypeId} {vs : List Value} {ds : List (DataW H)} {ps : List MemPlace}, DataW.TrodAll enc P w base spare held ts vs ds ps → ds.length = ts.length
  | [], [], [], _, _ => rfl
  | _ :: _, _ :: _, _ :: _, _, ⟨_, _, _, h, _⟩ => by simp [trodAll_length h]
theorem trodAll_below {H : Type} {enc : TypeId × Value → H} {P : Program} {W W' : World} (hl : laidOutB P = true) (hb : Below W.heap.size W W') : ∀ {ts : List TypeId} {vs : List Value} {ds : List (DataW H)} {ps : List MemPlace}, (∀ t ∈ ts, P.readableRec t = true ∧ t < P.types.size) →
    DataW.TrodAll enc P W 0 (fun _ => true) true ts vs ds ps → (∀ x ∈ ps, x.block < W.heap.size) → DataW.TrodAll enc P W' 0 (fun b => decide (b < W.heap.size)) true ts vs ds ps
  | [], [], [], _, _, h, _ => h
  | t :: _, _ :: _, _ :: _, _, hT, ⟨p, q, h1, h2, e⟩, hs =>
    ⟨p, q, Below.trod hl (hT t (List.mem_cons.2 (.inl rfl))).1 (hT t (List.mem_cons.2 (.inl rfl))).2 h1 hb (fun x hx => hs x (by rw [e]; exact List.mem_append_left _ hx)),
      trodAll_below hl hb (fun t ht => hT t (List.mem_cons.2 (.inr ht))) h2 (fun x hx => hs x (by rw [e]; exact List.mem_append_right _ hx)), e⟩
theorem law_post {H : Type} {enc : TypeId × Value → H} {P : Program} {f : Func} {s : ChangeSpec} {B : TypeId} (hl : laidOutB P = true) (hps : ∀ t ∈ f.params.toList, P.readableRec t = true ∧ t < P.types.size) (hres : f.resultTypes = #[B]) (hB : P.underlying B = some .bool)
    {W W' : World} (hb : Below W.heap.size W W') {args : Array Value} {ds gs : List (DataW H)} {before : List MemPlace} (hv : s.vars = []) (hW : DataW.Whole enc P f.params.toList s.vars false W args.toList ds gs before)
    (hspec : ∀ ds : List (DataW H), ds.length = f.params.size → s.fn H ds = { results := [.lit (.bool true)], args := ds }) :
    s.post enc P f false true false false W args (.bool true) W' := by
  have hW' := hW
  have hlt := hW.lt
  rw [hv] at hW
  obtain ⟨p, q, hA, hV, rfl, hfz, hnd⟩ := hW
  obtain ⟨rfl, rfl⟩ := trodVars_none hV
  have hsp := hspec ds (by rw [trodAll_length hA]; simp)
  have hlt' : ∀ x ∈ p, x.block < W.heap.size := fun x hx => hlt x (List.mem_append_left _ hx)
  refine ⟨ds, [], _, [], p, [], hW', ?_, ?_, ?_, hb.frame _, fun h => by cases h⟩
  · rw [List.append_nil, hsp, hres]
    exact trodAll_mk1 (shut_bool hB true)
  · rw [List.append_nil, hsp]
    exact trodAll_below hl hb hps hA hlt'
  · rw [List.append_nil, hsp, hv]; rfl
theorem law_lifted {H : Type} {enc : TypeId × Value → H} {C : Checked} {os : Os} {f : FuncId} {fn : Func} {s : ChangeSpec} {B : TypeId} (own : ownKnob C.prog.godebug = none) (started : os.Started) (noInit : C.prog.inits.idxOf? f = none) (hfn : C.prog.funcs[f]? = some fn)
    (witness : ∃ (w : World) (tape : Tape) (i : Input), w.os = os ∧ (w.forCall tape i).Shaped C.prog ∧ i.vars = [] ∧ Input.okWide C.prog (w.forCall tape i) .any w.heap.size f i ∧
      s.pre6 enc C.prog fn [] false (w.forCall tape i).memory i.args ∧ ({} : Assume).holds C.prog (lone (Frame.enter C.prog f i.args .normal) [] (w.forCall tape i)))
    (hl : laidOutB C.prog = true) (hps : (fn.params.toList.all fun t => C.prog.readableRec t && decide (t < C.prog.types.size)) = true) (hres : fn.resultTypes = #[B]) (hB : C.prog.underlying B = some .bool) (hv : s.vars = [])
    (hspec : ∀ ds : List (DataW H), ds.length = fn.params.size → s.fn H ds = { results := [.lit (.bool true)], args := ds })
    (contract : ∀ (W : World) (base : Nat) (args : Array Value) (ds : List (DataW H)) (p : List MemPlace),
      (∀ (j : Nat) t v, fn.params[j]? = some t → args[j]? = some v → Value.okWide C.prog W .any base t v) →
      DataW.TrodAll enc C.prog W 0 (fun _ => true) true fn.params.toList args.toList ds p → (∀ x ∈ p, x.block < W.heap.size) → W.noneFrozen p →
      (DataW.weightsEach C.prog fn.params.toList ds).all (· ≤ reachBytes) = true → W.ShapedOpen C.prog →
      Calls C.prog f args W (Gives (.bool true) W)) :
    ReturnsInHanded {} C os f .any (s.pre6 enc C.prog fn [] false) (s.post enc C.prog fn false true false false) := by
  refine returnsInHanded_of_change_shaped own started noInit hfn witness ?_
  intro W base args ds gs before hval hW _ hw hsh _
  have hW' := hW
  have hlt := hW.lt
  rw [hv] at hW
  obtain ⟨p, q, hA, hV, rfl, hfz, _⟩ := hW
  obtain ⟨rfl, rfl⟩ := trodVars_none hV
  have hnf : W.noneFrozen p := fun b off h => hfz b off (List.mem_append_left _ h)
  have hT : ∀ t ∈ fn.params.toList, C.prog.readableRec t = true ∧ t < C.prog.types.size := fun t ht => by
    have := List.all_eq_true.1 hps t ht
    simpa using this
  refine (contract W base args ds p hval hA (fun x hx => hlt x (List.mem_append_left _ hx)) hnf ?_ hsh).mono fun e W' h => ?_
  · simpa [ChangeSpec.plain, DataSpec.varTypes, hv] using hw
  · obtain ⟨rfl, q, rfl⟩ := h
    exact ⟨_, rfl, law_post hl hT hres hB (gw_below _ _) hv hW' hspec⟩
theorem cell_int {P : Program} {w : World} {r : Reach} {base : Nat} {u : TypeId} {v : Value} {k : IntKind} (hu : P.underlying u = some (.int k)) (h : Cell.okWide P w r base u v) : ∃ n, v = .int k n ∧ k.has n := by
  cases v <;> simp [Cell.okWide, Cell.ok, hu] at h
  obtain ⟨rfl, h2⟩ := h
  exact ⟨_, rfl, h2⟩
theorem cell_bool {P : Program} {w : World} {r : Reach} {base : Nat} {u : TypeId} {v : Value} (hu : P.underlying u = some .bool) (h : Cell.okWide P w r base u v) : ∃ b, v = .bool b := by
  cases v <;> simp [Cell.okWide, Cell.ok, hu] at h
  exact ⟨_, rfl⟩
theorem has_i64 {n : Int} (h : IntKind.i64.has n) : -9223372036854775808 ≤ n ∧ n ≤ 9223372036854775807 := by
  simp only [IntKind.has, IntKind.min, IntKind.max, IntKind.bits, IntKind.signed] at h
  simpa using h
theorem okWide_row {P : Program} {w : World} {r : Reach} {base : Nat} {t : TypeId} {v : Value} {ts : List TypeId} {n : Nat} (hu : (match P.underlying t with | some (.struct _) | some (.array _ _) => true | _ => false) = true) (hts : P.cellTypes P.depth t = some ts) (hn : P.cellsOf t = n) (hl : ts.length = n)
    (h : Value.okWide P w r base t v) : ∃ cs, v = .agg cs ∧ cs.size = n ∧ ∀ (i : Nat) x u, cs[i]? = some x → ts[i]? = some u → Cell.okWide P w r base u x := by
  unfold Value.okWide at h
  have h' : ∃ cs, v = .agg cs ∧ cs.size = P.cellsOf t ∧ Row.okWide P w r base t cs := by
    revert h hu
    cases P.underlying t with
    | none => intro hu; simp at hu
    | some d => cases d <;> intro hu <;> first | (simp at hu; done) | exact fun h => h
  obtain ⟨cs, rfl, hs, ts', hts', _, hc⟩ := h'
  rw [hts] at hts'
  obtain rfl : ts = ts' := Option.some.inj hts'
  refine ⟨cs, rfl, hs.trans hn, fun i x u hx hi => ?_⟩
  obtain ⟨u', hu', hok⟩ := hc i x hx
  have hlt : i < n := by
    have := (List.getElem?_eq_some_iff.1 hi).1
    omega
  rw [Nat.mod_eq_of_lt (by omega), hi] at hu'
  obtain rfl : u = u' := Option.some.inj hu'
  exact hok
end Go.Proofs.Ytbhkcejjehgfcaa
namespace Go.Proofs.Ytbhkcejjehgfcaa
open Go.RowKit Go.Sort Go.ChangeShapes Go.WideShapes Go.ChangeAt
set_option maxRecDepth 100000
variable {H : Type} {enc : TypeId × Value → H} {W : World} {base : Nat} {spare : Nat → Bool} {held : Bool}
def PRs (W : World) (ps : List PV) (cs : List Value) : Prop := cs.length = ps.length ∧ ∀ (j : Nat) p v, ps[j]? = some p → cs[j]? = some v → PR (fun _ => False) W p v
theorem PRs.nil : PRs W [] [] := ⟨rfl, fun j p v h => by simp at h⟩
theorem PRs.cons {p : PV} {v : Value} {ps : List PV} {cs : List Value} (h : PR (fun _ => False) W p v) (k : PRs W ps cs) : PRs W (p :: ps) (v :: cs) := ⟨by simp [k.1], fun j p' v' h1 h2 => by
  cases j with
  | zero => simp at h1 h2; subst h1; subst h2; exact h
  | succ j => exact k.2 j p' v' (by simpa using h1) (by simpa using h2)⟩
theorem PRs.app {ps ps' : List PV} {cs cs' : List Value} (h : PRs W ps cs) (k : PRs W ps' cs') : PRs W (ps ++ ps') (cs ++ cs') := by
  induction ps generalizing cs with
  | nil =>
    have : cs = [] := List.eq_nil_of_length_eq_zero h.1
    subst this; exact k
  | cons p r ih =>
    cases cs with
    | nil => have := h.1; simp at this
    | cons v c => exact .cons (h.2 0 p v rfl rfl) (ih ⟨by have := h.1; simpa using this, fun j p' v' h1 h2 => h.2 (j + 1) p' v' (by simpa using h1) (by simpa using h2)⟩)
theorem split2 {α : Type} (cs : List α) {a b : Nat} (h : cs.length = a + b) : cs = (cs.drop 0).take a ++ (cs.drop a).take b := by
  rw [List.drop_zero, List.take_of_length_le (l := cs.drop a) (by simp; omega), List.take_append_drop]
theorem split3 {α : Type} (cs : List α) {a b c : Nat} (h : cs.length = a + b + c) : cs = (cs.drop 0).take a ++ (cs.drop a).take b ++ (cs.drop (a + b)).take c := by
  rw [List.drop_zero, List.take_of_length_le (l := cs.drop (a + b)) (by simp; omega)]
  rw [List.append_assoc, ← List.drop_drop, List.take_append_drop, List.take_append_drop]
theorem split4 {α : Type} (cs : List α) (h : cs.length = 4) : cs = (cs.drop 0).take 1 ++ (cs.drop 1).take 1 ++ (cs.drop 2).take 1 ++ (cs.drop 3).take 1 := by
  match cs, h with
  | [a, b, c, d], _ => rfl
theorem one_int {n : Nat} {cs : List Value} {y : DataW H × List MemPlace} (h : DataW.trod enc Try.prog W base spare held n 3 cs = some y) : ∃ x : Int, cs = [.int .i64 x] := by
  obtain ⟨x, hx, _, wx⟩ := DataW.trod_int (by kernel_rfl : Try.prog.underlying 3 = some (.int .i64)) h
  exact ⟨x, hx⟩
theorem one_bool {n : Nat} {cs : List Value} {y : DataW H × List MemPlace} (h : DataW.trod enc Try.prog W base spare held n 4 cs = some y) : ∃ x, cs = [.bool x] := by
  obtain ⟨x, hx, _⟩ := DataW.trod_bool (by kernel_rfl : Try.prog.underlying 4 = some .bool) h
  exact ⟨x, hx⟩
theorem pick_of {n : Nat} {cs : List Value} {y : DataW H × List MemPlace} (h : DataW.trod enc Try.prog W base spare held n 44 cs = some y) : ∃ o f : Int, cs = [.int .i64 o, .int .i64 f] := by
  obtain ⟨xs, m, _, _, hl, hx, hf⟩ := DataW.trod_struct (P := Try.prog) (t := 44) rfl h
  have hx' : xs.length = 2 := hx
  have f0 := hf 0 _ rfl
  have f1 := hf 1 _ rfl
  rw [List.getElem?_eq_getElem (by omega)] at f0 f1
  obtain ⟨o, e0⟩ := one_int f0
  obtain ⟨f, e1⟩ := one_int f1
  have hc : Try.prog.cellsOf 3 = 1 := by kernel_rfl
  have hcl : Try.prog.cellsOf 44 = 2 := by kernel_rfl
  rw [hcl] at hl
  have hs := split2 cs (a := 1) (b := 1) hl
  refine ⟨o, f, ?_⟩
  rw [hs]
  change (cs.drop 0).take (Try.prog.cellsOf 3) = _ at e0
  rw [hc] at e0
  change (cs.drop 1).take (Try.prog.cellsOf 3) = _ at e1
  rw [hc] at e1
  rw [e0, e1]; rfl
theorem touch_of {n : Nat} {cs : List Value} {y : DataW H × List MemPlace} (h : DataW.trod enc Try.prog W base spare held n 40 cs = some y) : ∃ x : Tc, PRs W (tcC x) cs := by
  obtain ⟨xs, m, _, _, hl, hx, hf⟩ := DataW.trod_struct (P := Try.prog) (t := 40) rfl h
  have hx' : xs.length = 4 := hx
  have f0 := hf 0 _ rfl
  have f1 := hf 1 _ rfl
  have f2 := hf 2 _ rfl
  have f3 := hf 3 _ rfl
  rw [List.getElem?_eq_getElem (by omega)] at f0 f1 f2 f3
  obtain ⟨a, e0⟩ := one_int f0
  obtain ⟨b, e1⟩ := one_int f1
  obtain ⟨c, e2⟩ := one_int f2
  obtain ⟨d, e3⟩ := one_bool f3
  have hc : Try.prog.cellsOf 3 = 1 := by kernel_rfl
  have hb : Try.prog.cellsOf 4 = 1 := by kernel_rfl
  have hcl : Try.prog.cellsOf 40 = 4 := by kernel_rfl
  rw [hcl] at hl
  have hs := split4 cs hl
  refine ⟨⟨a, b, c, d⟩, ?_⟩
  rw [hs]
  change (cs.drop 0).take (Try.prog.cellsOf 3) = _ at e0
  rw [hc] at e0
  change (cs.drop 1).take (Try.prog.cellsOf 3) = _ at e1
  rw [hc] at e1
  change (cs.drop 2).take (Try.prog.cellsOf 3) = _ at e2
  rw [hc] at e2
  change (cs.drop 3).take (Try.prog.cellsOf 4) = _ at e3
  rw [hb] at e3
  rw [e0, e1, e2, e3]
  exact .cons (.val _ rfl) (.cons (.val _ rfl) (.cons (.val _ rfl) (.cons (.val _ rfl) .nil)))
theorem sl_pr {α : Type} {n : Nat} {g : α → List PV} {e t : TypeId} (hu : Try.prog.underlying t = some (.slice e)) (hc : Try.prog.cellsOf e = n) (hg : ∀ x, (g x).length = n) (hn : 0 < n)
    (hel : ∀ m cs y, DataW.trod enc Try.prog W base spare held m e cs = some y → ∃ x, PRs W (g x) cs) {m : Nat} {cs : List Value} {y : DataW H × List MemPlace} (h : DataW.trod enc Try.prog W base spare held m t cs = some y) :
    ∃ (L : List α) (v : Value), cs = [v] ∧ PR (fun _ => False) W (.seq n (L.map g)) v := by
  rcases DataW.trod_slice hu h with ⟨h0, _⟩ | ⟨a, len, cap, elems, rest, k, _, hcs, _, _, hlc, hmax, hlen, hel', _⟩
  · exact ⟨[], _, h0, .nil n none 0 fun _ => rfl⟩
  · have hall : ∀ i, i < len → ∃ (x : α) (c : List Value), PRs W (g x) c ∧ ∀ j, j < n → W.cell? ((a.add (i * n)).add j) = c[j]? := fun i hi => by
      have hE := hel' i hi
      rw [List.getElem?_eq_getElem (by omega), Option.bind_eq_some_iff, hc] at hE
      obtain ⟨cs, hcs, hy⟩ := hE
      obtain ⟨_, hl, hat⟩ := World.cells?_some hcs
      obtain ⟨x, hx⟩ := hel _ _ _ hy
      exact ⟨x, cs, hx, fun j hj => hat j hj⟩
    by_cases h0 : 0 < len
    · obtain ⟨e0, c0, hp0, hc0⟩ := hall 0 h0
      have hl0 : c0.length = n := by rw [hp0.1, hg]
      have hc00 := hc0 0 hn
      obtain ⟨b, off, spot⟩ := a
      rw [List.getElem?_eq_getElem (by omega)] at hc00
      have hspot : spot = none := by
        have := World.cell?_spot hc00
        simpa [Addr.add] using this
      subst hspot
      have hall2 : ∀ i, i < len → ∃ (x : α) (c : List Value), PRs W (g x) c ∧ ∀ j, j < n → W.cell? ⟨b, off + i * n + j, none⟩ = c[j]? := fun i hi => by
        obtain ⟨x, c, h1, h2⟩ := hall i hi
        refine ⟨x, c, h1, fun j hj => ?_⟩
        have := h2 j hj
        rw [Go.WideShapes.add_plain, Go.WideShapes.add_plain] at this
        exact this
      have hOld : Old b W := by
        obtain ⟨x, c, h1, h2⟩ := hall2 0 h0
        have h3 := h2 0 hn
        have hl1 : c.length = n := by rw [h1.1, hg]
        rw [List.getElem?_eq_getElem (by omega)] at h3
        exact Old.of_cell h3
      let X : Fin len → α := fun i => (hall2 i.1 i.2).choose
      have hX : ∀ i : Fin len, ∃ c : List Value, PRs W (g (X i)) c ∧ ∀ j, j < n → W.cell? ⟨b, off + i.1 * n + j, none⟩ = c[j]? := fun i => (hall2 i.1 i.2).choose_spec
      have hlen2 : (((List.finRange len).map X).map g).length = len := by simp
      refine ⟨(List.finRange len).map X, .slice (some ⟨b, off, none⟩) (((List.finRange len).map X).map g).length cap, by rw [hcs, hlen2], ?_⟩
      have key : ∀ k r j x, (((List.finRange len).map X).map g)[k]? = some r → r[j]? = some x → ∃ v, W.cell? ⟨b, off + k * n + j, none⟩ = some v ∧ PR (fun _ => False) W x v := fun k r j x hk hx => by
        simp only [List.getElem?_map, Option.map_eq_some_iff] at hk
        obtain ⟨y, ⟨i, hi, rfl⟩, rfl⟩ := hk
        have hki : i.1 = k := by
          obtain ⟨h1, h2⟩ := List.getElem?_eq_some_iff.1 hi
          rw [← h2]; simp
        obtain ⟨c, h1, h2⟩ := hX i
        have hjn : j < n := by rw [← hg (X i)]; exact (List.getElem?_eq_some_iff.1 hx).1
        have hcl : c.length = n := by rw [h1.1, hg]
        have h3 := h2 j hjn
        rw [hki, List.getElem?_eq_getElem (by omega)] at h3
        exact ⟨_, h3, h1.2 j x _ hx (List.getElem?_eq_getElem (by omega))⟩
      refine .seq n b off cap _ (fun k j => (W.cell? ⟨b, off + k * n + j, none⟩).getD undef) hOld id (by rw [hlen2]; exact hlc) hmax (fun r hr => ?_) (fun k r j x hk hx => ?_) (fun k r j x hk hx => ?_)
      · obtain ⟨y, _, rfl⟩ := List.mem_map.1 hr; exact hg y
      · obtain ⟨v, h1, _⟩ := key k r j x hk hx
        rw [h1]; rfl
      · obtain ⟨v, h1, h2⟩ := key k r j x hk hx
        rw [h1]; exact h2
    · obtain rfl : len = 0 := by omega
      exact ⟨[], _, hcs, .nil n (some a) cap fun e => by cases e⟩
theorem step_of {n : Nat} {cs : List Value} {y : DataW H × List MemPlace} (h : DataW.trod enc Try.prog W base spare held n 48 cs = some y) : ∃ s : St, PRs W (stC s) cs := by
  obtain ⟨xs, m, _, _, hl, hx, hf⟩ := DataW.trod_struct (P := Try.prog) (t := 48) rfl h
  have hx' : xs.length = 3 := hx
  have f0 := hf 0 _ rfl
  have f1 := hf 1 _ rfl
  have f2 := hf 2 _ rfl
  rw [List.getElem?_eq_getElem (by omega)] at f0 f1 f2
  obtain ⟨g, c, e0⟩ := pick_of f0
  obtain ⟨gs, gv, e1, r1⟩ := sl_pr (e := 3) (n := 1) (g := inC) (by kernel_rfl) (by kernel_rfl) (fun _ => rfl) (by omega) (fun m cs y h => by obtain ⟨x, hx⟩ := one_int h; subst hx; exact ⟨x, .cons (.val _ rfl) .nil⟩) f1
  obtain ⟨ts, tv, e2, r2⟩ := sl_pr (e := 40) (n := 4) (g := tcC) (by kernel_rfl) (by kernel_rfl) (fun _ => rfl) (by omega) (fun m cs y h => touch_of h) f2
  have h0 : Try.prog.cellsOf 44 = 2 := by kernel_rfl
  have h1 : Try.prog.cellsOf 45 = 1 := by kernel_rfl
  have h2 : Try.prog.cellsOf 46 = 1 := by kernel_rfl
  have hcl : Try.prog.cellsOf 48 = 4 := by kernel_rfl
  rw [hcl] at hl
  have hs := split3 cs (a := 2) (b := 1) (c := 1) hl
  refine ⟨⟨g, c, gs, ts⟩, ?_⟩
  rw [hs]
  change (cs.drop 0).take (Try.prog.cellsOf 44) = _ at e0
  rw [h0] at e0
  change (cs.drop 2).take (Try.prog.cellsOf 45) = _ at e1
  rw [h1] at e1
  change (cs.drop (2 + 1)).take (Try.prog.cellsOf 46) = _ at e2
  rw [h2] at e2
  rw [e0, e1, e2]
  exact .cons (.val _ rfl) (.cons (.val _ rfl) (.cons r1 (.cons r2 .nil)))
theorem thread_of {n : Nat} {cs : List Value} {y : DataW H × List MemPlace} (h : DataW.trod enc Try.prog W base spare held n 30 cs = some y) : ∃ l : List St, PRs W [thP l] cs := by
  obtain ⟨l, v, rfl, hp⟩ := sl_pr (e := 48) (n := 4) (g := stC) (by kernel_rfl) (by kernel_rfl) (fun _ => rfl) (by omega) (fun m cs y h => step_of h) h
  exact ⟨l, .cons hp .nil⟩
theorem slice_of_cells {P : Program} {w : World} {r : Reach} {base : Nat} {t e : TypeId} {v x : Value} (hu : P.underlying t = some (.slice e)) (hok : Value.okWide P w r base t v) (h : v.cells.toList = [x]) : v = x := by
  unfold Value.okWide at hok
  rw [hu] at hok
  cases v <;> simp [Value.cells] at h <;> first | exact h | (simp [Cell.okWide, Cell.ok, hu] at hok)
theorem open_threads {r : Reach} {v : Value} {d : DataW H} {p : List MemPlace} (hval : Value.okWide Try.prog W r base 22 v)
    (h : DataW.Trod enc Try.prog W 0 (fun _ => true) true 22 v d p) : ∃ ths : List (List St), PR (fun _ => False) W (thsP ths) v := by
  obtain ⟨fuel, h⟩ := h
  obtain ⟨ths, x, e, hp⟩ := sl_pr (e := 30) (n := 1) (g := fun l => [thP l]) (by kernel_rfl) (by kernel_rfl) (fun _ => rfl) (by omega) (fun m cs y h => thread_of h) h
  rw [slice_of_cells (e := 30) (by kernel_rfl) hval e]
  exact ⟨ths, hp⟩
theorem Try.own : ownKnob Try.prog.godebug = none := by kernel_rfl
theorem PureC.gives {P : Program} {f : FuncId} {xs : List AV} {b : Bool} {vs : Array Value} (h : PureC P f xs (.bool b)) (hx : ARs 0 (fun _ => False) noLoc W xs vs.toList) : Calls P f vs W (Gives (.bool b) W) := by
  have := h (fun _ => False) W vs.toList (fun _ h => h.elim) hx
  refine Calls.mono this fun e w' ⟨v, h1, h2, h3⟩ => ?_
  subst h1
  exact ⟨by rw [h3.val], gw_of_below h2.toBelow⟩
end Go.Proofs.Ytbhkcejjehgfcaa
namespace Go.Proofs.Ytbhkcejjehgfcaa
open Go.RowKit Go.Sort Go.ChangeShapes Go.WideShapes Go.ChangeAt
theorem Try.laidOut : laidOutB Try.prog = true := by kernel_rfl
end Go.Proofs.Ytbhkcejjehgfcaa
/- 'the runs found are complete, pairwise not equivalent, and every complete run is equivalent to one of them' -/
namespace Go.Proofs.Ytbhkcejjehgfcaa
open Go.RowKit Go.Sort Go.ChangeShapes Go.WideShapes Go.ChangeAt
theorem has_u8 {n : Int} (h : IntKind.u8.has n) : 0 ≤ n ∧ n < 256 := by
  simp only [IntKind.has, IntKind.min, IntKind.max, IntKind.bits, IntKind.signed] at h
  simp at h; omega
section
variable {H : Type} {enc : TypeId × Value → H} {W : World} {base : Nat} {spare : Nat → Bool} {held : Bool}
set_option maxRecDepth 100000 in
theorem one_u8 {n : Nat} {cs : List Value} {y : DataW H × List MemPlace} (h : DataW.trod enc Try.prog W base spare held n 5 cs = some y) : ∃ x : {x : Nat // x < 256}, PRs W [.val (.int .u8 (x.1 : Int))] cs := by
  obtain ⟨x, hx, _, wx⟩ := DataW.trod_int (by kernel_rfl : Try.prog.underlying 5 = some (.int .u8)) h
  have hh := has_u8 (n := x) (by simpa [Lit.wf, IntKind.has] using wx)
  refine ⟨⟨x.toNat, by omega⟩, ?_⟩
  rw [hx]
  have e : ((x.toNat : Nat) : Int) = x := by omega
  simp only [e]
  exact .cons (.val _ rfl) .nil
set_option maxRecDepth 100000 in
theorem open_script {r : Reach} {v : Value} {d : DataW H} {p : List MemPlace} (hval : Value.okWide Try.prog W r base 29 v)
    (h : DataW.Trod enc Try.prog W 0 (fun _ => true) true 29 v d p) : ∃ scr : List Nat, (∀ x ∈ scr, x < 256) ∧ PR (fun _ => False) W (scrP scr) v := by
  obtain ⟨fuel, h⟩ := h
  obtain ⟨l, x, e, hp⟩ := sl_pr (e := 5) (n := 1) (g := fun x : {x : Nat // x < 256} => [.val (.int .u8 (x.1 : Int))]) (by kernel_rfl) (by kernel_rfl) (fun _ => rfl) (by omega) (fun m cs y h => one_u8 h) h
  rw [slice_of_cells (e := 5) (by kernel_rfl) hval e]
  refine ⟨l.map (·.1), fun x hx => ?_, ?_⟩
  · obtain ⟨y, _, rfl⟩ := List.mem_map.1 hx; exact y.2
  · have e2 : scrP (l.map (·.1)) = .seq 1 (l.map fun x : {x : Nat // x < 256} => [.val (.int .u8 (x.1 : Int))]) := by simp [scrP]
    rw [e2]; exact hp
end
set_option maxRecDepth 100000 in
theorem SleepRepresents_lifted (os : Os) (started : os.Started) (H : Type) (enc : TypeId × Value → H) :
    ReturnsInHanded {} Try.checked os 6 .any (Rows.sleepRepresentsSpec.pre6 enc Try.prog Try.f6 Rows.sleepRepresentsRow.domain false) (Rows.sleepRepresentsSpec.post enc Try.prog Try.f6 false true false false) := by
  refine law_lifted (C := Try.checked) (B := 4) Try.own started (by kernel_rfl) Try.func6
    (ChangeSpec.witness6 (enc := enc) (C := Try.checked) false ⟨#[], #[.slice none 0 0, .slice none 0 0], []⟩ 8 (by kernel_rfl) (by kernel_rfl) (by kernel_rfl) (by kernel_rfl)) Try.laidOut (by kernel_rfl) (by kernel_rfl) (by kernel_rfl) rfl
    (fun ds h => by match ds, h with | [_, _], _ => rfl) ?_
  intro W base args ds p hval0 hA0 hlt hnf hw hsh
  have hval : ∀ (j : Nat) t v, Try.f6.params[j]? = some t → args[j]? = some v → Value.okWide Try.prog W .any base t v := hval0
  have hA : DataW.TrodAll enc Try.prog W 0 (fun _ => true) true Try.f6.params.toList args.toList ds p := hA0
  clear hval0 hA0
  rw [Try.params6] at hA hval
  obtain ⟨v0, v1, d0, d1, p0, p1, rfl, rfl, rfl, h0, h1⟩ := trodAll_two hA
  obtain ⟨ths, hp⟩ := open_threads (hval 0 22 _ rfl rfl) h0
  obtain ⟨scr, hs, hp1⟩ := open_script (hval 1 29 _ rfl rfl) h1
  refine (sleepRep_ok ths scr hs).gives ⟨rfl, fun j x v hx hv => ?_⟩
  match j, hx, hv with
  | 0, hx, hv => cases hx; cases hv; exact .p _ _ hp
  | 1, hx, hv => cases hx; cases hv; exact .p _ _ hp1
theorem SleepRepresents_holds : Rows.SleepRepresentsSaid :=
  OpenClaim.holds_of_wide 6 Try.f6 rfl rfl rfl rfl rfl rfl rfl ⟨rfl, rfl, rfl, rfl, rfl⟩ rfl rfl rfl rfl rfl (by kernel_rfl) Try.func6 (by kernel_rfl)
    (of_decide_eq_true (by kernel_rfl)) (by unfold Func.isWrapper; first | (rw [if_pos (by decide +kernel)]; kernel_rfl) | (rw [if_neg (by decide +kernel)]; exact ⟨rfl, rfl⟩))
    (fun os started H enc _ => SleepRepresents_lifted os started H enc)
end Go.Proofs.Ytbhkcejjehgfcaa
