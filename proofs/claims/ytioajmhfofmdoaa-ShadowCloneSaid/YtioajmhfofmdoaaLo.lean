/- Locations of the given memory: the iterator. -/
import Derived.Test.YtioajmhfofmdoaaSd
import Derived.Test.YtioajmhfofmdoaaSc
import Derived.Test.YtioajmhfofmdoaaAg
import Derived.Shelf.RegionOpen
namespace Go.Proofs.Ytioajmhfofmdoaa
open Go.RowKit Go.Sort Go.Maps Go.Shelf

attribute [local go_sem] Oper.semAt_some

/-- What a round that goes on keeps: cells that are no int's; maps that lay ahead of the loop. -/
structure KpL (n0 : Nat) (W W' : World) : Prop where
  cells : ∀ (k : Nat) (c : Array Value) (t : TypeId) (z : Nat × Nat), t ≠ 3 → W.heap[k]? = some (Obj.cells c t z) → W'.heap[k]? = some (Obj.cells c t z)
  maps : ∀ (k : Nat) (es : Array MapEntry) (ck : Nat), k < n0 → W.heap[k]? = some (Obj.map es ck) → W'.heap[k]? = some (Obj.map es ck)
  size : W.heap.size ≤ W'.heap.size
theorem kpL_t {n0 : Nat} {A B C : World} (h : KpL n0 A B) (k : KpL n0 B C) : KpL n0 A C :=
  ⟨fun i c t z ht hc => k.cells i c t z ht (h.cells i c t z ht hc), fun i es ck hi hc => k.maps i es ck hi (h.maps i es ck hi hc), Nat.le_trans h.size k.size⟩
theorem kpL_b (n0 : Nat) (W : World) (l : Nat) (o o' : Obj) (hl : n0 ≤ l) (h : W.heap[l]? = some o) (ho : o.isCells = false) (_ : o.isWalk = false) : KpL n0 W (W.putObj l o') := by
  refine ⟨fun k c t z _ hc => ?_, fun k es ck hk hc => ?_, by simp⟩
  · by_cases e : k = l
    · subst e; rw [h] at hc; cases hc; cases ho
    · rw [World.putObj_heap_other e]; exact hc
  · rw [World.putObj_heap_other (by omega)]; exact hc
theorem kpL_g {n0 : Nat} {W W' : World} (h : W.grownBy W' none) : KpL n0 W W' :=
  ⟨fun k c t z _ hc => (h.block k (Array.getElem?_eq_some_iff.1 hc).1 (by simp)).trans hc, fun k es ck _ hc => (h.block k (Array.getElem?_eq_some_iff.1 hc).1 (by simp)).trans hc, h.size⟩
theorem MemAt.kp {T : Nat → Prop} {B n0 : Nat} {w w' : World} {bm bp tk n : Nat} {D : DataW Nat} {M : Int → Int → Wd} (h : MemAt T B w bm bp tk n D M) (hbp : bp < n0) (k : KpL n0 w w') : MemAt T B w' bm bp tk n D M := by
  refine ⟨k.cells _ _ _ _ (by decide) h.cell, ?_, fun o p hp => ?_, h.apart, h.keys, h.tok, fun t ht => ?_, h.mine⟩
  · obtain ⟨es, ck, hb, rest⟩ := h.own
    exact ⟨es, ck, k.maps _ _ _ hbp hb, rest⟩
  · rcases h.page o p hp with h1 | ⟨b, t, h1, h2, h3, h4⟩
    · exact .inl h1
    · exact .inr ⟨b, t, h1, h2, k.cells _ _ _ _ (by decide) h3, h4⟩
  · obtain ⟨c, hc⟩ := h.toks t ht
    exact ⟨c, k.cells _ _ _ _ (by decide) hc⟩
theorem KeyRow.kp {B n0 : Nat} {w w' : World} {v : Value} {ps : List (Int × Int)} (h : KeyRow B w v ps) (k : KpL n0 w w') : KeyRow B w' v ps := by
  obtain ⟨ad, cap, e, h⟩ := h
  refine ⟨ad, cap, e, fun h0 => ?_⟩
  obtain ⟨g, c, z, e, hB, hg, hc⟩ := h h0
  exact ⟨g, c, z, e, hB, k.cells _ _ _ _ (by decide) hg, hc⟩

/-- The locations of a page whose words are not zero. -/
def pageK (M : Int → Int → Wd) (q : Int × Int) : Nat → List (Int × Int)
  | 0 => []
  | i + 1 => pageK M q i ++ if zeroM (M q.1 (q.2 * 16 + i)) then [] else [(q.1, q.2 * 16 + i)]
def pagesL (M : Int → Int → Wd) (ps : List (Int × Int)) : List (Int × Int) := ps.flatMap fun q => pageK M q 16
theorem pagesL_take (M : Int → Int → Wd) (ps : List (Int × Int)) {k : Nat} (h : k < ps.length) : pagesL M (ps.take (k + 1)) = pagesL M (ps.take k) ++ pageK M ps[k] 16 := by
  unfold pagesL
  rw [List.take_succ_eq_append_getElem h, List.flatMap_append]
  simp
theorem pageK_pre (M : Int → Int → Wd) (q : Int × Int) : ∀ i j, i ≤ j → pageK M q i <+: pageK M q j
  | i, 0, h => by obtain rfl : i = 0 := by omega
                  exact List.prefix_refl _
  | i, j + 1, h => by
    by_cases e : i = j + 1
    · subst e; exact List.prefix_refl _
    · exact (pageK_pre M q i j (by omega)).trans (List.prefix_append _ _)
theorem pagesL_pre (M : Int → Int → Wd) (ps : List (Int × Int)) {k : Nat} : pagesL M (ps.take k) <+: pagesL M ps := by
  unfold pagesL
  conv => rhs; rw [← List.take_append_drop k ps, List.flatMap_append]
  exact List.prefix_append _ _

/-- Between two rounds. -/
structure StL (T : Nat → Prop) (B : Nat) (W wr : World) (bm bp tk nn Bx : Nat) (D : DataW Nat) (M : Int → Int → Wd) (v : Value) (ps : List (Int × Int)) (J : List (Int × Int) → World → Prop) (pre : List (Int × Int)) : Prop where
  mem : MemAt T B wr bm bp tk nn D M
  box : wr.heap[Bx]? = some (.cells #[.pointer (some ⟨bm, 0, none⟩)] 26 (0, 0))
  keys : KeyRow W.heap.size wr v ps
  inv : J pre wr
  size : W.heap.size ≤ wr.heap.size

theorem index_pw (m : Nat → Wd) {j : Nat} (hj : j < 16) (w : World) : (Instr.index 68 (.agg (pw m)) (.int .i64 (j : Int))).run Try.prog w = .ok (wv (m j)) w := by
  have hu : Try.prog.underlying 68 = some (.array 16 37) := by kernel_rfl
  have hs : ∀ w, (sizeOf 37).run Try.prog w = .ok 13 w := fun w => by kernel_rfl
  have hp := pw_part m hj w
  have hj' : (j : Int) < 16 := by omega
  simp [Instr.index, asIntOf, run_underlying hu, hs, hp]
  intro h
  omega
theorem StL.grown {T : Nat → Prop} {B n0 : Nat} {W wr w' : World} {bm bp tk nn Bx : Nat} {D : DataW Nat} {M : Int → Int → Wd} {v : Value} {ps : List (Int × Int)} {J : List (Int × Int) → World → Prop} {pre : List (Int × Int)} (h : StL T B W wr bm bp tk nn Bx D M v ps J pre)
    (hbp : bp < n0) (hJ : AbidesFrom W.heap.size J) (hg : wr.grownBy w' none) : StL T B W w' bm bp tk nn Bx D M v ps J pre :=
  ⟨h.mem.kp hbp (kpL_g hg), (kpL_g (n0 := n0) hg).cells _ _ _ _ (by decide) h.box, h.keys.kp (kpL_g (n0 := n0) hg), hJ _ _ _ none h.inv hg (fun r e => by cases e), Nat.le_trans h.size hg.size⟩
theorem StL.round {T : Nat → Prop} {B n0 : Nat} {W wr w' : World} {bm bp tk nn Bx : Nat} {D : DataW Nat} {M : Int → Int → Wd} {v : Value} {ps : List (Int × Int)} {J : List (Int × Int) → World → Prop} {pre pre' : List (Int × Int)} (h : StL T B W wr bm bp tk nn Bx D M v ps J pre)
    (hbp : bp < n0) (kp : KpL n0 wr w') (hj : J pre' w') : StL T B W w' bm bp tk nn Bx D M v ps J pre' :=
  ⟨h.mem.kp hbp kp, kp.cells _ _ _ _ (by decide) h.box, h.keys.kp kp, hj, Nat.le_trans h.size kp.size⟩
theorem grown_gw (w : World) (q : Regrown) : w.grownBy (gw w q) none := gw_grown w q
theorem grown_drew (w : World) : w.grownBy w.drew none := ⟨rfl, rfl, rfl, Nat.le_refl _, fun _ _ _ => rfl⟩

set_option maxRecDepth 100000 in
set_option maxHeartbeats 4000000 in
theorem locs_in {T : Nat → Prop} {B : Nat} {W : World} {bm bp tk nn : Nat} {D : DataW Nat} {M : Int → Int → Wd} (F : Fence) (hF : F = Fence.wide) (n l n0 Bx : Nat) (hn : 4 ≤ n) (hM : MemAt T B W bm bp tk nn D M) (hbp : bp < n0) (hnn : nn ≤ 2000) (hfit : ∀ o f, 0 ≤ o → 0 ≤ f → zeroM (M o f) = false → f ≤ 9223372036854775807)
    (hbx : W.heap[Bx]? = some (.cells #[.pointer (some ⟨bm, 0, none⟩)] 26 (0, 0))) (tgt : List (Int × Int)) (htgt : ∀ ps, SortedKeys D ps → pagesL M ps = tgt)
    (J : List (Int × Int) → World → Prop) (hJ : AbidesFrom W.heap.size J)
    (hY : ∀ pre x W1, pre ++ [x] <+: tgt → J pre W1 → YieldAt F (n - 1) Try.prog l #[locv x.1 x.2] W1 fun e W' => e = .returned (.bool true) ∧ J (pre ++ [x]) W' ∧ KpL n0 W1 W') (h0 : J [] W) :
    CallsIn F n Try.prog 27 #[.func (.yield l) #[] #[], .pointer (some ⟨Bx, 0, none⟩)] W fun e W' => (∃ v, e = .returned v) ∧ ∃ xs, xs = tgt ∧ J xs W' := by
  have h1 : 1 ≤ n := by omega
  have hro : F.round = none := by rw [hF]; rfl
  have h26 : F.fn 26 := by rw [hF]; trivial
  have h27 : F.fn 27 := by rw [hF]; trivial
  have h28 : F.fn 28 := by rw [hF]; trivial
  have hwide : ∀ (m : Nat) (c : Code) Q a w, c.wp Try.prog Q a w → c.wpIn F m Try.prog Q a w := by subst hF; exact fun _ _ _ _ _ => wpIn_wide.2
  have hcw : ∀ (m : Nat) f args w R, Calls Try.prog f args w R → CallsIn F m Try.prog f args w R := by subst hF; exact fun _ _ _ _ _ => callsIn_wide.2
  clear hF
  have cx := row_cells hbx 0
  have c0 := row_cells hM.cell 0
  simp at cx c0
  have ox : Old Bx W := Old.of_cell cx
  have o0 : Old bm W := Old.of_cell c0
  have hbA : Below W.heap.size W (W.alloc (.cells #[.map (some bp)] 59)) := (by repeat (first | exact Below.refl _ _ | refine below_gw ?_ (by simp; try omega) _ | refine Below.alloc ?_ (by simp; try omega) _ | refine Below.setCell ?_ (by simp; try omega) _ | refine Below.drew ?_))
  have hsort := sortedKeys_any (W.alloc (.cells #[.map (some bp)] 59)) W.heap.size bp nn D hnn (row_cells (heap_alloc_at' W _ _ rfl) 0) (hM.own.alloc _)
  refine callsIn_of_wp Try.func27 rfl h27 ?_ hro
  simp only [Try.ntmps27, List.size_toArray, List.length_cons, List.length_nil, Nat.reduceAdd, Nat.reduceSub, Array.replicate_succ, Array.replicate_zero, List.push_toArray, List.append_toArray, List.nil_append, List.cons_append]
  gi_wp2_with (first | (gi_at_call 26; refine (keys_in F (n - 1) h26 hro _ _).mono ?_; rintro e w' ⟨rfl, rfl⟩) | (gi_at_call 28; refine (hcw _ _ _ _ _ hsort).mono ?_; rintro e w1 ⟨v, ps, rfl, hsk, hlen, hrow, hb⟩; obtain ⟨ad, cap, rfl, hks⟩ := hrow))
  have hS0 := Lib.hid (show StL T B W w1 bm bp tk nn Bx D M (.slice ad ps.length cap) ps J (pagesL M (ps.take 0)) from by
    have hb1 : Below W.heap.size W w1 := hbA.trans (hb.mono (by simp))
    refine ⟨hM.below hb1, (hb1.block _ (Array.getElem?_eq_some_iff.1 hbx).1).trans hbx, ⟨ad, cap, rfl, fun h0 => ?_⟩, hJ [] W w1 none h0 ⟨hb1.os, hb1.tape, hb1.output, hb1.size, fun k hk _ => hb1.block k hk⟩ (fun r e => by cases e), hb1.size⟩
    obtain ⟨g, c, z, e, hB, hg, hc⟩ := hks h0
    exact ⟨g, c, z, e, by simp at hB; omega, hg, hc⟩)
  have HT := Lib.hid (htgt ps hsk)
  have HSK := Lib.hid hsk
  have HJ := Lib.hid hJ
  have HY := Lib.hid hY
  have HF := Lib.hid hfit
  clear hks hb hsort hbA cx c0 ox o0 htgt hsk hJ hY hM hbx h0 hfit
  gi_loopw [18] (fun i wr => ∃ k : Nat, k ≤ ps.length ∧ i = .int .i64 k ∧ StL T B W wr bm bp tk nn Bx D M (.slice ad ps.length cap) ps J (pagesL M (ps.take k))) (fun i _ => ps.length - (intOf i).toNat)
  case atStart => exact ⟨0, by omega, rfl, hS0.out⟩
  case round =>
    obtain ⟨k, hk, rfl, hst⟩ := hrel
    have HS := Lib.hid hst
    clear hst hS0
    by_cases hlt : k < ps.length
    · have kb : (k : Int) < ps.length := by omega
      obtain ⟨ad', cap', e', hks⟩ := HS.out.keys
      cases e'
      obtain ⟨g, c, z, rfl, hgB, hg, hcs⟩ := hks (by omega)
      have f0 := (row_cells hg (k * 2)).trans (by have := hcs k hlt 0 (by omega); simpa using this)
      have f1 := (row_cells hg (k * 2 + 1)).trans (hcs k hlt 1 (by omega))
      have og : Old g wr := Old.of_cell f0
      obtain ⟨x, hx, hxD⟩ := (HSK.out.mem ps[k]).1 (List.getElem_mem hlt)
      obtain ⟨o, p, b, hpg, hkl, hat⟩ := HS.out.mem.keys _ hxD
      have hq : ps[k] = (o, (p : Int)) := by
        have := kyl_inj x.2.1 x.2.2 hpg.wf.1 hpg.wf.2 hkl
        rw [← hx]; exact Prod.ext this.1 this.2
      rw [hkl] at hat
      have HTK := Lib.hid (pagesL_take M ps hlt)
      have HPR := Lib.hid (pagesL_pre M ps (k := k + 1))
      rw [hq] at HTK
      simp [hq, encK] at f0 f1
      clear hcs hx hxD hkl
      gi_wp2
      rename_i hK
      have hg5 := World.grownBy_alloc wr (.cells #[.int .i64 o, .int .i64 (p : Int)] 67) none
      have hkb := heap_alloc_at' wr (.cells #[.int .i64 o, .int .i64 (p : Int)] 67) wr.heap.size rfl
      have HS5 := Lib.hid (((HS.out.grown hbp HJ.out hg5).grown hbp HJ.out (grown_drew _)))
      clear hg5 hg f0 f1 og hks hgB HS
      generalize wr.heap.size = kb' at *
      generalize wr.alloc (.cells #[.int .i64 o, .int .i64 (p : Int)] 67) = w5 at *
      rcases HS5.out.mem.page o p hpg with ⟨hn, _⟩ | ⟨b', t, hd', _, hrow, _⟩
      · rw [hat] at hn; cases hn
      · rw [hat] at hd'
        cases hd'
        rcases look_pg HS5.out.mem.own hpg.wf.1 hpg.wf.2 with ⟨b', hd', hl⟩ | ⟨hd', _⟩
        · rw [hat] at hd'
          cases hd'
          obtain ⟨m, hm⟩ : ∃ m : Nat → Wd, m = fun i => M o ((p * 16 + i : Nat) : Int) := ⟨_, rfl⟩
          rw [← hm] at hrow
          have HMm := Lib.hid hm
          clear hm
          have cx := row_cells HS5.out.box 0
          have c0 := row_cells HS5.out.mem.cell 0
          have k0 := row_cells (show w5.drew.heap[kb']? = _ from hkb) 0
          have k1 := row_cells (show w5.drew.heap[kb']? = _ from hkb) 1
          simp at cx c0 k0 k1
          have ox : Old Bx w5.drew := Old.of_cell cx
          have o0 : Old bm w5.drew := Old.of_cell c0
          have ok : Old kb' w5.drew := Old.of_cell k0
          have ob : Old b w5.drew := (Array.getElem?_eq_some_iff.1 hrow).1
          refine hwide _ _ _ _ _ ?_
          refine wp_region_qm 10 [] (by kernel_rfl) (by kernel_rfl) (by simp [quietOps, List.range, List.range.loop]; rfl) (by simp [makerOps]; rfl) (by simp; rfl) ?_
          repeat (first | (refine wpG_load_part rfl 68 _ rfl b 0 208 rfl 70 (pgC m t) _ (0, 0) hrow (by kernel_rfl) (by kernel_rfl) (by rw [pgC_size]; omega) (pgC_words _ _) ?_) | (refine wpG_step (fun K hK => ?_); go_simp; first | (refine hK _ ?_; clear hK K)))
          refine wpG_nil ?_
          refine ⟨[], trivial, ?_⟩
          intro bs hls _ _ q1 _
          match bs, hls with
          | [], _ =>
            generalize hA : putMk _ _ _ _ = AA
            simp [putMk] at hA
            subst hA
            refine wpList_nil ?_
            simp only [Exit.then]
            refine hK _ _ ?_
            clear hK
            have HS6 := Lib.hid (HS5.out.grown hbp HJ.out (grown_gw _ q1))
            have HKB := Lib.hid (show (gw w5.drew q1).heap[kb']? = _ from (gw_heap _ _ _ ok.lt).trans (show w5.drew.heap[kb']? = _ from hkb))
            clear cx c0 k0 k1 ox o0 ok ob hrow hl hkb HS5
            generalize gw w5.drew q1 = w6 at *
            gi_wp2
            gi_loopw [31] (fun i wr => ∃ j : Nat, j ≤ 16 ∧ i = .int .i64 j ∧ StL T B W wr bm bp tk nn Bx D M (.slice (some ⟨g, 0, none⟩) ps.length cap) ps J (pagesL M (ps.take k) ++ pageK M (o, (p : Int)) j) ∧ wr.heap[kb']? = some (.cells #[.int .i64 o, .int .i64 (p : Int)] 67 (0, 0))) (fun i _ => 16 - (intOf i).toNat)
            case atStart => exact ⟨0, by omega, rfl, by simpa [pageK] using HS6.out, HKB.out⟩
            case round =>
              obtain ⟨j, hj, rfl, hst7, hkb7⟩ := hrel
              have HS7 := Lib.hid hst7
              have HKB7 := Lib.hid hkb7
              clear hst7 hkb7 HS6 HKB
              by_cases hj16 : j < 16
              · have jb : (j : Int) < 16 := by omega
                have hix := index_pw m hj16
                have k0 := row_cells HKB7.out 0
                have k1 := row_cells HKB7.out 1
                simp at k0 k1
                have ok : Old kb' wr := Old.of_cell k0
                have hmj : m j = M o ((p * 16 + j : Nat) : Int) := by rw [HMm.out]
                have hpk := Lib.hid (show pageK M (o, (p : Int)) (j + 1) = pageK M (o, (p : Int)) j ++ if zeroM (m j) then [] else [(o, (p : Int) * 16 + j)] by rw [pageK, hmj]; simp)
                have hpp := Lib.hid (pageK_pre M (o, (p : Int)) (j + 1) 16 (by omega))
                have hfj := HF.out o ((p * 16 + j : Nat) : Int) hpg.1 (by omega)
                rw [← hmj] at hfj
                clear hmj
                generalize m j = y at *
                have qn : ∀ w, (binOp .neq 37 (wv y) (.agg #[.int .i64 0, .int .i64 0, .bool false, .int .i64 0, .int .i64 0, .int .i64 0, .int .i64 0, .int .i64 0, .int .i64 0, .int .i64 0, .int .i64 0, .int .i64 0, .int .i64 0])).run Try.prog w = .ok (.bool (!zeroM y)) w := fun w => run_neq_wd y wz w
                cases hz : zeroM y
                · rw [hz] at qn
                  have hb := hfj hz
                  have m1 : IntKind.i64.wrap ((p : Int) * 16) = (p : Int) * 16 := by rw [IntKind.wrap_i64]; omega
                  have m2 : IntKind.i64.wrap ((p : Int) * 16 + j) = (p : Int) * 16 + j := by rw [IntKind.wrap_i64]; omega
                  have hg8 := World.grownBy_alloc wr (.cells (wc y) 37) none
                  have HS8 := Lib.hid (HS7.out.grown hbp HJ.out hg8)
                  have HKB8 := Lib.hid ((hg8.block _ ok.lt (by simp)).trans HKB7.out)
                  have hpre : (pagesL M (ps.take k) ++ pageK M (o, (p : Int)) j) ++ [(o, (p : Int) * 16 + j)] = pagesL M (ps.take k) ++ pageK M (o, (p : Int)) (j + 1) := by
                    rw [hpk.out, hz, List.append_assoc]; rfl
                  have hpre2 : pagesL M (ps.take k) ++ pageK M (o, (p : Int)) (j + 1) <+: tgt := by
                    rw [← HT.out]
                    refine List.IsPrefix.trans ?_ HPR.out
                    rw [HTK.out]
                    exact List.prefix_append_right_inj _ |>.2 hpp.out
                  obtain ⟨fn, tmps, assign, body, hy0, hR⟩ := HY.out _ (o, (p : Int) * 16 + j) _ (by rw [hpre]; exact hpre2) HS8.out.inv
                  rw [hpre] at hR
                  have hy : (Instr.yield l #[.agg #[.int .i64 o, .int .i64 ((p : Int) * 16 + j)]]).run Try.prog (wr.alloc (.cells (wc y) 37)) = _ := hy0
                  clear hy0 hpre hpre2 hg8
                  gi_wp2
                  refine hR.mono ?_
                  rintro e W9 ⟨rfl, hJ9, hk9⟩
                  gi_wp2
                  go_roundw
                  case rel => exact ⟨j + 1, by omega, by go_num, HS8.out.round hbp hk9 hJ9, hk9.cells _ _ _ _ (by decide) HKB8.out⟩
                  case measure => simp [intOf]; omega
                · rw [hz] at qn
                  have hg8 := World.grownBy_alloc wr (.cells (wc y) 37) none
                  have HS8 := Lib.hid (HS7.out.grown hbp HJ.out hg8)
                  have HKB8 := Lib.hid ((hg8.block _ ok.lt (by simp)).trans HKB7.out)
                  have hpe : pageK M (o, (p : Int)) (j + 1) = pageK M (o, (p : Int)) j := by rw [hpk.out, hz]; simp
                  have HPE := Lib.hid hpe
                  clear hpe hg8
                  gi_wp2
                  refine ⟨fun _ h => (by cases h), ?_⟩
                  gi_wp2
                  go_roundw
                  case rel => exact ⟨j + 1, by omega, by go_num, by rw [HPE.out]; exact HS8.out, HKB8.out⟩
                  case measure => simp [intOf]; omega
              · obtain rfl : j = 16 := by omega
                have HS9 := Lib.hid (show StL T B W wr bm bp tk nn Bx D M (.slice (some ⟨g, 0, none⟩) ps.length cap) ps J (pagesL M (ps.take (k + 1))) from by rw [HTK.out]; exact HS7.out)
                gi_wp2
                go_roundw
                case rel => exact ⟨k + 1, by omega, by go_num, HS9.out⟩
                case measure => simp [intOf]; omega
        · rw [hat] at hd'; cases hd'
    · have hkl : k = ps.length := by omega
      have hfin := HS.out.inv
      rw [hkl, List.take_length, HT.out] at hfin
      have HFIN := Lib.hid hfin
      clear hfin
      gi_wp2
      (first | refine bodyPost_ret (results_none rfl _ _ _) rfl ?_ | refine bodyPost_end (results_none rfl _ _ _) rfl ?_)
      exact ⟨⟨_, rfl⟩, _, rfl, HFIN.out⟩

end Go.Proofs.Ytioajmhfofmdoaa
