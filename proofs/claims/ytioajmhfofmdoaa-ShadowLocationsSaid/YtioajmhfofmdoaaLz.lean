/- Locations of the given memory: the iterator that may be told to stop. -/
import Derived.Test.YtioajmhfofmdoaaLo
namespace Go.Proofs.Ytioajmhfofmdoaa
open Go.RowKit Go.Sort Go.Maps Go.Shelf

attribute [local go_sem] Oper.semAt_some

set_option maxRecDepth 100000 in
set_option maxHeartbeats 4000000 in
theorem locsX_in {T : Nat → Prop} {B : Nat} {W : World} {bm bp tk nn : Nat} {D : DataW Nat} {M : Int → Int → Wd} (F : Fence) (hF : F = Fence.wide) (n l n0 Bx : Nat) (hn : 4 ≤ n) (hM : MemAt T B W bm bp tk nn D M) (hbp : bp < n0) (hnn : nn ≤ 2000) (hfit : ∀ o f, 0 ≤ o → 0 ≤ f → zeroM (M o f) = false → f ≤ 9223372036854775807)
    (hbx : W.heap[Bx]? = some (.cells #[.pointer (some ⟨bm, 0, none⟩)] 26 (0, 0))) (tgt : List (Int × Int)) (htgt : ∀ ps, SortedKeys D ps → pagesL M ps = tgt)
    (J Jx : List (Int × Int) → World → Prop) (hJ : AbidesFrom W.heap.size J)
    (hY : ∀ pre x W1, pre ++ [x] <+: tgt → J pre W1 → YieldAt F (n - 1) Try.prog l #[locv x.1 x.2] W1 fun e W' => (e = .returned (.bool true) ∧ J (pre ++ [x]) W' ∧ KpL n0 W1 W') ∨ (e = .returned (.bool false) ∧ Jx (pre ++ [x]) W')) (h0 : J [] W) :
    CallsIn F n Try.prog 27 #[.func (.yield l) #[] #[], .pointer (some ⟨Bx, 0, none⟩)] W fun e W' => (∃ v, e = .returned v) ∧ ((∃ xs, xs = tgt ∧ J xs W') ∨ ∃ xs, Jx xs W') := by
  have h1 : 1 ≤ n := by omega
  have hro : F.round = none := by rw [hF]; rfl
  have h26 : F.fn 26 := by rw [hF]; trivial
  have h27 : F.fn 27 := by rw [hF]; trivial
  have h28 : F.fn 28 := by rw [hF]; trivial
  have hwide : ∀ (m : Nat) (c : Code) Q a w, c.wp Try.prog Q a w → c.wpIn F m Try.prog Q a w := by subst hF; exact fun _ _ _ _ _ => wpIn_wide.2
  have hcw : ∀ (m : Nat) f args w R, Calls Try.prog f args w R → CallsIn F m Try.prog f args w R := by subst hF; exact fun _ _ _ _ _ => callsIn_wide.2
  clear hF
  have cx := row_cells hbx 0
  have c0 := row_cells hM.cell 0
  simp at cx c0
  have ox : Old Bx W := Old.of_cell cx
  have o0 : Old bm W := Old.of_cell c0
  have hbA : Below W.heap.size W (W.alloc (.cells #[.map (some bp)] 59)) := (by repeat (first | exact Below.refl _ _ | refine below_gw ?_ (by simp; try omega) _ | refine Below.alloc ?_ (by simp; try omega) _ | refine Below.setCell ?_ (by simp; try omega) _ | refine Below.drew ?_))
  have hsort := sortedKeys_any (W.alloc (.cells #[.map (some bp)] 59)) W.heap.size bp nn D hnn (row_cells (heap_alloc_at' W _ _ rfl) 0) (hM.own.alloc _)
  refine callsIn_of_wp Try.func27 rfl h27 ?_ hro
  simp only [Try.ntmps27, List.size_toArray, List.length_cons, List.length_nil, Nat.reduceAdd, Nat.reduceSub, Array.replicate_succ, Array.replicate_zero, List.push_toArray, List.append_toArray, List.nil_append, List.cons_append]
  gi_wp2_with (first | (gi_at_call 26; refine (keys_in F (n - 1) h26 hro _ _).mono ?_; rintro e w' ⟨rfl, rfl⟩) | (gi_at_call 28; refine (hcw _ _ _ _ _ hsort).mono ?_; rintro e w1 ⟨v, ps, rfl, hsk, hlen, hrow, hb⟩; obtain ⟨ad, cap, rfl, hks⟩ := hrow))
  have hS0 := Lib.hid (show StL T B W w1 bm bp tk nn Bx D M (.slice ad ps.length cap) ps J (pagesL M (ps.take 0)) from by
    have hb1 : Below W.heap.size W w1 := hbA.trans (hb.mono (by simp))
    refine ⟨hM.below hb1, (hb1.block _ (Array.getElem?_eq_some_iff.1 hbx).1).trans hbx, ⟨ad, cap, rfl, fun h0 => ?_⟩, hJ [] W w1 none h0 ⟨hb1.os, hb1.tape, hb1.output, hb1.size, fun k hk _ => hb1.block k hk⟩ (fun r e => by cases e), hb1.size⟩
    obtain ⟨g, c, z, e, hB, hg, hc⟩ := hks h0
    exact ⟨g, c, z, e, by simp at hB; omega, hg, hc⟩)
  have HT := Lib.hid (htgt ps hsk)
  have HSK := Lib.hid hsk
  have HJ := Lib.hid hJ
  have HY := Lib.hid hY
  have HF := Lib.hid hfit
  clear hks hb hsort hbA cx c0 ox o0 htgt hsk hJ hY hM hbx h0 hfit
  gi_loopw [18] (fun i wr => ∃ k : Nat, k ≤ ps.length ∧ i = .int .i64 k ∧ StL T B W wr bm bp tk nn Bx D M (.slice ad ps.length cap) ps J (pagesL M (ps.take k))) (fun i _ => ps.length - (intOf i).toNat)
  case atStart => exact ⟨0, by omega, rfl, hS0.out⟩
  case round =>
    obtain ⟨k, hk, rfl, hst⟩ := hrel
    have HS := Lib.hid hst
    clear hst hS0
    by_cases hlt : k < ps.length
    · have kb : (k : Int) < ps.length := by omega
      obtain ⟨ad', cap', e', hks⟩ := HS.out.keys
      cases e'
      obtain ⟨g, c, z, rfl, hgB, hg, hcs⟩ := hks (by omega)
      have f0 := (row_cells hg (k * 2)).trans (by have := hcs k hlt 0 (by omega); simpa using this)
      have f1 := (row_cells hg (k * 2 + 1)).trans (hcs k hlt 1 (by omega))
      have og : Old g wr := Old.of_cell f0
      obtain ⟨x, hx, hxD⟩ := (HSK.out.mem ps[k]).1 (List.getElem_mem hlt)
      obtain ⟨o, p, b, hpg, hkl, hat⟩ := HS.out.mem.keys _ hxD
      have hq : ps[k] = (o, (p : Int)) := by
        have := kyl_inj x.2.1 x.2.2 hpg.wf.1 hpg.wf.2 hkl
        rw [← hx]; exact Prod.ext this.1 this.2
      rw [hkl] at hat
      have HTK := Lib.hid (pagesL_take M ps hlt)
      have HPR := Lib.hid (pagesL_pre M ps (k := k + 1))
      rw [hq] at HTK
      simp [hq, encK] at f0 f1
      clear hcs hx hxD hkl
      gi_wp2
      rename_i hK
      have hg5 := World.grownBy_alloc wr (.cells #[.int .i64 o, .int .i64 (p : Int)] 67) none
      have hkb := heap_alloc_at' wr (.cells #[.int .i64 o, .int .i64 (p : Int)] 67) wr.heap.size rfl
      have HS5 := Lib.hid (((HS.out.grown hbp HJ.out hg5).grown hbp HJ.out (grown_drew _)))
      clear hg5 hg f0 f1 og hks hgB HS
      generalize wr.heap.size = kb' at *
      generalize wr.alloc (.cells #[.int .i64 o, .int .i64 (p : Int)] 67) = w5 at *
      rcases HS5.out.mem.page o p hpg with ⟨hn, _⟩ | ⟨b', t, hd', _, hrow, _⟩
      · rw [hat] at hn; cases hn
      · rw [hat] at hd'
        cases hd'
        rcases look_pg HS5.out.mem.own hpg.wf.1 hpg.wf.2 with ⟨b', hd', hl⟩ | ⟨hd', _⟩
        · rw [hat] at hd'
          cases hd'
          obtain ⟨m, hm⟩ : ∃ m : Nat → Wd, m = fun i => M o ((p * 16 + i : Nat) : Int) := ⟨_, rfl⟩
          rw [← hm] at hrow
          have HMm := Lib.hid hm
          clear hm
          have cx := row_cells HS5.out.box 0
          have c0 := row_cells HS5.out.mem.cell 0
          have k0 := row_cells (show w5.drew.heap[kb']? = _ from hkb) 0
          have k1 := row_cells (show w5.drew.heap[kb']? = _ from hkb) 1
          simp at cx c0 k0 k1
          have ox : Old Bx w5.drew := Old.of_cell cx
          have o0 : Old bm w5.drew := Old.of_cell c0
          have ok : Old kb' w5.drew := Old.of_cell k0
          have ob : Old b w5.drew := (Array.getElem?_eq_some_iff.1 hrow).1
          refine hwide _ _ _ _ _ ?_
          refine wp_region_qm 10 [] (by kernel_rfl) (by kernel_rfl) (by simp [quietOps, List.range, List.range.loop]; rfl) (by simp [makerOps]; rfl) (by simp; rfl) ?_
          repeat (first | (refine wpG_load_part rfl 68 _ rfl b 0 208 rfl 70 (pgC m t) _ (0, 0) hrow (by kernel_rfl) (by kernel_rfl) (by rw [pgC_size]; omega) (pgC_words _ _) ?_) | (refine wpG_step (fun K hK => ?_); go_simp; first | (refine hK _ ?_; clear hK K)))
          refine wpG_nil ?_
          refine ⟨[], trivial, ?_⟩
          intro bs hls _ _ q1 _
          match bs, hls with
          | [], _ =>
            generalize hA : putMk _ _ _ _ = AA
            simp [putMk] at hA
            subst hA
            refine wpList_nil ?_
            simp only [Exit.then]
            refine hK _ _ ?_
            clear hK
            have HS6 := Lib.hid (HS5.out.grown hbp HJ.out (grown_gw _ q1))
            have HKB := Lib.hid (show (gw w5.drew q1).heap[kb']? = _ from (gw_heap _ _ _ ok.lt).trans (show w5.drew.heap[kb']? = _ from hkb))
            clear cx c0 k0 k1 ox o0 ok ob hrow hl hkb HS5
            generalize gw w5.drew q1 = w6 at *
            gi_wp2
            gi_loopw [31] (fun i wr => ∃ j : Nat, j ≤ 16 ∧ i = .int .i64 j ∧ StL T B W wr bm bp tk nn Bx D M (.slice (some ⟨g, 0, none⟩) ps.length cap) ps J (pagesL M (ps.take k) ++ pageK M (o, (p : Int)) j) ∧ wr.heap[kb']? = some (.cells #[.int .i64 o, .int .i64 (p : Int)] 67 (0, 0))) (fun i _ => 16 - (intOf i).toNat)
            case atStart => exact ⟨0, by omega, rfl, by simpa [pageK] using HS6.out, HKB.out⟩
            case round =>
              obtain ⟨j, hj, rfl, hst7, hkb7⟩ := hrel
              have HS7 := Lib.hid hst7
              have HKB7 := Lib.hid hkb7
              clear hst7 hkb7 HS6 HKB
              by_cases hj16 : j < 16
              · have jb : (j : Int) < 16 := by omega
                have hix := index_pw m hj16
                have k0 := row_cells HKB7.out 0
                have k1 := row_cells HKB7.out 1
                simp at k0 k1
                have ok : Old kb' wr := Old.of_cell k0
                have hmj : m j = M o ((p * 16 + j : Nat) : Int) := by rw [HMm.out]
                have hpk := Lib.hid (show pageK M (o, (p : Int)) (j + 1) = pageK M (o, (p : Int)) j ++ if zeroM (m j) then [] else [(o, (p : Int) * 16 + j)] by rw [pageK, hmj]; simp)
                have hpp := Lib.hid (pageK_pre M (o, (p : Int)) (j + 1) 16 (by omega))
                have hfj := HF.out o ((p * 16 + j : Nat) : Int) hpg.1 (by omega)
                rw [← hmj] at hfj
                clear hmj
                generalize m j = y at *
                have qn : ∀ w, (binOp .neq 37 (wv y) (.agg #[.int .i64 0, .int .i64 0, .bool false, .int .i64 0, .int .i64 0, .int .i64 0, .int .i64 0, .int .i64 0, .int .i64 0, .int .i64 0, .int .i64 0, .int .i64 0, .int .i64 0])).run Try.prog w = .ok (.bool (!zeroM y)) w := fun w => run_neq_wd y wz w
                cases hz : zeroM y
                · rw [hz] at qn
                  have hb := hfj hz
                  have m1 : IntKind.i64.wrap ((p : Int) * 16) = (p : Int) * 16 := by rw [IntKind.wrap_i64]; omega
                  have m2 : IntKind.i64.wrap ((p : Int) * 16 + j) = (p : Int) * 16 + j := by rw [IntKind.wrap_i64]; omega
                  have hg8 := World.grownBy_alloc wr (.cells (wc y) 37) none
                  have HS8 := Lib.hid (HS7.out.grown hbp HJ.out hg8)
                  have HKB8 := Lib.hid ((hg8.block _ ok.lt (by simp)).trans HKB7.out)
                  have hpre : (pagesL M (ps.take k) ++ pageK M (o, (p : Int)) j) ++ [(o, (p : Int) * 16 + j)] = pagesL M (ps.take k) ++ pageK M (o, (p : Int)) (j + 1) := by
                    rw [hpk.out, hz, List.append_assoc]; rfl
                  have hpre2 : pagesL M (ps.take k) ++ pageK M (o, (p : Int)) (j + 1) <+: tgt := by
                    rw [← HT.out]
                    refine List.IsPrefix.trans ?_ HPR.out
                    rw [HTK.out]
                    exact List.prefix_append_right_inj _ |>.2 hpp.out
                  obtain ⟨fn, tmps, assign, body, hy0, hR⟩ := HY.out _ (o, (p : Int) * 16 + j) _ (by rw [hpre]; exact hpre2) HS8.out.inv
                  rw [hpre] at hR
                  have hy : (Instr.yield l #[.agg #[.int .i64 o, .int .i64 ((p : Int) * 16 + j)]]).run Try.prog (wr.alloc (.cells (wc y) 37)) = _ := hy0
                  clear hy0 hpre hpre2 hg8
                  gi_wp2
                  refine hR.mono ?_
                  rintro e W9 (⟨rfl, hJ9, hk9⟩ | ⟨rfl, hJx9⟩)
                  · gi_wp2
                    go_roundw
                    case rel => exact ⟨j + 1, by omega, by go_num, HS8.out.round hbp hk9 hJ9, hk9.cells _ _ _ _ (by decide) HKB8.out⟩
                    case measure => simp [intOf]; omega
                  · gi_wp2
                    (first | refine bodyPost_ret (results_none rfl _ _ _) rfl ?_ | refine bodyPost_end (results_none rfl _ _ _) rfl ?_)
                    exact ⟨⟨_, rfl⟩, .inr ⟨_, hJx9⟩⟩
                · rw [hz] at qn
                  have hg8 := World.grownBy_alloc wr (.cells (wc y) 37) none
                  have HS8 := Lib.hid (HS7.out.grown hbp HJ.out hg8)
                  have HKB8 := Lib.hid ((hg8.block _ ok.lt (by simp)).trans HKB7.out)
                  have hpe : pageK M (o, (p : Int)) (j + 1) = pageK M (o, (p : Int)) j := by rw [hpk.out, hz]; simp
                  have HPE := Lib.hid hpe
                  clear hpe hg8
                  gi_wp2
                  refine ⟨fun _ h => (by cases h), ?_⟩
                  gi_wp2
                  go_roundw
                  case rel => exact ⟨j + 1, by omega, by go_num, by rw [HPE.out]; exact HS8.out, HKB8.out⟩
                  case measure => simp [intOf]; omega
              · obtain rfl : j = 16 := by omega
                have HS9 := Lib.hid (show StL T B W wr bm bp tk nn Bx D M (.slice (some ⟨g, 0, none⟩) ps.length cap) ps J (pagesL M (ps.take (k + 1))) from by rw [HTK.out]; exact HS7.out)
                gi_wp2
                go_roundw
                case rel => exact ⟨k + 1, by omega, by go_num, HS9.out⟩
                case measure => simp [intOf]; omega
        · rw [hat] at hd'; cases hd'
    · have hkl : k = ps.length := by omega
      have hfin := HS.out.inv
      rw [hkl, List.take_length, HT.out] at hfin
      have HFIN := Lib.hid hfin
      clear hfin
      gi_wp2
      (first | refine bodyPost_ret (results_none rfl _ _ _) rfl ?_ | refine bodyPost_end (results_none rfl _ _ _) rfl ?_)
      exact ⟨⟨_, rfl⟩, .inl ⟨_, rfl, HFIN.out⟩⟩

end Go.Proofs.Ytioajmhfofmdoaa
