/- Set of the given memory. -/
import Derived.Test.YtioajmhfofmdoaaSc
namespace Go.Proofs.Ytioajmhfofmdoaa
open Go.RowKit Go.Sort Go.Maps

abbrev SetPost (T : Nat → Prop) (B : Nat) (w : World) (bm bp tk n : Nat) (M' : Int → Int → Wd) (e : Ending) (w' : World) : Prop :=
  e = .returned (.tuple #[]) ∧ ∃ n' D' M2, n' ≤ n + 1 ∧ MemAt T B w' bm bp tk n' D' M2 ∧ (∀ o f, wv (M2 o f) = wv (M' o f)) ∧ Fr tk bp w w' ∧ Below B w w'

set_option maxRecDepth 100000 in
set_option maxHeartbeats 1000000 in
theorem setIn_any {T : Nat → Prop} {B : Nat} {w : World} {bm bp tk n : Nat} {D : DataW Nat} {M : Int → Int → Wd} (h : MemAt T B w bm bp tk n D M) (o : Int) (p i : Nat) (x : Wd) (hi : i < 16) (ho : 0 ≤ o ∧ o ≤ 9223372036854775807) (hf : (p * 16 + i : Int) ≤ 9223372036854775807) (hn : n ≤ 1000) :
    Calls Try.prog 23 #[.pointer (some ⟨bm, 0, none⟩), locv o (p * 16 + i : Int), wv x] w (SetPost T B w bm bp tk n (updM M o ((p * 16 + i : Nat) : Int) x)) := by
  have HM := Lib.hid h
  have hBw : B ≤ w.heap.size := by have := h.mine.1; have := (Array.getElem?_eq_some_iff.1 h.cell).1; omega
  have hw : Below w.heap.size w ((w.alloc (.cells #[.int .i64 o, .int .i64 (p * 16 + i : Int)] 24)).alloc (.cells (wc x) 37)) := (by repeat (first | exact Below.refl _ _ | refine below_gw ?_ (by simp; try omega) _ | refine Below.alloc ?_ (by simp; try omega) _ | refine Below.setCell ?_ (by simp; try omega) _ | refine Below.drew ?_))
  have hW := h.below hw
  have HG := Lib.hid (fun q => getIn_any (hW.gw q) o p i hi ho hf)
  have HU := Lib.hid (fun w => (by have := usable_any o (p * 16 + i : Int) w; rwa [show usM o (p * 16 + i : Int) = true by simp [usM]; omega] at this : Calls Try.prog 25 #[locv o (p * 16 + i : Int)] w (Gives (.bool true) w)))
  have qz : ∀ w, (binOp .eql 37 (wv (M o ((p * 16 + i : Nat) : Int))) (wv x)).run Try.prog w = .ok (.bool (wdE (M o ((p * 16 + i : Nat) : Int)) x)) w := fun w => run_eql_wd _ x w
  have HZ := Lib.hid (rfl : wdE (M o ((p * 16 + i : Nat) : Int)) x = wdE (M o ((p * 16 + i : Nat) : Int)) x)
  have d1 : ((p : Int) * 16 + i).tdiv 16 = p := by rw [Int.tdiv_eq_ediv_of_nonneg (by omega)]; omega
  have d2 : ((p : Int) * 16 + i).tmod 16 = i := by rw [Int.tmod_eq_emod_of_nonneg (by omega)]; omega
  have d3 : IntKind.i64.wrap (p : Int) = p := by rw [IntKind.wrap_i64]; omega
  have d4 : IntKind.i64.wrap (i : Int) = i := by rw [IntKind.wrap_i64]; omega
  have d5 : ((p : Int) * 16 + i) / 16 = p := by omega
  have di : (i : Int) < 16 := by omega
  have d6 : ((p : Int) * 16 + i) % 16 = i := by omega
  have HKY := Lib.hid (key_of o p (wf_i64 (by omega)) (wf_i64 (by omega)))
  clear hW h
  generalize hF : ((p : Int) * 16 + i) = F at *
  generalize hy : M o ((p * 16 + i : Nat) : Int) = y at *
  have HY := Lib.hid hy
  clear hy
  generalize hz : wdE y x = z at *
  cases z
  · have ne1 : (Value.pointer (some ⟨bm, 0, none⟩)) ≠ .pointer none := by simp
    rcases HM.out.page o p ⟨ho.1, ho.2, by omega⟩ with ⟨hd, hzero⟩ | ⟨b, t, hd, ht, hrow, _⟩
    · go_enter Try.func23, Try.ntmps23
      go_wp2
      refine wp_region_gw (by kernel_rfl) (by kernel_rfl) ?_
      repeat (quiet_step (first | (go_at_call 13; exact Gives.call (HG.out _)) | (go_at_call 25; exact Gives.call (HU.out _))))
      refine wpQuiet_nil ?_
      intro _ hw'
      obtain ⟨p1, hw''⟩ := hw'
      subst hw''
      go_wp2
      have HB := Lib.hid (Bx.made w o F (p : Int) x p1)
      generalize World.alloc (gw ((w.alloc (.cells #[.int .i64 o, .int .i64 F] 24)).alloc (.cells (wc x) 37)) p1) (.cells #[.int .i64 o, .int .i64 (p : Int)] 67) = w3 at *
      generalize w.heap.size + 1 + 1 + p1.os.size = kb at *
      have HM3 := Lib.hid (HM.out.below HB.out.below)
      have c0 := row_cells HM3.out.cell 0
      have c1 := row_cells HM3.out.cell 1
      simp at c0 c1
      have k0 := HB.out.key 0
      have k1 := HB.out.key 1
      simp at k0 k1
      have o0 : Old bm w3 := Old.of_cell c0
      have o1 : Old kb w3 := Old.of_cell k0
      have hlook := look_pg HM3.out.own (wf_i64 (by omega : -9223372036854775808 ≤ o ∧ o ≤ 9223372036854775807)) (wf_i64 (x := (p : Int)) (by omega))
      rcases hlook with ⟨b', hd', _⟩ | ⟨hd', hl⟩
      · rw [hd] at hd'; cases hd'
      · refine wp_region_gw (by kernel_rfl) (by kernel_rfl) ?_
        repeat (quiet_step (first | fail))
        refine wpQuiet_nil ?_
        intro _ hw'
        obtain ⟨p2, hw''⟩ := hw'
        subst hw''
        go_wp2_with (refine wpList_build_at rfl 70 _ rfl #[(1, .pointer (some ⟨tk, 0, none⟩))] (by simp; rfl) _ (built_new tk) ?_)
        have HB4 := Lib.hid (HB.out.gw p2)
        have HM4 := Lib.hid (HM3.out.gw p2)
        have hsz3 := HB.out.below.size
        have hmm := HM.out.own.lt
        have hbm := (Array.getElem?_eq_some_iff.1 HM.out.cell).1
        have HS := Lib.hid (show PgSt (gw w3 p2) ((gw w3 p2).alloc (.cells (pgC (fun _ => wz) tk) 70)) bp (w3.heap.size + p2.os.size) (fun j => M o ((p * 16 + j : Nat) : Int)) tk n D by
          have := PgSt.new HM4.out (fun j => M o ((p * 16 + j : Nat) : Int))
          rw [gw_size, pgC_congr hzero] at this
          exact this)
        have HP := Lib.hid (show bp < w.heap.size ∧ (w3.heap.size + p2.os.size < w.heap.size ∨ (gw w3 p2).heap.size ≤ w3.heap.size + p2.os.size) ∧ w3.heap.size + p2.os.size ≠ bp from ⟨hmm, .inr (by simp), by omega⟩)
        have HP4 := Lib.hid (show bm < (gw w3 p2).heap.size ∧ bm ≠ bp ∧ bm ≠ w3.heap.size + p2.os.size from ⟨(Array.getElem?_eq_some_iff.1 HM4.out.cell).1, HM.out.mine.2.2.2.1, by omega⟩)
        have HPB := Lib.hid (show (D.atKey (kyl o p) .nil = .held (w3.heap.size + p2.os.size) ∧ w.heap[w3.heap.size + p2.os.size]? = some (.cells (pgC (fun j => M o ((p * 16 + j : Nat) : Int)) tk) 70 (0, 0))) ∨ w.heap.size ≤ w3.heap.size + p2.os.size from .inr (by omega))
        clear hd hd' c0 c1 k0 k1 o0 o1 hl HM3 HB hsz3 hmm hbm hzero
        generalize (gw w3 p2).alloc (.cells (pgC (fun _ => wz) tk) 70) = wr at *
        generalize gw w3 p2 = w4 at *
        generalize w3.heap.size + p2.os.size = pb at *
        rename_i hK
        obtain ⟨m2, hm2⟩ : ∃ m2, m2 = updP (fun j => M o ((p * 16 + j : Nat) : Int)) i x := ⟨_, rfl⟩
        have hbx := HB4.out.st HS.out HP.out.1 HP.out.2.1
        have l1 := hbx.1 1
        have v0 := hbx.2.1 0
        have v1 := hbx.2.1 1
        have v2 := hbx.2.1 2
        have v3 := hbx.2.1 3
        have v4 := hbx.2.1 4
        have v5 := hbx.2.1 5
        have v6 := hbx.2.1 6
        have v7 := hbx.2.1 7
        have v8 := hbx.2.1 8
        have v9 := hbx.2.1 9
        have v10 := hbx.2.1 10
        have v11 := hbx.2.1 11
        have v12 := hbx.2.1 12
        simp at l1 v0 v1 v2 v3 v4 v5 v6 v7 v8 v9 v10 v11 v12
        obtain ⟨_, _, _, o10, o11, _⟩ := hbx
        refine wp_region_qm 8 [] (by kernel_rfl) (by kernel_rfl) (by simp [quietOps, List.range, List.range.loop]; rfl) (by simp [makerOps]; rfl) (by simp; rfl) ?_
        repeat (refine wpG_step (fun K hK => ?_); go_simp; first | (refine hK _ ?_; clear hK K))
        refine wpG_nil ?_
        refine ⟨[], trivial, ?_⟩
        intro bs hls _ _ q1 _
        match bs, hls with
        | [], _ =>
          generalize hA : putMk _ _ _ _ = AA
          simp [putMk] at hA
          subst hA
          clear l1 v0 v1 v2 v3 v4 v5 v6 v7 v8 v9 v10 v11 v12 o10 o11
          have hs9 := (HS.out.drew).gw q1
          refine wpList_store_at rfl 37 _ _ rfl rfl pb (i * 13) rfl (wc x) rfl 70 (pgC _ tk) hs9.row (by rw [pgC_size]; simp; omega) (by kernel_rfl) (by simp [Value.oneCell']) ?_
          have hs10 := Lib.hid (hs9.set HP.out.2.2 m2)
          rw [pgC_splice _ _ hi, ← hm2]
          have HM2 := Lib.hid hm2
          clear hm2
          clear hs9
          generalize World.setRow _ _ _ = wr2 at *
          refine wpList_nil ?_
          simp only [Exit.then]
          refine hK _ _ ?_
          clear hK
          have c0 := (hs10.out.cell (a := ⟨bm, 0, none⟩) (HP4.out.1) HP4.out.2.1 HP4.out.2.2).trans ((row_cells HM4.out.cell 0).trans rfl)
          have o0 : Old bm wr2 := Old.of_cell c0
          have hbx := HB4.out.st hs10.out HP.out.1 HP.out.2.1
          have k0 := hbx.2.2.1 0
          have k1 := hbx.2.2.1 1
          simp at k0 k1
          obtain ⟨_, _, _, _, _, o1⟩ := hbx
          go_wp2
          rename_i hK
          refine wp_region_qm 6 [] (by kernel_rfl) (by kernel_rfl) (by simp [quietOps, List.range, List.range.loop]; rfl) (by simp [makerOps]; rfl) (by simp; rfl) ?_
          repeat (refine wpG_step (fun K hK => ?_); go_simp; first | (refine hK _ ?_; clear hK K))
          refine wpG_nil ?_
          refine ⟨[], trivial, ?_⟩
          intro bs hls _ _ q1 _
          match bs, hls with
          | [], _ =>
            generalize hA : putMk _ _ _ _ = AA
            simp [putMk] at hA
            subst hA
            clear c0 o0 k0 k1 o1
            have hs11 := (hs10.out.drew).gw q1
            refine wpList_mapUpdate_own _ rfl _ _ _ 59 rfl 67 65 keyed mapU pgR bp n D rfl hs11.own (by simp only [maxLen]; omega) (.agg #[.int .i64 o, .int .i64 (p : Int)]) (.pointer (some ⟨pb, 0, none⟩)) (kyl o p) rfl rfl HKY.out (.held pb) [] rfl ?_
            intro w12 hown12 hgrow12
            have hs12 := Lib.hid (hs11.map HP.out.2.2 hown12 hgrow12)
            clear hs11 hown12 hgrow12
            refine wpList_nil ?_
            simp only [Exit.then]
            refine hK _ _ ?_
            clear hK
            have qz2 : ∀ w, (Op.equalIn 10000 68 (.agg (pw m2)) (.agg (pw fun _ => wz))).run Try.prog w = .ok ((List.range 16).all fun j => wdE (m2 j) wz) w := fun w => run_equalIn_pg 9995 _ _ w
            have hzv := zero_words
            have o3 : Old pb w12 := (Array.getElem?_eq_some_iff.1 hs12.out.row).1
            generalize hz2 : ((List.range 16).all fun j => wdE (m2 j) wz) = z2 at *
            cases z2
            · go_wp2_with (refine wpList_load_part rfl 68 _ rfl pb 0 208 rfl 70 (pgC _ tk) _ (0, 0) hs12.out.row (by kernel_rfl) (by kernel_rfl) (by rw [pgC_size]; omega) (pgC_words _ _) ?_)
              (try simp only [Exit.inBlock, Exit.then])
              have hfin := set_done HM.out ⟨ho.1, ho.2, by omega⟩ hi HB4.out.below (by rw [← HM2.out]; exact hs12.out) HPB.out (by rw [← HM2.out, hz2]; rfl)
              exact bodyPost_ret (results_none rfl _ _ _) rfl ⟨rfl, n + 1, _, _, by omega, hfin.1, fun _ _ => (by first | rfl | rw [show ((p * 16 + i : Nat) : Int) = F by omega]), hfin.2.1, hfin.2.2⟩
            · have c0 := (hs12.out.cell (a := ⟨bm, 0, none⟩) (HP4.out.1) HP4.out.2.1 HP4.out.2.2).trans ((row_cells HM4.out.cell 0).trans rfl)
              have o0 : Old bm w12 := Old.of_cell c0
              have hbx := HB4.out.st hs12.out HP.out.1 HP.out.2.1
              have k0 := hbx.2.2.1 0
              have k1 := hbx.2.2.1 1
              simp at k0 k1
              obtain ⟨_, _, _, _, _, o1⟩ := hbx
              go_wp2_with (refine wpList_load_part rfl 68 _ rfl pb 0 208 rfl 70 (pgC _ tk) _ (0, 0) hs12.out.row (by kernel_rfl) (by kernel_rfl) (by rw [pgC_size]; omega) (pgC_words _ _) ?_)
              refine wp_region_qm 5 [] (by kernel_rfl) (by kernel_rfl) (by simp [quietOps, List.range, List.range.loop]; rfl) (by simp [makerOps]; rfl) (by simp; rfl) ?_
              repeat (refine wpG_step (fun K hK => ?_); go_simp; first | (refine hK _ ?_; clear hK K))
              refine wpG_nil ?_
              refine ⟨[], trivial, ?_⟩
              intro bs hls _ _ q1 _
              match bs, hls with
              | [], _ =>
                generalize hA : putMk _ _ _ _ = AA
                simp [putMk] at hA
                subst hA
                clear c0 o0 k0 k1 o1
                have hs13 := (hs12.out.drew).gw q1
                refine wpList_delete_own _ rfl _ _ 59 67 rfl 65 keyed mapU pgR bp (n + 1) _ rfl hs13.own (.agg #[.int .i64 o, .int .i64 (p : Int)]) (kyl o p) rfl HKY.out ?_
                intro w14 hown14 hturn14
                have hs14 := hs13.map HP.out.2.2 hown14 hturn14.grown
                refine wpList_nil ?_
                have hfin := set_done HM.out ⟨ho.1, ho.2, by omega⟩ hi HB4.out.below (by rw [← HM2.out]; exact hs14) HPB.out (by rw [← HM2.out, hz2]; rfl)
                exact bodyPost_ret (results_none rfl _ _ _) rfl ⟨rfl, n + 1, _, _, by omega, hfin.1, fun _ _ => (by first | rfl | rw [show ((p * 16 + i : Nat) : Int) = F by omega]), hfin.2.1, hfin.2.2⟩
    · by_cases htk : t = tk
      · rw [htk] at hrow ht; clear htk
        go_enter Try.func23, Try.ntmps23
        go_wp2
        refine wp_region_gw (by kernel_rfl) (by kernel_rfl) ?_
        repeat (quiet_step (first | (go_at_call 13; exact Gives.call (HG.out _)) | (go_at_call 25; exact Gives.call (HU.out _))))
        refine wpQuiet_nil ?_
        intro _ hw'
        obtain ⟨p1, hw''⟩ := hw'
        subst hw''
        go_wp2
        have HB := Lib.hid (Bx.made w o F (p : Int) x p1)
        generalize World.alloc (gw ((w.alloc (.cells #[.int .i64 o, .int .i64 F] 24)).alloc (.cells (wc x) 37)) p1) (.cells #[.int .i64 o, .int .i64 (p : Int)] 67) = w3 at *
        generalize w.heap.size + 1 + 1 + p1.os.size = kb at *
        have HM3 := Lib.hid (HM.out.below HB.out.below)
        have c0 := row_cells HM3.out.cell 0
        have c1 := row_cells HM3.out.cell 1
        simp at c0 c1
        have k0 := HB.out.key 0
        have k1 := HB.out.key 1
        simp at k0 k1
        have o0 : Old bm w3 := Old.of_cell c0
        have o1 : Old kb w3 := Old.of_cell k0
        have hlook := look_pg HM3.out.own (wf_i64 (by omega : -9223372036854775808 ≤ o ∧ o ≤ 9223372036854775807)) (wf_i64 (x := (p : Int)) (by omega))
        rcases hlook with ⟨b', hd', hl⟩ | ⟨hd', _⟩
        · rw [hd] at hd'
          cases hd'
          have hrow3 : w3.heap[b]? = _ := (HB.out.below.block b (Array.getElem?_eq_some_iff.1 hrow).1).trans hrow
          have f208 := row_cells hrow3 208
          rw [pgC_last] at f208
          have o2 : Old b w3 := Old.of_cell f208
          have qt := run_neq_tok_same tk
          refine wp_region_gw (by kernel_rfl) (by kernel_rfl) ?_
          repeat (quiet_step (first | fail))
          refine wpQuiet_nil ?_
          intro _ hw'
          obtain ⟨p2, hw''⟩ := hw'
          subst hw''
          go_wp2
          refine wp_region_gw (by kernel_rfl) (by kernel_rfl) ?_
          repeat (quiet_step (first | fail))
          refine wpQuiet_nil ?_
          intro _ hw'
          obtain ⟨p3, hw''⟩ := hw'
          subst hw''
          go_wp2
          have HB4 := Lib.hid ((HB.out.gw p2).gw p3)
          have HM4 := Lib.hid ((HM3.out.gw p2).gw p3)
          have hrow4 : (gw (gw w3 p2) p3).heap[b]? = _ := (gw_heap _ _ _ (by simp; have := o2.lt; omega)).trans ((gw_heap _ _ _ o2.lt).trans hrow3)
          have HP := Lib.hid (show bp < w.heap.size ∧ (b < w.heap.size ∨ (gw (gw w3 p2) p3).heap.size ≤ b) ∧ b ≠ bp from ⟨HM.out.own.lt, .inl (Array.getElem?_eq_some_iff.1 hrow).1, (HM.out.mine.2.2.2.2 o p b ⟨ho.1, ho.2, by omega⟩ hd).2.2⟩)
          have HP4 := Lib.hid (show bm < (gw (gw w3 p2) p3).heap.size ∧ bm ≠ bp ∧ bm ≠ b from ⟨(Array.getElem?_eq_some_iff.1 HM4.out.cell).1, HM.out.mine.2.2.2.1, Ne.symm (HM.out.mine.2.2.2.2 o p b ⟨ho.1, ho.2, by omega⟩ hd).2.1⟩)
          have HPB := Lib.hid (show (D.atKey (kyl o p) .nil = .held b ∧ w.heap[b]? = some (.cells (pgC (fun j => M o ((p * 16 + j : Nat) : Int)) tk) 70 (0, 0))) ∨ w.heap.size ≤ b from .inl ⟨hd, hrow⟩)
          clear hrow hrow3 f208 o2 hd c0 c1 k0 k1 o0 o1 hl HM3 HB
          have HS := Lib.hid (PgSt.here HM4.out hrow4)
          clear hrow4
          generalize gw (gw w3 p2) p3 = w4 at *
          rename_i hK
          generalize b = pb at *
          obtain ⟨m2, hm2⟩ : ∃ m2, m2 = updP (fun j => M o ((p * 16 + j : Nat) : Int)) i x := ⟨_, rfl⟩
          have hbx := HB4.out.st HS.out HP.out.1 HP.out.2.1
          have l1 := hbx.1 1
          have v0 := hbx.2.1 0
          have v1 := hbx.2.1 1
          have v2 := hbx.2.1 2
          have v3 := hbx.2.1 3
          have v4 := hbx.2.1 4
          have v5 := hbx.2.1 5
          have v6 := hbx.2.1 6
          have v7 := hbx.2.1 7
          have v8 := hbx.2.1 8
          have v9 := hbx.2.1 9
          have v10 := hbx.2.1 10
          have v11 := hbx.2.1 11
          have v12 := hbx.2.1 12
          simp at l1 v0 v1 v2 v3 v4 v5 v6 v7 v8 v9 v10 v11 v12
          obtain ⟨_, _, _, o10, o11, _⟩ := hbx
          refine wp_region_qm 8 [] (by kernel_rfl) (by kernel_rfl) (by simp [quietOps, List.range, List.range.loop]; rfl) (by simp [makerOps]; rfl) (by simp; rfl) ?_
          repeat (refine wpG_step (fun K hK => ?_); go_simp; first | (refine hK _ ?_; clear hK K))
          refine wpG_nil ?_
          refine ⟨[], trivial, ?_⟩
          intro bs hls _ _ q1 _
          match bs, hls with
          | [], _ =>
            generalize hA : putMk _ _ _ _ = AA
            simp [putMk] at hA
            subst hA
            clear l1 v0 v1 v2 v3 v4 v5 v6 v7 v8 v9 v10 v11 v12 o10 o11
            have hs9 := (HS.out.drew).gw q1
            refine wpList_store_at rfl 37 _ _ rfl rfl pb (i * 13) rfl (wc x) rfl 70 (pgC _ tk) hs9.row (by rw [pgC_size]; simp; omega) (by kernel_rfl) (by simp [Value.oneCell']) ?_
            have hs10 := Lib.hid (hs9.set HP.out.2.2 m2)
            rw [pgC_splice _ _ hi, ← hm2]
            have HM2 := Lib.hid hm2
            clear hm2
            clear hs9
            generalize World.setRow _ _ _ = wr2 at *
            refine wpList_nil ?_
            simp only [Exit.then]
            refine hK _ _ ?_
            clear hK
            have c0 := (hs10.out.cell (a := ⟨bm, 0, none⟩) (HP4.out.1) HP4.out.2.1 HP4.out.2.2).trans ((row_cells HM4.out.cell 0).trans rfl)
            have o0 : Old bm wr2 := Old.of_cell c0
            have hbx := HB4.out.st hs10.out HP.out.1 HP.out.2.1
            have k0 := hbx.2.2.1 0
            have k1 := hbx.2.2.1 1
            simp at k0 k1
            obtain ⟨_, _, _, _, _, o1⟩ := hbx
            go_wp2
            rename_i hK
            refine wp_region_qm 6 [] (by kernel_rfl) (by kernel_rfl) (by simp [quietOps, List.range, List.range.loop]; rfl) (by simp [makerOps]; rfl) (by simp; rfl) ?_
            repeat (refine wpG_step (fun K hK => ?_); go_simp; first | (refine hK _ ?_; clear hK K))
            refine wpG_nil ?_
            refine ⟨[], trivial, ?_⟩
            intro bs hls _ _ q1 _
            match bs, hls with
            | [], _ =>
              generalize hA : putMk _ _ _ _ = AA
              simp [putMk] at hA
              subst hA
              clear c0 o0 k0 k1 o1
              have hs11 := (hs10.out.drew).gw q1
              refine wpList_mapUpdate_own _ rfl _ _ _ 59 rfl 67 65 keyed mapU pgR bp n D rfl hs11.own (by simp only [maxLen]; omega) (.agg #[.int .i64 o, .int .i64 (p : Int)]) (.pointer (some ⟨pb, 0, none⟩)) (kyl o p) rfl rfl HKY.out (.held pb) [] rfl ?_
              intro w12 hown12 hgrow12
              have hs12 := Lib.hid (hs11.map HP.out.2.2 hown12 hgrow12)
              clear hs11 hown12 hgrow12
              refine wpList_nil ?_
              simp only [Exit.then]
              refine hK _ _ ?_
              clear hK
              have qz2 : ∀ w, (Op.equalIn 10000 68 (.agg (pw m2)) (.agg (pw fun _ => wz))).run Try.prog w = .ok ((List.range 16).all fun j => wdE (m2 j) wz) w := fun w => run_equalIn_pg 9995 _ _ w
              have hzv := zero_words
              have o3 : Old pb w12 := (Array.getElem?_eq_some_iff.1 hs12.out.row).1
              generalize hz2 : ((List.range 16).all fun j => wdE (m2 j) wz) = z2 at *
              cases z2
              · go_wp2_with (refine wpList_load_part rfl 68 _ rfl pb 0 208 rfl 70 (pgC _ tk) _ (0, 0) hs12.out.row (by kernel_rfl) (by kernel_rfl) (by rw [pgC_size]; omega) (pgC_words _ _) ?_)
                (try simp only [Exit.inBlock, Exit.then])
                have hfin := set_done HM.out ⟨ho.1, ho.2, by omega⟩ hi HB4.out.below (by rw [← HM2.out]; exact hs12.out) HPB.out (by rw [← HM2.out, hz2]; rfl)
                exact bodyPost_ret (results_none rfl _ _ _) rfl ⟨rfl, n + 1, _, _, by omega, hfin.1, fun _ _ => (by first | rfl | rw [show ((p * 16 + i : Nat) : Int) = F by omega]), hfin.2.1, hfin.2.2⟩
              · have c0 := (hs12.out.cell (a := ⟨bm, 0, none⟩) (HP4.out.1) HP4.out.2.1 HP4.out.2.2).trans ((row_cells HM4.out.cell 0).trans rfl)
                have o0 : Old bm w12 := Old.of_cell c0
                have hbx := HB4.out.st hs12.out HP.out.1 HP.out.2.1
                have k0 := hbx.2.2.1 0
                have k1 := hbx.2.2.1 1
                simp at k0 k1
                obtain ⟨_, _, _, _, _, o1⟩ := hbx
                go_wp2_with (refine wpList_load_part rfl 68 _ rfl pb 0 208 rfl 70 (pgC _ tk) _ (0, 0) hs12.out.row (by kernel_rfl) (by kernel_rfl) (by rw [pgC_size]; omega) (pgC_words _ _) ?_)
                refine wp_region_qm 5 [] (by kernel_rfl) (by kernel_rfl) (by simp [quietOps, List.range, List.range.loop]; rfl) (by simp [makerOps]; rfl) (by simp; rfl) ?_
                repeat (refine wpG_step (fun K hK => ?_); go_simp; first | (refine hK _ ?_; clear hK K))
                refine wpG_nil ?_
                refine ⟨[], trivial, ?_⟩
                intro bs hls _ _ q1 _
                match bs, hls with
                | [], _ =>
                  generalize hA : putMk _ _ _ _ = AA
                  simp [putMk] at hA
                  subst hA
                  clear c0 o0 k0 k1 o1
                  have hs13 := (hs12.out.drew).gw q1
                  refine wpList_delete_own _ rfl _ _ 59 67 rfl 65 keyed mapU pgR bp (n + 1) _ rfl hs13.own (.agg #[.int .i64 o, .int .i64 (p : Int)]) (kyl o p) rfl HKY.out ?_
                  intro w14 hown14 hturn14
                  have hs14 := hs13.map HP.out.2.2 hown14 hturn14.grown
                  refine wpList_nil ?_
                  have hfin := set_done HM.out ⟨ho.1, ho.2, by omega⟩ hi HB4.out.below (by rw [← HM2.out]; exact hs14) HPB.out (by rw [← HM2.out, hz2]; rfl)
                  exact bodyPost_ret (results_none rfl _ _ _) rfl ⟨rfl, n + 1, _, _, by omega, hfin.1, fun _ _ => (by first | rfl | rw [show ((p * 16 + i : Nat) : Int) = F by omega]), hfin.2.1, hfin.2.2⟩
        · rw [hd] at hd'; cases hd'
      · go_enter Try.func23, Try.ntmps23
        go_wp2
        refine wp_region_gw (by kernel_rfl) (by kernel_rfl) ?_
        repeat (quiet_step (first | (go_at_call 13; exact Gives.call (HG.out _)) | (go_at_call 25; exact Gives.call (HU.out _))))
        refine wpQuiet_nil ?_
        intro _ hw'
        obtain ⟨p1, hw''⟩ := hw'
        subst hw''
        go_wp2
        have HB := Lib.hid (Bx.made w o F (p : Int) x p1)
        generalize World.alloc (gw ((w.alloc (.cells #[.int .i64 o, .int .i64 F] 24)).alloc (.cells (wc x) 37)) p1) (.cells #[.int .i64 o, .int .i64 (p : Int)] 67) = w3 at *
        generalize w.heap.size + 1 + 1 + p1.os.size = kb at *
        have HM3 := Lib.hid (HM.out.below HB.out.below)
        have c0 := row_cells HM3.out.cell 0
        have c1 := row_cells HM3.out.cell 1
        simp at c0 c1
        have k0 := HB.out.key 0
        have k1 := HB.out.key 1
        simp at k0 k1
        have o0 : Old bm w3 := Old.of_cell c0
        have o1 : Old kb w3 := Old.of_cell k0
        have hlook := look_pg HM3.out.own (wf_i64 (by omega : -9223372036854775808 ≤ o ∧ o ≤ 9223372036854775807)) (wf_i64 (x := (p : Int)) (by omega))
        rcases hlook with ⟨b', hd', hl⟩ | ⟨hd', _⟩
        · rw [hd] at hd'
          cases hd'
          have hrow3 : w3.heap[b]? = _ := (HB.out.below.block b (Array.getElem?_eq_some_iff.1 hrow).1).trans hrow
          have f208 := row_cells hrow3 208
          rw [pgC_last] at f208
          have o2 : Old b w3 := Old.of_cell f208
          have qt : ∀ r q, (binOp .neq 60 (.pointer (some ⟨t, 0, none⟩)) (.pointer (some ⟨tk, 0, none⟩))).run Try.prog (gw (gw w3 r) q) = .ok (.bool true) (gw (gw w3 r) q) := fun r q => by
            obtain ⟨_, ha⟩ := ((HM3.out.gw r).gw q).toks t ht
            obtain ⟨_, hb⟩ := ((HM3.out.gw r).gw q).toks tk HM.out.tok
            exact run_neq_tok_other htk _ ha hb
          refine wp_region_gw (by kernel_rfl) (by kernel_rfl) ?_
          repeat (quiet_step (first | fail))
          refine wpQuiet_nil ?_
          intro _ hw'
          obtain ⟨p2, hw''⟩ := hw'
          subst hw''
          go_wp2
          refine wp_region_gw (by kernel_rfl) (by kernel_rfl) ?_
          repeat (quiet_step (first | fail))
          refine wpQuiet_nil ?_
          intro _ hw'
          obtain ⟨p3, hw''⟩ := hw'
          subst hw''
          go_wp2
          have HB4 := Lib.hid ((HB.out.gw p2).gw p3)
          have HM4 := Lib.hid ((HM3.out.gw p2).gw p3)
          have hrow4 : (gw (gw w3 p2) p3).heap[b]? = _ := (gw_heap _ _ _ (by simp; have := o2.lt; omega)).trans ((gw_heap _ _ _ o2.lt).trans hrow3)
          clear hrow hrow3 f208 o2 hd c0 c1 k0 k1 o0 o1 hl HM3 HB qt
          generalize gw (gw w3 p2) p3 = w4 at *
          have c1 := row_cells HM4.out.cell 1
          simp at c1
          have o0 : Old bm w4 := Old.of_cell c1
          have o2 : Old b w4 := (Array.getElem?_eq_some_iff.1 hrow4).1
          obtain ⟨m0, hm0⟩ : ∃ m0, m0 = fun j : Nat => M o ((p * 16 + j : Nat) : Int) := ⟨_, rfl⟩
          rw [← hm0] at hrow4
          have HM0 := Lib.hid hm0
          clear hm0
          rename_i hK
          refine wp_region_qm 9 [] (by kernel_rfl) (by kernel_rfl) (by simp [quietOps, List.range, List.range.loop]; rfl) (by simp [makerOps]; rfl) (by simp; rfl) ?_
          repeat (first | (refine wpG_load_part rfl 68 _ rfl b 0 208 rfl 70 (pgC m0 t) _ (0, 0) hrow4 (by kernel_rfl) (by kernel_rfl) (by rw [pgC_size]; omega) (pgC_words _ _) ?_) | (refine wpG_build_at rfl 70 _ rfl #[(0, .agg (pw m0)), (1, .pointer (some ⟨tk, 0, none⟩))] (by simp; exact ⟨rfl, rfl⟩) _ (built_copy _ tk) ?_) | (refine wpG_step (fun K hK => ?_); go_simp; first | (refine hK _ ?_; clear hK K)))
          refine wpG_nil ?_
          refine ⟨[], trivial, ?_⟩
          intro bs hls _ _ q1 _
          match bs, hls with
          | [], _ =>
            generalize hA : putMk _ _ _ _ = AA
            simp [putMk] at hA
            subst hA
            go_wp2
            rename_i hK
            clear c1 o0 o2 hrow4
            have HB5 := Lib.hid (HB4.out.drew.gw q1)
            have HM5 := Lib.hid (HM4.out.drew.gw q1)
            clear HB4 HM4
            have hsz3 := HB5.out.below.size
            have hmm := HM.out.own.lt
            have hbm := (Array.getElem?_eq_some_iff.1 HM.out.cell).1
            have HS := Lib.hid (show PgSt (gw w4.drew q1) ((gw w4.drew q1).alloc (.cells (pgC m0 tk) 70)) bp (w4.heap.size + q1.os.size) (fun j => M o ((p * 16 + j : Nat) : Int)) tk n D by
              have := PgSt.new HM5.out (fun j => M o ((p * 16 + j : Nat) : Int))
              rw [gw_size, ← HM0.out] at this
              rw [← HM0.out]
              exact this)
            rw [gw_size] at hsz3
            have hsz3 : w.heap.size ≤ w4.heap.size + q1.os.size := hsz3
            have HP := Lib.hid (show bp < w.heap.size ∧ (w4.heap.size + q1.os.size < w.heap.size ∨ (gw w4.drew q1).heap.size ≤ w4.heap.size + q1.os.size) ∧ w4.heap.size + q1.os.size ≠ bp from ⟨hmm, .inr (by simp), by omega⟩)
            have HP4 := Lib.hid (show bm < (gw w4.drew q1).heap.size ∧ bm ≠ bp ∧ bm ≠ w4.heap.size + q1.os.size from ⟨(Array.getElem?_eq_some_iff.1 HM5.out.cell).1, HM.out.mine.2.2.2.1, by omega⟩)
            have HPB := Lib.hid (show (D.atKey (kyl o p) .nil = .held (w4.heap.size + q1.os.size) ∧ w.heap[w4.heap.size + q1.os.size]? = some (.cells (pgC (fun j => M o ((p * 16 + j : Nat) : Int)) tk) 70 (0, 0))) ∨ w.heap.size ≤ w4.heap.size + q1.os.size from .inr (by omega))
            clear hsz3 hmm hbm
            have HB4 := HB5
            have HM4 := HM5
            clear HB5 HM5
            generalize (gw w4.drew q1).alloc (.cells (pgC m0 tk) 70) = wr at *
            generalize gw w4.drew q1 = w5 at *
            generalize w4.heap.size + q1.os.size = pb at *
            obtain ⟨m2, hm2⟩ : ∃ m2, m2 = updP (fun j => M o ((p * 16 + j : Nat) : Int)) i x := ⟨_, rfl⟩
            have hbx := HB4.out.st HS.out HP.out.1 HP.out.2.1
            have l1 := hbx.1 1
            have v0 := hbx.2.1 0
            have v1 := hbx.2.1 1
            have v2 := hbx.2.1 2
            have v3 := hbx.2.1 3
            have v4 := hbx.2.1 4
            have v5 := hbx.2.1 5
            have v6 := hbx.2.1 6
            have v7 := hbx.2.1 7
            have v8 := hbx.2.1 8
            have v9 := hbx.2.1 9
            have v10 := hbx.2.1 10
            have v11 := hbx.2.1 11
            have v12 := hbx.2.1 12
            simp at l1 v0 v1 v2 v3 v4 v5 v6 v7 v8 v9 v10 v11 v12
            obtain ⟨_, _, _, o10, o11, _⟩ := hbx
            refine wp_region_qm 8 [] (by kernel_rfl) (by kernel_rfl) (by simp [quietOps, List.range, List.range.loop]; rfl) (by simp [makerOps]; rfl) (by simp; rfl) ?_
            repeat (refine wpG_step (fun K hK => ?_); go_simp; first | (refine hK _ ?_; clear hK K))
            refine wpG_nil ?_
            refine ⟨[], trivial, ?_⟩
            intro bs hls _ _ q1 _
            match bs, hls with
            | [], _ =>
              generalize hA : putMk _ _ _ _ = AA
              simp [putMk] at hA
              subst hA
              clear l1 v0 v1 v2 v3 v4 v5 v6 v7 v8 v9 v10 v11 v12 o10 o11
              have hs9 := (HS.out.drew).gw q1
              refine wpList_store_at rfl 37 _ _ rfl rfl pb (i * 13) rfl (wc x) rfl 70 (pgC _ tk) hs9.row (by rw [pgC_size]; simp; omega) (by kernel_rfl) (by simp [Value.oneCell']) ?_
              have hs10 := Lib.hid (hs9.set HP.out.2.2 m2)
              rw [pgC_splice _ _ hi, ← hm2]
              have HM2 := Lib.hid hm2
              clear hm2
              clear hs9
              generalize World.setRow _ _ _ = wr2 at *
              refine wpList_nil ?_
              simp only [Exit.then]
              refine hK _ _ ?_
              clear hK
              have c0 := (hs10.out.cell (a := ⟨bm, 0, none⟩) (HP4.out.1) HP4.out.2.1 HP4.out.2.2).trans ((row_cells HM4.out.cell 0).trans rfl)
              have o0 : Old bm wr2 := Old.of_cell c0
              have hbx := HB4.out.st hs10.out HP.out.1 HP.out.2.1
              have k0 := hbx.2.2.1 0
              have k1 := hbx.2.2.1 1
              simp at k0 k1
              obtain ⟨_, _, _, _, _, o1⟩ := hbx
              go_wp2
              rename_i hK
              refine wp_region_qm 6 [] (by kernel_rfl) (by kernel_rfl) (by simp [quietOps, List.range, List.range.loop]; rfl) (by simp [makerOps]; rfl) (by simp; rfl) ?_
              repeat (refine wpG_step (fun K hK => ?_); go_simp; first | (refine hK _ ?_; clear hK K))
              refine wpG_nil ?_
              refine ⟨[], trivial, ?_⟩
              intro bs hls _ _ q1 _
              match bs, hls with
              | [], _ =>
                generalize hA : putMk _ _ _ _ = AA
                simp [putMk] at hA
                subst hA
                clear c0 o0 k0 k1 o1
                have hs11 := (hs10.out.drew).gw q1
                refine wpList_mapUpdate_own _ rfl _ _ _ 59 rfl 67 65 keyed mapU pgR bp n D rfl hs11.own (by simp only [maxLen]; omega) (.agg #[.int .i64 o, .int .i64 (p : Int)]) (.pointer (some ⟨pb, 0, none⟩)) (kyl o p) rfl rfl HKY.out (.held pb) [] rfl ?_
                intro w12 hown12 hgrow12
                have hs12 := Lib.hid (hs11.map HP.out.2.2 hown12 hgrow12)
                clear hs11 hown12 hgrow12
                refine wpList_nil ?_
                simp only [Exit.then]
                refine hK _ _ ?_
                clear hK
                have qz2 : ∀ w, (Op.equalIn 10000 68 (.agg (pw m2)) (.agg (pw fun _ => wz))).run Try.prog w = .ok ((List.range 16).all fun j => wdE (m2 j) wz) w := fun w => run_equalIn_pg 9995 _ _ w
                have hzv := zero_words
                have o3 : Old pb w12 := (Array.getElem?_eq_some_iff.1 hs12.out.row).1
                generalize hz2 : ((List.range 16).all fun j => wdE (m2 j) wz) = z2 at *
                cases z2
                · go_wp2_with (refine wpList_load_part rfl 68 _ rfl pb 0 208 rfl 70 (pgC _ tk) _ (0, 0) hs12.out.row (by kernel_rfl) (by kernel_rfl) (by rw [pgC_size]; omega) (pgC_words _ _) ?_)
                  (try simp only [Exit.inBlock, Exit.then])
                  have hfin := set_done HM.out ⟨ho.1, ho.2, by omega⟩ hi HB4.out.below (by rw [← HM2.out]; exact hs12.out) HPB.out (by rw [← HM2.out, hz2]; rfl)
                  exact bodyPost_ret (results_none rfl _ _ _) rfl ⟨rfl, n + 1, _, _, by omega, hfin.1, fun _ _ => (by first | rfl | rw [show ((p * 16 + i : Nat) : Int) = F by omega]), hfin.2.1, hfin.2.2⟩
                · have c0 := (hs12.out.cell (a := ⟨bm, 0, none⟩) (HP4.out.1) HP4.out.2.1 HP4.out.2.2).trans ((row_cells HM4.out.cell 0).trans rfl)
                  have o0 : Old bm w12 := Old.of_cell c0
                  have hbx := HB4.out.st hs12.out HP.out.1 HP.out.2.1
                  have k0 := hbx.2.2.1 0
                  have k1 := hbx.2.2.1 1
                  simp at k0 k1
                  obtain ⟨_, _, _, _, _, o1⟩ := hbx
                  go_wp2_with (refine wpList_load_part rfl 68 _ rfl pb 0 208 rfl 70 (pgC _ tk) _ (0, 0) hs12.out.row (by kernel_rfl) (by kernel_rfl) (by rw [pgC_size]; omega) (pgC_words _ _) ?_)
                  refine wp_region_qm 5 [] (by kernel_rfl) (by kernel_rfl) (by simp [quietOps, List.range, List.range.loop]; rfl) (by simp [makerOps]; rfl) (by simp; rfl) ?_
                  repeat (refine wpG_step (fun K hK => ?_); go_simp; first | (refine hK _ ?_; clear hK K))
                  refine wpG_nil ?_
                  refine ⟨[], trivial, ?_⟩
                  intro bs hls _ _ q1 _
                  match bs, hls with
                  | [], _ =>
                    generalize hA : putMk _ _ _ _ = AA
                    simp [putMk] at hA
                    subst hA
                    clear c0 o0 k0 k1 o1
                    have hs13 := (hs12.out.drew).gw q1
                    refine wpList_delete_own _ rfl _ _ 59 67 rfl 65 keyed mapU pgR bp (n + 1) _ rfl hs13.own (.agg #[.int .i64 o, .int .i64 (p : Int)]) (kyl o p) rfl HKY.out ?_
                    intro w14 hown14 hturn14
                    have hs14 := hs13.map HP.out.2.2 hown14 hturn14.grown
                    refine wpList_nil ?_
                    have hfin := set_done HM.out ⟨ho.1, ho.2, by omega⟩ hi HB4.out.below (by rw [← HM2.out]; exact hs14) HPB.out (by rw [← HM2.out, hz2]; rfl)
                    exact bodyPost_ret (results_none rfl _ _ _) rfl ⟨rfl, n + 1, _, _, by omega, hfin.1, fun _ _ => (by first | rfl | rw [show ((p * 16 + i : Nat) : Int) = F by omega]), hfin.2.1, hfin.2.2⟩
        · rw [hd] at hd'; cases hd'
  · have he := Lib.hid ((wdE_iff _ _).1 hz)
    go_enter Try.func23, Try.ntmps23
    go_wp2
    refine wp_region_gw (by kernel_rfl) (by kernel_rfl) ?_
    repeat (quiet_step (first | (go_at_call 13; exact Gives.call (HG.out _))))
    refine wpQuiet_nil ?_
    intro _ hw'
    obtain ⟨p1, hw''⟩ := hw'
    subst hw''
    go_wp2
    (try simp only [Exit.inBlock, Exit.then])
    have hb : Below w.heap.size w (gw ((w.alloc (.cells #[.int .i64 o, .int .i64 F] 24)).alloc (.cells (wc x) 37)) p1) := (by repeat (first | exact Below.refl _ _ | refine below_gw ?_ (by simp; try omega) _ | refine Below.alloc ?_ (by simp; try omega) _ | refine Below.setCell ?_ (by simp; try omega) _ | refine Below.drew ?_))
    refine bodyPost_ret (results_none rfl _ _ _) rfl ⟨rfl, n, D, M, by omega, HM.out.below hb, fun o' f' => ?_, Fr.of_below hb, hb.mono hBw⟩
    unfold updM
    split
    · rename_i h1
      rw [h1.1, h1.2, HY.out]; exact he.out
    · rfl

end Go.Proofs.Ytioajmhfofmdoaa
