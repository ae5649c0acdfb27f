/- insert. -/
import Derived.Test.YtmgiojkdcpolfaaPi
import Derived.Test.YtmgiojkdcpolfaaBi
namespace Go.Proofs.Ytmgiojkdcpolfaa
open Go.RowKit Go.Sort Go.Shelf PT
attribute [local go_sem] Oper.semAt_some

set_option maxRecDepth 100000 in
set_option maxHeartbeats 4000000 in
theorem insert_any (W0 : World) : ∀ (m : Nat) (t : PT) (w : World) (l : List PS) (ad : Option Addr) (cap : Nat) (root : Bool), (nodes t).length ≤ m → m ≤ 900 → Lies W0 w t → Below W0.heap.size W0 w → Row 4 stC w ad l → (∀ p ∈ l, Rd W0 p) → l.length ≤ cap → (ad = none → cap = 0) → l.length ≤ 900 →
    Calls Try.prog 37 #[trV t, .slice ad l.length cap, .bool root] w (InsPost W0 (insT (sh t) l root) w)
  | 0, t, w, l, ad, cap, root, h, _, _, _, _, _, _, _, _ => by have := nodes_pos t; omega
  | m + 1, t, w, l, ad, cap, root, hm, hmm, hL, hW, hrow, hrd, hcap, hn, hb => by
    obtain ⟨s, ad0, cap0, ks⟩ := t
    have IH := Lib.hid (insert_any W0 m)
    have HL := Lib.hid hL
    have HW := Lib.hid hW
    have HROW := Lib.hid hrow
    have HRD := Lib.hid hrd
    have HN := Lib.hid hn
    have HM := Lib.hid hm
    have hkl := kids_less (.mk s ad0 cap0 ks)
    simp only [PT.ks] at hkl
    have hkb : ks.length ≤ 900 := by omega
    obtain ⟨i0, z0, HI⟩ := tree_info
    clear hL hW hrow hrd hn hm hkl
    obtain ⟨X0, hX0⟩ : ∃ X0, X0 = (w.alloc (.cells (boxC s (.slice ad0 ks.length cap0)) 33)).alloc (.cells #[.int .i64 0, .int .i64 0, .slice none 0 0, .slice none 0 0, .slice none 0 0] 33) := ⟨_, rfl⟩
    have HXB := Lib.hid (show Below w.heap.size w X0 by rw [hX0]; exact (by repeat (first | exact Below.refl _ _ | refine below_gw ?_ (by simp; try omega) _ | refine Below.alloc ?_ (by simp; try omega) _ | refine Below.setCell ?_ (by simp; try omega) _ | refine Below.drew ?_)))
    have hbox : X0.heap[w.heap.size]? = some (.cells (boxC s (.slice ad0 ks.length cap0)) 33 (0, 0)) := by rw [hX0, heap_alloc_past' _ _ _ (by simp [Old])]; exact heap_alloc_at' _ _ _ rfl
    have hres : X0.heap[w.heap.size + 1]? = some (.cells (#[.int .i64 0, .int .i64 0, .slice none 0 0, .slice none 0 0, .slice none 0 0]) 33 (0, 0)) := by rw [hX0]; exact heap_alloc_at' _ _ _ (by simp)
    have HBOX := Lib.hid hbox
    have HRES := Lib.hid hres
    have HC := Lib.hid (cloneT_any W0 (m + 1) (.mk s ad0 cap0 ks) X0 HM.out (by omega) (HL.out.below HXB.out))
    clear hbox hres
    simp only [trV, PT.s, PT.ad, PT.cap, PT.ks] at HC ⊢
    refine calls_of_wp_m 9 Try.func37 rfl ?_
    simp only [Try.ntmps37, List.size_toArray, List.length_cons, List.length_nil, Nat.reduceAdd, Nat.reduceSub, Array.replicate_succ, Array.replicate_zero, List.push_toArray, List.append_toArray, List.nil_append, List.cons_append]
    go_wp2_with (go_at_call 48; refine Stop.here ?_)
    refine Stop.on ?_
    have hX0' : X0 = (w.alloc (.cells #[.int .i64 s.g, .int .i64 s.c, .slice s.ga s.gs.length s.gc, .slice s.ta s.ts.length s.tc, .slice ad0 ks.length cap0] 33)).alloc (.cells #[.int .i64 0, .int .i64 0, .slice none 0 0, .slice none 0 0, .slice none 0 0] 33) := hX0
    rw [← hX0']
    clear hX0 hX0'
    refine HC.out.mono ?_
    rintro e w1 ⟨t', p, rfl, rfl, hsh, hss, hl, hf, hown, ha⟩
    have hz : w.heap.size + 1 < X0.heap.size := (Array.getElem?_eq_some_iff.1 HRES.out).1
    have HCI := Lib.hid (ci_start (W0 := W0) (w := w) HXB.out.size HXB.out hl hf hown ha hz HRES.out)
    have HSH := Lib.hid hsh
    have hs' : t'.s = s := hss
    obtain ⟨s', vd, vc, cs⟩ := t'
    simp only [PT.s] at hs'
    subst hs'
    simp only [PT.s, PT.ad, PT.ks, PT.cap] at HCI ⊢
    clear hsh hss hl hf hown ha
    iterate 8 go_step
    simp only [PT.s, PT.ad, PT.ks, PT.cap]
    obtain ⟨X1, hX1⟩ : ∃ X1, X1 = (gw X0 p).alloc (.cells (boxC s' (.slice vd cs.length vc)) 33) := ⟨_, rfl⟩
    have HB1 := Lib.hid (show X1.heap[w.heap.size]? = some (.cells (boxC s' (.slice ad0 ks.length cap0)) 33 (0, 0)) by
      rw [hX1, heap_alloc_past' _ _ _ (by simp [Old]; omega), gw_heap _ _ _ (by omega)]; exact HBOX.out)
    rw [← hX1] at HCI
    rw [show (gw X0 p).alloc (.cells #[.int .i64 s'.g, .int .i64 s'.c, .slice s'.ga s'.gs.length s'.gc, .slice s'.ta s'.ts.length s'.tc, .slice vd cs.length vc] 33) = X1 from hX1.symm]
    rw [gw_size] at HCI
    clear hX1
    have hbo : w.heap.size + 1 < X0.heap.size + p.os.size := by omega
    generalize X0.heap.size + p.os.size = bo at *
    have hbc := row_cells HB1.out
    have b0 := (hbc 0).trans (show _ = some (.int .i64 s'.g) from rfl)
    have b1 := (hbc 1).trans (show _ = some (.int .i64 s'.c) from rfl)
    have b2 := (hbc 2).trans (show _ = some (.slice s'.ga s'.gs.length s'.gc) from rfl)
    have b3 := (hbc 3).trans (show _ = some (.slice s'.ta s'.ts.length s'.tc) from rfl)
    have b4 := (hbc 4).trans (show _ = some (.slice ad0 ks.length cap0) from rfl)
    have ob : Old w.heap.size X1 := Old.of_cell b0
    clear hbc HBOX HRES HC hz HXB
    have hK := (sh_eq (.mk s' vd vc cs)).symm.trans (HSH.out.trans (sh_eq _))
    simp only [PT.s, PT.ks, T.nd.injEq, true_and] at hK
    have HK := Lib.hid hK
    clear hK HSH
    obtain ⟨d, hd⟩ : ∃ d, (l.isEmpty || (!root && ks.isEmpty)) = d := ⟨_, rfl⟩
    cases d
    · have hle : cs.length = ks.length := by have := congrArg List.length HK.out; simpa using this
      have hll : l ≠ [] := by rintro rfl; simp at hd
      have hl0 : ((l.length : Int) == 0) = false := by
        have := List.length_pos_iff.2 hll
        simp; omega
      have hcase : root = true ∨ (root = false ∧ ((ks.length : Int) == 0) = false) := by
        cases root
        · right
          refine ⟨rfl, ?_⟩
          have : ks ≠ [] := by rintro rfl; simp at hd
          have := List.length_pos_iff.2 this
          simp; omega
        · exact .inl rfl
      have HLL := Lib.hid hll
      have HR := Lib.hid (show .nd s' ((insL (ks.map sh) l).getD (ks.map sh ++ chain l)) = insT (sh (.mk s' ad0 cap0 ks)) l root by
        rw [sh_eq, insT]; simp only [PT.s, PT.ks, List.isEmpty_map]; rw [hd, if_neg (by simp)])
      have HLE := Lib.hid hle
      clear hd hll hle
      rcases hcase with rfl | ⟨rfl, hk0⟩
      all_goals
        go_wp2
        go_loopw [34] (fun i wr => ∃ (k : Nat) (r : Regrown), k ≤ ks.length ∧ i = .int .i64 k ∧ Hid (∀ j x, j < k → ks[j]? = some x → wo l x.s = none) ∧ wr = gw X1 r) (fun i _ => ks.length - (intOf i).toNat)
        case atStart => exact ⟨0, _, by omega, rfl, Lib.hid (fun _ _ h => absurd h (by omega)), gw_self _⟩
        case round =>
          obtain ⟨k, r, hk, rfl, hno, rfl⟩ := hrel
          have hB1 := Lib.hid (below_gw HCI.out.below HCI.out.below.size r)
          by_cases hlt : k < ks.length
          · have kb : (k : Int) < ks.length := by omega
            obtain ⟨x, hx⟩ := get_some hlt
            obtain ⟨b, off, he, ho, hc⟩ := (HL.out.below hB1.out).self.row.get hx
            simp only [PT.ad] at he
            subst he
            have f0 := hc 0 (by omega)
            have f1 := hc 1 (by omega)
            have f2 := hc 2 (by omega)
            have f3 := hc 3 (by omega)
            have f4 := hc 4 (by omega)
            simp at f0 f1 f2 f3 f4
            have HX := Lib.hid hx
            clear hx hc
            go_wp2_with (go_at_call 19; refine Stop.here ?_)
            refine Stop.on ?_
            obtain ⟨Y, hY⟩ : ∃ Y, Y = (gw X1 r).alloc (.cells (trC x).toArray 33) := ⟨_, rfl⟩
            rw [show (gw X1 r).alloc (.cells #[.int .i64 x.s.g, .int .i64 x.s.c, .slice x.s.ga x.s.gs.length x.s.gc, .slice x.s.ta x.s.ts.length x.s.tc, .slice x.ad x.ks.length x.cap] 33) = Y from hY.symm]
            have HYX := Lib.hid (show Below X1.heap.size X1 Y by rw [hY]; exact (gw_below X1 r).alloc (by simp) _)
            have HYB := Lib.hid (HCI.out.below.trans (HYX.out.mono HCI.out.below.size))
            have hkY : Y.heap[X1.heap.size + r.os.size]? = some (.cells (trC x).toArray 33 (0, 0)) := by rw [hY]; exact heap_alloc_at' _ _ _ (by simp)
            have HKY := Lib.hid hkY
            clear hkY hY
            generalize X1.heap.size + r.os.size = bk at *
            have hW0Y : Below W0.heap.size W0 Y := HW.out.trans (HYB.out.mono HW.out.size)
            have HXL := Lib.hid ((HL.out.kid (List.mem_of_getElem? HX.out)))
            have hwo := withoutP_any ad l cap x.s Y ⟨HROW.out.below HYB.out, fun p hp => (HRD.out p hp).below hW0Y⟩ (HXL.out.self.rd.below hW0Y) hcap HN.out hb
            obtain ⟨o, ho'⟩ : ∃ o, wo l x.s = o := ⟨_, rfl⟩
            rw [ho'] at hwo
            have HWO := Lib.hid hwo
            have HO := Lib.hid ho'
            clear hwo ho' hW0Y
            cases o with
            | none =>
              refine HWO.out.mono ?_
              rintro e w2 ⟨v, bb, rfl, hb2, rfl, rfl⟩
              have hx2 := HYX.out.trans (hb2.mono HYX.out.size)
              obtain ⟨r2, rfl⟩ := gw_of_below hx2
              clear hb2 hx2
              go_wp2
              exact ⟨⟨k + 1, r2, by omega, by go_num, Lib.hid (fun j y hj hy => by
                rcases Nat.lt_succ_iff_lt_or_eq.1 hj with h | h
                · exact hno.out j y h hy
                · subst h; rw [HX.out] at hy; cases hy; exact HO.out), rfl⟩, by simp [intOf]; omega⟩
            | some rest =>
              refine HWO.out.mono ?_
              rintro e Z ⟨v, bb, rfl, hb2, rfl, hrest⟩
              have HZX := Lib.hid (HYX.out.trans (hb2.mono HYX.out.size))
              have HZB := Lib.hid (HYB.out.trans (hb2.mono HYB.out.size))
              have HZK := Lib.hid ((hb2.block _ (Array.getElem?_eq_some_iff.1 HKY.out).1).trans HKY.out)
              have HZR := Lib.hid (own_low hrest (Nat.le_refl _))
              have HCZ := Lib.hid (HCI.out.below' HZX.out)
              obtain ⟨va, vcp, rfl, hvl, _⟩ := own_val hrest
              have hvn := own_nilcap hrest
              have HZR := Lib.hid (row_own stC_len hrest rfl)
              clear hb2 hrest
              have hkc : k < cs.length := by have := HLE.out; omega
              obtain ⟨g, rfl⟩ := own_form HCZ.out.own (by omega)
              obtain ⟨cur, hcur, hcs, hcn⟩ := own_cur HCZ.out.own
              have HCUR := Lib.hid hcur
              have HCSZ := Lib.hid hcs
              have hbx := (row_cells HCZ.out.box 4).trans (show _ = some (.slice (some ⟨g, 0, none⟩) cs.length vc) from rfl)
              have obx : Old bo Z := Old.of_cell hbx
              have hkx := row_cells HZK.out
              have obk : Old bk Z := (Array.getElem?_eq_some_iff.1 HZK.out).1
              have hres := Lib.hid (wo_len HO.out)
              have hsub := Lib.hid (wo_sub HO.out)
              have HC := Lib.hid (fun q => IH.out x (gw Z.drew q) rest va vcp false (by have := kid_less (t := .mk s' (some ⟨b, off, none⟩) cap0 ks) (List.mem_of_getElem? HX.out); have := HM.out; omega) (by omega)
                (((HXL.out.below HZB.out).gw ⟨Z.drawn + 1, #[]⟩).gw q) (below_gw ((HW.out.trans (HZB.out.mono HW.out.size)).drew) (by have := HZB.out.size; have := HW.out.size; simp; omega) q) ((HZR.out.gw ⟨Z.drawn + 1, #[]⟩).gw q) (fun p hp => HRD.out p (hsub.out p hp)) hvl hvn (by have := hres.out; omega))
              clear hcur hcs
              have kc : (k : Int) < cs.length := by omega
              go_wp2
              refine wp_region_relP 6 [47, 48, 49, 50, 51, 52] [fun _ v => v = .pointer (some ⟨bo, 4, none⟩), fun _ v => v = .slice (some ⟨g, 0, none⟩) cs.length vc, fun _ v => v = .int .i64 k, fun _ v => v = trV x, fun _ v => v = .slice va rest.length vcp, fun w' v => ∃ c, v = trV c ∧ sh c = insT (sh x) rest false ∧ Lies W0 w' c ∧ Fresh Z.heap.size c]
                (by kernel_rfl) (by kernel_rfl) rfl rfl (by simp only [List.drop_succ_cons, List.drop_zero]; rfl) (by decide) rfl (by kernel_rfl) ?_ ?_ ?_
              · refine ⟨fun _ _ _ h => h, fun _ _ _ h => h, fun _ _ _ h => h, fun _ _ _ h => h, fun _ _ _ h => h, ?_, trivial⟩
                rintro v w' q ⟨c, h1, h2, h3, h4⟩
                exact ⟨c, h1, h2, h3.gw q, h4⟩
              · refine ⟨?_, ?_, ?_, ?_, ?_, ?_, trivial⟩
                · refine relAt_seen [7] rfl rfl rfl fun b q hs => ?_
                  simp [allSeen, FofL, slot] at hs
                  simp [execOp, relUpon, FofL, go_sem, gw_ex_self, hs]
                · refine relAt_seen [47] rfl rfl rfl fun b q hs => ?_
                  simp [allSeen, FofL, slot] at hs
                  simp [execOp, relUpon, FofL, go_sem, gw_ex_self, hs, obx, hbx]
                · refine relAt_seen [8] rfl rfl rfl fun b q hs => ?_
                  simp [allSeen, FofL, slot] at hs
                  simp [execOp, relUpon, FofL, go_sem, gw_ex_self, hs]
                · refine relAt_seen [9] rfl rfl rfl fun b q hs => ?_
                  simp [allSeen, FofL, slot] at hs
                  have c0 := (gw_cell Z.drew q bk 0 obk).trans (hkx 0)
                  have c1 := (gw_cell Z.drew q bk 1 obk).trans (hkx 1)
                  have c2 := (gw_cell Z.drew q bk 2 obk).trans (hkx 2)
                  have c3 := (gw_cell Z.drew q bk 3 obk).trans (hkx 3)
                  have c4 := (gw_cell Z.drew q bk 4 obk).trans (hkx 4)
                  simp at c0 c1 c2 c3 c4
                  simp [execOp, relUpon, FofL, go_sem, gw_ex_self, hs, c0, c1, c2, c3, c4]
                · refine relAt_seen [10] rfl rfl rfl fun b q hs => ?_
                  simp [allSeen, FofL, slot] at hs
                  simp [execOp, relUpon, FofL, go_sem, gw_ex_self, hs]
                · refine relAt_seen [50, 51] rfl rfl rfl fun b q hs => ?_
                  simp [allSeen, FofL, slot] at hs
                  obtain ⟨h50, h51⟩ := hs
                  simp only [execOp, relUpon, resolve, invoke, Sem.run_bind, List.map_toArray, List.map_cons, List.map_nil, Act.eval, Array.getD_eq_getD_getElem?, h50, h51]
                  simp [go_sem]
                  refine (HC.out q).mono ?_
                  rintro e w' ⟨c, p, rfl, rfl, hsh, hl, hf⟩
                  refine ⟨_, rfl, ?_, p, rfl⟩
                  simp only [FofL, Nat.reduceEqDiff, if_true, if_false]
                  exact ⟨c, rfl, hsh, hl, hf.mono (by simp)⟩
              · intro vs q hlen hv
                match vs, hlen with
                | [v47, v48, v49, v50, v51, v52], _ =>
                  obtain ⟨h47, h48, h49, h50, h51, ⟨c, h52, hsh, hl, hf⟩, _⟩ := hv
                  subst h47 h48 h49 h50 h51 h52
                  simp only [putL, Act.put]
                  have HCQ : CI W0 w (gw Z.drew q) s' (w.heap.size + 1) bo (.slice (some ⟨g, 0, none⟩) cs.length vc) cs := (HCZ.out.gw ⟨Z.drawn + 1, #[]⟩).gw q
                  have hcurQ : (gw Z.drew q).heap[g]? = some (.cells cur 33 (0, 0)) := (gw_heap _ _ _ (Array.getElem?_eq_some_iff.1 HCUR.out).1).trans HCUR.out
                  have hzlt : ∀ j, j < Z.heap.size → Avoid (some j) c := fun j hj => Avoid.of_fresh hf hj
                  have HCN := Lib.hid (HCQ.set hcurQ k c hkc hl (hf.mono (HZB.out.size)) (hzlt g (Array.getElem?_eq_some_iff.1 HCUR.out).1) (hzlt bo obx) (hzlt _ (Array.getElem?_eq_some_iff.1 HCZ.out.res).1))
                  have HSH := Lib.hid hsh
                  have HCU := Lib.hid hcurQ
                  clear HCQ hcurQ hzlt hl hf hsh
                  go_step
                  go_step
                  go_step
                  refine wpList_store_at rfl 33 _ _ rfl rfl g (k * 5) (by simp [Act.eval]) (trC c).toArray rfl 33 cur HCU.out (by have := HCSZ.out; simp; omega) (by kernel_rfl) (by intro v hv; exact trC_one c v (by simpa using hv)) ?_
                  obtain ⟨Z5, hZ5⟩ : ∃ Z5, Z5 = (gw Z.drew q).setRow g (splice cur (k * 5) (trC c).toArray) := ⟨_, rfl⟩
                  rw [← hZ5] at HCN ⊢
                  clear hZ5 HCU
                  have HK2 := Lib.hid (show .nd s' ((cs.set k c).map sh) = insT (sh (.mk s' (some ⟨b, off, none⟩) cap0 ks)) l _ by
                    rw [← HR.out, insL_hit (i := k) (k := sh x) (rest := rest) (by rw [List.getElem?_map, HX.out]; rfl) (fun j y hj hy => by
                      rw [List.getElem?_map] at hy
                      cases hz : ks[j]? with
                      | none => rw [hz] at hy; cases hy
                      | some z => rw [hz] at hy; cases hy; rw [sh_s]; exact hno.out j z hj hz) (by rw [sh_s]; exact HO.out), Option.getD_some, List.map_set, HK.out, HSH.out])
                  clear hbx hkx kc hvn
                  have hbc := row_cells HCN.out.box
                  have c0 := (hbc 0).trans (show _ = some (.int .i64 s'.g) from rfl)
                  have c1 := (hbc 1).trans (show _ = some (.int .i64 s'.c) from rfl)
                  have c2 := (hbc 2).trans (show _ = some (.slice s'.ga s'.gs.length s'.gc) from rfl)
                  have c3 := (hbc 3).trans (show _ = some (.slice s'.ta s'.ts.length s'.tc) from rfl)
                  have c4 := (hbc 4).trans (show _ = some (Value.slice (some ⟨g, 0, none⟩) (cs.set k c).length vc) from rfl)
                  have hrc := row_cells HCN.out.res
                  have r0 := (hrc 0).trans (show _ = some (.int .i64 0) from rfl)
                  have r1 := (hrc 1).trans (show _ = some (.int .i64 0) from rfl)
                  have r2 := (hrc 2).trans (show _ = some (.slice none 0 0) from rfl)
                  have r3 := (hrc 3).trans (show _ = some (.slice none 0 0) from rfl)
                  have r4 := (hrc 4).trans (show _ = some (.slice none 0 0) from rfl)
                  have hbf : ∀ i, World.frozen? Z5 ⟨w.heap.size + 1, i, none⟩ = false := fun i => by simp [World.frozen?, HCN.out.res]
                  clear hbc hrc
                  go_step
                  go_wp2
                  (try simp only [Exit.inBlock, Exit.then])
                  refine bodyPostM_ret (v := trV (.mk s' (some ⟨g, 0, none⟩) vc (cs.set k c))) ?_ rfl (HCN.out.ins HL.out.self.rd (by omega) (World.grownBy.trans (World.grownBy.trans (World.grownBy.trans (World.grownBy.trans (grown_set Z5 ⟨w.heap.size + 1, 0, none⟩ (.int .i64 s'.g)) (grown_set _ ⟨w.heap.size + 1, 1, none⟩ (.int .i64 s'.c))) (grown_set _ ⟨w.heap.size + 1, 2, none⟩ (.slice s'.ga s'.gs.length s'.gc))) (grown_set _ ⟨w.heap.size + 1, 3, none⟩ (.slice s'.ta s'.ts.length s'.tc))) (grown_set _ ⟨w.heap.size + 1, 4, none⟩ (.slice (some ⟨g, 0, none⟩) _ vc))) HK2.out)
                  simp [results, Try.results37, go_sem, r0, r1, r2, r3, r4, PT.s, PT.ad, PT.ks, PT.cap]
          · have HR2 := Lib.hid (show .nd s' (cs.map sh ++ chain l) = insT (sh (.mk s' ad0 cap0 ks)) l _ by
              rw [← HR.out, insL_none (fun z hz => by
                obtain ⟨z', hz', rfl⟩ := List.mem_map.1 hz
                obtain ⟨j, hj, rfl⟩ := List.mem_iff_getElem.1 hz'
                rw [sh_s]
                exact hno.out j _ (by omega) (List.getElem?_eq_getElem hj)), Option.getD_none, HK.out])
            have hlp := List.length_pos_iff.2 HLL.out
            obtain ⟨y, hy⟩ := get_some (show l.length - 1 < l.length by omega)
            obtain ⟨b, off, rfl, ho, hc⟩ := (HROW.out.below hB1.out).get hy
            have f0 := hc 0 (by omega)
            have f1 := hc 1 (by omega)
            have f2 := hc 2 (by omega)
            have f3 := hc 3 (by omega)
            simp at f0 f1 f2 f3
            have HY := Lib.hid hy
            clear hy hc hno
            have n0 : (0 : Int) ≤ (l.length : Int) - 1 := by omega
            have n1 : ((l.length : Int) - 1).toNat = l.length - 1 := by omega
            have n2 : (l.length : Int) - 1 < l.length := by omega
            have n3 : (l.length : Int) - 1 ≤ cap := by omega
            go_wp2_with (go_at_call 64; refine Stop.here ?_)
            refine Stop.on ?_
            have hst := bi_start (HCI.out.gw r) (HRD.out y (List.mem_of_getElem? HY.out))
            obtain ⟨X2, hX2⟩ : ∃ X2, X2 = (gw X1 r).alloc (.cells #[.int .i64 y.g, .int .i64 y.c, .slice y.ga y.gs.length y.gc, .slice y.ta y.ts.length y.tc, .slice none 0 0] 33) := ⟨_, rfl⟩
            have hx2s : X2.heap.size = X1.heap.size + r.os.size + 1 := by rw [hX2]; simp
            have hrow2 : Row 4 stC X2 (some ⟨b, off, none⟩) (l.take (l.length - 1)) := by rw [hX2]; exact (((HROW.out.below hB1.out).below ((Below.refl _ _).alloc (Nat.le_refl _) _))).take _
            rw [← hX2] at hst ⊢
            rw [gw_size] at hst
            have hbne : b ≠ X1.heap.size + r.os.size := by have := ho.lt; simp at this; omega
            clear hX2 f0 f1 f2 f3 ho
            generalize X1.heap.size + r.os.size = bb at *
            have HAP := Lib.hid hst.1
            have HBI := Lib.hid hst.2
            have HR2W := Lib.hid hrow2
            clear hst hrow2
            refine (backward_any X2 (some ⟨b, off, none⟩) (l.length - 1) cap).mono ?_
            rintro e X3 ⟨rfl, rfl⟩
            have HBI3 := Lib.hid (HBI.out.keep (grown_alloc X2 (.cells #[.slice (some ⟨b, off, none⟩) (l.length - 1) cap] 41) none) (fun r e => by cases e))
            have HRW3 := Lib.hid (HR2W.out.below ((Below.refl _ _).alloc (Nat.le_refl _) (.cells #[.slice (some ⟨b, off, none⟩) (l.length - 1) cap] 41)))
            have hbx3 : (X2.alloc (.cells #[.slice (some ⟨b, off, none⟩) (l.length - 1) cap] 41)).cell? ⟨X2.heap.size, 0, none⟩ = some (.slice (some ⟨b, off, none⟩) (l.length - 1) cap) := row_cells (heap_alloc_at' _ _ _ rfl) 0
            obtain ⟨X3, hX3⟩ : ∃ X3, X3 = X2.alloc (.cells #[.slice (some ⟨b, off, none⟩) (l.length - 1) cap] 41) := ⟨_, rfl⟩
            have hx3s : X3.heap.size = bb + 1 + 1 := by rw [hX3]; simp; omega
            rw [← hX3] at HBI3 HRW3 hbx3 ⊢
            clear hX3 HBI HR2W
            rw [hx2s] at hbx3 ⊢
            clear hx2s n0 n1 n2 n3
            go_wp2
            have hlen' : (l.take (l.length - 1)).length = l.length - 1 := by simp
            have HLT := Lib.hid hlen'
            clear hlen'
            have hbb3 : w.heap.size ≤ X3.heap.size := HBI3.out.ci.below.size
            refine wpIn_wide.1 (wpIn_rangeFunc_w (F := Fence.wide) (n := 9) (α := Nat × PS) (fun pre x _ => pre.length < (l.take (l.length - 1)).length ∧ x.2 ∈ l.take (l.length - 1)) rfl (by omega) (gf := 86) (lb := #[.pointer (some ⟨bb + 1, 0, none⟩)]) rfl trivial (enters_of Try.func86 (by kernel_rfl) rfl)
              (encs := fun x => #[.int .i64 x.1, stv x.2]) (Kp := fun _ => KpB bb) (S := fun xs => xs.map (·.2) = (l.take (l.length - 1)).reverse) ?seq ?okb (fun h k => h.trans k) ?kb (fun _ => rfl)
              (fun pre W => BI W0 w W s' (w.heap.size + 1) bo bb (.slice vd cs.length vc) cs (pre.map (·.2)) y) ?hI HBI3.out
              (fun a x a' W => ∃ Bx, W.heap[Bx]? = some (.cells (stC x.2).toArray 30 (0, 0)) ∧ a' = { tmps := ((a.tmps.setIfInBounds 69 (.int .i64 x.1)).setIfInBounds 70 (stv x.2)).setIfInBounds 14 (.pointer (some ⟨Bx, 0, none⟩)), defers := [] }) ?hAx ?assign ?body ?done)
            case seq =>
              intro lp J W hW hJ hY h0
              exact backward_in 8 (by omega) lp (bb + 1) bb cap (some ⟨b, off, none⟩) (l.take (l.length - 1)) J W (by have := HLT.out; omega) hY (by rw [HLT.out]; exact (hW.cell (p := ⟨bb + 1, 0, none⟩) (by simp; omega)).trans hbx3) (by omega) (HRW3.out.below hW) (fun b' off' e => by cases e; exact hbne) h0
            case okb => exact fun _ _ _ _ _ _ _ _ _ h => h
            case kb => exact fun _ W l o o' _ hl hc _ => KpB.putObj W o' hl hc
            case hI => exact fun s A B row hs hg hr => hs.keep hg (fun r e => ⟨Nat.le_trans hbb3 (hr r e).1, (hr r e).2⟩)
            case hAx =>
              rintro x a' _ A B' row ⟨Bx, hc, rfl⟩ hg hr
              exact ⟨Bx, block_keep hg (fun r e => (hr r e).2) hc, rfl⟩
            case assign =>
              rintro lp pre x W K hok hI hK
              gi_wp2
              exact hK _ _ ((KeepsOthers.alloc _ _).from _) (KpB.grown (grown_alloc W _ _)) (hI.keep (grown_alloc W _ none) (fun r e => by cases e)) hok ⟨W.heap.size, heap_alloc_new _ _, rfl⟩
            case body =>
              rintro lp pre x a' W hl ⟨r', hr'⟩ hok hI ⟨Bx, hBc, rfl⟩
              have HI2 := Lib.hid hI
              have HOK := Lib.hid hok
              obtain ⟨hci, bt, h1, h2, h3, h4, h5⟩ := hI
              have e0 := (row_cells hBc 0).trans (show _ = some (.int .i64 x.2.g) from rfl)
              have e1 := (row_cells hBc 1).trans (show _ = some (.int .i64 x.2.c) from rfl)
              have e2 := (row_cells hBc 2).trans (show _ = some (.slice x.2.ga x.2.gs.length x.2.gc) from rfl)
              have e3 := (row_cells hBc 3).trans (show _ = some (.slice x.2.ta x.2.ts.length x.2.tc) from rfl)
              have g0 := (row_cells h1 0).trans (show _ = some (.int .i64 bt.s.g) from rfl)
              have g1 := (row_cells h1 1).trans (show _ = some (.int .i64 bt.s.c) from rfl)
              have g2 := (row_cells h1 2).trans (show _ = some (.slice bt.s.ga bt.s.gs.length bt.s.gc) from rfl)
              have g3 := (row_cells h1 3).trans (show _ = some (.slice bt.s.ta bt.s.ts.length bt.s.tc) from rfl)
              have g4 := (row_cells h1 4).trans (show _ = some (.slice bt.ad bt.ks.length bt.cap) from rfl)
              have hbf : ∀ i, W.frozen? ⟨bb, i, none⟩ = false := fun i => by simp [World.frozen?, h1]
              have obb : Old bb W := Old.of_cell g0
              have HCI2 := Lib.hid hci
              have HBT := Lib.hid (BI.step (x := x.2) hci HAP.out h1 h2 h3 h4 h5 (HRD.out _ (List.mem_of_mem_take hok.2)))
              clear hok hci h1 h2 h3 h4 h5 hBc HI2
              gi_wp2
              exact ⟨KeepsFrom.of_grownBy ((grown_set5 W bb (.int .i64 x.2.g) (.int .i64 x.2.c) (.slice x.2.ga x.2.gs.length x.2.gc) (.slice x.2.ta x.2.ts.length x.2.tc) (.slice (some ⟨W.heap.size, 0, none⟩) 1 1)).trans (grown_alloc _ _ (some bb))) (fun j e => by cases e; omega),
                KpB.grown ((grown_set5 W bb (.int .i64 x.2.g) (.int .i64 x.2.c) (.slice x.2.ga x.2.gs.length x.2.gc) (.slice x.2.ta x.2.ts.length x.2.tc) (.slice (some ⟨W.heap.size, 0, none⟩) 1 1)).trans (grown_alloc _ _ (some bb))), by show BI _ _ _ _ _ _ _ _ _ (List.map _ (pre ++ [x])) _; rw [List.map_append]; exact HBT.out⟩
            case done =>
              rintro D ys W hD hS ⟨hci, bt, h1, h2, h3, h4, h5⟩ hKD
              have hbx := (row_cells hci.box 4).trans (show _ = some (.slice vd cs.length vc) from rfl)
              have g0 := (row_cells h1 0).trans (show _ = some (.int .i64 bt.s.g) from rfl)
              have g1 := (row_cells h1 1).trans (show _ = some (.int .i64 bt.s.c) from rfl)
              have g2 := (row_cells h1 2).trans (show _ = some (.slice bt.s.ga bt.s.gs.length bt.s.gc) from rfl)
              have g3 := (row_cells h1 3).trans (show _ = some (.slice bt.s.ta bt.s.ts.length bt.s.tc) from rfl)
              have g4 := (row_cells h1 4).trans (show _ = some (.slice bt.ad bt.ks.length bt.cap) from rfl)
              have obx : Old bo W := Old.of_cell hbx
              have obb : Old bb W := Old.of_cell g0
              have HCW := Lib.hid hci
              have H2 := Lib.hid h2
              have H4 := Lib.hid h4
              have HKD := Lib.hid hKD
              have HDD := Lib.hid hD
              have HCH := Lib.hid (show [sh bt] = chain l by
                rw [h5, hS, List.reverse_reverse]
                rw [take_last HY.out])
              clear hci h1 h2 h3 h4 h5 hKD hD hS
              go_wp2_with (at_builtin; refine wpList_append_row (f := trC) rfl _ _ 31 rfl w.heap.size 33 i0 z0 5 88 rfl HI.out.1 HI.out.2.1 HI.out.2.2.1 HI.out.2.2.2.1 HI.out.2.2.2.2 (by omega) trC_len trC_one (.slice vd cs.length vc) cs.length (cs.flatMap trC) rfl (HCW.out.own.alloc _) (some ⟨W.heap.size, 0, none⟩) 1 [bt] (fun h => by cases h) rfl (Row.of_block trC_len (heap_alloc_at' _ _ _ rfl) (by simp)) (by have := HLE.out; unfold maxLen; simp; omega) (by have := HLE.out; simp; omega) (by have := HCW.out.below.size; simp; omega) ?_; intro v' w5 hown hgrow hat; refine Stop.here ?_)
              refine Stop.on ?_
              obtain ⟨vd', vc', rfl, _, _⟩ := own_val hown
              have hb3 : (W.alloc (.cells (trC bt).toArray 33)).heap[bo]? = some (.cells (boxC s' (.slice vd cs.length vc)) 33 (0, 0)) := (heap_alloc_past' _ _ _ obx).trans HCW.out.box
              have hb5 := (hgrow.block _ (Array.getElem?_eq_some_iff.1 hb3).1 (fun e => HCW.out.ne e.symm)).trans hb3
              have c0 := (row_cells hb5 4).trans (show _ = some (Value.slice vd cs.length vc) from rfl)
              have z0' : w5.frozen? ⟨bo, 4, none⟩ = false := by simp [World.frozen?, hb5]
              have HN := Lib.hid (show CI W0 w (w5.setCell ⟨bo, 4, none⟩ (.slice vd' (cs.length + 1) vc')) s' (w.heap.size + 1) bo (.slice vd' (cs.length + 1) vc') (cs ++ [bt]) from BI.app HCW.out HAP.out H2.out H4.out (by simpa using hown) hgrow hat)
              have hd3 : (W.alloc (.cells (trC bt).toArray 33)).heap[D]? = some (.deferred (some [])) := (heap_alloc_past' _ _ _ (Array.getElem?_eq_some_iff.1 HKD.out).1).trans HKD.out
              have hd5 : w5.heap[D]? = some (.deferred (some [])) := (hgrow.block _ (Array.getElem?_eq_some_iff.1 hd3).1 (fun e => by
                obtain ⟨g, rfl⟩ : ∃ g, vd = some ⟨g, 0, none⟩ := by
                  cases vd with
                  | none => cases e
                  | some a0 =>
                    rcases HCW.out.own.2 with ⟨e1, _⟩ | ⟨g, c1, c2, e1, _⟩
                    · cases e1
                    · cases e1; exact ⟨g, rfl⟩
                obtain ⟨cur, hcur, _, _⟩ := own_cur HCW.out.own
                cases e
                rw [HKD.out] at hcur; cases hcur)).trans hd3
              have HD6 := Lib.hid ((KeepsOthers.setCell w5 ⟨bo, 4, none⟩ (.slice vd' (cs.length + 1) vc')).same D _ hd5 rfl)
              clear hown hgrow hat hb3 hb5 hbx g0 g1 g2 g3 g4 hd3 hd5
              go_step
              go_step
              go_step
              go_step
              go_step
              obtain ⟨W6, hW6⟩ : ∃ W6, W6 = w5.setCell ⟨bo, 4, none⟩ (.slice vd' (cs.length + 1) vc') := ⟨_, rfl⟩
              rw [← hW6] at HN HD6 ⊢
              clear hW6 c0 z0'
              have hl2 : (cs ++ [bt]).length = cs.length + 1 := by simp
              have HN2 := Lib.hid (show CI W0 w W6 s' (w.heap.size + 1) bo (.slice vd' (cs ++ [bt]).length vc') (cs ++ [bt]) by rw [hl2]; exact HN.out)
              clear hl2
              have HFI := Lib.hid (show .nd s' ((cs ++ [bt]).map sh) = insT (sh (.mk s' ad0 cap0 ks)) l _ by rw [← HR2.out, List.map_append, List.map_singleton, HCH.out])
              have HG5 := Lib.hid (grown_set5 W6 (w.heap.size + 1) (.int .i64 s'.g) (.int .i64 s'.c) (.slice s'.ga s'.gs.length s'.gc) (.slice s'.ta s'.ts.length s'.tc) (.slice vd' (cs.length + 1) vc'))
              have HROW5 := Lib.hid (set5_row (HN.out.res.trans rfl) (.int .i64 s'.g) (.int .i64 s'.c) (.slice s'.ga s'.gs.length s'.gc) (.slice s'.ta s'.ts.length s'.tc) (.slice vd' (cs.length + 1) vc'))
              have hDr : D ≠ w.heap.size + 1 := fun e => by
                subst e
                have := HN.out.res
                rw [HD6.out] at this; cases this
              have HDF := Lib.hid ((HG5.out.block D (Array.getElem?_eq_some_iff.1 HD6.out).1 (fun e => hDr (by cases e; rfl))).trans HD6.out)
              have HFIN := Lib.hid (ins_put (o' := .deferred none) (HN2.out.ins HL.out.self.rd (by omega) HG5.out HFI.out) (by have := HDD.out; omega) HDF.out rfl)
              have HRW := Lib.hid ((World.putObj_heap_other (o := .deferred none) (fun e : w.heap.size + 1 = D => hDr e.symm)).trans HROW5.out)
              have hbc := row_cells HN.out.box
              have c0 := (hbc 0).trans (show _ = some (.int .i64 s'.g) from rfl)
              have c1 := (hbc 1).trans (show _ = some (.int .i64 s'.c) from rfl)
              have c2 := (hbc 2).trans (show _ = some (.slice s'.ga s'.gs.length s'.gc) from rfl)
              have c3 := (hbc 3).trans (show _ = some (.slice s'.ta s'.ts.length s'.tc) from rfl)
              have c4 := (hbc 4).trans (show _ = some (Value.slice vd' (cs.length + 1) vc') from rfl)
              have hrc := row_cells HN.out.res
              have r0 := (hrc 0).trans (show _ = some (.int .i64 0) from rfl)
              have r1 := (hrc 1).trans (show _ = some (.int .i64 0) from rfl)
              have r2 := (hrc 2).trans (show _ = some (.slice none 0 0) from rfl)
              have r3 := (hrc 3).trans (show _ = some (.slice none 0 0) from rfl)
              have r4 := (hrc 4).trans (show _ = some (.slice none 0 0) from rfl)
              have hbf : ∀ i, World.frozen? W6 ⟨w.heap.size + 1, i, none⟩ = false := fun i => by simp [World.frozen?, HN.out.res]
              clear hbc hrc
              go_step
              go_wp2
              (try simp only [Exit.inBlock, Exit.then])
              refine bodyPostM_mark (D := D) rfl HDF.out (results_c Try.results37 _ _ _ ⟨w.heap.size + 1, 0, none⟩ rfl _ (run_loadVar_row (P := Try.prog) _ _ 33 33 _ (0, 0) _ HRW.out rfl (by kernel_rfl) (by kernel_rfl))) ?_
              have := HFIN.out
              simp only [PT.s, PT.ad, PT.ks, PT.cap, trV, List.length_append, List.length_singleton] at this
              exact this
    · have HR := Lib.hid (show .nd s' (cs.map sh) = insT (sh (.mk s' ad0 cap0 ks)) l root by
        rw [sh_eq, insT]; simp only [PT.s, PT.ks, List.isEmpty_map]; rw [hd, if_pos rfl, HK.out])
      have hbc := row_cells HCI.out.box
      have c0 := (hbc 0).trans (show _ = some (.int .i64 s'.g) from rfl)
      have c1 := (hbc 1).trans (show _ = some (.int .i64 s'.c) from rfl)
      have c2 := (hbc 2).trans (show _ = some (.slice s'.ga s'.gs.length s'.gc) from rfl)
      have c3 := (hbc 3).trans (show _ = some (.slice s'.ta s'.ts.length s'.tc) from rfl)
      have c4 := (hbc 4).trans (show _ = some (.slice vd _ vc) from rfl)
      have hrc := row_cells HCI.out.res
      have r0 := (hrc 0).trans (show _ = some (.int .i64 0) from rfl)
      have r1 := (hrc 1).trans (show _ = some (.int .i64 0) from rfl)
      have r2 := (hrc 2).trans (show _ = some (.slice none 0 0) from rfl)
      have r3 := (hrc 3).trans (show _ = some (.slice none 0 0) from rfl)
      have r4 := (hrc 4).trans (show _ = some (.slice none 0 0) from rfl)
      clear hbc hrc
      have HD := Lib.hid hd
      clear hd
      have hbf : ∀ i, X1.frozen? ⟨w.heap.size + 1, i, none⟩ = false := fun i => by simp [World.frozen?, HCI.out.res]
      cases l with
      | nil =>
        clear HD
        go_wp2
        refine bodyPostM_ret (v := trV (.mk s' vd vc cs)) ?_ rfl (HCI.out.ins HL.out.self.rd (by omega) (World.grownBy.trans (World.grownBy.trans (World.grownBy.trans (World.grownBy.trans (grown_set X1 ⟨w.heap.size + 1, 0, none⟩ (.int .i64 s'.g)) (grown_set _ ⟨w.heap.size + 1, 1, none⟩ (.int .i64 s'.c))) (grown_set _ ⟨w.heap.size + 1, 2, none⟩ (.slice s'.ga s'.gs.length s'.gc))) (grown_set _ ⟨w.heap.size + 1, 3, none⟩ (.slice s'.ta s'.ts.length s'.tc))) (grown_set _ ⟨w.heap.size + 1, 4, none⟩ (.slice vd _ vc))) HR.out)
        simp [results, Try.results37, go_sem, r0, r1, r2, r3, r4, PT.s, PT.ad, PT.ks, PT.cap]
      | cons l0 lr =>
        have hl0 : (((lr.length : Int) + 1) == 0) = false := by simp; omega
        have hroot : root = false := by have := HD.out; simp at this; exact this.1
        have hks : ks = [] := by have := HD.out; simp at this; exact this.2
        subst hroot hks
        clear HD
        go_wp2
        refine bodyPostM_ret (v := trV (.mk s' vd vc cs)) ?_ rfl (HCI.out.ins HL.out.self.rd (by omega) (World.grownBy.trans (World.grownBy.trans (World.grownBy.trans (World.grownBy.trans (grown_set X1 ⟨w.heap.size + 1, 0, none⟩ (.int .i64 s'.g)) (grown_set _ ⟨w.heap.size + 1, 1, none⟩ (.int .i64 s'.c))) (grown_set _ ⟨w.heap.size + 1, 2, none⟩ (.slice s'.ga s'.gs.length s'.gc))) (grown_set _ ⟨w.heap.size + 1, 3, none⟩ (.slice s'.ta s'.ts.length s'.tc))) (grown_set _ ⟨w.heap.size + 1, 4, none⟩ (.slice vd _ vc))) HR.out)
        simp [results, Try.results37, go_sem, r0, r1, r2, r3, r4, PT.s, PT.ad, PT.ks, PT.cap]

end Go.Proofs.Ytmgiojkdcpolfaa
