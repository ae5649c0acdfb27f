/- WakeupRemove: the walk. -/
import Derived.Test.YtmgiojkdcpolfaaRm
namespace Go.Proofs.Ytmgiojkdcpolfaa
open Go.RowKit Go.Sort PT

set_option maxRecDepth 100000 in
set_option maxHeartbeats 4000000 in
theorem removeLaw_any (ad : Option Addr) (ps : List PA) (cap : Nat) (xg xc : Int) (w : World) (hr : Row 1 paC w ad ps) (hs : ∀ q ∈ ps, SeqU w q) :
    Calls Try.prog 7 #[.slice ad ps.length cap, pkv xg xc] w (Gives (.bool true) w) := by
  obtain ⟨i0, z0, HI⟩ := path_info
  obtain ⟨W1, hW1⟩ : ∃ W1, W1 = w.alloc (.cells #[.int .i64 xg, .int .i64 xc] 26) := ⟨_, rfl⟩
  have hb1 : Below w.heap.size w W1 := by rw [hW1]; exact (by repeat (first | exact Below.refl _ _ | refine below_gw ?_ (by simp; try omega) _ | refine Below.alloc ?_ (by simp; try omega) _ | refine Below.setCell ?_ (by simp; try omega) _ | refine Below.drew ?_))
  have hx1 : W1.heap[w.heap.size]? = some (.cells #[.int .i64 xg, .int .i64 xc] 26 (0, 0)) := by rw [hW1]; exact heap_alloc_at' _ _ _ rfl
  have HB1 := Lib.hid hb1
  have HX1 := Lib.hid hx1
  have HR := Lib.hid (hr.below hb1)
  have HS := Lib.hid hs
  have HFW := Lib.hid (fun q => few_any ad ps cap (gw W1 q) (HR.out.gw q) (fun x hx => (((hs x hx).row.below hb1).gw q)))
  clear hr hs hx1
  obtain ⟨d, hd⟩ : ∃ d, few ps = d := ⟨_, rfl⟩
  rw [hd] at HFW
  cases d
  · clear hb1
    go_enter Try.func7, Try.ntmps7
    go_wp2_with (go_at_call 9; refine Stop.here ?_)
    refine Stop.on ?_
    rw [← hW1]
    clear hW1
    refine (awake_any _).mono ?_
    rintro e w1 ⟨rfl, p1, rfl⟩
    go_wp2_with (go_at_call 10; (with_reducible refine (HFW.out _).mono ?_); rintro e w1 ⟨rfl, p2, rfl⟩)
    have HB := Lib.hid (below_gw (below_gw HB1.out HB1.out.size p1) (below_gw HB1.out HB1.out.size p1).size p2)
    go_ret; exact Gives.mk rfl (by have hb' := HB.out; have hs' := HB.out.size; repeat (first | exact hb' | refine below_gw ?_ (by first | (simp; done) | (simp; omega) | omega) _ | refine Below.alloc ?_ (by first | (simp; done) | (simp; omega) | omega) _ | refine Below.setCell ?_ (by first | (simp; done) | (simp; omega) | omega) | refine Below.drew ?_))
  have HSF := Lib.hid (fun q hq => let h := seqF_of hd HS.out q hq; (⟨h.row.below hb1, h.cap, h.nil, fun s hs => (h.rd s hs).below hb1, h.len⟩ : SeqF W1 q))
  have hps := (few_spec hd).1
  clear HS hd hb1
  go_enter Try.func7, Try.ntmps7
  go_wp2_with (go_at_call 9; refine Stop.here ?_)
  refine Stop.on ?_
  rw [← hW1]
  clear hW1
  refine (awake_any _).mono ?_
  rintro e w1 ⟨rfl, p1, rfl⟩
  go_wp2_with (first | (go_at_call 10; (with_reducible refine (HFW.out _).mono ?_); rintro e w1 ⟨rfl, p2, rfl⟩) | (go_at_call 11; refine Stop.here ?_))
  refine Stop.on ?_
  have hb2 : Below W1.heap.size W1 (gw (gw W1 p1) p2) := below_gw (gw_below W1 p1) (by simp) p2
  refine (grow50_any ad ps cap _ (HR.out.below hb2) (fun q hq => ⟨(HSF.out q hq).row.below hb2, (HSF.out q hq).cap, (HSF.out q hq).nil, fun s hs => ((HSF.out q hq).rd s hs).below hb2, (HSF.out q hq).len⟩) hps).mono ?_
  rintro e w3 ⟨t, au, u, cu, rfl, hl, _, _, hct, _, hb, hds⟩
  have HB2 := Lib.hid (HB1.out.trans (hb2.mono HB1.out.size))
  have HX2 := Lib.hid ((hb2.block _ (Array.getElem?_eq_some_iff.1 HX1.out).1).trans HX1.out)
  have HL := Lib.hid hl
  have HDS := Lib.hid hds
  have HB3 := Lib.hid hb
  clear hl hds hb hb2 HFW HR HSF HX1 HB1 hps
  generalize gw (gw W1 p1) p2 = X at *
  -- the tree lies in its box
  obtain ⟨Z, hZ⟩ : ∃ Z, Z = w3.alloc (.cells (trC t).toArray 33) := ⟨_, rfl⟩
  have HTZ := Lib.hid (show TB X Z w3.heap.size t by rw [hZ]; exact TB.new HL.out)
  have HBZ := Lib.hid (show Below X.heap.size X Z by rw [hZ]; exact HB3.out.alloc HB3.out.size _)
  go_wp2_with (go_at_call 13; refine Stop.here ?_)
  refine Stop.on ?_
  rw [show w3.alloc (.cells #[.int .i64 t.s.g, .int .i64 t.s.c, .slice t.s.ga t.s.gs.length t.s.gc, .slice t.s.ta t.s.ts.length t.s.tc, .slice t.ad t.ks.length t.cap] 33) = Z from hZ.symm]
  clear hZ HL HB3
  generalize w3.heap.size = b5 at *
  refine (pathsC_any X Z t HTZ.out.lies HBZ.out (by omega)).mono ?_
  rintro e w4 ⟨aA, psA, cA, rfl, hA, hpA, rA, rfl⟩
  have hbA := gw_below Z rA
  have HA := Lib.hid hA
  have HPA := Lib.hid hpA
  have HTY := Lib.hid (HTZ.out.mono hbA)
  have HBY := Lib.hid (HBZ.out.trans (hbA.mono HBZ.out.size))
  clear hA hpA hbA HTZ HBZ
  generalize gw Z rA = Y1 at *
  -- Remove
  obtain ⟨t0, t1, t2, t3, t4, o5⟩ := HTY.out.cells
  have hx1 := (HBY.out.block _ (Array.getElem?_eq_some_iff.1 HX2.out).1).trans HX2.out
  have x0 := (row_cells hx1 0).trans (show _ = some (.int .i64 xg) from rfl)
  have x1 := (row_cells hx1 1).trans (show _ = some (.int .i64 xc) from rfl)
  have ox : Old w.heap.size Y1 := Old.of_cell x0
  clear hx1
  go_wp2_with (go_at_call 24; refine Stop.here ?_)
  refine Stop.on ?_
  refine (remove_any X t xg xc Y1 HTY.out.lies (by rw [nodes_cnt]; omega)).mono ?_
  rintro e w5 ⟨r1, rfl, hsh1, hl1, hb5⟩
  have HSH1 := Lib.hid hsh1
  have HL1 := Lib.hid hl1
  have HB5 := Lib.hid hb5
  clear hsh1 hl1 hb5 t0 t1 t2 t3 t4 o5 x0 x1 ox
  go_wp2_with (go_at_call 13; refine Stop.here ?_)
  refine Stop.on ?_
  have HBX5 := Lib.hid (HBY.out.trans (HB5.out.mono HBY.out.size))
  refine (pathsC_any X w5 r1 HL1.out HBX5.out (by rw [HSH1.out]; have := rmT_cnt (sh t) (pkS xg xc); omega)).mono ?_
  rintro e w6 ⟨aL, psL, cL, rfl, hLp, hpL, rL, rfl⟩
  have hbL := gw_below w5 rL
  have HLP := Lib.hid hLp
  have HPL := Lib.hid hpL
  have HBY2 := Lib.hid (HB5.out.trans (hbL.mono HB5.out.size))
  have HT2 := Lib.hid (HTY.out.mono HBY2.out)
  have HBX2 := Lib.hid (HBX5.out.trans (hbL.mono HBX5.out.size))
  have HPA2 := Lib.hid (HPA.out.below HBY2.out)
  clear hLp hpL hbL HBX5 HB5 HPA HBY2 HTY HL1 HBY
  generalize gw w5 rL = Y2 at *
  -- Subtree
  obtain ⟨t0, t1, t2, t3, t4, o5⟩ := HT2.out.cells
  have hx1 := (HBX2.out.block _ (Array.getElem?_eq_some_iff.1 HX2.out).1).trans HX2.out
  have x0 := (row_cells hx1 0).trans (show _ = some (.int .i64 xg) from rfl)
  have x1 := (row_cells hx1 1).trans (show _ = some (.int .i64 xc) from rfl)
  have ox : Old w.heap.size Y2 := Old.of_cell x0
  clear hx1
  go_wp2_with (go_at_call 25; refine Stop.here ?_)
  refine Stop.on ?_
  refine (subtree_any X t xg xc Y2 HT2.out.lies (by rw [nodes_cnt]; omega)).mono ?_
  rintro e w7 ⟨s, b, rfl, hls, hb7, hcase⟩
  clear t0 t1 t2 t3 t4 o5 x0 x1 ox
  -- the plain facts
  have hsw := sub_wi (x := pkS xg xc) HDS.out
  obtain ⟨o, ho⟩ : ∃ o, subT (sh t) (pkS xg xc) = o := ⟨_, rfl⟩
  rw [ho] at hcase hsw
  have hcs : cnt (sh s) ≤ 900 := by
    cases o with
    | some k => rw [hcase.2]; have := subT_cnt ho; omega
    | none => rw [hcase.2]; simp [sh, shL, cnt, cntL]
  have hss : (sh s).s = s.s := sh_s s
  have HF1 := Lib.hid (show ∀ (q : PA), q ∈ psA → ∃ s0 r, q.l = s0 :: r ∧ (pk s0 (pkS xg xc) = true → b = true ∧ s.s = s0) from fun q hq => by
    have hq' : q.l ∈ lvK [] (sh t).ks := by rw [← HA.out]; exact List.mem_map_of_mem hq
    obtain ⟨k, hk, r, he⟩ := lvK_head _ hq'
    refine ⟨k.s, r, he, fun hp => ?_⟩
    cases o with
    | none => rw [hsw.2 k hk] at hp; cases hp
    | some k2 => exact ⟨hcase.1, by rw [← hss, hcase.2, hsw.2.2.2 k hk hp]⟩)
  have HF2 := Lib.hid (show b = true → (wt (fun s => pk s (pkS xg xc)) (psA.map PA.l)).length < (psA.map PA.l).length from fun hb => by
    cases o with
    | none => rw [hcase.1] at hb; cases hb
    | some k2 =>
      obtain ⟨h1, h2, _, _⟩ := hsw
      obtain ⟨p, hp⟩ := List.exists_mem_of_ne_nil _ (lvT_ne [] k2)
      obtain ⟨r, rfl⟩ := lvT_head k2 p hp
      refine wt_lt _ (s := k2.s) (r := r) h2 _ ?_
      rw [HA.out]
      exact lvT_in h1 hp)
  have HF3 := Lib.hid (show lvK [] (sh s).ks = wi (fun s => pk s (pkS xg xc)) (psA.map PA.l) from by
    rw [HA.out]
    cases o with
    | none => rw [hcase.2, hsw.1]; simp [sh, shL, T.ks, lvK]
    | some k2 => rw [hcase.2, hsw.2.2.1])
  have HF4 := Lib.hid (show lvK [] (sh r1).ks = wt (fun s => pk s (pkS xg xc)) (psA.map PA.l) from by rw [HSH1.out, HA.out]; exact rm_wt HDS.out)
  have HAL := Lib.hid (show psA.length ≤ 900 by
    have h1 := congrArg List.length HA.out
    simp only [List.length_map] at h1
    have := lvK_len [] (sh t).ks
    have := cnt_ks (sh t)
    omega)
  have HD := Lib.hid (show Dist (t.ks.map PT.s) by rw [← map_sh_s, ← ks_sh']; exact HDS.out)
  have HLS := Lib.hid hls
  have HB7 := Lib.hid hb7
  have HCS := Lib.hid hcs
  have HKL := Lib.hid (show t.ks.length ≤ 900 by have := kids_less t; have := nodes_cnt t; omega)
  clear hsw ho hcase hcs hss hls hb7 HSH1 HDS
  clear o
  -- the child lies in its box
  obtain ⟨Z, hZ⟩ : ∃ Z, Z = w7.alloc (.cells (trC s).toArray 33) := ⟨_, rfl⟩
  have HBX7 := Lib.hid (HBX2.out.trans (HB7.out.mono HBX2.out.size))
  have HSZ := Lib.hid (show TB X Z w7.heap.size s by rw [hZ]; exact TB.new HLS.out)
  have HBZ := Lib.hid (show Below w7.heap.size w7 Z by rw [hZ]; exact (Below.refl _ _).alloc (Nat.le_refl _) _)
  go_wp2_with (go_at_call 13; refine Stop.here ?_)
  refine Stop.on ?_
  rw [show w7.alloc (.cells #[.int .i64 s.s.g, .int .i64 s.s.c, .slice s.s.ga s.s.gs.length s.s.gc, .slice s.s.ta s.s.ts.length s.s.tc, .slice s.ad s.ks.length s.cap] 33) = Z from hZ.symm]
  clear hZ
  have HBXZ := Lib.hid (HBX7.out.trans (HBZ.out.mono HBX7.out.size))
  have HYZ := Lib.hid (HB7.out.trans (HBZ.out.mono HB7.out.size))
  generalize w7.heap.size = b9 at *
  refine (pathsC_any X Z s HSZ.out.lies HBXZ.out HCS.out).mono ?_
  rintro e w8 ⟨aS, psS, cS, rfl, hS, hpS, rS, rfl⟩
  have hbS := gw_below Z rS
  have HSP := Lib.hid (hS.trans HF3.out)
  have HLQ := Lib.hid (HLP.out.trans HF4.out)
  have HPS := Lib.hid hpS
  have hby : Below Y2.heap.size Y2 (gw Z rS) := HYZ.out.trans (hbS.mono HYZ.out.size)
  have HTY := Lib.hid (HT2.out.mono hby)
  have HPAY := Lib.hid (HPA2.out.below hby)
  have HPLY := Lib.hid (HPL.out.below hby)
  have HSY := Lib.hid (HSZ.out.mono hbS)
  have hbx := HBX2.out.trans (hby.mono HBX2.out.size)
  have HXY := Lib.hid ((hbx.block _ (Array.getElem?_eq_some_iff.1 HX2.out).1).trans HX2.out)
  have HWY := Lib.hid (HB2.out.trans (hbx.mono HB2.out.size))
  have hsl : psS.length ≤ 900 := by
    have h1 := congrArg List.length hS
    simp only [List.length_map] at h1
    have := lvK_len [] (sh s).ks
    have := cnt_ks (sh s)
    have := HCS.out
    omega
  have hll : psL.length ≤ 900 := by
    have h1 := congrArg List.length HLQ.out
    simp only [List.length_map] at h1
    have h2 := wt_len (fun s => pk s (pkS xg xc)) (psA.map PA.l)
    simp only [List.length_map] at h2
    have := HAL.out
    omega
  clear hS hpS hbS hby hbx HA HPL HPA2 HSZ HT2 HX2 HB2 HBX2 HBX7 HBZ HBXZ HB7 HYZ HLS HCS HLP HF3 HF4
  generalize gw Z rS = Y at *
  go_wp2
  have HRS := Lib.hid (RS.start Y)
  go_loopw [12, 13, 14] (fun vw vo iv wr => ∃ (k : Nat) (lw lo : List PA), k ≤ psA.length ∧ iv = .int .i64 k ∧ Hid (RS Y wr vw vo lw lo (wi (fun s => pk s (pkS xg xc)) ((psA.map PA.l).take k)) (wt (fun s => pk s (pkS xg xc)) ((psA.map PA.l).take k)))) (fun _ _ iv _ => psA.length - (intOf iv).toNat)
  case atStart => exact ⟨0, [], [], by omega, rfl, HRS⟩
  case round =>
    clear HRS
    obtain ⟨k, lw, lo, hk, rfl, hrs⟩ := hrel
    have HRS := Lib.hid hrs.out
    clear hrs
    by_cases hlt : k < psA.length
    · have hal := HAL.out
      have kb : (k : Int) < psA.length := by omega
      obtain ⟨q, hq⟩ := get_some hlt
      obtain ⟨s0, r, hql, hsub⟩ := HF1.out q (List.mem_of_getElem? hq)
      have HSUB := Lib.hid hsub
      have HQL := Lib.hid hql
      have hqp := (HPAY.out.p.at' q (List.mem_of_getElem? hq))
      have hqc := HPAY.out.cap q (List.mem_of_getElem? hq)
      have HQP := Lib.hid hqp
      have hn1 : 1 ≤ q.l.length := by rw [hql]; simp
      have hz0 : ((q.l.length : Int) == 0) = false := beq_eq_false_iff_ne.2 (by omega)
      have hw1 := HRS.out.below
      obtain ⟨bA, oA, rfl, hoA, hcA⟩ := (HPAY.out.p.row.below' hw1).get hq
      have a0 := hcA 0 (by omega)
      simp at a0
      have hg0 : q.l[0]? = some s0 := by rw [hql]; rfl
      obtain ⟨bQ, oQ, hqa, hoQ, hcQ⟩ := (hqp.1.row.below' hw1).get hg0
      have c0 := hcQ 0 (by omega)
      have c1 := hcQ 1 (by omega)
      have c2 := hcQ 2 (by omega)
      have c3 := hcQ 3 (by omega)
      simp at c0 c1 c2 c3
      have hxw := (hw1.block _ (Array.getElem?_eq_some_iff.1 HXY.out).1).trans HXY.out
      have x0 := (row_cells hxw 0).trans (show _ = some (.int .i64 xg) from rfl)
      have x1 := (row_cells hxw 1).trans (show _ = some (.int .i64 xc) from rfl)
      have ox : Old w.heap.size wr := Old.of_cell x0
      have HW1 := Lib.hid hw1
      have HQA := Lib.hid hqa
      obtain ⟨qa, ql, qc⟩ := q
      simp only at hn1 hz0 hqc hqa HQA HQL HQP
      subst hqa
      replace a0 : wr.cell? ⟨bA, oA + k, none⟩ = some (.slice (some ⟨bQ, oQ, none⟩) ql.length qc) := a0
      have hz0' : decide ((0 : Int) < (ql.length : Int)) = true := by simp; omega
      have hkn : (0 : Int) ≤ (k : Int) := by omega
      have hn0 : 0 < ql.length := hn1
      have hn0i : (0 : Int) < (ql.length : Int) := by omega
      have hne : ql ≠ [] := fun e => by rw [e] at hn1; simp at hn1
      have HQ := Lib.hid hq
      have HRD := Lib.hid (HQP.out.1.rd s0 (by rw [HQL.out]; exact List.mem_cons.2 (.inl rfl)))
      have hRowA := HPAY.out.p.row
      have hRowQ := HQP.out.1.row
      have HTK := Lib.hid (show (psA.map PA.l).take (k + 1) = (psA.map PA.l).take k ++ [s0 :: r] from get_take (by rw [List.getElem?_map, hq, ← hql]; rfl))
      clear hq hql hsub hqp hcA hcQ hxw hw1 hg0
      by_cases hpk : pk s0 (pkS xg xc) = true
      · obtain ⟨hbt, hs0⟩ := HSUB.out hpk
        subst hbt
        have hpg : s0.g = xg ∧ s0.c = xc := by simpa [pk] using hpk
        obtain ⟨hpg, hpc⟩ := hpg
        have hg1 : (s0.g == xg) = true := by simp [hpg]
        have hg2 : (s0.c == xc) = true := by simp [hpc]
        have HPK := Lib.hid hpk
        have HCELL := Lib.hid (show ∀ V, Below Y.heap.size Y V → V.cell? ⟨bA, oA + k, none⟩ = some (.slice (some ⟨bQ, oQ, none⟩) ql.length qc) ∧ V.cell? ⟨bQ, oQ, none⟩ = some (.int .i64 s0.g) ∧ V.cell? ⟨bQ, oQ + 1, none⟩ = some (.int .i64 s0.c) ∧ V.cell? ⟨bQ, oQ + 2, none⟩ = some (.slice s0.ga s0.gs.length s0.gc) ∧ V.cell? ⟨bQ, oQ + 3, none⟩ = some (.slice s0.ta s0.ts.length s0.tc)
            ∧ V.cell? ⟨b9, 0, none⟩ = some (.int .i64 s0.g) ∧ V.cell? ⟨b9, 1, none⟩ = some (.int .i64 s0.c) ∧ V.cell? ⟨b9, 2, none⟩ = some (.slice s0.ga s0.gs.length s0.gc) ∧ V.cell? ⟨b9, 3, none⟩ = some (.slice s0.ta s0.ts.length s0.tc) ∧ Old bA V ∧ Old bQ V ∧ Old b9 V from fun V hV => by
          have h1 := (hRowA.below hV).get HQ.out
          have h2 := (hRowQ.below hV).get (k := 0) (x := s0) (by rw [HQL.out]; rfl)
          obtain ⟨b1, o1, e1, h10, h11⟩ := h1
          obtain ⟨b2, o2, e2, h20, h21⟩ := h2
          cases e1
          cases e2
          obtain ⟨k0, k1, k2, k3, _, k5⟩ := (HSY.out.mono hV).cells
          rw [hs0] at k0 k1 k2 k3
          have g0 := h11 0 (by omega)
          have c0 := h21 0 (by omega)
          have c1 := h21 1 (by omega)
          have c2 := h21 2 (by omega)
          have c3 := h21 3 (by omega)
          simp at g0 c0 c1 c2 c3
          exact ⟨g0, c0, c1, c2, c3, k0, k1, k2, k3, h10, h20, k5⟩)
        clear hpk hs0 hpg hpc hRowA hRowQ
        go_wp2
        refine wp_region_gw (by kernel_rfl) (by kernel_rfl) ?_
        repeat (go_big_quiet_step (first | fail))
        refine wpQuiet_nil ?_
        intro _ hw'
        obtain ⟨p4, hw''⟩ := hw'
        subst hw''
        by_cases hl1 : 1 < ql.length
        · have hl1' : decide ((1 : Int) < (ql.length : Int)) = true := by simp; omega
          go_wp2_with (at_builtin; refine Stop.here ?_)
          refine Stop.on ?_
          have hrl : r.length = ql.length - 1 := by rw [HQL.out]; simp
          have hst := HQP.out.1
          rw [HQL.out] at hst
          have HQ2 := Lib.hid (show Sts Y (some ⟨bQ, oQ + 4, none⟩) r ∧ r.length ≤ 1000 from ⟨hst.tail (c := qc) (by rw [← HQL.out]; exact hqc) (by rw [← HQL.out]; exact hl1), by have := HQP.out.2; omega⟩)
          have hlk := HRS.out.len
          have hsz := (HRS.out.gw p4).below.size
          refine wpList_append_row rfl _ _ 22 rfl Y.heap.size 41 i0 z0 1 24 rfl HI.out.1 HI.out.2.1 HI.out.2.2.1 HI.out.2.2.2.1 HI.out.2.2.2.2 (by omega) paC_len paC_one _ lw.length (lw.flatMap paC) rfl (own_alloc' (HRS.out.gw p4).w.own _) _ 1 [⟨some ⟨bQ, oQ + 4, none⟩, r, qc - 1⟩] (fun h => by cases h) rfl (Row.of_block paC_len (heap_alloc_at' _ _ _ (by simp)) (by simp [hrl])) (by simp only [maxLen, List.length_singleton]; omega) (by simp only [List.length_singleton]; omega) (by simp at hsz ⊢; omega) ?_
          intro v' w5 hown hgrow hat
          rw [← hrl] at hgrow hat
          have HRN := Lib.hid ((HRS.out.gw p4).app HQ2.out hown hgrow hat)
          clear hown hgrow hat hst hlk hsz hrl HRS
          clear a0 c0 c1 c2 c3 x0 x1 hoA hoQ ox
          obtain ⟨d0, d1, d2, d3, d4, e0, e1, e2, e3, oA1, oQ1, oB1⟩ := HCELL.out w5 HRN.out.below
          have HSC := Lib.hid (fun r => show Calls Try.prog 26 #[stv s0, stv s0] (gw w5 r) (Gives (.bool true) (gw w5 r)) from by
            have h := same_any s0 s0 (gw w5 r) ((HRD.out.below HRN.out.below).gw r) ((HRD.out.below HRN.out.below).gw r)
            rw [same_refl] at h
            exact h)
          go_wp2
          refine wp_region_gw (by kernel_rfl) (by kernel_rfl) ?_
          repeat (go_big_quiet_step (first | (go_at_call 26; exact Gives.call (HSC.out _))))
          refine wpQuiet_nil ?_
          intro _ hw'
          obtain ⟨p5, hw''⟩ := hw'
          subst hw''
          go_wp2
          have HRN2 := Lib.hid (HRN.out.gw p5)
          go_roundw
          case rel => exact ⟨k + 1, _, lo, by omega, by go_num, Lib.hid (by
            have h1 := HRN2.out
            rw [HTK.out, wi_append, wt_append, wi_one, wt_one, if_pos HPK.out, HPK.out, ← HQL.out, Bool.true_and, if_pos (by simpa using hl1), List.append_nil]
            exact h1)⟩
          case measure => simp [intOf]; omega
        · have hl1' : decide ((1 : Int) < (ql.length : Int)) = false := by simp; omega
          have HRN := Lib.hid (HRS.out.gw p4)
          clear a0 c0 c1 c2 c3 x0 x1 hoA hoQ ox
          generalize gw wr p4 = w5 at *
          obtain ⟨d0, d1, d2, d3, d4, e0, e1, e2, e3, oA1, oQ1, oB1⟩ := HCELL.out w5 HRN.out.below
          have HSC := Lib.hid (fun r => show Calls Try.prog 26 #[stv s0, stv s0] (gw w5 r) (Gives (.bool true) (gw w5 r)) from by
            have h := same_any s0 s0 (gw w5 r) ((HRD.out.below HRN.out.below).gw r) ((HRD.out.below HRN.out.below).gw r)
            rw [same_refl] at h
            exact h)
          go_wp2
          refine wp_region_gw (by kernel_rfl) (by kernel_rfl) ?_
          repeat (go_big_quiet_step (first | (go_at_call 26; exact Gives.call (HSC.out _))))
          refine wpQuiet_nil ?_
          intro _ hw'
          obtain ⟨p5, hw''⟩ := hw'
          subst hw''
          go_wp2
          have HRN2 := Lib.hid (HRN.out.gw p5)
          go_roundw
          case rel => exact ⟨k + 1, lw, lo, by omega, by go_num, Lib.hid (by
            have h1 := HRN2.out
            rw [HTK.out, wi_append, wt_append, wi_one, wt_one, if_pos HPK.out, HPK.out, ← HQL.out, Bool.true_and, if_neg (by simpa using hl1), List.append_nil, List.append_nil]
            exact h1)⟩
          case measure => simp [intOf]; omega
      · have hpk' : pk s0 (pkS xg xc) = false := by simpa using hpk
        have HPK := Lib.hid hpk'
        have hor : ((s0.g == xg) = false) ∨ ((s0.g == xg) = true ∧ (s0.c == xc) = false) := by
          have h9 := hpk'
          simp only [pk] at h9
          cases hg : s0.g == xg with
          | false => exact .inl rfl
          | true => exact .inr ⟨rfl, by simpa [hg] using h9⟩
        clear hpk hpk' hRowA hRowQ
        rcases hor with hg1 | ⟨hg1, hg2⟩
        all_goals
          go_wp2
          refine wp_region_gw (by kernel_rfl) (by kernel_rfl) ?_
          repeat (go_big_quiet_step (first | fail))
          refine wpQuiet_nil ?_
          intro _ hw'
          obtain ⟨p4, hw''⟩ := hw'
          subst hw''
          go_wp2_with (at_builtin; refine Stop.here ?_)
          refine Stop.on ?_
          have hlk := HRS.out.len
          have hsz := (HRS.out.gw p4).below.size
          refine wpList_append_row rfl _ _ 22 rfl Y.heap.size 41 i0 z0 1 24 rfl HI.out.1 HI.out.2.1 HI.out.2.2.1 HI.out.2.2.2.1 HI.out.2.2.2.2 (by omega) paC_len paC_one _ lo.length (lo.flatMap paC) rfl (own_alloc' (HRS.out.gw p4).o.own _) _ 1 [⟨some ⟨bQ, oQ, none⟩, ql, qc⟩] (fun h => by cases h) rfl (Row.of_block paC_len (heap_alloc_at' _ _ _ (by simp)) (by simp)) (by simp only [maxLen, List.length_singleton]; omega) (by simp only [List.length_singleton]; omega) (by simp at hsz ⊢; omega) ?_
          intro v' w5 hown hgrow hat
          have HRN := Lib.hid ((HRS.out.gw p4).swap.app HQP.out hown hgrow hat).swap
          clear hown hgrow hat hlk hsz HRS a0 c0 c1 c2 c3 x0 x1 hoA hoQ ox
          go_wp2
          go_roundw
          case rel => exact ⟨k + 1, lw, _, by omega, by go_num, Lib.hid (by
            have h1 := HRN.out
            rw [HTK.out, wi_append, wt_append, wi_one, wt_one, HPK.out, ← HQL.out]
            simp only [Bool.false_and, Bool.false_eq_true, if_false, List.append_nil]
            exact h1)⟩
          case measure => simp [intOf]; omega
    · obtain rfl : k = psA.length := by omega
      have HRS2 := Lib.hid (show RS Y wr u12 u13 lw lo (wi (fun s => pk s (pkS xg xc)) (psA.map PA.l)) (wt (fun s => pk s (pkS xg xc)) (psA.map PA.l)) from by
        have h1 := HRS.out
        rw [List.take_of_length_le (by simp)] at h1
        exact h1)
      have hbw := HRS2.out.below
      have HBW := Lib.hid hbw
      have hlo : lo.length = (wt (fun s => pk s (pkS xg xc)) (psA.map PA.l)).length := by rw [← HRS2.out.o.eq]; simp
      obtain ⟨a12, c12, rfl, _, _⟩ := own_val HRS2.out.w.own
      obtain ⟨a13, c13, rfl, _, _⟩ := own_val HRS2.out.o.own
      have HPW := Lib.hid (show Pths wr a12 lw from ⟨row_own paC_len HRS2.out.w.own rfl, fun q hq => ⟨(HRS2.out.w.at' q hq).1.below hbw, (HRS2.out.w.at' q hq).2⟩⟩)
      have HPO := Lib.hid (show Pths wr a13 lo from ⟨row_own paC_len HRS2.out.o.own rfl, fun q hq => ⟨(HRS2.out.o.at' q hq).1.below hbw, (HRS2.out.o.at' q hq).2⟩⟩)
      have HE1 := Lib.hid (show eqL sameP psL lo = true from samePs_refl (HLQ.out.trans HRS2.out.o.eq.symm))
      have HE2 := Lib.hid (show eqL sameP psS lw = true from samePs_refl (HSP.out.trans HRS2.out.w.eq.symm))
      have hlk := HRS.out.len
      have hal := HAL.out
      have hTw := HTY.out.mono hbw
      obtain ⟨t0, t1, t2, t3, t4, o5⟩ := hTw.cells
      have HDI := Lib.hid (distinct_any X t wr hTw.lies HKL.out HD.out)
      have hfin : decide ((psA.length : Int) < (psA.length : Int)) = false := by simp
      have hbb : b = false ∨ (b = true ∧ ((lo.length : Int) == (psA.length : Int)) = false) := by
        cases hb : b with
        | false => exact .inl rfl
        | true =>
          have h1 := HF2.out hb
          rw [← hlo, List.length_map] at h1
          exact .inr ⟨rfl, beq_eq_false_iff_ne.2 (by omega)⟩
      clear hTw hbw hlo HRS HRS2 HF1 HF2
      rcases hbb with rfl | ⟨rfl, hbe⟩
      all_goals
        go_wp2_with (go_at_call 27; refine Stop.here ?_)
        refine Stop.on ?_
        refine HDI.out.mono ?_
        rintro e w9 ⟨rfl, p6, rfl⟩
        have HB6 := Lib.hid (below_gw HBW.out HBW.out.size p6)
        have HPW6 := Lib.hid (HPW.out.gw p6)
        have HPO6 := Lib.hid (HPO.out.gw p6)
        clear t0 t1 t2 t3 t4 o5 HDI HPW HPO HBW
        generalize gw wr p6 = V at *
        go_wp2_with (go_at_call 12; refine Stop.here ?_)
        refine Stop.on ?_
        have h1 := samePaths_any aL a13 psL lo cL c13 V (HPLY.out.p.below HB6.out) HPO6.out (by omega) (by omega)
        rw [HE1.out] at h1
        refine h1.mono ?_
        rintro e w9 ⟨rfl, p7, rfl⟩
        have HB7 := Lib.hid (below_gw HB6.out HB6.out.size p7)
        have HPW7 := Lib.hid (HPW6.out.gw p7)
        clear h1 HPW6 HPO6 HB6
        generalize gw V p7 = U at *
        go_wp2_with (go_at_call 12; refine Stop.here ?_)
        refine Stop.on ?_
        have h1 := samePaths_any aS a12 psS lw cS c12 U (HPS.out.p.below HB7.out) HPW7.out (by omega) (by omega)
        rw [HE2.out] at h1
        refine h1.mono ?_
        rintro e w9 ⟨rfl, p8, rfl⟩
        have HBE := Lib.hid (HWY.out.trans ((below_gw HB7.out HB7.out.size p8).mono HWY.out.size))
        clear h1
        go_wp2
        go_ret; exact Gives.mk rfl (by have hb' := HBE.out; have hs' := HBE.out.size; repeat (first | exact hb' | refine below_gw ?_ (by first | (simp; done) | (simp; omega) | omega) _ | refine Below.alloc ?_ (by first | (simp; done) | (simp; omega) | omega) _ | refine Below.setCell ?_ (by first | (simp; done) | (simp; omega) | omega) | refine Below.drew ?_))
end Go.Proofs.Ytmgiojkdcpolfaa
