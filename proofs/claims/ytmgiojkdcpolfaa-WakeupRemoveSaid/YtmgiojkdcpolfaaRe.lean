/- Remove. -/
import Derived.Test.YtmgiojkdcpolfaaFn
import Derived.Test.YtmgiojkdcpolfaaDl
import Derived.Test.YtmgiojkdcpolfaaIw
namespace Go.Proofs.Ytmgiojkdcpolfaa
open Go.RowKit Go.Sort PT

/-- The tree without the child of a pick. -/
def rmT (t : T) (x : PS) : T := match (t.ks.map T.s).findIdx? (fun s => pk s x) with | some i => .nd t.s (t.ks.eraseIdx i) | none => t
theorem map_sh_s (ks : List PT) : (ks.map sh).map T.s = ks.map PT.s := by
  rw [List.map_map]
  congr 1
  funext k
  exact sh_s k
theorem ks_sh' (t : PT) : (sh t).ks = t.ks.map sh := by rw [sh_eq]; rfl
theorem map_erase {α β : Type} (f : α → β) (l : List α) (i : Nat) : (l.eraseIdx i).map f = (l.map f).eraseIdx i := by
  rw [List.eraseIdx_eq_take_drop_succ, List.eraseIdx_eq_take_drop_succ, List.map_append, List.map_take, List.map_drop]
def eraseT (t : PT) (i : Nat) : PT := .mk t.s t.ad t.cap (t.ks.eraseIdx i)
theorem Avoid.erase {g : Option Nat} {t : PT} (h : Avoid g t) (i : Nat) : Avoid g (eraseT t i) := fun n hn => by
  rcases mem_nodes.1 hn with rfl | ⟨k, hk, hk2⟩
  · exact h t (self_nodes t)
  · exact h n (kid_nodes (List.mem_of_mem_eraseIdx hk) hk2)
def RemPost (W0 : World) (T' : T) (w : World) (e : Ending) (w' : World) : Prop := ∃ t', e = .returned (trV t') ∧ sh t' = T' ∧ Lies W0 w' t' ∧ Below w.heap.size w w'

set_option maxRecDepth 100000 in
set_option maxHeartbeats 2000000 in
theorem remove_any (W0 : World) (t : PT) (xg xc : Int) (w : World) (hL : Lies W0 w t) (hm : (nodes t).length ≤ 900) :
    Calls Try.prog 24 #[trV t, pkv xg xc] w (RemPost W0 (rmT (sh t) (pkS xg xc)) w) := by
  obtain ⟨X, hX⟩ : ∃ X, X = ((w.alloc (.cells (trC t).toArray 33)).alloc (.cells #[.int .i64 xg, .int .i64 xc] 26)).alloc (.cells #[.int .i64 0, .int .i64 0, .slice none 0 0, .slice none 0 0, .slice none 0 0] 33) := ⟨_, rfl⟩
  have HXB := Lib.hid (show Below w.heap.size w X by rw [hX]; exact (by repeat (first | exact Below.refl _ _ | refine below_gw ?_ (by simp; try omega) _ | refine Below.alloc ?_ (by simp; try omega) _ | refine Below.setCell ?_ (by simp; try omega) _ | refine Below.drew ?_)))
  have hXs : X.heap.size = w.heap.size + 3 := by rw [hX]; simp
  have hb0 : X.heap[w.heap.size]? = some (.cells (trC t).toArray 33 (0, 0)) := by
    rw [hX]; exact (Below.heap_alloc _ _ _ (by simp; omega)).trans ((Below.heap_alloc _ _ _ (by simp)).trans (heap_alloc_at' _ _ _ rfl))
  have hb1 : X.heap[w.heap.size + 1]? = some (.cells #[.int .i64 xg, .int .i64 xc] 26 (0, 0)) := by
    rw [hX]; exact (Below.heap_alloc _ _ _ (by simp)).trans (heap_alloc_at' _ _ _ (by simp))
  have hb2 : X.heap[w.heap.size + 1 + 1]? = some (.cells #[.int .i64 0, .int .i64 0, .slice none 0 0, .slice none 0 0, .slice none 0 0] 33 (0, 0)) := by
    rw [hX]; exact heap_alloc_at' _ _ _ (by simp)
  have HL := Lib.hid (hL.below HXB.out)
  have HM := Lib.hid hm
  clear hL hm
  go_enter Try.func24, Try.ntmps24
  go_wp2_with (go_at_call 48; refine Stop.here ?_)
  refine Stop.on ?_
  rw [show ((w.alloc (.cells #[.int .i64 t.s.g, .int .i64 t.s.c, .slice t.s.ga t.s.gs.length t.s.gc, .slice t.s.ta t.s.ts.length t.s.tc, .slice t.ad t.ks.length t.cap] 33)).alloc (.cells #[.int .i64 xg, .int .i64 xc] 26)).alloc (.cells #[.int .i64 0, .int .i64 0, .slice none 0 0, .slice none 0 0, .slice none 0 0] 33) = X from hX.symm]
  clear hX
  refine (cloneT_any W0 900 t X HM.out (by omega) HL.out).mono ?_
  rintro e w1 ⟨t', p, rfl, rfl, hsh, hs', hl', hf', hown, hav⟩
  have hVB : Below X.heap.size X (gw X p) := gw_below X p
  generalize gw X p = V at *
  have hv0 := (hVB.block _ (Array.getElem?_eq_some_iff.1 hb0).1).trans hb0
  have hv1 := (hVB.block _ (Array.getElem?_eq_some_iff.1 hb1).1).trans hb1
  have hv2 := (hVB.block _ (Array.getElem?_eq_some_iff.1 hb2).1).trans hb2
  obtain ⟨Y, hY⟩ : ∃ Y, Y = V.alloc (.cells (trC t').toArray 33) := ⟨_, rfl⟩
  have hYB : Below V.heap.size V Y := by rw [hY]; exact (Below.refl _ _).alloc (Nat.le_refl _) _
  have hb5 : Y.heap[V.heap.size]? = some (.cells (trC t').toArray 33 (0, 0)) := by rw [hY]; exact heap_alloc_at' _ _ _ rfl
  have hy0 := (hYB.block _ (Array.getElem?_eq_some_iff.1 hv0).1).trans hv0
  have hy1 := (hYB.block _ (Array.getElem?_eq_some_iff.1 hv1).1).trans hv1
  have hy2 := (hYB.block _ (Array.getElem?_eq_some_iff.1 hv2).1).trans hv2
  have hlv : w.heap.size + 1 + 1 < V.heap.size := (Array.getElem?_eq_some_iff.1 hv2).1
  have HYX := Lib.hid (hVB.trans (hYB.mono hVB.size))
  have HKL := Lib.hid (show t'.ks.length = t.ks.length by
    have := congrArg (fun t => (T.ks t).length) hsh
    simpa [ks_sh'] using this)
  have HLY := Lib.hid (hl'.below hYB)
  have HOY := Lib.hid (own_of_block hown fun k hk => hYB.block k (hown.lt k hk).2)
  have HAV := Lib.hid hav
  have HA5 := Lib.hid (Avoid.of_lies hl' (Nat.le_refl _))
  have HA2 := Lib.hid (show Avoid (some (w.heap.size + 1 + 1)) t' from Avoid.of_fresh hf' (by omega))
  have HSH := Lib.hid hsh
  have HSS := Lib.hid hs'
  have HOB := Lib.hid (show ∀ k, (Value.slice t'.ad t'.ks.length t'.cap).ownBlock = some k → X.heap.size ≤ k ∧ k < V.heap.size from fun k hk => hown.lt k hk)
  have HLT := Lib.hid (HL.out.below HYX.out)
  have HKM := Lib.hid (show t.ks.length ≤ 900 by have := kids_less t; have := HM.out; omega)
  have HBW := Lib.hid (HXB.out.trans (HYX.out.mono HXB.out.size))
  have HXS := Lib.hid hXs
  clear hv0 hv1 hv2 hl' hf' hown hav hsh hs' hVB hb0 hb1 hb2 HM HL HXB hXs
  have q0 := (row_cells hy0 0).trans (show _ = some (.int .i64 t.s.g) from rfl)
  have q1 := (row_cells hy0 1).trans (show _ = some (.int .i64 t.s.c) from rfl)
  have q2 := (row_cells hy0 2).trans (show _ = some (.slice t.s.ga t.s.gs.length t.s.gc) from rfl)
  have q3 := (row_cells hy0 3).trans (show _ = some (.slice t.s.ta t.s.ts.length t.s.tc) from rfl)
  have q4 := (row_cells hy0 4).trans (show _ = some (.slice t.ad t.ks.length t.cap) from rfl)
  have x0 := (row_cells hy1 0).trans (show _ = some (.int .i64 xg) from rfl)
  have x1 := (row_cells hy1 1).trans (show _ = some (.int .i64 xc) from rfl)
  have oV : ∀ i, Y.cell? ⟨w.heap.size, i, none⟩ = V.cell? ⟨w.heap.size, i, none⟩ := fun i => World.cell?_of_block (a := ⟨w.heap.size, i, none⟩) (hYB.block _ (show w.heap.size < V.heap.size by omega))
  have oV1 : ∀ i, Y.cell? ⟨w.heap.size + 1, i, none⟩ = V.cell? ⟨w.heap.size + 1, i, none⟩ := fun i => World.cell?_of_block (a := ⟨w.heap.size + 1, i, none⟩) (hYB.block _ (show w.heap.size + 1 < V.heap.size by omega))
  rw [oV] at q0 q1 q2 q3 q4
  rw [oV1] at x0 x1
  have ob0 : Old w.heap.size V := Old.of_cell q0
  have ob1 : Old (w.heap.size + 1) V := Old.of_cell x0
  have HFI := Lib.hid (find_any W0 t xg xc Y HLT.out HKM.out)
  clear oV oV1
  go_wp2_with (go_at_call 49; refine Stop.here ?_)
  refine Stop.on ?_
  rw [show V.alloc (.cells #[.int .i64 t'.s.g, .int .i64 t'.s.c, .slice t'.s.ga t'.s.gs.length t'.s.gc, .slice t'.s.ta t'.s.ts.length t'.s.tc, .slice t'.ad t'.ks.length t'.cap] 33) = Y from hY.symm]
  refine HFI.out.mono ?_
  rintro e w2 ⟨rfl, p2, rfl⟩
  have hZB : Below Y.heap.size Y (gw Y p2) := gw_below Y p2
  have hz5 := (hZB.block _ (Array.getElem?_eq_some_iff.1 hb5).1).trans hb5
  have hz2 := (hZB.block _ (Array.getElem?_eq_some_iff.1 hy2).1).trans hy2
  have HLZ := Lib.hid (HLY.out.below hZB)
  have HOZ := Lib.hid (own_of_block HOY.out fun k hk => hZB.block k (HOY.out.lt k hk).2)
  have HBZ := Lib.hid (HBW.out.trans (hZB.mono HBW.out.size))
  have hvz : V.heap.size < (gw Y p2).heap.size := (Array.getElem?_eq_some_iff.1 hz5).1
  clear HFI HLY HOY HBW HYX q0 q1 q2 q3 q4 x0 x1 ob0 ob1 hy0 hy1 hy2 hb5 hZB hYB hY HLT
  generalize gw Y p2 = Z at *
  generalize V.heap.size = n5 at *
  rcases idx_cases (t.ks.map PT.s) (fun s => pk s (pkS xg xc)) with ⟨k, y, hky, _, _, hfi, hix⟩ | ⟨_, hfi, hix⟩
  · rw [hix]
    have hk : k < t'.ks.length := by
      have := (List.getElem?_eq_some_iff.1 hky).1
      rw [HKL.out]
      simpa using this
    have HE := Lib.hid (show rmT (sh t) (pkS xg xc) = .nd (sh t).s ((sh t).ks.eraseIdx k) by
      unfold rmT
      rw [ks_sh', map_sh_s, hfi])
    clear hfi hix hky
    have f4 := (row_cells hz5 4).trans (show _ = some (.slice t'.ad t'.ks.length t'.cap) from rfl)
    have o5 : Old n5 Z := Old.of_cell f4
    have hwk : IntKind.i64.wrap ((k : Int) + 1) = (k : Int) + 1 := by rw [IntKind.wrap_i64]; have := HKL.out; have := HKM.out; omega
    have HDL := Lib.hid (delete_any Z X.heap.size t'.ad t'.ks t'.cap k HOZ.out hk (by rw [HKL.out]; exact HKM.out))
    go_wp2_with (go_at_call 50; refine Stop.here ?_)
    refine Stop.on ?_
    refine HDL.out.mono ?_
    rintro e U ⟨rfl, hgr, hown2⟩
    have hne5 : some n5 ≠ (Value.slice t'.ad t'.ks.length t'.cap).ownBlock := fun e => by have := HOB.out n5 e.symm; omega
    have hne2 : some (w.heap.size + 1 + 1) ≠ (Value.slice t'.ad t'.ks.length t'.cap).ownBlock := fun e => by have := HOB.out _ e.symm; have := HXS.out; omega
    have hu5 := (hgr.block _ hvz hne5).trans hz5
    have hu2 := (hgr.block _ (by omega) hne2).trans hz2
    have hkl : (t'.ks.eraseIdx k).length = t'.ks.length - 1 := List.length_eraseIdx_of_lt hk
    have hlu : Lies W0 U (eraseT t' k) := Lies.mk' HLZ.out.self.rd (row_own trC_len hown2 hkl.symm) (fun a ha => (own_old hown2 a ha).1) (fun c hc => (HLZ.out.kid (List.mem_of_mem_eraseIdx hc)).grown hgr (HAV.out c (List.mem_of_mem_eraseIdx hc)))
    have hbu : Below w.heap.size w U := below_grown HBZ.out hgr HBZ.out.size (fun c hc => by have := HOB.out c hc.symm.symm; have := HXS.out; omega)
    have HE2 := Lib.hid (fun (wF : World) (hg : (U.setCell ⟨n5, 4, none⟩ (.slice t'.ad (t'.ks.length - 1) t'.cap)).grownBy wF (some (w.heap.size + 1 + 1))) => show RemPost W0 (rmT (sh t) (pkS xg xc)) w (.returned (trV (eraseT t' k))) wF from by
      have hg1 := grown_set U ⟨n5, 4, none⟩ (.slice t'.ad (t'.ks.length - 1) t'.cap)
      have hb1 : Below w.heap.size w (U.setCell ⟨n5, 4, none⟩ (.slice t'.ad (t'.ks.length - 1) t'.cap)) := below_grown hbu hg1 hbu.size (fun c hc => by cases hc; show w.heap.size ≤ n5; omega)
      refine ⟨eraseT t' k, rfl, ?_, (hlu.grown hg1 (HA5.out.erase k)).grown hg (HA2.out.erase k), below_grown hb1 hg hb1.size (fun c hc => by cases hc; omega)⟩
      rw [HE.out, sh_eq (eraseT t' k)]
      show T.nd t'.s ((t'.ks.eraseIdx k).map sh) = _
      have h9 := congrArg T.ks HSH.out
      rw [ks_sh', ks_sh'] at h9
      rw [sh_s, HSS.out, ks_sh', map_erase, h9])
    have hrc := row_cells hu5
    have g0 := (hrc 0).trans (show _ = some (.int .i64 t'.s.g) from rfl)
    have g1 := (hrc 1).trans (show _ = some (.int .i64 t'.s.c) from rfl)
    have g2 := (hrc 2).trans (show _ = some (.slice t'.s.ga t'.s.gs.length t'.s.gc) from rfl)
    have g3 := (hrc 3).trans (show _ = some (.slice t'.s.ta t'.s.ts.length t'.s.tc) from rfl)
    have g4 := (hrc 4).trans (show _ = some (.slice t'.ad t'.ks.length t'.cap) from rfl)
    have hrd := row_cells hu2
    have r0 := (hrd 0).trans (show _ = some (.int .i64 0) from rfl)
    have r1 := (hrd 1).trans (show _ = some (.int .i64 0) from rfl)
    have r2 := (hrd 2).trans (show _ = some (.slice none 0 0) from rfl)
    have r3 := (hrd 3).trans (show _ = some (.slice none 0 0) from rfl)
    have r4 := (hrd 4).trans (show _ = some (.slice none 0 0) from rfl)
    have hbf5 : ∀ i, World.frozen? U ⟨n5, i, none⟩ = false := fun i => by simp [World.frozen?, hu5]
    have hbf2 : ∀ i, World.frozen? U ⟨w.heap.size + 1 + 1, i, none⟩ = false := fun i => by simp [World.frozen?, hu2]
    have og5 : Old n5 U := Old.of_cell g0
    have og2 : Old (w.heap.size + 1 + 1) U := Old.of_cell r0
    have hnn : w.heap.size + 1 + 1 ≠ n5 := by omega
    have HV := Lib.hid (show trV (eraseT t' k) = .agg #[.int .i64 t'.s.g, .int .i64 t'.s.c, .slice t'.s.ga t'.s.gs.length t'.s.gc, .slice t'.s.ta t'.s.ts.length t'.s.tc, .slice t'.ad (t'.ks.length - 1) t'.cap] by
      rw [← hkl]; rfl)
    clear hgr hown2 hne5 hne2 hlu hbu hrc hrd hz5 hz2 HDL f4 o5 hkl
    go_wp2
    refine bodyPost_ret (v := trV (eraseT t' k)) ?_ rfl (HE2.out _ (grown_five _ (w.heap.size + 1 + 1) _ _ _ _ _))
    rw [HV.out]
    simp [results, Try.results24, go_sem, r0, r1, r2, r3, r4]
  · rw [hix]
    have HE := Lib.hid (show rmT (sh t) (pkS xg xc) = sh t by
      unfold rmT
      rw [ks_sh', map_sh_s, hfi])
    clear hfi hix
    have HE2 := Lib.hid (fun (wF : World) (hg : Z.grownBy wF (some (w.heap.size + 1 + 1))) => show RemPost W0 (rmT (sh t) (pkS xg xc)) w (.returned (trV t')) wF from by
      refine ⟨t', rfl, by rw [HE.out, HSH.out], HLZ.out.grown hg HA2.out, below_grown HBZ.out hg HBZ.out.size (fun c hc => by cases hc; omega)⟩)
    have hrc := row_cells hz5
    have g0 := (hrc 0).trans (show _ = some (.int .i64 t'.s.g) from rfl)
    have g1 := (hrc 1).trans (show _ = some (.int .i64 t'.s.c) from rfl)
    have g2 := (hrc 2).trans (show _ = some (.slice t'.s.ga t'.s.gs.length t'.s.gc) from rfl)
    have g3 := (hrc 3).trans (show _ = some (.slice t'.s.ta t'.s.ts.length t'.s.tc) from rfl)
    have g4 := (hrc 4).trans (show _ = some (.slice t'.ad t'.ks.length t'.cap) from rfl)
    have hrd := row_cells hz2
    have r0 := (hrd 0).trans (show _ = some (.int .i64 0) from rfl)
    have r1 := (hrd 1).trans (show _ = some (.int .i64 0) from rfl)
    have r2 := (hrd 2).trans (show _ = some (.slice none 0 0) from rfl)
    have r3 := (hrd 3).trans (show _ = some (.slice none 0 0) from rfl)
    have r4 := (hrd 4).trans (show _ = some (.slice none 0 0) from rfl)
    have hbf2 : ∀ i, World.frozen? Z ⟨w.heap.size + 1 + 1, i, none⟩ = false := fun i => by simp [World.frozen?, hz2]
    have og5 : Old n5 Z := Old.of_cell g0
    have og2 : Old (w.heap.size + 1 + 1) Z := Old.of_cell r0
    clear hrc hrd hz5 hz2
    go_wp2
    refine bodyPost_ret (v := trV t') ?_ rfl (HE2.out _ (grown_five _ (w.heap.size + 1 + 1) _ _ _ _ _))
    simp [results, Try.results24, go_sem, r0, r1, r2, r3, r4]
end Go.Proofs.Ytmgiojkdcpolfaa
