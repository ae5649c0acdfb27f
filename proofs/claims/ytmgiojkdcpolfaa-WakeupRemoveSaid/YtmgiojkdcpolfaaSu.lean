/- Subtree; distinct. -/
import Derived.Test.YtmgiojkdcpolfaaRe
import Derived.Test.YtmgiojkdcpolfaaEq
import Derived.Test.YtmgiojkdcpolfaaAw
namespace Go.Proofs.Ytmgiojkdcpolfaa
open Go.RowKit Go.Sort PT

def subT (t : T) (x : PS) : Option T := match (t.ks.map T.s).findIdx? (fun s => pk s x) with | some i => t.ks[i]? | none => none
def SubPost (W0 : World) (o : Option T) (w : World) (e : Ending) (w' : World) : Prop := ∃ t' b, e = .returned (.tuple #[trV t', .bool b]) ∧ Lies W0 w' t' ∧ Below w.heap.size w w' ∧ (match o with
  | some k => b = true ∧ sh t' = k
  | none => b = false ∧ t' = t00)

set_option maxRecDepth 100000 in
set_option maxHeartbeats 2000000 in
theorem subtree_any (W0 : World) (t : PT) (xg xc : Int) (w : World) (hL : Lies W0 w t) (hm : (nodes t).length ≤ 900) :
    Calls Try.prog 25 #[trV t, pkv xg xc] w (SubPost W0 (subT (sh t) (pkS xg xc)) w) := by
  obtain ⟨X, hX⟩ : ∃ X, X = ((w.alloc (.cells (trC t).toArray 33)).alloc (.cells #[.int .i64 xg, .int .i64 xc] 26)).alloc (.cells #[.int .i64 0, .int .i64 0, .slice none 0 0, .slice none 0 0, .slice none 0 0] 33) := ⟨_, rfl⟩
  have HXB := Lib.hid (show Below w.heap.size w X by rw [hX]; exact (by repeat (first | exact Below.refl _ _ | refine below_gw ?_ (by simp; try omega) _ | refine Below.alloc ?_ (by simp; try omega) _ | refine Below.setCell ?_ (by simp; try omega) _ | refine Below.drew ?_)))
  have hXs : X.heap.size = w.heap.size + 3 := by rw [hX]; simp
  have hb0 : X.heap[w.heap.size]? = some (.cells (trC t).toArray 33 (0, 0)) := by
    rw [hX]; exact (Below.heap_alloc _ _ _ (by simp; omega)).trans ((Below.heap_alloc _ _ _ (by simp)).trans (heap_alloc_at' _ _ _ rfl))
  have hb2 : X.heap[w.heap.size + 1 + 1]? = some (.cells #[.int .i64 0, .int .i64 0, .slice none 0 0, .slice none 0 0, .slice none 0 0] 33 (0, 0)) := by
    rw [hX]; exact heap_alloc_at' _ _ _ (by simp)
  have HL := Lib.hid (hL.below HXB.out)
  have HM := Lib.hid hm
  have HKM := Lib.hid (show t.ks.length ≤ 900 by have := kids_less t; omega)
  have HXS := Lib.hid hXs
  have HFI := Lib.hid (find_any W0 t xg xc X HL.out HKM.out)
  clear hL hm hXs
  go_enter Try.func25, Try.ntmps25
  go_wp2_with (go_at_call 49; refine Stop.here ?_)
  refine Stop.on ?_
  rw [show ((w.alloc (.cells #[.int .i64 t.s.g, .int .i64 t.s.c, .slice t.s.ga t.s.gs.length t.s.gc, .slice t.s.ta t.s.ts.length t.s.tc, .slice t.ad t.ks.length t.cap] 33)).alloc (.cells #[.int .i64 xg, .int .i64 xc] 26)).alloc (.cells #[.int .i64 0, .int .i64 0, .slice none 0 0, .slice none 0 0, .slice none 0 0] 33) = X from hX.symm]
  clear hX
  refine HFI.out.mono ?_
  rintro e w1 ⟨rfl, p, rfl⟩
  have hVB : Below X.heap.size X (gw X p) := gw_below X p
  generalize gw X p = V at *
  have hv0 := (hVB.block _ (Array.getElem?_eq_some_iff.1 hb0).1).trans hb0
  have hv2 := (hVB.block _ (Array.getElem?_eq_some_iff.1 hb2).1).trans hb2
  have HLV := Lib.hid (HL.out.below hVB)
  have HVB := Lib.hid (HXB.out.trans (hVB.mono HXB.out.size))
  clear hb0 hb2 hVB HL HXB HFI
  rcases idx_cases (t.ks.map PT.s) (fun s => pk s (pkS xg xc)) with ⟨k, y, hky, _, _, hfi, hix⟩ | ⟨_, hfi, hix⟩
  · rw [hix]
    have hk : k < t.ks.length := by
      have := (List.getElem?_eq_some_iff.1 hky).1
      simpa using this
    obtain ⟨kt, hkt⟩ := get_some hk
    have HE := Lib.hid (show subT (sh t) (pkS xg xc) = some (sh kt) by
      unfold subT
      rw [ks_sh', map_sh_s, hfi]
      simp only
      rw [List.getElem?_map, hkt]
      rfl)
    have kb : (k : Int) < t.ks.length := by omega
    obtain ⟨b, off, had, ho, hc⟩ := HLV.out.self.row.get hkt
    have f0 := hc 0 (by omega)
    have f1 := hc 1 (by omega)
    have f2 := hc 2 (by omega)
    have f3 := hc 3 (by omega)
    have f4 := hc 4 (by omega)
    simp at f0 f1 f2 f3 f4
    have q4 := (row_cells hv0 4).trans (show _ = some (.slice t.ad t.ks.length t.cap) from rfl)
    rw [had] at q4
    have ob0 : Old w.heap.size V := Old.of_cell q4
    have hm1 := List.mem_of_getElem? hkt
    have HCL := Lib.hid (cloneT_any W0 900 kt V (by have := kid_less hm1; have := HM.out; omega) (by omega) (HLV.out.kid hm1))
    have HV2 := Lib.hid hv2
    clear hfi hix hky hkt hc hm1 hv0 hv2
    go_wp2_with (go_at_call 48; refine Stop.here ?_)
    refine Stop.on ?_
    refine HCL.out.mono ?_
    rintro e w2 ⟨t', p2, rfl, rfl, hsh, hss, hl', hf', hx1, hx2⟩
    clear hss hx1 hx2
    have hub : Below V.heap.size V (gw V p2) := gw_below V p2
    have hu2 := (hub.block _ (Array.getElem?_eq_some_iff.1 HV2.out).1).trans HV2.out
    have hlt : w.heap.size + 1 + 1 < V.heap.size := (Array.getElem?_eq_some_iff.1 HV2.out).1
    have hbu := HVB.out.trans (hub.mono HVB.out.size)
    generalize gw V p2 = U at *
    have HE2 := Lib.hid (fun (wF : World) (hg : U.grownBy wF (some (w.heap.size + 1 + 1))) => show SubPost W0 (subT (sh t) (pkS xg xc)) w (.returned (.tuple #[trV t', .bool true])) wF from by
      rw [HE.out]
      exact ⟨t', true, rfl, hl'.grown hg (Avoid.of_fresh hf' hlt), below_grown hbu hg hbu.size (fun c hc => by cases hc; omega), rfl, hsh⟩)
    have hrd := row_cells hu2
    have r0 := (hrd 0).trans (show _ = some (.int .i64 0) from rfl)
    have r1 := (hrd 1).trans (show _ = some (.int .i64 0) from rfl)
    have r2 := (hrd 2).trans (show _ = some (.slice none 0 0) from rfl)
    have r3 := (hrd 3).trans (show _ = some (.slice none 0 0) from rfl)
    have r4 := (hrd 4).trans (show _ = some (.slice none 0 0) from rfl)
    have hbf2 : ∀ i, World.frozen? U ⟨w.heap.size + 1 + 1, i, none⟩ = false := fun i => by simp [World.frozen?, hu2]
    have og2 : Old (w.heap.size + 1 + 1) U := Old.of_cell r0
    clear hrd hu2 hl' hf' hsh hub hbu HCL f0 f1 f2 f3 f4 q4 ob0 ho had
    go_wp2
    refine bodyPost_ret (v := .tuple #[trV t', .bool true]) ?_ rfl (HE2.out _ (grown_five _ (w.heap.size + 1 + 1) _ _ _ _ _))
    simp [results, Try.results25, go_sem, r0, r1, r2, r3, r4]
  · rw [hix]
    have HE := Lib.hid (show subT (sh t) (pkS xg xc) = none by
      unfold subT
      rw [ks_sh', map_sh_s, hfi])
    clear hfi hix
    have HE2 := Lib.hid (fun (wF : World) (hg : V.grownBy wF (some (w.heap.size + 1 + 1))) => show SubPost W0 (subT (sh t) (pkS xg xc)) w (.returned (.tuple #[trV t00, .bool false])) wF from by
      rw [HE.out]
      exact ⟨t00, false, rfl, lies_t00 _ _, below_grown HVB.out hg HVB.out.size (fun c hc => by cases hc; omega), rfl, rfl⟩)
    have hrd := row_cells hv2
    have r0 := (hrd 0).trans (show _ = some (.int .i64 0) from rfl)
    have r1 := (hrd 1).trans (show _ = some (.int .i64 0) from rfl)
    have r2 := (hrd 2).trans (show _ = some (.slice none 0 0) from rfl)
    have r3 := (hrd 3).trans (show _ = some (.slice none 0 0) from rfl)
    have r4 := (hrd 4).trans (show _ = some (.slice none 0 0) from rfl)
    have hbf2 : ∀ i, World.frozen? V ⟨w.heap.size + 1 + 1, i, none⟩ = false := fun i => by simp [World.frozen?, hv2]
    have og2 : Old (w.heap.size + 1 + 1) V := Old.of_cell r0
    clear hrd hv2 hv0
    go_wp2
    refine bodyPost_ret (v := .tuple #[trV t00, .bool false]) ?_ rfl (HE2.out _ (grown_five _ (w.heap.size + 1 + 1) _ _ _ _ _))
    simp [results, Try.results25, go_sem, r0, r1, r2, r3, r4, PT.s, PT.ad, PT.ks, PT.cap]

set_option maxRecDepth 100000 in
set_option maxHeartbeats 2000000 in
theorem distinct_any (W0 : World) (t : PT) (w : World) (hL : Lies W0 w t) (hm : t.ks.length ≤ 900) (hd : Dist (t.ks.map PT.s)) :
    Calls Try.prog 27 #[trV t] w (Gives (.bool true) w) := by
  obtain ⟨X, hX⟩ : ∃ X, X = w.alloc (.cells (trC t).toArray 33) := ⟨_, rfl⟩
  have HB := Lib.hid (show Below w.heap.size w X by rw [hX]; exact (by repeat (first | exact Below.refl _ _ | refine below_gw ?_ (by simp; try omega) _ | refine Below.alloc ?_ (by simp; try omega) _ | refine Below.setCell ?_ (by simp; try omega) _ | refine Below.drew ?_)))
  have hb0 : X.heap[w.heap.size]? = some (.cells (trC t).toArray 33 (0, 0)) := by rw [hX]; exact heap_alloc_at' _ _ _ rfl
  have q4 := (row_cells hb0 4).trans (show _ = some (.slice t.ad t.ks.length t.cap) from rfl)
  have HR := Lib.hid (hL.self.row.below HB.out)
  have HD := Lib.hid (fun (i j : Nat) (x y : PT) (h : j < i) (hx : t.ks[i]? = some x) (hy : t.ks[j]? = some y) => show pk x.s y.s = false by
    have h1 := List.pairwise_iff_getElem.1 hd j i (by rw [List.length_map]; exact (List.getElem?_eq_some_iff.1 hy).1) (by rw [List.length_map]; exact (List.getElem?_eq_some_iff.1 hx).1) h
    obtain ⟨_, rfl⟩ := List.getElem?_eq_some_iff.1 hx
    obtain ⟨_, rfl⟩ := List.getElem?_eq_some_iff.1 hy
    rw [pk_comm]
    simpa using h1)
  have ob0 : Old w.heap.size X := Old.of_cell q4
  clear hL hb0 hd
  go_enter Try.func27, Try.ntmps27
  go_wp2
  rw [← hX]
  clear hX
  go_loopw [3] (fun i wr => ∃ (k : Nat) (r : Regrown), k ≤ t.ks.length ∧ i = .int .i64 k ∧ wr = gw X r) (fun i _ => t.ks.length - (intOf i).toNat)
  case atStart => exact ⟨0, _, by omega, rfl, gw_self _⟩
  case round =>
    obtain ⟨k, r, hk, rfl, rfl⟩ := hrel
    by_cases hlt : k < t.ks.length
    · have kb : (k : Int) < t.ks.length := by omega
      obtain ⟨x, hx⟩ := get_some hlt
      obtain ⟨b₀, off, had, ho, hc⟩ := HR.out.get hx
      have f0 := hc 0 (by omega)
      have f1 := hc 1 (by omega)
      simp at f0 f1
      have HX := Lib.hid hx
      have HAD := Lib.hid had
      rw [had] at q4
      clear hx hc
      go_wp2
      go_loopw [4] (fun i wr => ∃ (j : Nat) (r : Regrown), j ≤ k ∧ i = .int .i64 j ∧ wr = gw X r) (fun i _ => k - (intOf i).toNat)
      case atStart => exact ⟨0, r, by omega, rfl, rfl⟩
      case round =>
        obtain ⟨j, r, hj, rfl, rfl⟩ := hrel
        by_cases hjt : j < k
        · have jb : (j : Int) < t.ks.length := by omega
          have jk : (j : Int) < k := by omega
          obtain ⟨y, hy⟩ := get_some (show j < t.ks.length by omega)
          obtain ⟨b₁, off₁, had1, _, hc⟩ := HR.out.get hy
          rw [had] at had1
          cases had1
          have g0 := hc 0 (by omega)
          have g1 := hc 1 (by omega)
          simp at g0 g1
          have hp := HD.out k j x y hjt HX.out hy
          clear hy hc
          by_cases hg : x.s.g = y.s.g
          · have hcc : (x.s.c == y.s.c) = false := by simpa [pk, hg] using hp
            have hgg : (x.s.g == y.s.g) = true := by simp [hg]
            clear hg hp
            go_wp2
            refine wp_region_gw (by kernel_rfl) (by kernel_rfl) ?_
            repeat (go_big_quiet_step (first | fail))
            refine wpQuiet_nil ?_
            intro _ hw'
            obtain ⟨p4, hw''⟩ := hw'
            subst hw''
            go_wp2
            go_roundw
            case rel =>
              obtain ⟨r', hr'⟩ := back_gw X r p4
              exact ⟨j + 1, r', by omega, by go_num, hr'⟩
            case measure => simp [intOf]; omega
          · have hgg : (x.s.g == y.s.g) = false := by simp [hg]
            clear hg hp
            go_wp2
            refine wp_region_gw (by kernel_rfl) (by kernel_rfl) ?_
            repeat (go_big_quiet_step (first | fail))
            refine wpQuiet_nil ?_
            intro _ hw'
            obtain ⟨p4, hw''⟩ := hw'
            subst hw''
            go_wp2
            go_roundw
            case rel =>
              obtain ⟨r', hr'⟩ := back_gw X r p4
              exact ⟨j + 1, r', by omega, by go_num, hr'⟩
            case measure => simp [intOf]; omega
        · obtain rfl : j = k := by omega
          go_wp2
          go_roundw
          case rel => exact ⟨j + 1, r, by omega, by go_num, rfl⟩
          case measure => simp [intOf]; omega
    · go_wp2
      have HB2 := Lib.hid (below_gw HB.out HB.out.size r)
      have hsz := HB2.out.size
      go_ret; exact Gives.mk rfl (by have hb' := HB2.out; have hs' := HB2.out.size; repeat (first | exact hb' | refine below_gw ?_ (by first | (simp; done) | (simp; omega) | omega) _ | refine Below.alloc ?_ (by first | (simp; done) | (simp; omega) | omega) _ | refine Below.setCell ?_ (by first | (simp; done) | (simp; omega) | omega) | refine Below.drew ?_))
end Go.Proofs.Ytmgiojkdcpolfaa
