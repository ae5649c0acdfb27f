/- Dependent of package depend. -/
import Derived.Test.YtmgiojkdcpolfaaVs
namespace Go.Proofs.Ytmgiojkdcpolfaa
open Go.RowKit Go.Sort

theorem intIndex_any (ad : Option Addr) (l : List Int) (cap : Nat) (x : Int) (w : World) (h : Row 1 intC w ad l) (hl : l.length ≤ 1000) :
    Calls Try.prog 87 #[.slice ad l.length cap, .int .i64 x] w fun e w' => w = w' ∧ ((l.any (fun b => x == b) = false ∧ e = .returned (.int .i64 (-1))) ∨ (l.any (fun b => x == b) = true ∧ ∃ k : Nat, e = .returned (.int .i64 k))) := by
  have HR := Lib.hid h; clear h
  go_enter Try.func87, Try.ntmps87
  go_wp2
  go_loopw [8] (fun i wr => ∃ k : Nat, k ≤ l.length ∧ i = .int .i64 k ∧ Hid ((l.take k).any (fun b => x == b) = false) ∧ wr = w) (fun i _ => l.length - (intOf i).toNat)
  case atStart => exact ⟨0, by omega, rfl, Lib.hid rfl, rfl⟩
  case round =>
    obtain ⟨k, hk, rfl, hf, rfl⟩ := hrel
    by_cases hlt : k < l.length
    · have kb : (k : Int) < l.length := by omega
      obtain ⟨y, hy⟩ := get_some hlt
      obtain ⟨bp, op, ep, hop, fp⟩ := HR.out.get hy
      have fp := fp 0 (by omega)
      simp at fp
      subst ep
      have HY := Lib.hid hy
      clear hy
      by_cases hxy : x = y
      · subst hxy
        have he := Lib.hid (any_at (fun b => x == b) HY.out (by simp))
        go_wp2
        go_ret
        exact ⟨rfl, .inr ⟨he.out, k, rfl⟩⟩
      · have hb : (x == y) = false := by simp [hxy]
        clear hxy
        go_wp2
        exact ⟨⟨k + 1, by omega, by go_num, Lib.hid (by rw [any_take _ HY.out, hf.out]; exact hb), trivial⟩, by simp [intOf]; omega⟩
    · have he := Lib.hid (any_full hlt hf.out)
      go_wp2
      go_ret
      exact ⟨rfl, .inl ⟨he.out, rfl⟩⟩

theorem intContains_any (ad : Option Addr) (l : List Int) (cap : Nat) (x : Int) (w : World) (h : Row 1 intC w ad l) (hl : l.length ≤ 1000) :
    Calls Try.prog 67 #[.slice ad l.length cap, .int .i64 x] w (Gives (.bool (l.any (fun b => x == b))) w) := by
  have HI := Lib.hid (intIndex_any ad l cap x w h hl); clear h
  go_enter Try.func67, Try.ntmps67
  go_wp2_with (go_at_call 87; refine Stop.here ?_)
  refine Stop.on ?_
  refine HI.out.mono ?_
  rintro e w1 ⟨rfl, ⟨h1, rfl⟩ | ⟨h1, k, rfl⟩⟩
  · have he := Lib.hid h1; clear h1
    go_wp2
    go_ret
    exact Gives.mk (by rw [he.out]; rfl) (Below.refl _ _)
  · have he := Lib.hid h1; clear h1
    go_wp2
    go_ret
    exact Gives.mk (by rw [he.out]; simp) (Below.refl _ _)

set_option maxRecDepth 100000 in
set_option maxHeartbeats 2000000 in
theorem dependP_any (p q : PS) (w : World) (hp : Rd w p) (hq : Rd w q) :
    Calls Try.prog 45 #[stv p, stv q] w (Gives (.bool (dep p q)) w) := by
  obtain ⟨pg, pc, pga, pgs, pgc, pta, pts, ptc⟩ := p
  obtain ⟨qg, qc, qga, qgs, qgc, qta, qts, qtc⟩ := q
  have HP := Lib.hid hp; clear hp
  have HQ := Lib.hid hq; clear hq
  have hpg : pgs.length ≤ 8 := HP.out.gl
  have hpt : pts.length ≤ 8 := HP.out.tl
  have hqg : qgs.length ≤ 8 := HQ.out.gl
  have hqt : qts.length ≤ 8 := HQ.out.tl
  obtain ⟨X, hX⟩ : ∃ X, X = (w.alloc (.cells (stC ⟨pg, pc, pga, pgs, pgc, pta, pts, ptc⟩).toArray 30)).alloc (.cells (stC ⟨qg, qc, qga, qgs, qgc, qta, qts, qtc⟩).toArray 30) := ⟨_, rfl⟩
  have HB : Hid (Below w.heap.size w X) := Lib.hid (by rw [hX]; exact (by repeat (first | exact Below.refl _ _ | refine below_gw ?_ (by simp; try omega) _ | refine Below.alloc ?_ (by simp; try omega) _ | refine Below.setCell ?_ (by simp; try omega) _ | refine Below.drew ?_)))
  have b0 : X.cell? ⟨w.heap.size, 2, none⟩ = some (.slice pga pgs.length pgc) := by rw [hX]; simp [go_sem]
  have b1 : X.cell? ⟨w.heap.size, 3, none⟩ = some (.slice pta pts.length ptc) := by rw [hX]; simp [go_sem]
  have b2 : X.cell? ⟨w.heap.size + 1, 2, none⟩ = some (.slice qga qgs.length qgc) := by rw [hX]; simp [go_sem]
  have b3 : X.cell? ⟨w.heap.size + 1, 3, none⟩ = some (.slice qta qts.length qtc) := by rw [hX]; simp [go_sem]
  have o0 : Old w.heap.size X := Old.of_cell b0
  have o1 : Old (w.heap.size + 1) X := Old.of_cell b2
  go_enter Try.func45, Try.ntmps45
  go_wp2
  rw [← hX]
  clear hX
  go_loopw [14] (fun i wr => ∃ k : Nat, ∃ r, k ≤ pgs.length ∧ i = .int .i64 k ∧ Hid ((pgs.take k).any (fun a => qgs.any (fun b => a == b)) = false) ∧ wr = gw X r) (fun i _ => pgs.length - (intOf i).toNat)
  case atStart => exact ⟨0, _, by omega, rfl, Lib.hid rfl, gw_self _⟩
  case round =>
    obtain ⟨k, r, hk, rfl, hf, rfl⟩ := hrel
    by_cases hlt : k < pgs.length
    · have kb : (k : Int) < pgs.length := by omega
      obtain ⟨x, hx⟩ := get_some hlt
      obtain ⟨bp, op, ep, hop, fp⟩ := (HP.out.gs.below HB.out).get hx
      have fp := fp 0 (by omega)
      simp at fp
      subst ep
      have HX := Lib.hid hx
      clear hx
      have HC := Lib.hid (intContains_any qga qgs qgc x (gw X r) ((HQ.out.gs.below HB.out).gw r) (by omega))
      obtain ⟨d, hd⟩ : ∃ d, qgs.any (fun b => x == b) = d := ⟨_, rfl⟩
      rw [hd] at HC
      have HD := Lib.hid hd; clear hd
      cases d
      · go_wp2_with (go_at_call 67; refine (HC.out).mono ?_; rintro e w1 ⟨rfl, p1, rfl⟩)
        obtain ⟨r', hr'⟩ := back_gw X r p1
        exact ⟨⟨k + 1, r', by omega, by go_num, Lib.hid (by rw [any_take _ HX.out, hf.out, HD.out]; rfl), hr'⟩, by simp [intOf]; omega⟩
      · have he := Lib.hid (show dep ⟨pg, pc, some ⟨bp, op, none⟩, pgs, pgc, pta, pts, ptc⟩ ⟨qg, qc, qga, qgs, qgc, qta, qts, qtc⟩ = true by
          rw [dep, any_at (l := pgs) _ HX.out HD.out]; rfl)
        go_wp2_with (go_at_call 67; refine (HC.out).mono ?_; rintro e w1 ⟨rfl, p1, rfl⟩)
        go_ret; exact Gives.mk (by rw [he.out]; rfl) (by have hb' := HB.out; have hs' := HB.out.size; repeat (first | exact hb' | refine below_gw ?_ (by first | (simp; done) | (simp; omega) | omega) _ | refine Below.alloc ?_ (by first | (simp; done) | (simp; omega) | omega) _ | refine Below.setCell ?_ (by first | (simp; done) | (simp; omega) | omega) | refine Below.drew ?_))
    · have HF := Lib.hid (any_full hlt hf.out)
      clear hf
      go_wp2
      go_loopw [26] (fun i wr => ∃ k : Nat, ∃ r, k ≤ pts.length ∧ i = .int .i64 k ∧ Hid ((pts.take k).any (fun a => qts.any (fun b => tdep a b)) = false) ∧ wr = gw X r) (fun i _ => pts.length - (intOf i).toNat)
      case atStart => exact ⟨0, _, by omega, rfl, Lib.hid rfl, rfl⟩
      case round =>
      clear hlt hk
      obtain ⟨k, r, hk, rfl, hfk, rfl⟩ := hrel
      by_cases hlt : k < pts.length
      · have kb : (k : Int) < pts.length := by omega
        obtain ⟨⟨x1, x2, x3, x4⟩, hx⟩ := get_some hlt
        obtain ⟨bp, op, ep, hop, fp⟩ := (HP.out.ts.below HB.out).get hx
        have f0 := fp 0 (by omega)
        have f1 := fp 1 (by omega)
        have f2 := fp 2 (by omega)
        have f3 := fp 3 (by omega)
        simp at f0 f1 f2 f3 ep
        subst ep
        have HX := Lib.hid hx
        clear hx fp
        obtain ⟨Y, hY⟩ : ∃ Y, Y = (gw X r).alloc (.cells #[.int .i64 x1, .int .i64 x2, .int .i64 x3, .bool x4] 70) := ⟨_, rfl⟩
        have HXY := Lib.hid (show Below X.heap.size X Y by rw [hY]; exact (gw_below X r).alloc (by simp) _)
        have HBY := Lib.hid (HB.out.trans (HXY.out.mono HB.out.size))
        have y0 : Y.cell? ⟨X.heap.size + r.os.size, 0, none⟩ = some (.int .i64 x1) := by rw [hY]; simp [go_sem]
        have y1 : Y.cell? ⟨X.heap.size + r.os.size, 1, none⟩ = some (.int .i64 x2) := by rw [hY]; simp [go_sem]
        have y2 : Y.cell? ⟨X.heap.size + r.os.size, 2, none⟩ = some (.int .i64 x3) := by rw [hY]; simp [go_sem]
        have y3 : Y.cell? ⟨X.heap.size + r.os.size, 3, none⟩ = some (.bool x4) := by rw [hY]; simp [go_sem]
        have c3 : Y.cell? ⟨w.heap.size + 1, 3, none⟩ = some (.slice qta qts.length qtc) := (HXY.out.cell (p := ⟨w.heap.size + 1, 3, none⟩) o1.lt).trans b3
        have oy : Old (X.heap.size + r.os.size) Y := Old.of_cell y0
        have oz : Old (w.heap.size + 1) Y := Old.of_cell c3
        go_wp2
        rw [← hY]
        clear hY
        generalize X.heap.size + r.os.size = bx at *
        go_loopw [33] (fun i wr => ∃ j : Nat, ∃ r, j ≤ qts.length ∧ i = .int .i64 j ∧ Hid ((qts.take j).any (fun b => tdep (x1, x2, x3, x4) b) = false) ∧ wr = gw Y r) (fun i _ => qts.length - (intOf i).toNat)
        case atStart => exact ⟨0, _, by omega, rfl, Lib.hid rfl, gw_self _⟩
        case round =>
        obtain ⟨j, r, hj, rfl, hg, rfl⟩ := hrel
        by_cases hjt : j < qts.length
        · have jb : (j : Int) < qts.length := by omega
          obtain ⟨⟨y1', y2', y3', y4'⟩, hy⟩ := get_some hjt
          obtain ⟨bq, oq, eq, hoq, fq⟩ := (HQ.out.ts.below HBY.out).get hy
          have g0 := fq 0 (by omega)
          have g1 := fq 1 (by omega)
          have g2 := fq 2 (by omega)
          have g3 := fq 3 (by omega)
          simp at g0 g1 g2 g3 eq
          subst eq
          have HY := Lib.hid hy
          clear hy fq
          have HXX := Lib.hid (Below.refl Y.heap.size Y)
          obtain ⟨d, hd⟩ : ∃ d, tdep (x1, x2, x3, x4) (y1', y2', y3', y4') = d := ⟨_, rfl⟩
          have HN := Lib.hid hd
          clear hd
          by_cases h1 : x1 = y1'
          · subst h1
            by_cases h2 : x2 = y2'
            · subst h2
              by_cases h3 : x3 = y3'
              · subst h3
                cases x4
                · cases y4'
                  · obtain rfl : d = false := by rw [← HN.out]; simp [tdep]
                    go_wp2
                    obtain ⟨r', hr'⟩ := gw_of_below (w := Y) (w' := (gw Y r).alloc (.cells #[.int .i64 x1, .int .i64 x2, .int .i64 x3, .bool false] 70)) (by have hb' := HXX.out; have hs' := HXX.out.size; repeat (first | exact hb' | refine below_gw ?_ (by first | (simp; done) | (simp; omega) | omega) _ | refine Below.alloc ?_ (by first | (simp; done) | (simp; omega) | omega) _ | refine Below.setCell ?_ (by first | (simp; done) | (simp; omega) | omega) | refine Below.drew ?_))
                    exact ⟨⟨j + 1, r', by omega, by go_num, Lib.hid (by rw [any_take _ HY.out, hg.out, HN.out]; rfl), hr'⟩, by simp [intOf]; omega⟩
                  · have he := Lib.hid (show dep ⟨pg, pc, pga, pgs, pgc, some ⟨bp, op, none⟩, pts, ptc⟩ ⟨qg, qc, qga, qgs, qgc, some ⟨bq, oq, none⟩, qts, qtc⟩ = true by
                      rw [dep, any_at (l := pts) _ HX.out (any_at (l := qts) _ HY.out (by simp [tdep]))]; simp)
                    go_wp2
                    go_ret; exact Gives.mk (by rw [he.out]; rfl) (by have hb' := HBY.out; have hs' := HBY.out.size; repeat (first | exact hb' | refine below_gw ?_ (by first | (simp; done) | (simp; omega) | omega) _ | refine Below.alloc ?_ (by first | (simp; done) | (simp; omega) | omega) _ | refine Below.setCell ?_ (by first | (simp; done) | (simp; omega) | omega) | refine Below.drew ?_))
                · have he := Lib.hid (show dep ⟨pg, pc, pga, pgs, pgc, some ⟨bp, op, none⟩, pts, ptc⟩ ⟨qg, qc, qga, qgs, qgc, some ⟨bq, oq, none⟩, qts, qtc⟩ = true by
                    rw [dep, any_at (l := pts) _ HX.out (any_at (l := qts) _ HY.out (by simp [tdep]))]; simp)
                  go_wp2
                  go_ret; exact Gives.mk (by rw [he.out]; rfl) (by have hb' := HBY.out; have hs' := HBY.out.size; repeat (first | exact hb' | refine below_gw ?_ (by first | (simp; done) | (simp; omega) | omega) _ | refine Below.alloc ?_ (by first | (simp; done) | (simp; omega) | omega) _ | refine Below.setCell ?_ (by first | (simp; done) | (simp; omega) | omega) | refine Below.drew ?_))
              · obtain rfl : d = false := by rw [← HN.out]; simp [tdep, h3]
                have hb : (x3 == y3') = false := by simp [h3]
                clear h3
                go_wp2
                obtain ⟨r', hr'⟩ := gw_of_below (w := Y) (w' := (gw Y r).alloc (.cells #[.int .i64 x1, .int .i64 x2, .int .i64 y3', .bool y4'] 70)) (by have hb' := HXX.out; have hs' := HXX.out.size; repeat (first | exact hb' | refine below_gw ?_ (by first | (simp; done) | (simp; omega) | omega) _ | refine Below.alloc ?_ (by first | (simp; done) | (simp; omega) | omega) _ | refine Below.setCell ?_ (by first | (simp; done) | (simp; omega) | omega) | refine Below.drew ?_))
                exact ⟨⟨j + 1, r', by omega, by go_num, Lib.hid (by rw [any_take _ HY.out, hg.out, HN.out]; rfl), hr'⟩, by simp [intOf]; omega⟩
            · obtain rfl : d = false := by rw [← HN.out]; simp [tdep, h2]
              have hb : (x2 == y2') = false := by simp [h2]
              clear h2
              go_wp2
              obtain ⟨r', hr'⟩ := gw_of_below (w := Y) (w' := (gw Y r).alloc (.cells #[.int .i64 x1, .int .i64 y2', .int .i64 y3', .bool y4'] 70)) (by have hb' := HXX.out; have hs' := HXX.out.size; repeat (first | exact hb' | refine below_gw ?_ (by first | (simp; done) | (simp; omega) | omega) _ | refine Below.alloc ?_ (by first | (simp; done) | (simp; omega) | omega) _ | refine Below.setCell ?_ (by first | (simp; done) | (simp; omega) | omega) | refine Below.drew ?_))
              exact ⟨⟨j + 1, r', by omega, by go_num, Lib.hid (by rw [any_take _ HY.out, hg.out, HN.out]; rfl), hr'⟩, by simp [intOf]; omega⟩
          · obtain rfl : d = false := by rw [← HN.out]; simp [tdep, h1]
            have hb : (x1 == y1') = false := by simp [h1]
            clear h1
            go_wp2
            obtain ⟨r', hr'⟩ := gw_of_below (w := Y) (w' := (gw Y r).alloc (.cells #[.int .i64 y1', .int .i64 y2', .int .i64 y3', .bool y4'] 70)) (by have hb' := HXX.out; have hs' := HXX.out.size; repeat (first | exact hb' | refine below_gw ?_ (by first | (simp; done) | (simp; omega) | omega) _ | refine Below.alloc ?_ (by first | (simp; done) | (simp; omega) | omega) _ | refine Below.setCell ?_ (by first | (simp; done) | (simp; omega) | omega) | refine Below.drew ?_))
            exact ⟨⟨j + 1, r', by omega, by go_num, Lib.hid (by rw [any_take _ HY.out, hg.out, HN.out]; rfl), hr'⟩, by simp [intOf]; omega⟩
        · go_wp2
          obtain ⟨r', hr'⟩ := gw_of_below (w := X) (w' := gw Y r) (below_gw HXY.out HXY.out.size _)
          exact ⟨⟨k + 1, r', by omega, by go_num, Lib.hid (by rw [any_take _ HX.out, hfk.out, any_full hjt hg.out]; rfl), hr'⟩, by simp [intOf]; omega⟩
      · have he := Lib.hid (show dep ⟨pg, pc, pga, pgs, pgc, pta, pts, ptc⟩ ⟨qg, qc, qga, qgs, qgc, qta, qts, qtc⟩ = false by rw [dep, HF.out, any_full hlt hfk.out]; rfl)
        go_wp2
        go_ret; exact Gives.mk (by rw [he.out]; rfl) (by have hb' := HB.out; have hs' := HB.out.size; repeat (first | exact hb' | refine below_gw ?_ (by first | (simp; done) | (simp; omega) | omega) _ | refine Below.alloc ?_ (by first | (simp; done) | (simp; omega) | omega) _ | refine Below.setCell ?_ (by first | (simp; done) | (simp; omega) | omega) | refine Below.drew ?_))

end Go.Proofs.Ytmgiojkdcpolfaa
