/- Ints, Same, SameAll. -/
import Derived.Test.YtmgiojkdcpolfaaWr
namespace Go.Proofs.Ytmgiojkdcpolfaa
open Go.RowKit Go.Sort

def eqL {α : Type} (f : α → α → Bool) (a b : List α) : Bool := a.length == b.length && (a.zip b).all (fun p => f p.1 p.2)
theorem eqL_miss {α : Type} {f : α → α → Bool} {a b : List α} (h : a.length ≠ b.length) : false = eqL f a b := by simp [eqL, h]
theorem zip_get {α : Type} {a b : List α} {k : Nat} {x y : α} (h1 : a[k]? = some x) (h2 : b[k]? = some y) : (a.zip b)[k]? = some (x, y) := by
  rw [List.getElem?_zip_eq_some]; exact ⟨h1, h2⟩
theorem eqL_no {α : Type} {f : α → α → Bool} {a b : List α} {k : Nat} {x y : α} (h1 : a[k]? = some x) (h2 : b[k]? = some y) (h : f x y = false) : false = eqL f a b := by
  have : (a.zip b).all (fun p => f p.1 p.2) = false := List.all_eq_false.2 ⟨(x, y), List.mem_of_getElem? (zip_get h1 h2), by simp [h]⟩
  rw [eqL, this, Bool.and_false]
theorem eqL_step {α : Type} {f : α → α → Bool} {a b : List α} {k : Nat} {x y : α} (hk : ((a.zip b).take k).all (fun p => f p.1 p.2) = true) (h1 : a[k]? = some x) (h2 : b[k]? = some y) (h : f x y = true) : ((a.zip b).take (k + 1)).all (fun p => f p.1 p.2) = true := by
  have := zip_get h1 h2
  obtain ⟨h3, h4⟩ := List.getElem?_eq_some_iff.1 this
  rw [List.take_succ_eq_append_getElem h3, List.all_append, hk, h4]; simp [h]
theorem eqL_full {α : Type} {f : α → α → Bool} {a b : List α} {k : Nat} (hl : a.length = b.length) (hk : ((a.zip b).take k).all (fun p => f p.1 p.2) = true) (h : ¬ k < a.length) : true = eqL f a b := by
  rw [List.take_of_length_le (by simp; omega)] at hk
  rw [eqL, hk, hl]; simp
theorem eqL_iff {α : Type} {f : α → α → Bool} (hf : ∀ x y, f x y = true → x = y) {a b : List α} (h : eqL f a b = true) : a = b := by
  simp only [eqL, Bool.and_eq_true, beq_iff_eq, List.all_eq_true] at h
  refine List.ext_getElem h.1 fun i h1 h2 => hf _ _ ?_
  exact h.2 (a[i], b[i]) (List.mem_of_getElem? (zip_get (List.getElem?_eq_getElem h1) (List.getElem?_eq_getElem h2)))

set_option maxHeartbeats 1000000 in
theorem ints_any (a1 a2 : Option Addr) (l1 l2 : List Int) (c1 c2 : Nat) (w : World) (h1 : Row 1 intC w a1 l1) (h2 : Row 1 intC w a2 l2) (hb1 : l1.length ≤ 1000) (_ : l2.length ≤ 1000) :
    Calls Try.prog 51 #[.slice a1 l1.length c1, .slice a2 l2.length c2] w (Gives (.bool (eqL (fun x y => x == y) l1 l2)) w) := by
  have H1 := Lib.hid h1
  have H2 := Lib.hid h2
  clear h1 h2
  by_cases hl : l1.length = l2.length
  · have hz : ((l1.length : Int) != (l2.length : Int)) = false := by simp [hl]
    have HLL := Lib.hid hl
    clear hl
    go_enter Try.func51, Try.ntmps51
    go_wp2
    go_loopw [5] (fun i wr => ∃ k : Nat, ∃ r, k ≤ l1.length ∧ i = .int .i64 k ∧ Hid (((l1.zip l2).take k).all (fun p => p.1 == p.2) = true) ∧ wr = gw w r) (fun i _ => l1.length - (intOf i).toNat)
    case atStart => exact ⟨0, _, by omega, rfl, Lib.hid (by simp), gw_self _⟩
    case round =>
      obtain ⟨k, r, hk, rfl, hf, rfl⟩ := hrel
      by_cases hlt : k < l1.length
      · have kb : (k : Int) < l1.length := by omega
        have kb2 : (k : Int) < l2.length := by have := HLL.out; omega
        obtain ⟨x, hx⟩ := get_some hlt
        obtain ⟨y, hy⟩ := get_some (show k < l2.length by omega)
        obtain ⟨b, off, rfl, ho, hc⟩ := H1.out.get hx
        obtain ⟨b', off', rfl, ho', hc'⟩ := H2.out.get hy
        have f0 := hc 0 (by omega)
        have g0 := hc' 0 (by omega)
        simp at f0 g0
        have HX := Lib.hid hx
        have HY := Lib.hid hy
        clear hx hy hc hc'
        by_cases hxy : x = y
        · subst hxy
          have hz2 : (x != x) = false := by simp
          have he := Lib.hid (eqL_step hf.out HX.out HY.out (show (x == x) = true by simp))
          go_wp2
          refine wp_region_gw (by kernel_rfl) (by kernel_rfl) ?_
          repeat (quiet_step (first | fail))
          refine wpQuiet_nil ?_
          intro _ hw'
          obtain ⟨p1, hw''⟩ := hw'
          subst hw''
          go_wp2
          go_roundw
          case rel =>
            obtain ⟨r', hr'⟩ := back_gw w r p1
            exact ⟨k + 1, r', by omega, by go_num, he, hr'⟩
          case measure => simp [intOf]; omega
        · have hz2 : (x == y) = false := by simp [hxy]
          have he := Lib.hid (eqL_no (f := fun x y => x == y) HX.out HY.out hz2)
          clear hxy
          go_wp2
          refine wp_region_gw (by kernel_rfl) (by kernel_rfl) ?_
          repeat (quiet_step (first | fail))
          refine wpQuiet_nil ?_
          intro _ hw'
          obtain ⟨p1, hw''⟩ := hw'
          subst hw''
          go_wp2
          have HB := Lib.hid (gw_below w r)
          go_ret; exact Gives.mk (by rw [he.out]; rfl) (by have hb' := HB.out; have hs' := HB.out.size; repeat (first | exact hb' | refine below_gw ?_ (by first | (simp; done) | (simp; omega) | omega) _ | refine Below.alloc ?_ (by first | (simp; done) | (simp; omega) | omega) _ | refine Below.setCell ?_ (by first | (simp; done) | (simp; omega) | omega) | refine Below.drew ?_))
      · have he := Lib.hid (eqL_full HLL.out hf.out hlt)
        go_wp2
        have HB := Lib.hid (gw_below w r)
        go_ret; exact Gives.mk (by rw [he.out]; rfl) (by have hb' := HB.out; have hs' := HB.out.size; repeat (first | exact hb' | refine below_gw ?_ (by first | (simp; done) | (simp; omega) | omega) _ | refine Below.alloc ?_ (by first | (simp; done) | (simp; omega) | omega) _ | refine Below.setCell ?_ (by first | (simp; done) | (simp; omega) | omega) | refine Below.drew ?_))
  · have hz : ((l1.length : Int) == (l2.length : Int)) = false := by simp; omega
    have he := Lib.hid (eqL_miss (f := fun x y : Int => x == y) hl)
    go_enter Try.func51, Try.ntmps51
    go_wp2
    have HB := Lib.hid (Below.refl w.heap.size w)
    go_ret; exact Gives.mk (by rw [he.out]; rfl) (by have hb' := HB.out; have hs' := HB.out.size; repeat (first | exact hb' | refine below_gw ?_ (by first | (simp; done) | (simp; omega) | omega) _ | refine Below.alloc ?_ (by first | (simp; done) | (simp; omega) | omega) _ | refine Below.setCell ?_ (by first | (simp; done) | (simp; omega) | omega) | refine Below.drew ?_))

def sameT (x y : Tch) : Bool := x.1 == y.1 && x.2.1 == y.2.1 && x.2.2.1 == y.2.2.1 && x.2.2.2 == y.2.2.2
def same (p q : PS) : Bool := pk p q && eqL (fun x y => x == y) p.gs q.gs && eqL sameT p.ts q.ts

theorem sameT_iff {x y : Tch} (h : sameT x y = true) : x = y := by
  obtain ⟨x1, x2, x3, x4⟩ := x
  obtain ⟨y1, y2, y3, y4⟩ := y
  simp [sameT] at h
  simp [h]

theorem same_ts {p q : PS} (h : eqL sameT p.ts q.ts = false) : false = same p q := by rw [same, h, Bool.and_false]
theorem same_gs {p q : PS} (h : eqL (fun x y => x == y) p.gs q.gs = false) : false = same p q := by rw [same, h, Bool.and_false, Bool.false_and]
theorem same_pk {p q : PS} (h : pk p q = false) : false = same p q := by rw [same, h, Bool.false_and, Bool.false_and]

set_option maxRecDepth 100000 in
set_option maxHeartbeats 2000000 in
theorem same_any (p q : PS) (w : World) (hp : Rd w p) (hq : Rd w q) :
    Calls Try.prog 26 #[stv p, stv q] w (Gives (.bool (same p q)) w) := by
  obtain ⟨pg, pc, pga, pgs, pgc, pta, pts, ptc⟩ := p
  obtain ⟨qg, qc, qga, qgs, qgc, qta, qts, qtc⟩ := q
  have hpg : pgs.length ≤ 8 := hp.gl
  have hpt : pts.length ≤ 8 := hp.tl
  have hqg : qgs.length ≤ 8 := hq.gl
  have hqt : qts.length ≤ 8 := hq.tl
  obtain ⟨X, hX⟩ : ∃ X, X = (w.alloc (.cells (stC ⟨pg, pc, pga, pgs, pgc, pta, pts, ptc⟩).toArray 30)).alloc (.cells (stC ⟨qg, qc, qga, qgs, qgc, qta, qts, qtc⟩).toArray 30) := ⟨_, rfl⟩
  have HB : Hid (Below w.heap.size w X) := Lib.hid (by rw [hX]; exact (by repeat (first | exact Below.refl _ _ | refine below_gw ?_ (by simp; try omega) _ | refine Below.alloc ?_ (by simp; try omega) _ | refine Below.setCell ?_ (by simp; try omega) _ | refine Below.drew ?_)))
  have HP := Lib.hid (hp.below HB.out); clear hp
  have HQ := Lib.hid (hq.below HB.out); clear hq
  have a0 : X.cell? ⟨w.heap.size, 0, none⟩ = some (.int .i64 pg) := by rw [hX]; simp [go_sem]
  have a1 : X.cell? ⟨w.heap.size, 1, none⟩ = some (.int .i64 pc) := by rw [hX]; simp [go_sem]
  have a2 : X.cell? ⟨w.heap.size, 2, none⟩ = some (.slice pga pgs.length pgc) := by rw [hX]; simp [go_sem]
  have a3 : X.cell? ⟨w.heap.size, 3, none⟩ = some (.slice pta pts.length ptc) := by rw [hX]; simp [go_sem]
  have b0 : X.cell? ⟨w.heap.size + 1, 0, none⟩ = some (.int .i64 qg) := by rw [hX]; simp [go_sem]
  have b1 : X.cell? ⟨w.heap.size + 1, 1, none⟩ = some (.int .i64 qc) := by rw [hX]; simp [go_sem]
  have b2 : X.cell? ⟨w.heap.size + 1, 2, none⟩ = some (.slice qga qgs.length qgc) := by rw [hX]; simp [go_sem]
  have b3 : X.cell? ⟨w.heap.size + 1, 3, none⟩ = some (.slice qta qts.length qtc) := by rw [hX]; simp [go_sem]
  have o0 : Old w.heap.size X := Old.of_cell a0
  have o1 : Old (w.heap.size + 1) X := Old.of_cell b2
  have hI := ints_any pga qga pgs qgs pgc qgc X HP.out.gs HQ.out.gs (by omega) (by omega)
  obtain ⟨d, hd⟩ : ∃ d, eqL (fun x y => x == y) pgs qgs = d := ⟨_, rfl⟩
  rw [hd] at hI
  have HD := Lib.hid hd
  have HI := Lib.hid hI
  clear hd hI
  have hX' : X = (w.alloc (.cells #[.int .i64 pg, .int .i64 pc, .slice pga pgs.length pgc, .slice pta pts.length ptc] 30)).alloc (.cells #[.int .i64 qg, .int .i64 qc, .slice qga qgs.length qgc, .slice qta qts.length qtc] 30) := hX
  go_enter Try.func26, Try.ntmps26
  iterate 7 go_step
  rw [← hX']
  clear hX hX'
  by_cases h1 : pg = qg
  · subst h1
    have z1 : (pg == pg) = true := by simp
    by_cases h2 : pc = qc
    · subst h2
      have z2 : (pc == pc) = true := by simp
      cases d
      · have he := Lib.hid (same_gs (p := ⟨pg, pc, pga, pgs, pgc, pta, pts, ptc⟩) (q := ⟨pg, pc, qga, qgs, qgc, qta, qts, qtc⟩) HD.out)
        go_wp2_with (go_at_call 51; (with_reducible refine (HI.out).mono ?_); rintro e w1 ⟨rfl, p1, rfl⟩)
        go_ret; exact Gives.mk (by rw [he.out]; rfl) (by have hb' := HB.out; have hs' := HB.out.size; repeat (first | exact hb' | refine below_gw ?_ (by first | (simp; done) | (simp; omega) | omega) _ | refine Below.alloc ?_ (by first | (simp; done) | (simp; omega) | omega) _ | refine Below.setCell ?_ (by first | (simp; done) | (simp; omega) | omega) | refine Below.drew ?_))
      · by_cases hl : pts.length = qts.length
        · have hz : ((pts.length : Int) != (qts.length : Int)) = false := by simp [hl]
          have HLL := Lib.hid hl
          clear hl
          go_wp2_with (go_at_call 51; (with_reducible refine (HI.out).mono ?_); rintro e w1 ⟨rfl, p1, rfl⟩)
          go_loopw [5] (fun i wr => ∃ k : Nat, ∃ r, k ≤ pts.length ∧ i = .int .i64 k ∧ Hid (((pts.zip qts).take k).all (fun p => sameT p.1 p.2) = true) ∧ wr = gw X r) (fun i _ => pts.length - (intOf i).toNat)
          case atStart => exact ⟨0, _, by omega, rfl, Lib.hid (by simp), rfl⟩
          case round =>
            obtain ⟨k, r, hk, rfl, hf, rfl⟩ := hrel
            by_cases hlt : k < pts.length
            · have kb : (k : Int) < pts.length := by omega
              have kb2 : (k : Int) < qts.length := by have := HLL.out; omega
              obtain ⟨⟨x1, x2, x3, x4⟩, hx⟩ := get_some hlt
              obtain ⟨⟨y1, y2, y3, y4⟩, hy⟩ := get_some (show k < qts.length by omega)
              obtain ⟨b, off, e, ho, hc⟩ := HP.out.ts.get hx
              obtain ⟨b', off', e', ho', hc'⟩ := HQ.out.ts.get hy
              simp only at e e'
              subst e e'
              have f0 := hc 0 (by omega)
              have f1 := hc 1 (by omega)
              have f2 := hc 2 (by omega)
              have f3 := hc 3 (by omega)
              have g0 := hc' 0 (by omega)
              have g1 := hc' 1 (by omega)
              have g2 := hc' 2 (by omega)
              have g3 := hc' 3 (by omega)
              simp at f0 f1 f2 f3 g0 g1 g2 g3
              have HX := Lib.hid hx
              have HY := Lib.hid hy
              clear hx hy hc hc'
              have HB2 := Lib.hid (below_gw HB.out HB.out.size r)
              by_cases e1 : x1 = y1
              · subst e1
                have z3 : (x1 == x1) = true := by simp
                by_cases e2 : x2 = y2
                · subst e2
                  have z4 : (x2 == x2) = true := by simp
                  by_cases e3 : x3 = y3
                  · subst e3
                    have z5 : (x3 == x3) = true := by simp
                    by_cases e4 : x4 = y4
                    · subst e4
                      have z6 : (x4 == x4) = true := by simp
                      have he := Lib.hid (eqL_step (f := sameT) hf.out HX.out HY.out (by simp [sameT]))
                      go_wp2
                      refine wp_region_gw (by kernel_rfl) (by kernel_rfl) ?_
                      repeat (quiet_step (first | fail))
                      refine wpQuiet_nil ?_
                      intro _ hw'
                      obtain ⟨p1, hw''⟩ := hw'
                      subst hw''
                      go_wp2
                      go_roundw
                      case rel =>
                        obtain ⟨r', hr'⟩ := back_gw X r p1
                        exact ⟨k + 1, r', by omega, by go_num, he, hr'⟩
                      case measure => simp [intOf]; omega
                    · have z6 : (x4 == y4) = false := by simp [e4]
                      have he := Lib.hid (same_ts (p := ⟨pg, pc, pga, pgs, pgc, some ⟨b, off, none⟩, pts, ptc⟩) (q := ⟨pg, pc, qga, qgs, qgc, some ⟨b', off', none⟩, qts, qtc⟩) (eqL_no (f := sameT) HX.out HY.out (by simp [sameT, e4])).symm)
                      clear e4
                      go_wp2
                      refine wp_region_gw (by kernel_rfl) (by kernel_rfl) ?_
                      repeat (quiet_step (first | fail))
                      refine wpQuiet_nil ?_
                      intro _ hw'
                      obtain ⟨p1, hw''⟩ := hw'
                      subst hw''
                      go_wp2
                      go_ret; exact Gives.mk (by rw [he.out]; rfl) (by have hb' := HB2.out; have hs' := HB2.out.size; repeat (first | exact hb' | refine below_gw ?_ (by first | (simp; done) | (simp; omega) | omega) _ | refine Below.alloc ?_ (by first | (simp; done) | (simp; omega) | omega) _ | refine Below.setCell ?_ (by first | (simp; done) | (simp; omega) | omega) | refine Below.drew ?_))
                  · have z5 : (x3 == y3) = false := by simp [e3]
                    have he := Lib.hid (same_ts (p := ⟨pg, pc, pga, pgs, pgc, some ⟨b, off, none⟩, pts, ptc⟩) (q := ⟨pg, pc, qga, qgs, qgc, some ⟨b', off', none⟩, qts, qtc⟩) (eqL_no (f := sameT) HX.out HY.out (by simp [sameT, e3])).symm)
                    clear e3
                    go_wp2
                    refine wp_region_gw (by kernel_rfl) (by kernel_rfl) ?_
                    repeat (quiet_step (first | fail))
                    refine wpQuiet_nil ?_
                    intro _ hw'
                    obtain ⟨p1, hw''⟩ := hw'
                    subst hw''
                    go_wp2
                    go_ret; exact Gives.mk (by rw [he.out]; rfl) (by have hb' := HB2.out; have hs' := HB2.out.size; repeat (first | exact hb' | refine below_gw ?_ (by first | (simp; done) | (simp; omega) | omega) _ | refine Below.alloc ?_ (by first | (simp; done) | (simp; omega) | omega) _ | refine Below.setCell ?_ (by first | (simp; done) | (simp; omega) | omega) | refine Below.drew ?_))
                · have z4 : (x2 == y2) = false := by simp [e2]
                  have he := Lib.hid (same_ts (p := ⟨pg, pc, pga, pgs, pgc, some ⟨b, off, none⟩, pts, ptc⟩) (q := ⟨pg, pc, qga, qgs, qgc, some ⟨b', off', none⟩, qts, qtc⟩) (eqL_no (f := sameT) HX.out HY.out (by simp [sameT, e2])).symm)
                  clear e2
                  go_wp2
                  refine wp_region_gw (by kernel_rfl) (by kernel_rfl) ?_
                  repeat (quiet_step (first | fail))
                  refine wpQuiet_nil ?_
                  intro _ hw'
                  obtain ⟨p1, hw''⟩ := hw'
                  subst hw''
                  go_wp2
                  go_ret; exact Gives.mk (by rw [he.out]; rfl) (by have hb' := HB2.out; have hs' := HB2.out.size; repeat (first | exact hb' | refine below_gw ?_ (by first | (simp; done) | (simp; omega) | omega) _ | refine Below.alloc ?_ (by first | (simp; done) | (simp; omega) | omega) _ | refine Below.setCell ?_ (by first | (simp; done) | (simp; omega) | omega) | refine Below.drew ?_))
              · have z3 : (x1 == y1) = false := by simp [e1]
                have he := Lib.hid (same_ts (p := ⟨pg, pc, pga, pgs, pgc, some ⟨b, off, none⟩, pts, ptc⟩) (q := ⟨pg, pc, qga, qgs, qgc, some ⟨b', off', none⟩, qts, qtc⟩) (eqL_no (f := sameT) HX.out HY.out (by simp [sameT, e1])).symm)
                clear e1
                go_wp2
                refine wp_region_gw (by kernel_rfl) (by kernel_rfl) ?_
                repeat (quiet_step (first | fail))
                refine wpQuiet_nil ?_
                intro _ hw'
                obtain ⟨p1, hw''⟩ := hw'
                subst hw''
                go_wp2
                go_ret; exact Gives.mk (by rw [he.out]; rfl) (by have hb' := HB2.out; have hs' := HB2.out.size; repeat (first | exact hb' | refine below_gw ?_ (by first | (simp; done) | (simp; omega) | omega) _ | refine Below.alloc ?_ (by first | (simp; done) | (simp; omega) | omega) _ | refine Below.setCell ?_ (by first | (simp; done) | (simp; omega) | omega) | refine Below.drew ?_))
            · have he := Lib.hid (show true = same ⟨pg, pc, pga, pgs, pgc, pta, pts, ptc⟩ ⟨pg, pc, qga, qgs, qgc, qta, qts, qtc⟩ by
                rw [same]; simp only; rw [HD.out, ← eqL_full HLL.out hf.out hlt]; simp [pk])
              go_wp2
              have HB2 := Lib.hid (below_gw HB.out HB.out.size r)
              go_ret; exact Gives.mk (by rw [he.out]; rfl) (by have hb' := HB2.out; have hs' := HB2.out.size; repeat (first | exact hb' | refine below_gw ?_ (by first | (simp; done) | (simp; omega) | omega) _ | refine Below.alloc ?_ (by first | (simp; done) | (simp; omega) | omega) _ | refine Below.setCell ?_ (by first | (simp; done) | (simp; omega) | omega) | refine Below.drew ?_))
        · have hz : ((pts.length : Int) == (qts.length : Int)) = false := by simp; omega
          have he := Lib.hid (same_ts (p := ⟨pg, pc, pga, pgs, pgc, pta, pts, ptc⟩) (q := ⟨pg, pc, qga, qgs, qgc, qta, qts, qtc⟩) (eqL_miss (f := sameT) hl).symm)
          go_wp2_with (go_at_call 51; (with_reducible refine (HI.out).mono ?_); rintro e w1 ⟨rfl, p1, rfl⟩)
          go_ret; exact Gives.mk (by rw [he.out]; rfl) (by have hb' := HB.out; have hs' := HB.out.size; repeat (first | exact hb' | refine below_gw ?_ (by first | (simp; done) | (simp; omega) | omega) _ | refine Below.alloc ?_ (by first | (simp; done) | (simp; omega) | omega) _ | refine Below.setCell ?_ (by first | (simp; done) | (simp; omega) | omega) | refine Below.drew ?_))
    · have z2 : (pc == qc) = false := by simp [h2]
      have he := Lib.hid (same_pk (p := ⟨pg, pc, pga, pgs, pgc, pta, pts, ptc⟩) (q := ⟨pg, qc, qga, qgs, qgc, qta, qts, qtc⟩) (by simp [pk, h2]))
      clear h2
      go_wp2
      go_ret; exact Gives.mk (by rw [he.out]; rfl) (by have hb' := HB.out; have hs' := HB.out.size; repeat (first | exact hb' | refine below_gw ?_ (by first | (simp; done) | (simp; omega) | omega) _ | refine Below.alloc ?_ (by first | (simp; done) | (simp; omega) | omega) _ | refine Below.setCell ?_ (by first | (simp; done) | (simp; omega) | omega) | refine Below.drew ?_))
  · have z1 : (pg == qg) = false := by simp [h1]
    have he := Lib.hid (same_pk (p := ⟨pg, pc, pga, pgs, pgc, pta, pts, ptc⟩) (q := ⟨qg, qc, qga, qgs, qgc, qta, qts, qtc⟩) (by simp [pk, h1]))
    clear h1
    go_wp2
    go_ret; exact Gives.mk (by rw [he.out]; rfl) (by have hb' := HB.out; have hs' := HB.out.size; repeat (first | exact hb' | refine below_gw ?_ (by first | (simp; done) | (simp; omega) | omega) _ | refine Below.alloc ?_ (by first | (simp; done) | (simp; omega) | omega) _ | refine Below.setCell ?_ (by first | (simp; done) | (simp; omega) | omega) | refine Below.drew ?_))

end Go.Proofs.Ytmgiojkdcpolfaa
