/- Valid and ValidAll: they return. -/
import Derived.Test.YtmgiojkdcpolfaaWr
import Derived.BigQuiet
namespace Go.Proofs.Ytmgiojkdcpolfaa
open Go.RowKit Go.Sort

/-- Some answer, and what memory was made. -/
def GivesB (w : World) (e : Ending) (w' : World) : Prop := ∃ b : Bool, e = .returned (.bool b) ∧ ∃ p : Regrown, w' = gw w p
theorem GivesB.of {b : Bool} {w w' : World} (h : Below w.heap.size w w') : GivesB w (.returned (.bool b)) w' := ⟨b, rfl, gw_of_below h⟩

set_option maxRecDepth 100000 in
set_option maxHeartbeats 2000000 in
theorem valid_any (x : PS) (w : World) (hx : Rd w x) :
    Calls Try.prog 38 #[stv x] w (GivesB w) := by
  obtain ⟨X, hX⟩ : ∃ X, X = w.alloc (.cells (stC x).toArray 30) := ⟨_, rfl⟩
  have HB := Lib.hid (show Below w.heap.size w X by rw [hX]; exact (by repeat (first | exact Below.refl _ _ | refine below_gw ?_ (by simp; try omega) _ | refine Below.alloc ?_ (by simp; try omega) _ | refine Below.setCell ?_ (by simp; try omega) _ | refine Below.drew ?_)))
  have hbx : X.heap[w.heap.size]? = some (.cells (stC x).toArray 30 (0, 0)) := by rw [hX]; exact heap_alloc_at' _ _ _ rfl
  have HX := Lib.hid (hx.below HB.out)
  obtain ⟨xg, xc, xga, xgs, xgc, xta, xts, xtc⟩ := x
  have b0 := (row_cells hbx 0).trans (show _ = some (.int .i64 xg) from rfl)
  have b1 := (row_cells hbx 1).trans (show _ = some (.int .i64 xc) from rfl)
  have b2 := (row_cells hbx 2).trans (show _ = some (.slice xga xgs.length xgc) from rfl)
  have b3 := (row_cells hbx 3).trans (show _ = some (.slice xta xts.length xtc) from rfl)
  have o0 : Old w.heap.size X := Old.of_cell b0
  have hgl := HX.out.gl
  simp only at hgl
  clear hx hbx
  go_enter Try.func38, Try.ntmps38
  go_wp2
  rw [← hX]
  clear hX
  go_loopw [3, 4] (fun o i wr => ∃ (k : Nat) (b : Bool) (r : Regrown), k ≤ xgs.length ∧ o = .bool b ∧ i = .int .i64 k ∧ wr = gw X r) (fun _ i _ => xgs.length - (intOf i).toNat)
  case atStart => exact ⟨0, _, _, by omega, rfl, rfl, gw_self _⟩
  case round =>
    obtain ⟨k, b, r, hk, rfl, rfl, rfl⟩ := hrel
    by_cases hlt : k < xgs.length
    · have kb : (k : Int) < xgs.length := by omega
      obtain ⟨y, hy⟩ := get_some hlt
      have hrow := HX.out.gs
      simp only at hrow
      obtain ⟨b₀, off, rfl, ho, hc⟩ := hrow.get hy
      have f0 := hc 0 (by omega)
      simp at f0
      have HRW := Lib.hid hrow
      clear hy hc hrow
      by_cases h1 : y < 0
      · have d1 : decide (y < 0) = true := by simp [h1]
        clear h1
        go_wp2
        refine wp_region_gw (by kernel_rfl) (by kernel_rfl) ?_
        repeat (go_big_quiet_step (first | fail))
        refine wpQuiet_nil ?_
        intro _ hw'
        obtain ⟨p1, hw''⟩ := hw'
        subst hw''
        go_wp2
        go_ret
        exact GivesB.of (by have hb' := HB.out; have hs' := HB.out.size; repeat (first | exact hb' | refine below_gw ?_ (by first | (simp; done) | (simp; omega) | omega) _ | refine Below.alloc ?_ (by first | (simp; done) | (simp; omega) | omega) _ | refine Below.setCell ?_ (by first | (simp; done) | (simp; omega) | omega) | refine Below.drew ?_))
      · have d1 : decide (y < 0) = false := by simp; omega
        by_cases h2 : 8 ≤ y
        · have d2 : decide (8 ≤ y) = true := by simp [h2]
          clear h1 h2
          go_wp2
          refine wp_region_gw (by kernel_rfl) (by kernel_rfl) ?_
          repeat (go_big_quiet_step (first | fail))
          refine wpQuiet_nil ?_
          intro _ hw'
          obtain ⟨p1, hw''⟩ := hw'
          subst hw''
          go_wp2
          go_ret
          exact GivesB.of (by have hb' := HB.out; have hs' := HB.out.size; repeat (first | exact hb' | refine below_gw ?_ (by first | (simp; done) | (simp; omega) | omega) _ | refine Below.alloc ?_ (by first | (simp; done) | (simp; omega) | omega) _ | refine Below.setCell ?_ (by first | (simp; done) | (simp; omega) | omega) | refine Below.drew ?_))
        · have d2 : decide (8 ≤ y) = false := by simp; omega
          clear h1 h2
          match k, hk, hlt, kb, f0 with
          | 0, hk, hlt, kb, f0 =>
            simp at f0
            simp at kb
            by_cases h4 : y = xg
            · have d4 : (y == xg) = true := by simp [h4]
              clear h4
              go_wp2
              refine wp_region_gw (by kernel_rfl) (by kernel_rfl) ?_
              repeat (go_big_quiet_step (first | fail))
              refine wpQuiet_nil ?_
              intro _ hw'
              obtain ⟨p1, hw''⟩ := hw'
              subst hw''
              go_wp2
              refine wp_region_gw (by kernel_rfl) (by kernel_rfl) ?_
              repeat (go_big_quiet_step (first | fail))
              refine wpQuiet_nil ?_
              intro _ hw'
              obtain ⟨p2, hw''⟩ := hw'
              subst hw''
              go_wp2
              go_roundw
              case rel =>
                obtain ⟨r1, hr1⟩ := back_gw X r p1
                rw [hr1]
                obtain ⟨r2, hr2⟩ := back_gw X r1 p2
                exact ⟨1, _, r2, by omega, rfl, by go_num, hr2⟩
              case measure => simp [intOf]; omega
            · have d4 : (y == xg) = false := by simp [h4]
              clear h4
              go_wp2
              refine wp_region_gw (by kernel_rfl) (by kernel_rfl) ?_
              repeat (go_big_quiet_step (first | fail))
              refine wpQuiet_nil ?_
              intro _ hw'
              obtain ⟨p1, hw''⟩ := hw'
              subst hw''
              go_wp2
              refine wp_region_gw (by kernel_rfl) (by kernel_rfl) ?_
              repeat (go_big_quiet_step (first | fail))
              refine wpQuiet_nil ?_
              intro _ hw'
              obtain ⟨p2, hw''⟩ := hw'
              subst hw''
              go_wp2
              go_roundw
              case rel =>
                obtain ⟨r1, hr1⟩ := back_gw X r p1
                rw [hr1]
                obtain ⟨r2, hr2⟩ := back_gw X r1 p2
                exact ⟨1, _, r2, by omega, rfl, by go_num, hr2⟩
              case measure => simp [intOf]; omega
          | j + 1, hk, hlt, kb, f0 =>
            obtain ⟨z, hz⟩ := get_some (show j < xgs.length by omega)
            obtain ⟨b₁, off₁, e, _, hc⟩ := HRW.out.get hz
            cases e
            have g0 := hc 0 (by omega)
            simp at g0
            clear hz hc
            have kj : ((j : Int)) < xgs.length := by omega
            have kj0 : (0 : Int) < ((j + 1 : Nat) : Int) := by omega
            have kj1 : IntKind.i64.wrap (((j + 1 : Nat) : Int) - 1) = (j : Int) := by rw [IntKind.wrap_i64]; omega
            have kj2 : (0 : Int) ≤ (j : Int) := by omega
            have kj3 : ((j : Int)).toNat = j := by omega
            have kj4 : (((j + 1 : Nat) : Int)).toNat = j + 1 := by omega
            have kj5 : (0 : Int) ≤ ((j + 1 : Nat) : Int) := by omega
            by_cases h3 : y ≤ z
            · have d3 : decide (y ≤ z) = true := by simp [h3]
              clear h3
              go_wp2
              refine wp_region_gw (by kernel_rfl) (by kernel_rfl) ?_
              repeat (go_big_quiet_step (first | fail))
              refine wpQuiet_nil ?_
              intro _ hw'
              obtain ⟨p1, hw''⟩ := hw'
              subst hw''
              go_wp2
              go_ret
              exact GivesB.of (by have hb' := HB.out; have hs' := HB.out.size; repeat (first | exact hb' | refine below_gw ?_ (by first | (simp; done) | (simp; omega) | omega) _ | refine Below.alloc ?_ (by first | (simp; done) | (simp; omega) | omega) _ | refine Below.setCell ?_ (by first | (simp; done) | (simp; omega) | omega) | refine Below.drew ?_))
            · have d3 : decide (y ≤ z) = false := by simp; omega
              clear h3
              by_cases h4 : y = xg
              · have d4 : (y == xg) = true := by simp [h4]
                clear h4
                go_wp2
                refine wp_region_gw (by kernel_rfl) (by kernel_rfl) ?_
                repeat (go_big_quiet_step (first | fail))
                refine wpQuiet_nil ?_
                intro _ hw'
                obtain ⟨p1, hw''⟩ := hw'
                subst hw''
                go_wp2
                refine wp_region_gw (by kernel_rfl) (by kernel_rfl) ?_
                repeat (go_big_quiet_step (first | fail))
                refine wpQuiet_nil ?_
                intro _ hw'
                obtain ⟨p2, hw''⟩ := hw'
                subst hw''
                go_wp2
                go_roundw
                case rel =>
                  obtain ⟨r1, hr1⟩ := back_gw X r p1
                  rw [hr1]
                  obtain ⟨r2, hr2⟩ := back_gw X r1 p2
                  exact ⟨j + 1 + 1, _, r2, by omega, rfl, by go_num, hr2⟩
                case measure => simp [intOf]; omega
              · have d4 : (y == xg) = false := by simp [h4]
                clear h4
                go_wp2
                refine wp_region_gw (by kernel_rfl) (by kernel_rfl) ?_
                repeat (go_big_quiet_step (first | fail))
                refine wpQuiet_nil ?_
                intro _ hw'
                obtain ⟨p1, hw''⟩ := hw'
                subst hw''
                go_wp2
                refine wp_region_gw (by kernel_rfl) (by kernel_rfl) ?_
                repeat (go_big_quiet_step (first | fail))
                refine wpQuiet_nil ?_
                intro _ hw'
                obtain ⟨p2, hw''⟩ := hw'
                subst hw''
                go_wp2
                go_roundw
                case rel =>
                  obtain ⟨r1, hr1⟩ := back_gw X r p1
                  rw [hr1]
                  obtain ⟨r2, hr2⟩ := back_gw X r1 p2
                  exact ⟨j + 1 + 1, _, r2, by omega, rfl, by go_num, hr2⟩
                case measure => simp [intOf]; omega
    · go_wp2
      go_ret
      exact GivesB.of (by have hb' := HB.out; have hs' := HB.out.size; repeat (first | exact hb' | refine below_gw ?_ (by first | (simp; done) | (simp; omega) | omega) _ | refine Below.alloc ?_ (by first | (simp; done) | (simp; omega) | omega) _ | refine Below.setCell ?_ (by first | (simp; done) | (simp; omega) | omega) | refine Below.drew ?_))

theorem DGivesB {X : World} {f : FuncId} {args : Array Value} (h : ∀ r, Calls Try.prog f args (gw X r) (GivesB (gw X r))) (r : Regrown) : Calls Try.prog f args (gw X r) fun e w'' => ∃ b, e = .returned (.bool b) ∧ ∃ q : Regrown, w'' = gw X q := by
  refine (h r).mono ?_
  rintro e w' ⟨b, rfl, p, rfl⟩
  obtain ⟨q, hq⟩ := back_gw X r p
  exact ⟨b, rfl, q, hq⟩
set_option maxRecDepth 100000 in
theorem validAll_any (ad : Option Addr) (l : List PS) (cap : Nat) (w : World) (hS : Sts w ad l) (hb : l.length ≤ 1000) :
    Calls Try.prog 17 #[.slice ad l.length cap] w (GivesB w) := by
  have HS := Lib.hid hS
  clear hS
  go_enter Try.func17, Try.ntmps17
  go_wp2
  go_loopw [3] (fun i wr => ∃ (k : Nat) (r : Regrown), k ≤ l.length ∧ i = .int .i64 k ∧ wr = gw w r) (fun i _ => l.length - (intOf i).toNat)
  case atStart => exact ⟨0, _, by omega, rfl, gw_self _⟩
  case round =>
    obtain ⟨k, r, hk, rfl, rfl⟩ := hrel
    by_cases hlt : k < l.length
    · have kb : (k : Int) < l.length := by omega
      obtain ⟨y, hy⟩ := get_some hlt
      obtain ⟨b, off, rfl, ho, hc⟩ := HS.out.row.get hy
      have f0 := hc 0 (by omega)
      have f1 := hc 1 (by omega)
      have f2 := hc 2 (by omega)
      have f3 := hc 3 (by omega)
      simp at f0 f1 f2 f3
      have HC := Lib.hid (DGivesB (X := w) (fun r => valid_any y (gw w r) ((HS.out.at hy).gw r)) r)
      clear hy hc
      go_wp2_with (go_at_call 38; refine (HC.out).mono ?_; rintro e w1 ⟨d, rfl, p1, rfl⟩; refine Stop.here ?_)
      refine Stop.on ?_
      cases d
      · go_wp2
        go_ret
        exact GivesB.of (gw_below _ _)
      · go_wp2
        go_roundw
        case rel => exact ⟨k + 1, p1, by omega, by go_num, by trivial⟩
        case measure => simp [intOf]; omega
    · go_wp2
      go_ret
      exact GivesB.of (gw_below _ _)
end Go.Proofs.Ytmgiojkdcpolfaa
