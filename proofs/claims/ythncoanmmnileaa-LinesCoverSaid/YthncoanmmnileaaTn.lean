/- The laws on line tables, walked. -/
import Derived.Test.YthncoanmmnileaaTm
namespace Go.Proofs.Ythncoanmmnileaa
open Go.RowKit Go.Sort

set_option maxHeartbeats 1000000 in
theorem LinesPosition_any (ad : Option Addr) (n cap : Nat) (f : Nat → Int) (sz at' : Int) (w : World) (h : RowAt w ad n f) :
    Calls Try.prog 5 #[tab ad n cap sz, .int .i64 at'] w (Gives (.bool true) w) := by
  have HR0 := Lib.hid h; clear h
  have HW0 := Lib.hid (Below.refl w.heap.size w)
  by_cases hn : 1000 < n
  · have hn2 : (1000 : Int) < n := by omega
    go_enter Try.func5, Try.ntmps5
    go_wp2_with (go_at_call 10; refine (awake_any _).mono ?_; rintro e w1 ⟨rfl, p1, rfl⟩)
    go_ret; exact Gives.mk rfl (by repeat (first | exact Below.refl _ _ | refine below_gw ?_ (by simp; try omega) _ | refine Below.alloc ?_ (by simp; try omega) _ | refine Below.setCell ?_ (by simp; try omega) _ | refine Below.drew ?_))
  · have hn2 : ¬ (1000 : Int) < n := by omega
    go_enter Try.func5, Try.ntmps5
    go_wp2_with (first | (go_at_call 10; refine (awake_any _).mono ?_; rintro e w1 ⟨rfl, p1, rfl⟩) | (go_at_call 16; refine (copied_any ad n cap f sz _ (HR0.out.below (by repeat (first | exact Below.refl _ _ | refine below_gw ?_ (by simp; try omega) _ | refine Below.alloc ?_ (by simp; try omega) _ | refine Below.setCell ?_ (by simp; try omega) _ | refine Below.drew ?_))) (by omega)).mono ?_; rintro e w1 ⟨ad1, cap1, rfl, hB, hR, hc⟩; have HA1 := Lib.hid hR; have HR1 := Lib.hid (RowAt.below (HR0.out.below (by repeat (first | exact Below.refl _ _ | refine below_gw ?_ (by simp; try omega) _ | refine Below.alloc ?_ (by simp; try omega) _ | refine Below.setCell ?_ (by simp; try omega) _ | refine Below.drew ?_))) hB); have HC1 := Lib.hid hc; have HW1 := Lib.hid (show Below w.heap.size w w1 from below_from HW0.out (below_from (by repeat (first | exact Below.refl _ _ | refine below_gw ?_ (by simp; try omega) _ | refine Below.alloc ?_ (by simp; try omega) _ | refine Below.setCell ?_ (by simp; try omega) _ | refine Below.drew ?_)) hB)); have kz1 : w1.cell? ⟨w.heap.size, 0, none⟩ = some (.slice ad n cap) := (hB.cell (by first | (simp; done) | (simp; omega))).trans (by simp [go_sem]); have ky1 : w1.cell? ⟨w.heap.size, 1, none⟩ = some (.int .i64 sz) := (hB.cell (by first | (simp; done) | (simp; omega))).trans (by simp [go_sem]); have oz1 : Old w.heap.size w1 := Old.of_cell kz1; clear hB hR hc; refine Stop.here ?_))
    refine Stop.on ?_
    have h1 := Lib.hid (fun w (h : RowAt w ad1 n f) => posL_any ad1 n cap1 f sz at' w h HC1.out (by omega))
    have h2 := Lib.hid (fun w (h : RowAt w ad n f) => posR_any ad n cap f sz at' w h (by omega))
    have h3 := Lib.hid (fun w (h' : RowAt w ad1 n f) (h : RowAt w ad n f) => same_yes ad1 ad n cap1 cap f sz w h' h (by omega))
    generalize posM n f sz at' = x at *
    go_wp2_with (first | (go_at_call 19; refine (h1.out _ (HA1.out.below (by repeat (first | exact Below.refl _ _ | refine below_gw ?_ (by simp; try omega) _ | refine Below.alloc ?_ (by simp; try omega) _ | refine Below.setCell ?_ (by simp; try omega) _ | refine Below.drew ?_)))).mono ?_; rintro e w1 ⟨rfl, q1, rfl⟩) | (go_at_call 20; refine (h2.out _ (HR1.out.below (by repeat (first | exact Below.refl _ _ | refine below_gw ?_ (by simp; try omega) _ | refine Below.alloc ?_ (by simp; try omega) _ | refine Below.setCell ?_ (by simp; try omega) _ | refine Below.drew ?_)))).mono ?_; rintro e w1 ⟨rfl, q2, rfl⟩) | (go_at_call 12; refine (h3.out _ (HA1.out.below (by repeat (first | exact Below.refl _ _ | refine below_gw ?_ (by simp; try omega) _ | refine Below.alloc ?_ (by simp; try omega) _ | refine Below.setCell ?_ (by simp; try omega) _ | refine Below.drew ?_))) (HR1.out.below (by repeat (first | exact Below.refl _ _ | refine below_gw ?_ (by simp; try omega) _ | refine Below.alloc ?_ (by simp; try omega) _ | refine Below.setCell ?_ (by simp; try omega) _ | refine Below.drew ?_)))).mono ?_; rintro e w1 ⟨rfl, q3, rfl⟩))
    go_ret; exact Gives.mk rfl (below_from HW1.out (by repeat (first | exact Below.refl _ _ | refine below_gw ?_ (by simp; try omega) _ | refine Below.alloc ?_ (by simp; try omega) _ | refine Below.setCell ?_ (by simp; try omega) _ | refine Below.drew ?_)))

set_option maxHeartbeats 1000000 in
theorem LinesOffset_any (ad : Option Addr) (n cap : Nat) (f : Nat → Int) (sz line col : Int) (w : World) (h : RowAt w ad n f) :
    Calls Try.prog 6 #[tab ad n cap sz, .int .i64 line, .int .i64 col] w (Gives (.bool true) w) := by
  have HR0 := Lib.hid h; clear h
  have HW0 := Lib.hid (Below.refl w.heap.size w)
  by_cases hn : 1000 < n
  · have hn2 : (1000 : Int) < n := by omega
    go_enter Try.func6, Try.ntmps6
    go_wp2_with (go_at_call 10; refine (awake_any _).mono ?_; rintro e w1 ⟨rfl, p1, rfl⟩)
    go_ret; exact Gives.mk rfl (by repeat (first | exact Below.refl _ _ | refine below_gw ?_ (by simp; try omega) _ | refine Below.alloc ?_ (by simp; try omega) _ | refine Below.setCell ?_ (by simp; try omega) _ | refine Below.drew ?_))
  · have hn2 : ¬ (1000 : Int) < n := by omega
    go_enter Try.func6, Try.ntmps6
    go_wp2_with (first | (go_at_call 10; refine (awake_any _).mono ?_; rintro e w1 ⟨rfl, p1, rfl⟩) | (go_at_call 16; refine (copied_any ad n cap f sz _ (HR0.out.below (by repeat (first | exact Below.refl _ _ | refine below_gw ?_ (by simp; try omega) _ | refine Below.alloc ?_ (by simp; try omega) _ | refine Below.setCell ?_ (by simp; try omega) _ | refine Below.drew ?_))) (by omega)).mono ?_; rintro e w1 ⟨ad1, cap1, rfl, hB, hR, hc⟩; have HA1 := Lib.hid hR; have HR1 := Lib.hid (RowAt.below (HR0.out.below (by repeat (first | exact Below.refl _ _ | refine below_gw ?_ (by simp; try omega) _ | refine Below.alloc ?_ (by simp; try omega) _ | refine Below.setCell ?_ (by simp; try omega) _ | refine Below.drew ?_))) hB); have HC1 := Lib.hid hc; have HW1 := Lib.hid (show Below w.heap.size w w1 from below_from HW0.out (below_from (by repeat (first | exact Below.refl _ _ | refine below_gw ?_ (by simp; try omega) _ | refine Below.alloc ?_ (by simp; try omega) _ | refine Below.setCell ?_ (by simp; try omega) _ | refine Below.drew ?_)) hB)); have kz1 : w1.cell? ⟨w.heap.size, 0, none⟩ = some (.slice ad n cap) := (hB.cell (by first | (simp; done) | (simp; omega))).trans (by simp [go_sem]); have ky1 : w1.cell? ⟨w.heap.size, 1, none⟩ = some (.int .i64 sz) := (hB.cell (by first | (simp; done) | (simp; omega))).trans (by simp [go_sem]); have oz1 : Old w.heap.size w1 := Old.of_cell kz1; clear hB hR hc; refine Stop.here ?_))
    refine Stop.on ?_
    have h1 := Lib.hid (fun w (h : RowAt w ad1 n f) => offsetL_any ad1 n cap1 f sz line col w h HC1.out (by omega))
    have h2 := Lib.hid (fun w (h : RowAt w ad n f) => offsetR_any ad n cap f sz line col w h (by omega))
    generalize offsetM n f sz line col = x at *
    go_wp2_with (first | (go_at_call 21; refine (h1.out _ (HA1.out.below (by repeat (first | exact Below.refl _ _ | refine below_gw ?_ (by simp; try omega) _ | refine Below.alloc ?_ (by simp; try omega) _ | refine Below.setCell ?_ (by simp; try omega) _ | refine Below.drew ?_)))).mono ?_; rintro e w1 ⟨rfl, q1, rfl⟩) | (go_at_call 22; refine (h2.out _ (HR1.out.below (by repeat (first | exact Below.refl _ _ | refine below_gw ?_ (by simp; try omega) _ | refine Below.alloc ?_ (by simp; try omega) _ | refine Below.setCell ?_ (by simp; try omega) _ | refine Below.drew ?_)))).mono ?_; rintro e w1 ⟨rfl, q2, rfl⟩))
    go_ret; exact Gives.mk rfl (below_from HW1.out (by repeat (first | exact Below.refl _ _ | refine below_gw ?_ (by simp; try omega) _ | refine Below.alloc ?_ (by simp; try omega) _ | refine Below.setCell ?_ (by simp; try omega) _ | refine Below.drew ?_)))

set_option maxHeartbeats 1000000 in
theorem LinesSpan_any (ad : Option Addr) (n cap : Nat) (f : Nat → Int) (sz line : Int) (w : World) (h : RowAt w ad n f) :
    Calls Try.prog 7 #[tab ad n cap sz, .int .i64 line] w (Gives (.bool true) w) := by
  have HR0 := Lib.hid h; clear h
  have HW0 := Lib.hid (Below.refl w.heap.size w)
  by_cases hn : 1000 < n
  · have hn2 : (1000 : Int) < n := by omega
    go_enter Try.func7, Try.ntmps7
    go_wp2_with (go_at_call 10; refine (awake_any _).mono ?_; rintro e w1 ⟨rfl, p1, rfl⟩)
    go_ret; exact Gives.mk rfl (by repeat (first | exact Below.refl _ _ | refine below_gw ?_ (by simp; try omega) _ | refine Below.alloc ?_ (by simp; try omega) _ | refine Below.setCell ?_ (by simp; try omega) _ | refine Below.drew ?_))
  · have hn2 : ¬ (1000 : Int) < n := by omega
    go_enter Try.func7, Try.ntmps7
    go_wp2_with (first | (go_at_call 10; refine (awake_any _).mono ?_; rintro e w1 ⟨rfl, p1, rfl⟩) | (go_at_call 16; refine (copied_any ad n cap f sz _ (HR0.out.below (by repeat (first | exact Below.refl _ _ | refine below_gw ?_ (by simp; try omega) _ | refine Below.alloc ?_ (by simp; try omega) _ | refine Below.setCell ?_ (by simp; try omega) _ | refine Below.drew ?_))) (by omega)).mono ?_; rintro e w1 ⟨ad1, cap1, rfl, hB, hR, hc⟩; have HA1 := Lib.hid hR; have HR1 := Lib.hid (RowAt.below (HR0.out.below (by repeat (first | exact Below.refl _ _ | refine below_gw ?_ (by simp; try omega) _ | refine Below.alloc ?_ (by simp; try omega) _ | refine Below.setCell ?_ (by simp; try omega) _ | refine Below.drew ?_))) hB); have HC1 := Lib.hid hc; have HW1 := Lib.hid (show Below w.heap.size w w1 from below_from HW0.out (below_from (by repeat (first | exact Below.refl _ _ | refine below_gw ?_ (by simp; try omega) _ | refine Below.alloc ?_ (by simp; try omega) _ | refine Below.setCell ?_ (by simp; try omega) _ | refine Below.drew ?_)) hB)); have kz1 : w1.cell? ⟨w.heap.size, 0, none⟩ = some (.slice ad n cap) := (hB.cell (by first | (simp; done) | (simp; omega))).trans (by simp [go_sem]); have ky1 : w1.cell? ⟨w.heap.size, 1, none⟩ = some (.int .i64 sz) := (hB.cell (by first | (simp; done) | (simp; omega))).trans (by simp [go_sem]); have oz1 : Old w.heap.size w1 := Old.of_cell kz1; clear hB hR hc; refine Stop.here ?_))
    refine Stop.on ?_
    have h1 := Lib.hid (fun w (h : RowAt w ad1 n f) => spanL_any ad1 n cap1 f sz line w h HC1.out (by omega))
    have h2 := Lib.hid (fun w (h : RowAt w ad n f) => spanR_any ad n cap f sz line w h (by omega))
    generalize spanM n f sz line = x at *
    go_wp2_with (first | (go_at_call 23; refine (h1.out _ (HA1.out.below (by repeat (first | exact Below.refl _ _ | refine below_gw ?_ (by simp; try omega) _ | refine Below.alloc ?_ (by simp; try omega) _ | refine Below.setCell ?_ (by simp; try omega) _ | refine Below.drew ?_)))).mono ?_; rintro e w1 ⟨rfl, q1, rfl⟩) | (go_at_call 24; refine (h2.out _ (HR1.out.below (by repeat (first | exact Below.refl _ _ | refine below_gw ?_ (by simp; try omega) _ | refine Below.alloc ?_ (by simp; try omega) _ | refine Below.setCell ?_ (by simp; try omega) _ | refine Below.drew ?_)))).mono ?_; rintro e w1 ⟨rfl, q2, rfl⟩))
    go_ret; exact Gives.mk rfl (below_from HW1.out (by repeat (first | exact Below.refl _ _ | refine below_gw ?_ (by simp; try omega) _ | refine Below.alloc ?_ (by simp; try omega) _ | refine Below.setCell ?_ (by simp; try omega) _ | refine Below.drew ?_)))

end Go.Proofs.Ythncoanmmnileaa
