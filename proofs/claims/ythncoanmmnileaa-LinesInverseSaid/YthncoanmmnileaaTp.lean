/- Position and Offset are inverse: in plain Lean, then walked. -/
import Derived.Test.YthncoanmmnileaaTn
namespace Go.Proofs.Ythncoanmmnileaa
open Go.RowKit Go.Sort

/-- The line of an offset and the offset of that place. -/
theorem inv_pos {n : Nat} {f : Nat → Int} {sz a : Int} (h : (posM n f sz a).2.2 = 0) : offsetM n f sz (posM n f sz a).1 (posM n f sz a).2.1 = (a, 0) := by
  unfold posM at *
  by_cases hv : validT n f sz = true
  · rw [if_pos hv] at *
    by_cases hr : a < 0 ∨ sz < a
    · rw [if_pos hr] at h; simp at h
    · rw [if_neg hr] at *
      have ho := (validT_iff _ _ _).1 hv
      obtain ⟨c1, c2, c3, c4⟩ := cnt_spec ho (by omega : 0 ≤ a) n ho.pos (Nat.le_refl _)
      generalize cntM f a n = c at *
      simp only
      obtain ⟨k, rfl⟩ : ∃ k, c = k + 1 := ⟨c - 1, by omega⟩
      have hk := c3 k (by omega)
      have hkn : k < n := by omega
      rw [show ((k + 1 : Nat) : Int) = (k : Int) + 1 by omega, Nat.add_sub_cancel, offset_in hv hkn (by omega), if_neg]
      · have : f k + (a - f k + 1) - 1 = a := by omega
        rw [this]
      · unfold mostM endM
        by_cases hl : k + 1 < n
        · have := c4 (k + 1) (by omega) hl
          rw [if_pos hl, if_neg (by omega)]; omega
        · rw [if_neg hl, if_pos (by omega)]; omega
  · rw [if_neg hv] at h; simp at h
theorem inv_off_err {n : Nat} {f : Nat → Int} {sz a b : Int} (h : (offsetM n f sz a b).2 ≠ 0) : (offsetM n f sz a b).1 = 0 := by
  unfold offsetM at *
  split
  · rename_i hv
    rw [if_pos hv] at h
    split
    · rfl
    · rename_i hr
      rw [if_neg hr] at h
      split
      · rfl
      · rename_i hm
        rw [if_neg hm] at h
        simp at h
  · rfl
theorem cnt_eq {f : Nat → Int} {x : Int} : ∀ (n k : Nat), k < n → f k ≤ x → (∀ i, k < i → i < n → x < f i) → cntM f x n = k + 1
  | n + 1, k, hk, h1, h2 => by
    by_cases e : k = n
    · subst e; simp only [cntM]; rw [if_pos h1]
    · have := h2 n (by omega) (by omega)
      simp only [cntM]
      rw [if_neg (by omega)]
      exact cnt_eq n k (by omega) h1 (fun i hi hn => h2 i hi (by omega))
theorem inv_off {n : Nat} {f : Nat → Int} {sz a b : Int} (h : (offsetM n f sz a b).2 = 0) : posM n f sz (offsetM n f sz a b).1 = (a, b, 0) := by
  have hv : validT n f sz = true := by
    cases hv : validT n f sz with
    | true => rfl
    | false => simp [offsetM, hv] at h
  have hr : ¬ (a < 1 ∨ (n : Int) < a ∨ b < 1) := fun hr => by unfold offsetM at h; rw [if_pos hv, if_pos hr] at h; simp at h
  obtain ⟨k, rfl⟩ : ∃ k : Nat, a = (k : Int) + 1 := ⟨(a - 1).toNat, by omega⟩
  have hkn : k < n := by omega
  rw [offset_in hv hkn (by omega)] at h ⊢
  by_cases hm : mostM n f sz k < b
  · rw [if_pos hm] at h; simp at h
  · rw [if_neg hm]
    have ho := (validT_iff _ _ _).1 hv
    have lo := ho.lo hkn
    obtain ⟨e1, e2, e3, e4⟩ := end_bounds hv hkn
    have hx : f k + b - 1 ≤ sz ∧ ∀ i, k < i → i < n → f k + b - 1 < f i := by
      unfold mostM endM at hm
      by_cases hl : k + 1 < n
      · rw [if_pos hl, if_neg (by omega)] at hm
        have := ho.hi hl
        refine ⟨by omega, fun i hi hn => ?_⟩
        have := ho.mono i (k + 1) (by omega) hn
        omega
      · rw [if_neg hl, if_pos (by omega)] at hm
        exact ⟨by omega, fun i hi hn => by omega⟩
    have hc := cnt_eq (f := f) (x := f k + b - 1) n k hkn (by omega) hx.2
    unfold posM
    simp only
    rw [if_pos hv, if_neg (by omega), hc, Nat.add_sub_cancel]
    congr 1
    congr 1
    omega

set_option maxHeartbeats 2000000 in
theorem LinesInverse_any (ad : Option Addr) (n cap : Nat) (f : Nat → Int) (sz a b : Int) (w : World) (h : RowAt w ad n f) :
    Calls Try.prog 8 #[tab ad n cap sz, .int .i64 a, .int .i64 b] w (Gives (.bool true) w) := by
  have HR0 := Lib.hid h; clear h
  have HW0 := Lib.hid (Below.refl w.heap.size w)
  by_cases hn : 1000 < n
  · have hn2 : (1000 : Int) < n := by omega
    go_enter Try.func8, Try.ntmps8
    go_wp2_with (go_at_call 10; refine (awake_any _).mono ?_; rintro e w1 ⟨rfl, p1, rfl⟩)
    go_ret; exact Gives.mk rfl (by repeat (first | exact Below.refl _ _ | refine below_gw ?_ (by simp; try omega) _ | refine Below.alloc ?_ (by simp; try omega) _ | refine Below.setCell ?_ (by simp; try omega) _ | refine Below.drew ?_))
  · have hn2 : ¬ (1000 : Int) < n := by omega
    have i1 := Lib.hid (fun h => inv_pos (n := n) (f := f) (sz := sz) (a := a) h)
    have i2 := Lib.hid (fun h => inv_off_err (n := n) (f := f) (sz := sz) (a := a) (b := b) h)
    have i3 := Lib.hid (fun h => inv_off (n := n) (f := f) (sz := sz) (a := a) (b := b) h)
    go_enter Try.func8, Try.ntmps8
    go_wp2_with (first | (go_at_call 10; refine (awake_any _).mono ?_; rintro e w1 ⟨rfl, p1, rfl⟩) | (go_at_call 16; refine (copied_any ad n cap f sz _ (HR0.out.below (by repeat (first | exact Below.refl _ _ | refine below_gw ?_ (by simp; try omega) _ | refine Below.alloc ?_ (by simp; try omega) _ | refine Below.setCell ?_ (by simp; try omega) _ | refine Below.drew ?_))) (by omega)).mono ?_; rintro e w1 ⟨ad1, cap1, rfl, hB, hR, hc⟩; have HA1 := Lib.hid hR; have HR1 := Lib.hid (RowAt.below (HR0.out.below (by repeat (first | exact Below.refl _ _ | refine below_gw ?_ (by simp; try omega) _ | refine Below.alloc ?_ (by simp; try omega) _ | refine Below.setCell ?_ (by simp; try omega) _ | refine Below.drew ?_))) hB); have HC1 := Lib.hid hc; have HW1 := Lib.hid (show Below w.heap.size w w1 from below_from HW0.out (below_from (by repeat (first | exact Below.refl _ _ | refine below_gw ?_ (by simp; try omega) _ | refine Below.alloc ?_ (by simp; try omega) _ | refine Below.setCell ?_ (by simp; try omega) _ | refine Below.drew ?_)) hB)); have kz1 : w1.cell? ⟨w.heap.size, 0, none⟩ = some (.slice ad n cap) := (hB.cell (by first | (simp; done) | (simp; omega))).trans (by simp [go_sem]); have ky1 : w1.cell? ⟨w.heap.size, 1, none⟩ = some (.int .i64 sz) := (hB.cell (by first | (simp; done) | (simp; omega))).trans (by simp [go_sem]); have oz1 : Old w.heap.size w1 := Old.of_cell kz1; clear hB hR hc; refine Stop.here ?_))
    refine Stop.on ?_
    have h1 := Lib.hid (fun w (h : RowAt w ad1 n f) => posL_any ad1 n cap1 f sz a w h HC1.out (by omega))
    generalize hx : posM n f sz a = x at *
    obtain ⟨x1, x2, x3⟩ := x
    by_cases h0 : x3 = 0
    · subst h0
      have i1' := i1.out rfl
      simp only at i1'
      have I1 := Lib.hid i1'; clear i1'
      go_wp2_with (first | (go_at_call 19; refine (h1.out _ (HA1.out.below (by repeat (first | exact Below.refl _ _ | refine below_gw ?_ (by simp; try omega) _ | refine Below.alloc ?_ (by simp; try omega) _ | refine Below.setCell ?_ (by simp; try omega) _ | refine Below.drew ?_)))).mono ?_; rintro e w1 ⟨rfl, q1, rfl⟩) | (go_at_call 16; refine (copied_any ad n cap f sz _ (HR1.out.below (by repeat (first | exact Below.refl _ _ | refine below_gw ?_ (by simp; try omega) _ | refine Below.alloc ?_ (by simp; try omega) _ | refine Below.setCell ?_ (by simp; try omega) _ | refine Below.drew ?_))) (by omega)).mono ?_; rintro e w2 ⟨ad2, cap2, rfl, hB, hR, hc⟩; have HA2 := Lib.hid hR; have HR2 := Lib.hid (RowAt.below (HR1.out.below (by repeat (first | exact Below.refl _ _ | refine below_gw ?_ (by simp; try omega) _ | refine Below.alloc ?_ (by simp; try omega) _ | refine Below.setCell ?_ (by simp; try omega) _ | refine Below.drew ?_))) hB); have HC2 := Lib.hid hc; have HW2 := Lib.hid (show Below w.heap.size w w2 from below_from HW1.out (below_from (by repeat (first | exact Below.refl _ _ | refine below_gw ?_ (by simp; try omega) _ | refine Below.alloc ?_ (by simp; try omega) _ | refine Below.setCell ?_ (by simp; try omega) _ | refine Below.drew ?_)) hB)); have kz2 : w2.cell? ⟨w.heap.size, 0, none⟩ = some (.slice ad n cap) := (hB.cell (by have := oz1.lt; first | (simp; done) | (simp; omega))).trans (by simp [go_sem, oz1, kz1]); have ky2 : w2.cell? ⟨w.heap.size, 1, none⟩ = some (.int .i64 sz) := (hB.cell (by have := oz1.lt; first | (simp; done) | (simp; omega))).trans (by simp [go_sem, oz1, ky1]); have oz2 : Old w.heap.size w2 := Old.of_cell kz2; clear hB hR hc; refine Stop.here ?_))
      refine Stop.on ?_
      have h2 := Lib.hid (fun w (h : RowAt w ad2 n f) => (by have := offsetL_any ad2 n cap2 f sz x1 x2 w h HC2.out (by omega); rwa [I1.out] at this : Calls Try.prog 21 #[tab ad2 n cap2 sz, .int .i64 x1, .int .i64 x2] w (Gives (v2 (a, 0)) w)))
      go_wp2_with (first | (go_at_call 21; refine (h2.out _ (HA2.out.below (by repeat (first | exact Below.refl _ _ | refine below_gw ?_ (by simp; try omega) _ | refine Below.alloc ?_ (by simp; try omega) _ | refine Below.setCell ?_ (by simp; try omega) _ | refine Below.drew ?_)))).mono ?_; rintro e w1 ⟨rfl, q2, rfl⟩) | (go_at_call 16; refine (copied_any ad n cap f sz _ (HR2.out.below (by repeat (first | exact Below.refl _ _ | refine below_gw ?_ (by simp; try omega) _ | refine Below.alloc ?_ (by simp; try omega) _ | refine Below.setCell ?_ (by simp; try omega) _ | refine Below.drew ?_))) (by omega)).mono ?_; rintro e w3 ⟨ad3, cap3, rfl, hB, hR, hc⟩; have HA3 := Lib.hid hR; have HR3 := Lib.hid (RowAt.below (HR2.out.below (by repeat (first | exact Below.refl _ _ | refine below_gw ?_ (by simp; try omega) _ | refine Below.alloc ?_ (by simp; try omega) _ | refine Below.setCell ?_ (by simp; try omega) _ | refine Below.drew ?_))) hB); have HC3 := Lib.hid hc; have HW3 := Lib.hid (show Below w.heap.size w w3 from below_from HW2.out (below_from (by repeat (first | exact Below.refl _ _ | refine below_gw ?_ (by simp; try omega) _ | refine Below.alloc ?_ (by simp; try omega) _ | refine Below.setCell ?_ (by simp; try omega) _ | refine Below.drew ?_)) hB)); have kz3 : w3.cell? ⟨w.heap.size, 0, none⟩ = some (.slice ad n cap) := (hB.cell (by have := oz2.lt; first | (simp; done) | (simp; omega))).trans (by simp [go_sem, oz2, kz2]); have ky3 : w3.cell? ⟨w.heap.size, 1, none⟩ = some (.int .i64 sz) := (hB.cell (by have := oz2.lt; first | (simp; done) | (simp; omega))).trans (by simp [go_sem, oz2, ky2]); have oz3 : Old w.heap.size w3 := Old.of_cell kz3; clear hB hR hc; refine Stop.here ?_))
      refine Stop.on ?_
      have h3 := Lib.hid (fun w (h : RowAt w ad3 n f) => offsetL_any ad3 n cap3 f sz a b w h HC3.out (by omega))
      generalize offsetM n f sz a b = y at *
      obtain ⟨y1, y2⟩ := y
      by_cases hy : y2 = 0
      · subst hy
        have i3' := i3.out rfl
        simp only at i3'
        have I3 := Lib.hid i3'; clear i3'
        go_wp2_with (first | (go_at_call 21; refine (h3.out _ (HA3.out.below (by repeat (first | exact Below.refl _ _ | refine below_gw ?_ (by simp; try omega) _ | refine Below.alloc ?_ (by simp; try omega) _ | refine Below.setCell ?_ (by simp; try omega) _ | refine Below.drew ?_)))).mono ?_; rintro e w1 ⟨rfl, q3, rfl⟩) | (go_at_call 16; refine (copied_any ad n cap f sz _ (HR3.out.below (by repeat (first | exact Below.refl _ _ | refine below_gw ?_ (by simp; try omega) _ | refine Below.alloc ?_ (by simp; try omega) _ | refine Below.setCell ?_ (by simp; try omega) _ | refine Below.drew ?_))) (by omega)).mono ?_; rintro e w4 ⟨ad4, cap4, rfl, hB, hR, hc⟩; have HA4 := Lib.hid hR; have HR4 := Lib.hid (RowAt.below (HR3.out.below (by repeat (first | exact Below.refl _ _ | refine below_gw ?_ (by simp; try omega) _ | refine Below.alloc ?_ (by simp; try omega) _ | refine Below.setCell ?_ (by simp; try omega) _ | refine Below.drew ?_))) hB); have HC4 := Lib.hid hc; have HW4 := Lib.hid (show Below w.heap.size w w4 from below_from HW3.out (below_from (by repeat (first | exact Below.refl _ _ | refine below_gw ?_ (by simp; try omega) _ | refine Below.alloc ?_ (by simp; try omega) _ | refine Below.setCell ?_ (by simp; try omega) _ | refine Below.drew ?_)) hB)); have kz4 : w4.cell? ⟨w.heap.size, 0, none⟩ = some (.slice ad n cap) := (hB.cell (by have := oz3.lt; first | (simp; done) | (simp; omega))).trans (by simp [go_sem, oz3, kz3]); have ky4 : w4.cell? ⟨w.heap.size, 1, none⟩ = some (.int .i64 sz) := (hB.cell (by have := oz3.lt; first | (simp; done) | (simp; omega))).trans (by simp [go_sem, oz3, ky3]); have oz4 : Old w.heap.size w4 := Old.of_cell kz4; clear hB hR hc; refine Stop.here ?_))
        refine Stop.on ?_
        have h4 := Lib.hid (fun w (h : RowAt w ad4 n f) => (by have := posL_any ad4 n cap4 f sz y1 w h HC4.out (by omega); rwa [I3.out] at this : Calls Try.prog 19 #[tab ad4 n cap4 sz, .int .i64 y1] w (Gives (v3 (a, b, 0)) w)))
        go_wp2_with (first | (go_at_call 19; refine (h4.out _ (HA4.out.below (by repeat (first | exact Below.refl _ _ | refine below_gw ?_ (by simp; try omega) _ | refine Below.alloc ?_ (by simp; try omega) _ | refine Below.setCell ?_ (by simp; try omega) _ | refine Below.drew ?_)))).mono ?_; rintro e w1 ⟨rfl, q4, rfl⟩))
        go_ret; exact Gives.mk rfl (below_from HW4.out (by repeat (first | exact Below.refl _ _ | refine below_gw ?_ (by simp; try omega) _ | refine Below.alloc ?_ (by simp; try omega) _ | refine Below.setCell ?_ (by simp; try omega) _ | refine Below.drew ?_)))
      · have i2' := i2.out hy
        simp only at i2'
        subst i2'
        have qy : (y2 == 0) = false := by rw [beq_eq_false_iff_ne]; exact hy
        go_wp2_with (first | (go_at_call 21; refine (h3.out _ (HA3.out.below (by repeat (first | exact Below.refl _ _ | refine below_gw ?_ (by simp; try omega) _ | refine Below.alloc ?_ (by simp; try omega) _ | refine Below.setCell ?_ (by simp; try omega) _ | refine Below.drew ?_)))).mono ?_; rintro e w1 ⟨rfl, q3, rfl⟩))
        go_ret; exact Gives.mk rfl (below_from HW3.out (by repeat (first | exact Below.refl _ _ | refine below_gw ?_ (by simp; try omega) _ | refine Below.alloc ?_ (by simp; try omega) _ | refine Below.setCell ?_ (by simp; try omega) _ | refine Below.drew ?_)))
    · have qx : (x3 == 0) = false := by rw [beq_eq_false_iff_ne]; exact h0
      go_wp2_with (first | (go_at_call 19; refine (h1.out _ (HA1.out.below (by repeat (first | exact Below.refl _ _ | refine below_gw ?_ (by simp; try omega) _ | refine Below.alloc ?_ (by simp; try omega) _ | refine Below.setCell ?_ (by simp; try omega) _ | refine Below.drew ?_)))).mono ?_; rintro e w1 ⟨rfl, q1, rfl⟩) | (go_at_call 16; refine (copied_any ad n cap f sz _ (HR1.out.below (by repeat (first | exact Below.refl _ _ | refine below_gw ?_ (by simp; try omega) _ | refine Below.alloc ?_ (by simp; try omega) _ | refine Below.setCell ?_ (by simp; try omega) _ | refine Below.drew ?_))) (by omega)).mono ?_; rintro e w2 ⟨ad2, cap2, rfl, hB, hR, hc⟩; have HA2 := Lib.hid hR; have HR2 := Lib.hid (RowAt.below (HR1.out.below (by repeat (first | exact Below.refl _ _ | refine below_gw ?_ (by simp; try omega) _ | refine Below.alloc ?_ (by simp; try omega) _ | refine Below.setCell ?_ (by simp; try omega) _ | refine Below.drew ?_))) hB); have HC2 := Lib.hid hc; have HW2 := Lib.hid (show Below w.heap.size w w2 from below_from HW1.out (below_from (by repeat (first | exact Below.refl _ _ | refine below_gw ?_ (by simp; try omega) _ | refine Below.alloc ?_ (by simp; try omega) _ | refine Below.setCell ?_ (by simp; try omega) _ | refine Below.drew ?_)) hB)); have kz2 : w2.cell? ⟨w.heap.size, 0, none⟩ = some (.slice ad n cap) := (hB.cell (by have := oz1.lt; first | (simp; done) | (simp; omega))).trans (by simp [go_sem, oz1, kz1]); have ky2 : w2.cell? ⟨w.heap.size, 1, none⟩ = some (.int .i64 sz) := (hB.cell (by have := oz1.lt; first | (simp; done) | (simp; omega))).trans (by simp [go_sem, oz1, ky1]); have oz2 : Old w.heap.size w2 := Old.of_cell kz2; clear hB hR hc; refine Stop.here ?_))
      refine Stop.on ?_
      have h3 := Lib.hid (fun w (h : RowAt w ad2 n f) => offsetL_any ad2 n cap2 f sz a b w h HC2.out (by omega))
      generalize offsetM n f sz a b = y at *
      obtain ⟨y1, y2⟩ := y
      by_cases hy : y2 = 0
      · subst hy
        have i3' := i3.out rfl
        simp only at i3'
        have I3 := Lib.hid i3'; clear i3'
        go_wp2_with (first | (go_at_call 21; refine (h3.out _ (HA2.out.below (by repeat (first | exact Below.refl _ _ | refine below_gw ?_ (by simp; try omega) _ | refine Below.alloc ?_ (by simp; try omega) _ | refine Below.setCell ?_ (by simp; try omega) _ | refine Below.drew ?_)))).mono ?_; rintro e w1 ⟨rfl, q3, rfl⟩) | (go_at_call 16; refine (copied_any ad n cap f sz _ (HR2.out.below (by repeat (first | exact Below.refl _ _ | refine below_gw ?_ (by simp; try omega) _ | refine Below.alloc ?_ (by simp; try omega) _ | refine Below.setCell ?_ (by simp; try omega) _ | refine Below.drew ?_))) (by omega)).mono ?_; rintro e w3 ⟨ad3, cap3, rfl, hB, hR, hc⟩; have HA3 := Lib.hid hR; have HR3 := Lib.hid (RowAt.below (HR2.out.below (by repeat (first | exact Below.refl _ _ | refine below_gw ?_ (by simp; try omega) _ | refine Below.alloc ?_ (by simp; try omega) _ | refine Below.setCell ?_ (by simp; try omega) _ | refine Below.drew ?_))) hB); have HC3 := Lib.hid hc; have HW3 := Lib.hid (show Below w.heap.size w w3 from below_from HW2.out (below_from (by repeat (first | exact Below.refl _ _ | refine below_gw ?_ (by simp; try omega) _ | refine Below.alloc ?_ (by simp; try omega) _ | refine Below.setCell ?_ (by simp; try omega) _ | refine Below.drew ?_)) hB)); have kz3 : w3.cell? ⟨w.heap.size, 0, none⟩ = some (.slice ad n cap) := (hB.cell (by have := oz2.lt; first | (simp; done) | (simp; omega))).trans (by simp [go_sem, oz2, kz2]); have ky3 : w3.cell? ⟨w.heap.size, 1, none⟩ = some (.int .i64 sz) := (hB.cell (by have := oz2.lt; first | (simp; done) | (simp; omega))).trans (by simp [go_sem, oz2, ky2]); have oz3 : Old w.heap.size w3 := Old.of_cell kz3; clear hB hR hc; refine Stop.here ?_))
        refine Stop.on ?_
        have h4 := Lib.hid (fun w (h : RowAt w ad3 n f) => (by have := posL_any ad3 n cap3 f sz y1 w h HC3.out (by omega); rwa [I3.out] at this : Calls Try.prog 19 #[tab ad3 n cap3 sz, .int .i64 y1] w (Gives (v3 (a, b, 0)) w)))
        go_wp2_with (first | (go_at_call 19; refine (h4.out _ (HA3.out.below (by repeat (first | exact Below.refl _ _ | refine below_gw ?_ (by simp; try omega) _ | refine Below.alloc ?_ (by simp; try omega) _ | refine Below.setCell ?_ (by simp; try omega) _ | refine Below.drew ?_)))).mono ?_; rintro e w1 ⟨rfl, q4, rfl⟩))
        go_ret; exact Gives.mk rfl (below_from HW3.out (by repeat (first | exact Below.refl _ _ | refine below_gw ?_ (by simp; try omega) _ | refine Below.alloc ?_ (by simp; try omega) _ | refine Below.setCell ?_ (by simp; try omega) _ | refine Below.drew ?_)))
      · have i2' := i2.out hy
        simp only at i2'
        subst i2'
        have qy : (y2 == 0) = false := by rw [beq_eq_false_iff_ne]; exact hy
        go_wp2_with (first | (go_at_call 21; refine (h3.out _ (HA2.out.below (by repeat (first | exact Below.refl _ _ | refine below_gw ?_ (by simp; try omega) _ | refine Below.alloc ?_ (by simp; try omega) _ | refine Below.setCell ?_ (by simp; try omega) _ | refine Below.drew ?_)))).mono ?_; rintro e w1 ⟨rfl, q3, rfl⟩))
        go_ret; exact Gives.mk rfl (below_from HW2.out (by repeat (first | exact Below.refl _ _ | refine below_gw ?_ (by simp; try omega) _ | refine Below.alloc ?_ (by simp; try omega) _ | refine Below.setCell ?_ (by simp; try omega) _ | refine Below.drew ?_)))

end Go.Proofs.Ythncoanmmnileaa
