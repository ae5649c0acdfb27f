/- The reference's Add: what each call returns. -/
import Derived.Test.YtkfngaobgnijmaaEr
namespace Go.Proofs.Ytkfngaobgnijmaa
open Go.RowKit Go.Sort

theorem addR_no {r : RD} {g n : Int} {c : Clk} (h : ¬ (validR r = true ∧ plc g = true ∧ 0 < n)) : addR r g n c = r := by simp only [addR, if_neg h]
theorem addR_sole {r : RD} {g n : Int} {c : Clk} (h1 : validR r = true) (h2 : plc g = true) (h3 : 0 < n) (h : soleM r c = true) : addR r g n c = ⟨false, g, n, zc⟩ := by simp [addR, h1, h2, h3, h]
theorem addR_hi {r : RD} {g n : Int} {c : Clk} (h1 : validR r = true) (h2 : plc g = true) (h3 : 0 < n) (h : soleM r c = false) (hm : setR r g.toNat < n) : addR r g n c = formR (upd (setR r) g.toNat n) := by simp [addR, h1, h2, h3, h, hm]
theorem addR_lo {r : RD} {g n : Int} {c : Clk} (h1 : validR r = true) (h2 : plc g = true) (h3 : 0 < n) (h : soleM r c = false) (hm : ¬ setR r g.toNat < n) : addR r g n c = formR (setR r) := by simp [addR, h1, h2, h3, h, hm]
theorem lit_get (c : Clk) {i : Nat} (h : i < 8) : ∀ hh, ([Value.int .i64 (c 0), .int .i64 (c 1), .int .i64 (c 2), .int .i64 (c 3), .int .i64 (c 4), .int .i64 (c 5), .int .i64 (c 6), .int .i64 (c 7)] : List Value)[i]'hh = .int .i64 (c i) := by
  intro hh
  rcases lt8 h with rfl | rfl | rfl | rfl | rfl | rfl | rfl | rfl <;> rfl
theorem lit_set (c : Clk) (i : Nat) (v : Int) : (#[Value.int .i64 (c 0), .int .i64 (c 1), .int .i64 (c 2), .int .i64 (c 3), .int .i64 (c 4), .int .i64 (c 5), .int .i64 (c 6), .int .i64 (c 7)] : Array Value).setIfInBounds i (.int .i64 v) = cl (upd c i v) := cl_set c i v

set_option maxHeartbeats 1000000 in
theorem addR_no1 (s : Bool) (rg rn : Int) (x : Clk) (g n : Int) (c : Clk) (w : World) (h : validR ⟨s, rg, rn, x⟩ = false) :
    Calls Try.prog 17 #[.agg (rd s rg rn x), .agg #[.int .i64 g, .int .i64 n], .agg (cl c)] w (Gives (rdv (addR ⟨s, rg, rn, x⟩ g n c)) w) := by
  have he := Lib.hid (congrArg rdv (addR_no (r := ⟨s, rg, rn, x⟩) (g := g) (n := n) (c := c) (by simp [h])).symm)
  
  go_enter Try.func17, Try.ntmps17
  go_wp2_with (first | (go_at_call 22; refine (validR_any s rg rn x _).mono ?_; rintro e w1 ⟨rfl, p1, rfl⟩) | (go_at_call 29; refine (hpl.out _).mono ?_; rintro e w1 ⟨rfl, rfl⟩))
  exact bodyPost_ret (v := .agg (rd s rg rn x)) (by simp [results, Try.results17, go_sem] <;> rfl) rfl (Gives.mk he.out (by repeat (first | exact Below.refl _ _ | refine below_gw ?_ (by simp; try omega) _ | refine Below.alloc ?_ (by simp; try omega) _ | refine Below.setCell ?_ (by simp; try omega) _ | refine Below.drew ?_)))

set_option maxHeartbeats 1000000 in
theorem addR_no2 (s : Bool) (rg rn : Int) (x : Clk) (g n : Int) (c : Clk) (w : World) (h : validR ⟨s, rg, rn, x⟩ = true) (hp : ¬ (0 ≤ g ∧ g < 8)) :
    Calls Try.prog 17 #[.agg (rd s rg rn x), .agg #[.int .i64 g, .int .i64 n], .agg (cl c)] w (Gives (rdv (addR ⟨s, rg, rn, x⟩ g n c)) w) := by
  have he := Lib.hid (congrArg rdv (addR_no (r := ⟨s, rg, rn, x⟩) (g := g) (n := n) (c := c) (by rw [plc_iff]; omega)).symm)
  have hpl := Lib.hid (fun w => place_any_no hp w); clear hp
  go_enter Try.func17, Try.ntmps17
  go_wp2_with (first | (go_at_call 22; refine (validR_any s rg rn x _).mono ?_; rintro e w1 ⟨rfl, p1, rfl⟩) | (go_at_call 29; refine (hpl.out _).mono ?_; rintro e w1 ⟨rfl, rfl⟩))
  exact bodyPost_ret (v := .agg (rd s rg rn x)) (by simp [results, Try.results17, go_sem] <;> rfl) rfl (Gives.mk he.out (by repeat (first | exact Below.refl _ _ | refine below_gw ?_ (by simp; try omega) _ | refine Below.alloc ?_ (by simp; try omega) _ | refine Below.setCell ?_ (by simp; try omega) _ | refine Below.drew ?_)))

set_option maxHeartbeats 1000000 in
theorem addR_no3 (s : Bool) (rg rn : Int) (x : Clk) (g n : Int) (c : Clk) (w : World) (h : validR ⟨s, rg, rn, x⟩ = true) (hp : 0 ≤ g ∧ g < 8) (hn : n ≤ 0) :
    Calls Try.prog 17 #[.agg (rd s rg rn x), .agg #[.int .i64 g, .int .i64 n], .agg (cl c)] w (Gives (rdv (addR ⟨s, rg, rn, x⟩ g n c)) w) := by
  have he := Lib.hid (congrArg rdv (addR_no (r := ⟨s, rg, rn, x⟩) (g := g) (n := n) (c := c) (by omega)).symm)
  have hpl := Lib.hid (fun w => place_any_yes hp w); clear hp
  go_enter Try.func17, Try.ntmps17
  go_wp2_with (first | (go_at_call 22; refine (validR_any s rg rn x _).mono ?_; rintro e w1 ⟨rfl, p1, rfl⟩) | (go_at_call 29; refine (hpl.out _).mono ?_; rintro e w1 ⟨rfl, rfl⟩))
  exact bodyPost_ret (v := .agg (rd s rg rn x)) (by simp [results, Try.results17, go_sem] <;> rfl) rfl (Gives.mk he.out (by repeat (first | exact Below.refl _ _ | refine below_gw ?_ (by simp; try omega) _ | refine Below.alloc ?_ (by simp; try omega) _ | refine Below.setCell ?_ (by simp; try omega) _ | refine Below.drew ?_)))

set_option maxHeartbeats 1000000 in
theorem addR_sole1 (rg rn : Int) (x : Clk) (g n : Int) (c : Clk) (w : World) (h : validR ⟨false, rg, rn, x⟩ = true) (hp : 0 ≤ g ∧ g < 8) (hn : 0 < n) (hz : ¬ rg = 0) (hl : leqM rg rn c = true) :
    Calls Try.prog 17 #[.agg (rd false rg rn x), .agg #[.int .i64 g, .int .i64 n], .agg (cl c)] w (Gives (rdv (addR ⟨false, rg, rn, x⟩ g n c)) w) := by
  have he := Lib.hid (congrArg rdv (addR_sole (c := c) h ((plc_iff g).2 hp) hn (by simp [soleM, hl])).symm)
  have hpl := Lib.hid (fun w => place_any_yes hp w)
  clear hp
  go_enter Try.func17, Try.ntmps17
  go_wp2_with (first | (go_at_call 22; refine (validR_any false rg rn x _).mono ?_; rintro e w1 ⟨rfl, p1, rfl⟩) | (go_at_call 29; refine (hpl.out _).mono ?_; rintro e w1 ⟨rfl, rfl⟩) | (go_at_call 15; refine (leqR_any rg rn c _).mono ?_; rintro e w1 ⟨rfl, p3, rfl⟩))
  exact bodyPost_ret (v := rdv ⟨false, g, n, zc⟩) (by simp [results, Try.results17, go_sem] <;> rfl) rfl (Gives.mk he.out (by repeat (first | exact Below.refl _ _ | refine below_gw ?_ (by simp; try omega) _ | refine Below.alloc ?_ (by simp; try omega) _ | refine Below.setCell ?_ (by simp; try omega) _ | refine Below.drew ?_)))

set_option maxHeartbeats 1000000 in
theorem addR_sole2 (rn : Int) (x : Clk) (g n : Int) (c : Clk) (w : World) (h : validR ⟨false, 0, rn, x⟩ = true) (hp : 0 ≤ g ∧ g < 8) (hn : 0 < n) (hz : ¬ rn = 0) (hl : leqM 0 rn c = true) :
    Calls Try.prog 17 #[.agg (rd false 0 rn x), .agg #[.int .i64 g, .int .i64 n], .agg (cl c)] w (Gives (rdv (addR ⟨false, 0, rn, x⟩ g n c)) w) := by
  have he := Lib.hid (congrArg rdv (addR_sole (c := c) h ((plc_iff g).2 hp) hn (by simp [soleM, hl])).symm)
  have hpl := Lib.hid (fun w => place_any_yes hp w)
  clear hp
  go_enter Try.func17, Try.ntmps17
  go_wp2_with (first | (go_at_call 22; refine (validR_any false 0 rn x _).mono ?_; rintro e w1 ⟨rfl, p1, rfl⟩) | (go_at_call 29; refine (hpl.out _).mono ?_; rintro e w1 ⟨rfl, rfl⟩) | (go_at_call 15; refine (leqR_any 0 rn c _).mono ?_; rintro e w1 ⟨rfl, p3, rfl⟩))
  exact bodyPost_ret (v := rdv ⟨false, g, n, zc⟩) (by simp [results, Try.results17, go_sem] <;> rfl) rfl (Gives.mk he.out (by repeat (first | exact Below.refl _ _ | refine below_gw ?_ (by simp; try omega) _ | refine Below.alloc ?_ (by simp; try omega) _ | refine Below.setCell ?_ (by simp; try omega) _ | refine Below.drew ?_)))

set_option maxHeartbeats 1000000 in
theorem addR_sole3  (x : Clk) (g n : Int) (c : Clk) (w : World) (h : validR ⟨false, 0, 0, x⟩ = true) (hp : 0 ≤ g ∧ g < 8) (hn : 0 < n)  :
    Calls Try.prog 17 #[.agg (rd false 0 0 x), .agg #[.int .i64 g, .int .i64 n], .agg (cl c)] w (Gives (rdv (addR ⟨false, 0, 0, x⟩ g n c)) w) := by
  have he := Lib.hid (congrArg rdv (addR_sole (c := c) h ((plc_iff g).2 hp) hn (by simp [soleM])).symm)
  have hpl := Lib.hid (fun w => place_any_yes hp w)
  clear hp
  go_enter Try.func17, Try.ntmps17
  go_wp2_with (first | (go_at_call 22; refine (validR_any false 0 0 x _).mono ?_; rintro e w1 ⟨rfl, p1, rfl⟩) | (go_at_call 29; refine (hpl.out _).mono ?_; rintro e w1 ⟨rfl, rfl⟩) | (go_at_call 15; refine (leqR_any 0 0 c _).mono ?_; rintro e w1 ⟨rfl, p3, rfl⟩))
  exact bodyPost_ret (v := rdv ⟨false, g, n, zc⟩) (by simp [results, Try.results17, go_sem] <;> rfl) rfl (Gives.mk he.out (by repeat (first | exact Below.refl _ _ | refine below_gw ?_ (by simp; try omega) _ | refine Below.alloc ?_ (by simp; try omega) _ | refine Below.setCell ?_ (by simp; try omega) _ | refine Below.drew ?_)))

set_option maxHeartbeats 1000000 in
theorem addR_more1 (rg rn : Int) (x : Clk) (g n : Int) (c : Clk) (w : World) (h : validR ⟨true, rg, rn, x⟩ = true) (hp : 0 ≤ g ∧ g < 8) (hn : 0 < n)  :
    Calls Try.prog 17 #[.agg (rd true rg rn x), .agg #[.int .i64 g, .int .i64 n], .agg (cl c)] w (Gives (rdv (addR ⟨true, rg, rn, x⟩ g n c)) w) := by
  by_cases hm : setR ⟨true, rg, rn, x⟩ g.toNat < n
  · have he := Lib.hid (((congrArg rdv (addR_hi (c := c) h ((plc_iff g).2 hp) hn (by simp [soleM]) hm))).symm)
    have hpl := Lib.hid (fun w => place_any_yes hp w)
    obtain ⟨h0, h8⟩ := hp
    have z1 := lit_get (setR ⟨true, rg, rn, x⟩) (i := g.toNat) (by omega)
    have z2 := fun v => lit_set (setR ⟨true, rg, rn, x⟩) g.toNat v
    go_enter Try.func17, Try.ntmps17
    go_wp2_with (first | (go_at_call 22; refine (validR_any true rg rn x _).mono ?_; rintro e w1 ⟨rfl, p1, rfl⟩) | (go_at_call 29; refine (hpl.out _).mono ?_; rintro e w1 ⟨rfl, rfl⟩) | (go_at_call 27; refine (setR_any true rg rn x _).mono ?_; rintro e w1 ⟨rfl, p2, rfl⟩) | (go_at_call 15; refine (leqR_any rg rn c _).mono ?_; rintro e w1 ⟨rfl, p3, rfl⟩))
    refine wp_region_gw (by kernel_rfl) (by kernel_rfl) ?_
    repeat (quiet_step (first | fail))
    refine wpQuiet_nil ?_
    intro _ hw'
    obtain ⟨p5, hw''⟩ := hw'
    subst hw''
    go_wp2_with (go_at_call 32; refine (formR_any (upd (setR ⟨true, rg, rn, x⟩) g.toNat n) _).mono ?_; rintro e w1 ⟨rfl, p4, rfl⟩)
    exact bodyPost_ret (v := rdv (formR (upd (setR ⟨true, rg, rn, x⟩) g.toNat n))) (by simp [results, Try.results17, go_sem] <;> rfl) rfl (Gives.mk he.out (by repeat (first | exact Below.refl _ _ | refine below_gw ?_ (by simp; try omega) _ | refine Below.alloc ?_ (by simp; try omega) _ | refine Below.setCell ?_ (by simp; try omega) _ | refine Below.drew ?_)))
  · have he := Lib.hid (((congrArg rdv (addR_lo (c := c) h ((plc_iff g).2 hp) hn (by simp [soleM]) hm))).symm)
    have hpl := Lib.hid (fun w => place_any_yes hp w)
    obtain ⟨h0, h8⟩ := hp
    have z1 := lit_get (setR ⟨true, rg, rn, x⟩) (i := g.toNat) (by omega)
    go_enter Try.func17, Try.ntmps17
    go_wp2_with (first | (go_at_call 22; refine (validR_any true rg rn x _).mono ?_; rintro e w1 ⟨rfl, p1, rfl⟩) | (go_at_call 29; refine (hpl.out _).mono ?_; rintro e w1 ⟨rfl, rfl⟩) | (go_at_call 27; refine (setR_any true rg rn x _).mono ?_; rintro e w1 ⟨rfl, p2, rfl⟩) | (go_at_call 15; refine (leqR_any rg rn c _).mono ?_; rintro e w1 ⟨rfl, p3, rfl⟩))
    refine wp_region_gw (by kernel_rfl) (by kernel_rfl) ?_
    repeat (quiet_step (first | fail))
    refine wpQuiet_nil ?_
    intro _ hw'
    obtain ⟨p5, hw''⟩ := hw'
    subst hw''
    go_wp2_with (go_at_call 32; refine (formR_any (setR ⟨true, rg, rn, x⟩) _).mono ?_; rintro e w1 ⟨rfl, p4, rfl⟩)
    exact bodyPost_ret (v := rdv (formR (setR ⟨true, rg, rn, x⟩))) (by simp [results, Try.results17, go_sem] <;> rfl) rfl (Gives.mk he.out (by repeat (first | exact Below.refl _ _ | refine below_gw ?_ (by simp; try omega) _ | refine Below.alloc ?_ (by simp; try omega) _ | refine Below.setCell ?_ (by simp; try omega) _ | refine Below.drew ?_)))

set_option maxHeartbeats 1000000 in
theorem addR_more2 (rg rn : Int) (x : Clk) (g n : Int) (c : Clk) (w : World) (h : validR ⟨false, rg, rn, x⟩ = true) (hp : 0 ≤ g ∧ g < 8) (hn : 0 < n) (hz : ¬ rg = 0) (hl : leqM rg rn c = false) :
    Calls Try.prog 17 #[.agg (rd false rg rn x), .agg #[.int .i64 g, .int .i64 n], .agg (cl c)] w (Gives (rdv (addR ⟨false, rg, rn, x⟩ g n c)) w) := by
  by_cases hm : setR ⟨false, rg, rn, x⟩ g.toNat < n
  · have he := Lib.hid (((congrArg rdv (addR_hi (c := c) h ((plc_iff g).2 hp) hn (by simp [soleM, hl, hz]) hm))).symm)
    have hpl := Lib.hid (fun w => place_any_yes hp w)
    obtain ⟨h0, h8⟩ := hp
    have z1 := lit_get (setR ⟨false, rg, rn, x⟩) (i := g.toNat) (by omega)
    have z2 := fun v => lit_set (setR ⟨false, rg, rn, x⟩) g.toNat v
    go_enter Try.func17, Try.ntmps17
    go_wp2_with (first | (go_at_call 22; refine (validR_any false rg rn x _).mono ?_; rintro e w1 ⟨rfl, p1, rfl⟩) | (go_at_call 29; refine (hpl.out _).mono ?_; rintro e w1 ⟨rfl, rfl⟩) | (go_at_call 27; refine (setR_any false rg rn x _).mono ?_; rintro e w1 ⟨rfl, p2, rfl⟩) | (go_at_call 15; refine (leqR_any rg rn c _).mono ?_; rintro e w1 ⟨rfl, p3, rfl⟩))
    refine wp_region_gw (by kernel_rfl) (by kernel_rfl) ?_
    repeat (quiet_step (first | fail))
    refine wpQuiet_nil ?_
    intro _ hw'
    obtain ⟨p5, hw''⟩ := hw'
    subst hw''
    go_wp2_with (go_at_call 32; refine (formR_any (upd (setR ⟨false, rg, rn, x⟩) g.toNat n) _).mono ?_; rintro e w1 ⟨rfl, p4, rfl⟩)
    exact bodyPost_ret (v := rdv (formR (upd (setR ⟨false, rg, rn, x⟩) g.toNat n))) (by simp [results, Try.results17, go_sem] <;> rfl) rfl (Gives.mk he.out (by repeat (first | exact Below.refl _ _ | refine below_gw ?_ (by simp; try omega) _ | refine Below.alloc ?_ (by simp; try omega) _ | refine Below.setCell ?_ (by simp; try omega) _ | refine Below.drew ?_)))
  · have he := Lib.hid (((congrArg rdv (addR_lo (c := c) h ((plc_iff g).2 hp) hn (by simp [soleM, hl, hz]) hm))).symm)
    have hpl := Lib.hid (fun w => place_any_yes hp w)
    obtain ⟨h0, h8⟩ := hp
    have z1 := lit_get (setR ⟨false, rg, rn, x⟩) (i := g.toNat) (by omega)
    go_enter Try.func17, Try.ntmps17
    go_wp2_with (first | (go_at_call 22; refine (validR_any false rg rn x _).mono ?_; rintro e w1 ⟨rfl, p1, rfl⟩) | (go_at_call 29; refine (hpl.out _).mono ?_; rintro e w1 ⟨rfl, rfl⟩) | (go_at_call 27; refine (setR_any false rg rn x _).mono ?_; rintro e w1 ⟨rfl, p2, rfl⟩) | (go_at_call 15; refine (leqR_any rg rn c _).mono ?_; rintro e w1 ⟨rfl, p3, rfl⟩))
    refine wp_region_gw (by kernel_rfl) (by kernel_rfl) ?_
    repeat (quiet_step (first | fail))
    refine wpQuiet_nil ?_
    intro _ hw'
    obtain ⟨p5, hw''⟩ := hw'
    subst hw''
    go_wp2_with (go_at_call 32; refine (formR_any (setR ⟨false, rg, rn, x⟩) _).mono ?_; rintro e w1 ⟨rfl, p4, rfl⟩)
    exact bodyPost_ret (v := rdv (formR (setR ⟨false, rg, rn, x⟩))) (by simp [results, Try.results17, go_sem] <;> rfl) rfl (Gives.mk he.out (by repeat (first | exact Below.refl _ _ | refine below_gw ?_ (by simp; try omega) _ | refine Below.alloc ?_ (by simp; try omega) _ | refine Below.setCell ?_ (by simp; try omega) _ | refine Below.drew ?_)))

set_option maxHeartbeats 1000000 in
theorem addR_more3 (rn : Int) (x : Clk) (g n : Int) (c : Clk) (w : World) (h : validR ⟨false, 0, rn, x⟩ = true) (hp : 0 ≤ g ∧ g < 8) (hn : 0 < n) (hz : ¬ rn = 0) (hl : leqM 0 rn c = false) :
    Calls Try.prog 17 #[.agg (rd false 0 rn x), .agg #[.int .i64 g, .int .i64 n], .agg (cl c)] w (Gives (rdv (addR ⟨false, 0, rn, x⟩ g n c)) w) := by
  by_cases hm : setR ⟨false, 0, rn, x⟩ g.toNat < n
  · have he := Lib.hid (((congrArg rdv (addR_hi (c := c) h ((plc_iff g).2 hp) hn (by simp [soleM, hl, hz]) hm))).symm)
    have hpl := Lib.hid (fun w => place_any_yes hp w)
    obtain ⟨h0, h8⟩ := hp
    have z1 := lit_get (setR ⟨false, 0, rn, x⟩) (i := g.toNat) (by omega)
    have z2 := fun v => lit_set (setR ⟨false, 0, rn, x⟩) g.toNat v
    go_enter Try.func17, Try.ntmps17
    go_wp2_with (first | (go_at_call 22; refine (validR_any false 0 rn x _).mono ?_; rintro e w1 ⟨rfl, p1, rfl⟩) | (go_at_call 29; refine (hpl.out _).mono ?_; rintro e w1 ⟨rfl, rfl⟩) | (go_at_call 27; refine (setR_any false 0 rn x _).mono ?_; rintro e w1 ⟨rfl, p2, rfl⟩) | (go_at_call 15; refine (leqR_any 0 rn c _).mono ?_; rintro e w1 ⟨rfl, p3, rfl⟩))
    refine wp_region_gw (by kernel_rfl) (by kernel_rfl) ?_
    repeat (quiet_step (first | fail))
    refine wpQuiet_nil ?_
    intro _ hw'
    obtain ⟨p5, hw''⟩ := hw'
    subst hw''
    go_wp2_with (go_at_call 32; refine (formR_any (upd (setR ⟨false, 0, rn, x⟩) g.toNat n) _).mono ?_; rintro e w1 ⟨rfl, p4, rfl⟩)
    exact bodyPost_ret (v := rdv (formR (upd (setR ⟨false, 0, rn, x⟩) g.toNat n))) (by simp [results, Try.results17, go_sem] <;> rfl) rfl (Gives.mk he.out (by repeat (first | exact Below.refl _ _ | refine below_gw ?_ (by simp; try omega) _ | refine Below.alloc ?_ (by simp; try omega) _ | refine Below.setCell ?_ (by simp; try omega) _ | refine Below.drew ?_)))
  · have he := Lib.hid (((congrArg rdv (addR_lo (c := c) h ((plc_iff g).2 hp) hn (by simp [soleM, hl, hz]) hm))).symm)
    have hpl := Lib.hid (fun w => place_any_yes hp w)
    obtain ⟨h0, h8⟩ := hp
    have z1 := lit_get (setR ⟨false, 0, rn, x⟩) (i := g.toNat) (by omega)
    go_enter Try.func17, Try.ntmps17
    go_wp2_with (first | (go_at_call 22; refine (validR_any false 0 rn x _).mono ?_; rintro e w1 ⟨rfl, p1, rfl⟩) | (go_at_call 29; refine (hpl.out _).mono ?_; rintro e w1 ⟨rfl, rfl⟩) | (go_at_call 27; refine (setR_any false 0 rn x _).mono ?_; rintro e w1 ⟨rfl, p2, rfl⟩) | (go_at_call 15; refine (leqR_any 0 rn c _).mono ?_; rintro e w1 ⟨rfl, p3, rfl⟩))
    refine wp_region_gw (by kernel_rfl) (by kernel_rfl) ?_
    repeat (quiet_step (first | fail))
    refine wpQuiet_nil ?_
    intro _ hw'
    obtain ⟨p5, hw''⟩ := hw'
    subst hw''
    go_wp2_with (go_at_call 32; refine (formR_any (setR ⟨false, 0, rn, x⟩) _).mono ?_; rintro e w1 ⟨rfl, p4, rfl⟩)
    exact bodyPost_ret (v := rdv (formR (setR ⟨false, 0, rn, x⟩))) (by simp [results, Try.results17, go_sem] <;> rfl) rfl (Gives.mk he.out (by repeat (first | exact Below.refl _ _ | refine below_gw ?_ (by simp; try omega) _ | refine Below.alloc ?_ (by simp; try omega) _ | refine Below.setCell ?_ (by simp; try omega) _ | refine Below.drew ?_)))


theorem addR_any (s : Bool) (rg rn : Int) (x : Clk) (g n : Int) (c : Clk) (w : World) :
    Calls Try.prog 17 #[.agg (rd s rg rn x), .agg #[.int .i64 g, .int .i64 n], .agg (cl c)] w (Gives (rdv (addR ⟨s, rg, rn, x⟩ g n c)) w) := by
  cases hv : validR ⟨s, rg, rn, x⟩
  · exact addR_no1 _ _ _ _ _ _ _ _ hv
  by_cases hp : 0 ≤ g ∧ g < 8
  · by_cases hn : 0 < n
    · cases s
      · by_cases h0 : rg = 0
        · subst h0
          by_cases h1 : rn = 0
          · subst h1; exact addR_sole3 _ _ _ _ _ hv hp hn
          · cases hl : leqM 0 rn c
            · exact addR_more3 _ _ _ _ _ _ hv hp hn h1 hl
            · exact addR_sole2 _ _ _ _ _ _ hv hp hn h1 hl
        · cases hl : leqM rg rn c
          · exact addR_more2 _ _ _ _ _ _ _ hv hp hn h0 hl
          · exact addR_sole1 _ _ _ _ _ _ _ hv hp hn h0 hl
      · exact addR_more1 _ _ _ _ _ _ _ hv hp hn
    · exact addR_no3 _ _ _ _ _ _ _ _ hv hp (by omega)
  · exact addR_no2 _ _ _ _ _ _ _ _ hv hp

end Go.Proofs.Ytkfngaobgnijmaa
