/- Add: what each call returns. -/
import Derived.Test.YtkfngaobgnijmaaEp
namespace Go.Proofs.Ytkfngaobgnijmaa
open Go.RowKit Go.Sort

theorem add_no {r : RD} {g n : Int} {c : Clk} (h : ¬ (validM r = true ∧ plc g = true ∧ 0 < n)) : addM r g n c = r := by simp only [addM, if_neg h]
theorem imax_hi {a b : Int} (h : a < b) : imax a b = b := by simp [imax, h]
theorem imax_lo {a b : Int} (h : ¬ a < b) : imax a b = a := by simp [imax, h]
theorem add_sole {r : RD} {g n : Int} {c : Clk} (h1 : validM r = true) (h2 : plc g = true) (h3 : 0 < n) (h : soleM r c = true) : addM r g n c = compactM (upd zc g.toNat n) := by simp [addM, h1, h2, h3, h]
theorem add_more {r : RD} {g n : Int} {c : Clk} (h1 : validM r = true) (h2 : plc g = true) (h3 : 0 < n) (h : soleM r c = false) : addM r g n c = compactM (upd (expandM r) g.toNat (imax (expandM r g.toNat) n)) := by simp [addM, h1, h2, h3, h]

set_option maxHeartbeats 400000 in
theorem add_any_no1 (s : Bool) (rg rn : Int) (x : Clk) (g n : Int) (c : Clk) (w : World) (h : validM ⟨s, rg, rn, x⟩ = false) :
    Calls Try.prog 16 #[.agg (rd s rg rn x), .agg #[.int .i64 g, .int .i64 n], .agg (cl c)] w (Gives (rdv (addM ⟨s, rg, rn, x⟩ g n c)) w) := by
  have he := Lib.hid (congrArg rdv (add_no (r := ⟨s, rg, rn, x⟩) (g := g) (n := n) (c := c) (by simp [h])).symm)
  have hpl := Lib.hid (fun (h : 0 ≤ g ∧ g < 8) w => gor_any_yes h w)
  have hpn := Lib.hid (fun (h : ¬ (0 ≤ g ∧ g < 8)) w => gor_any_no h w)
  
  go_enter Try.func16, Try.ntmps16
  go_wp2_with (first | (go_at_call 24; refine (valid_any s rg rn x _).mono ?_; rintro e w1 ⟨rfl, p1, rfl⟩) | (go_at_call 28; (first | refine (hpl.out hq.out _).mono ?_ | refine (hpn.out hq.out _).mono ?_); rintro e w1 ⟨rfl, rfl⟩))
  exact bodyPost_ret (v := .agg (rd s rg rn x)) (by simp [results, Try.results16, go_sem] <;> rfl) rfl (Gives.mk he.out (by repeat (first | exact Below.refl _ _ | refine below_gw ?_ (by simp; try omega) _ | refine Below.alloc ?_ (by simp; try omega) _ | refine Below.setCell ?_ (by simp; try omega) _ | refine Below.drew ?_)))

set_option maxHeartbeats 400000 in
theorem add_any_no2 (s : Bool) (rg rn : Int) (x : Clk) (g n : Int) (c : Clk) (w : World) (h : validM ⟨s, rg, rn, x⟩ = true) (hp : ¬ (0 ≤ g ∧ g < 8)) :
    Calls Try.prog 16 #[.agg (rd s rg rn x), .agg #[.int .i64 g, .int .i64 n], .agg (cl c)] w (Gives (rdv (addM ⟨s, rg, rn, x⟩ g n c)) w) := by
  have he := Lib.hid (congrArg rdv (add_no (r := ⟨s, rg, rn, x⟩) (g := g) (n := n) (c := c) (by rw [plc_iff]; omega)).symm)
  have hpl := Lib.hid (fun (h : 0 ≤ g ∧ g < 8) w => gor_any_yes h w)
  have hpn := Lib.hid (fun (h : ¬ (0 ≤ g ∧ g < 8)) w => gor_any_no h w)
  have hq := Lib.hid hp; clear hp
  go_enter Try.func16, Try.ntmps16
  go_wp2_with (first | (go_at_call 24; refine (valid_any s rg rn x _).mono ?_; rintro e w1 ⟨rfl, p1, rfl⟩) | (go_at_call 28; (first | refine (hpl.out hq.out _).mono ?_ | refine (hpn.out hq.out _).mono ?_); rintro e w1 ⟨rfl, rfl⟩))
  exact bodyPost_ret (v := .agg (rd s rg rn x)) (by simp [results, Try.results16, go_sem] <;> rfl) rfl (Gives.mk he.out (by repeat (first | exact Below.refl _ _ | refine below_gw ?_ (by simp; try omega) _ | refine Below.alloc ?_ (by simp; try omega) _ | refine Below.setCell ?_ (by simp; try omega) _ | refine Below.drew ?_)))

set_option maxHeartbeats 400000 in
theorem add_any_no3 (s : Bool) (rg rn : Int) (x : Clk) (g n : Int) (c : Clk) (w : World) (h : validM ⟨s, rg, rn, x⟩ = true) (hp : 0 ≤ g ∧ g < 8) (hn : n ≤ 0) :
    Calls Try.prog 16 #[.agg (rd s rg rn x), .agg #[.int .i64 g, .int .i64 n], .agg (cl c)] w (Gives (rdv (addM ⟨s, rg, rn, x⟩ g n c)) w) := by
  have he := Lib.hid (congrArg rdv (add_no (r := ⟨s, rg, rn, x⟩) (g := g) (n := n) (c := c) (by omega)).symm)
  have hpl := Lib.hid (fun (h : 0 ≤ g ∧ g < 8) w => gor_any_yes h w)
  have hpn := Lib.hid (fun (h : ¬ (0 ≤ g ∧ g < 8)) w => gor_any_no h w)
  have hq := Lib.hid hp; clear hp
  go_enter Try.func16, Try.ntmps16
  go_wp2_with (first | (go_at_call 24; refine (valid_any s rg rn x _).mono ?_; rintro e w1 ⟨rfl, p1, rfl⟩) | (go_at_call 28; (first | refine (hpl.out hq.out _).mono ?_ | refine (hpn.out hq.out _).mono ?_); rintro e w1 ⟨rfl, rfl⟩))
  exact bodyPost_ret (v := .agg (rd s rg rn x)) (by simp [results, Try.results16, go_sem] <;> rfl) rfl (Gives.mk he.out (by repeat (first | exact Below.refl _ _ | refine below_gw ?_ (by simp; try omega) _ | refine Below.alloc ?_ (by simp; try omega) _ | refine Below.setCell ?_ (by simp; try omega) _ | refine Below.drew ?_)))


theorem zero_get {i : Nat} (h : i < 8) : ∀ hh, ([Value.int .i64 0, .int .i64 0, .int .i64 0, .int .i64 0, .int .i64 0, .int .i64 0, .int .i64 0, .int .i64 0] : List Value)[i]'hh = .int .i64 0 := by
  intro hh
  rcases lt8 h with rfl | rfl | rfl | rfl | rfl | rfl | rfl | rfl <;> rfl
theorem zero_set (i : Nat) (v : Int) : (#[Value.int .i64 0, .int .i64 0, .int .i64 0, .int .i64 0, .int .i64 0, .int .i64 0, .int .i64 0, .int .i64 0] : Array Value).setIfInBounds i (.int .i64 v) = cl (upd zc i v) := cl_set zc i v
theorem lit_get (c : Clk) {i : Nat} (h : i < 8) : ∀ hh, ([Value.int .i64 (c 0), .int .i64 (c 1), .int .i64 (c 2), .int .i64 (c 3), .int .i64 (c 4), .int .i64 (c 5), .int .i64 (c 6), .int .i64 (c 7)] : List Value)[i]'hh = .int .i64 (c i) := by
  intro hh
  rcases lt8 h with rfl | rfl | rfl | rfl | rfl | rfl | rfl | rfl <;> rfl
theorem lit_set (c : Clk) (i : Nat) (v : Int) : (#[Value.int .i64 (c 0), .int .i64 (c 1), .int .i64 (c 2), .int .i64 (c 3), .int .i64 (c 4), .int .i64 (c 5), .int .i64 (c 6), .int .i64 (c 7)] : Array Value).setIfInBounds i (.int .i64 v) = cl (upd c i v) := cl_set c i v


set_option maxHeartbeats 1000000 in
theorem add_sole1 (rg rn : Int) (x : Clk) (g n : Int) (c : Clk) (w : World) (h : validM ⟨false, rg, rn, x⟩ = true) (hp : 0 ≤ g ∧ g < 8) (hn : 0 < n) (hz : ¬ rg = 0) (hl : leqM rg rn c = true) :
    Calls Try.prog 16 #[.agg (rd false rg rn x), .agg #[.int .i64 g, .int .i64 n], .agg (cl c)] w (Gives (rdv (addM ⟨false, rg, rn, x⟩ g n c)) w) := by

  have he := Lib.hid (congrArg rdv (add_sole (c := c) h ((plc_iff g).2 hp) hn (by simp [soleM, hl])).symm)
  have z1 := zero_get (i := g.toNat) (by omega)
  have z2 := fun v => zero_set g.toNat v
  have hpl := Lib.hid (fun w => gor_any_yes hp w)
  obtain ⟨h0, h8⟩ := hp
  go_enter Try.func16, Try.ntmps16
  go_wp2_with (first | (go_at_call 24; refine (valid_any false rg rn x _).mono ?_; rintro e w1 ⟨rfl, p1, rfl⟩) | (go_at_call 28; refine (hpl.out _).mono ?_; rintro e w1 ⟨rfl, rfl⟩) | (go_at_call 30; refine (expand_any false rg rn x _).mono ?_; rintro e w1 ⟨rfl, p2, rfl⟩) | (go_at_call 14; refine (leq_any rg rn c _).mono ?_; rintro e w1 ⟨rfl, p3, rfl⟩))

  go_region
  go_wp2_with (go_at_call 31; refine (compact_any (upd zc g.toNat n) _).mono ?_; rintro e w1 ⟨rfl, p4, rfl⟩)
  exact bodyPost_ret (v := rdv (compactM (upd zc g.toNat n))) (by simp [results, Try.results16, go_sem] <;> rfl) rfl (Gives.mk he.out (by repeat (first | exact Below.refl _ _ | refine below_gw ?_ (by simp; try omega) _ | refine Below.alloc ?_ (by simp; try omega) _ | refine Below.setCell ?_ (by simp; try omega) _ | refine Below.drew ?_)))

set_option maxHeartbeats 1000000 in
theorem add_sole2 (rn : Int) (x : Clk) (g n : Int) (c : Clk) (w : World) (h : validM ⟨false, 0, rn, x⟩ = true) (hp : 0 ≤ g ∧ g < 8) (hn : 0 < n) (hz : ¬ rn = 0) (hl : leqM 0 rn c = true) :
    Calls Try.prog 16 #[.agg (rd false 0 rn x), .agg #[.int .i64 g, .int .i64 n], .agg (cl c)] w (Gives (rdv (addM ⟨false, 0, rn, x⟩ g n c)) w) := by

  have he := Lib.hid (congrArg rdv (add_sole (c := c) h ((plc_iff g).2 hp) hn (by simp [soleM, hl])).symm)
  have z1 := zero_get (i := g.toNat) (by omega)
  have z2 := fun v => zero_set g.toNat v
  have hpl := Lib.hid (fun w => gor_any_yes hp w)
  obtain ⟨h0, h8⟩ := hp
  go_enter Try.func16, Try.ntmps16
  go_wp2_with (first | (go_at_call 24; refine (valid_any false 0 rn x _).mono ?_; rintro e w1 ⟨rfl, p1, rfl⟩) | (go_at_call 28; refine (hpl.out _).mono ?_; rintro e w1 ⟨rfl, rfl⟩) | (go_at_call 30; refine (expand_any false 0 rn x _).mono ?_; rintro e w1 ⟨rfl, p2, rfl⟩) | (go_at_call 14; refine (leq_any 0 rn c _).mono ?_; rintro e w1 ⟨rfl, p3, rfl⟩))

  go_region
  go_wp2_with (go_at_call 31; refine (compact_any (upd zc g.toNat n) _).mono ?_; rintro e w1 ⟨rfl, p4, rfl⟩)
  exact bodyPost_ret (v := rdv (compactM (upd zc g.toNat n))) (by simp [results, Try.results16, go_sem] <;> rfl) rfl (Gives.mk he.out (by repeat (first | exact Below.refl _ _ | refine below_gw ?_ (by simp; try omega) _ | refine Below.alloc ?_ (by simp; try omega) _ | refine Below.setCell ?_ (by simp; try omega) _ | refine Below.drew ?_)))

set_option maxHeartbeats 1000000 in
theorem add_sole3  (x : Clk) (g n : Int) (c : Clk) (w : World) (h : validM ⟨false, 0, 0, x⟩ = true) (hp : 0 ≤ g ∧ g < 8) (hn : 0 < n)  :
    Calls Try.prog 16 #[.agg (rd false 0 0 x), .agg #[.int .i64 g, .int .i64 n], .agg (cl c)] w (Gives (rdv (addM ⟨false, 0, 0, x⟩ g n c)) w) := by

  have he := Lib.hid (congrArg rdv (add_sole (c := c) h ((plc_iff g).2 hp) hn (by simp [soleM])).symm)
  have z1 := zero_get (i := g.toNat) (by omega)
  have z2 := fun v => zero_set g.toNat v
  have hpl := Lib.hid (fun w => gor_any_yes hp w)
  obtain ⟨h0, h8⟩ := hp
  go_enter Try.func16, Try.ntmps16
  go_wp2_with (first | (go_at_call 24; refine (valid_any false 0 0 x _).mono ?_; rintro e w1 ⟨rfl, p1, rfl⟩) | (go_at_call 28; refine (hpl.out _).mono ?_; rintro e w1 ⟨rfl, rfl⟩) | (go_at_call 30; refine (expand_any false 0 0 x _).mono ?_; rintro e w1 ⟨rfl, p2, rfl⟩) | (go_at_call 14; refine (leq_any 0 0 c _).mono ?_; rintro e w1 ⟨rfl, p3, rfl⟩))

  go_region
  go_wp2_with (go_at_call 31; refine (compact_any (upd zc g.toNat n) _).mono ?_; rintro e w1 ⟨rfl, p4, rfl⟩)
  exact bodyPost_ret (v := rdv (compactM (upd zc g.toNat n))) (by simp [results, Try.results16, go_sem] <;> rfl) rfl (Gives.mk he.out (by repeat (first | exact Below.refl _ _ | refine below_gw ?_ (by simp; try omega) _ | refine Below.alloc ?_ (by simp; try omega) _ | refine Below.setCell ?_ (by simp; try omega) _ | refine Below.drew ?_)))

set_option maxHeartbeats 1000000 in
theorem add_more1 (rg rn : Int) (x : Clk) (g n : Int) (c : Clk) (w : World) (h : validM ⟨true, rg, rn, x⟩ = true) (hp : 0 ≤ g ∧ g < 8) (hn : 0 < n)  :
    Calls Try.prog 16 #[.agg (rd true rg rn x), .agg #[.int .i64 g, .int .i64 n], .agg (cl c)] w (Gives (rdv (addM ⟨true, rg, rn, x⟩ g n c)) w) := by

  by_cases hm : expandM ⟨true, rg, rn, x⟩ g.toNat < n
  · have he := Lib.hid (((congrArg rdv (add_more (c := c) h ((plc_iff g).2 hp) hn (by simp [soleM])))).symm)
    rw [imax_hi hm] at he
    have z1 := lit_get (expandM ⟨true, rg, rn, x⟩) (i := g.toNat) (by omega)
    have z2 := fun v => lit_set (expandM ⟨true, rg, rn, x⟩) g.toNat v
    have hpl := Lib.hid (fun w => gor_any_yes hp w)
    obtain ⟨h0, h8⟩ := hp
    go_enter Try.func16, Try.ntmps16
    go_wp2_with (first | (go_at_call 24; refine (valid_any true rg rn x _).mono ?_; rintro e w1 ⟨rfl, p1, rfl⟩) | (go_at_call 28; refine (hpl.out _).mono ?_; rintro e w1 ⟨rfl, rfl⟩) | (go_at_call 30; refine (expand_any true rg rn x _).mono ?_; rintro e w1 ⟨rfl, p2, rfl⟩) | (go_at_call 14; refine (leq_any rg rn c _).mono ?_; rintro e w1 ⟨rfl, p3, rfl⟩))

    go_region
    go_wp2_with (go_at_call 31; refine (compact_any (upd (expandM ⟨true, rg, rn, x⟩) g.toNat n) _).mono ?_; rintro e w1 ⟨rfl, p4, rfl⟩)
    exact bodyPost_ret (v := rdv (compactM (upd (expandM ⟨true, rg, rn, x⟩) g.toNat n))) (by simp [results, Try.results16, go_sem] <;> rfl) rfl (Gives.mk he.out (by repeat (first | exact Below.refl _ _ | refine below_gw ?_ (by simp; try omega) _ | refine Below.alloc ?_ (by simp; try omega) _ | refine Below.setCell ?_ (by simp; try omega) _ | refine Below.drew ?_)))
  · have he := Lib.hid (((congrArg rdv (add_more (c := c) h ((plc_iff g).2 hp) hn (by simp [soleM])))).symm)
    rw [imax_lo hm] at he
    have z1 := lit_get (expandM ⟨true, rg, rn, x⟩) (i := g.toNat) (by omega)
    have z2 := fun v => lit_set (expandM ⟨true, rg, rn, x⟩) g.toNat v
    have hpl := Lib.hid (fun w => gor_any_yes hp w)
    obtain ⟨h0, h8⟩ := hp
    go_enter Try.func16, Try.ntmps16
    go_wp2_with (first | (go_at_call 24; refine (valid_any true rg rn x _).mono ?_; rintro e w1 ⟨rfl, p1, rfl⟩) | (go_at_call 28; refine (hpl.out _).mono ?_; rintro e w1 ⟨rfl, rfl⟩) | (go_at_call 30; refine (expand_any true rg rn x _).mono ?_; rintro e w1 ⟨rfl, p2, rfl⟩) | (go_at_call 14; refine (leq_any rg rn c _).mono ?_; rintro e w1 ⟨rfl, p3, rfl⟩))

    go_region
    go_wp2_with (go_at_call 31; refine (compact_any (upd (expandM ⟨true, rg, rn, x⟩) g.toNat (expandM ⟨true, rg, rn, x⟩ g.toNat)) _).mono ?_; rintro e w1 ⟨rfl, p4, rfl⟩)
    exact bodyPost_ret (v := rdv (compactM (upd (expandM ⟨true, rg, rn, x⟩) g.toNat (expandM ⟨true, rg, rn, x⟩ g.toNat)))) (by simp [results, Try.results16, go_sem] <;> rfl) rfl (Gives.mk he.out (by repeat (first | exact Below.refl _ _ | refine below_gw ?_ (by simp; try omega) _ | refine Below.alloc ?_ (by simp; try omega) _ | refine Below.setCell ?_ (by simp; try omega) _ | refine Below.drew ?_)))

set_option maxHeartbeats 1000000 in
theorem add_more2 (rg rn : Int) (x : Clk) (g n : Int) (c : Clk) (w : World) (h : validM ⟨false, rg, rn, x⟩ = true) (hp : 0 ≤ g ∧ g < 8) (hn : 0 < n) (hz : ¬ rg = 0) (hl : leqM rg rn c = false) :
    Calls Try.prog 16 #[.agg (rd false rg rn x), .agg #[.int .i64 g, .int .i64 n], .agg (cl c)] w (Gives (rdv (addM ⟨false, rg, rn, x⟩ g n c)) w) := by

  by_cases hm : expandM ⟨false, rg, rn, x⟩ g.toNat < n
  · have he := Lib.hid (((congrArg rdv (add_more (c := c) h ((plc_iff g).2 hp) hn (by simp [soleM, hl, hz])))).symm)
    rw [imax_hi hm] at he
    have z1 := lit_get (expandM ⟨false, rg, rn, x⟩) (i := g.toNat) (by omega)
    have z2 := fun v => lit_set (expandM ⟨false, rg, rn, x⟩) g.toNat v
    have hpl := Lib.hid (fun w => gor_any_yes hp w)
    obtain ⟨h0, h8⟩ := hp
    go_enter Try.func16, Try.ntmps16
    go_wp2_with (first | (go_at_call 24; refine (valid_any false rg rn x _).mono ?_; rintro e w1 ⟨rfl, p1, rfl⟩) | (go_at_call 28; refine (hpl.out _).mono ?_; rintro e w1 ⟨rfl, rfl⟩) | (go_at_call 30; refine (expand_any false rg rn x _).mono ?_; rintro e w1 ⟨rfl, p2, rfl⟩) | (go_at_call 14; refine (leq_any rg rn c _).mono ?_; rintro e w1 ⟨rfl, p3, rfl⟩))

    go_region
    go_wp2_with (go_at_call 31; refine (compact_any (upd (expandM ⟨false, rg, rn, x⟩) g.toNat n) _).mono ?_; rintro e w1 ⟨rfl, p4, rfl⟩)
    exact bodyPost_ret (v := rdv (compactM (upd (expandM ⟨false, rg, rn, x⟩) g.toNat n))) (by simp [results, Try.results16, go_sem] <;> rfl) rfl (Gives.mk he.out (by repeat (first | exact Below.refl _ _ | refine below_gw ?_ (by simp; try omega) _ | refine Below.alloc ?_ (by simp; try omega) _ | refine Below.setCell ?_ (by simp; try omega) _ | refine Below.drew ?_)))
  · have he := Lib.hid (((congrArg rdv (add_more (c := c) h ((plc_iff g).2 hp) hn (by simp [soleM, hl, hz])))).symm)
    rw [imax_lo hm] at he
    have z1 := lit_get (expandM ⟨false, rg, rn, x⟩) (i := g.toNat) (by omega)
    have z2 := fun v => lit_set (expandM ⟨false, rg, rn, x⟩) g.toNat v
    have hpl := Lib.hid (fun w => gor_any_yes hp w)
    obtain ⟨h0, h8⟩ := hp
    go_enter Try.func16, Try.ntmps16
    go_wp2_with (first | (go_at_call 24; refine (valid_any false rg rn x _).mono ?_; rintro e w1 ⟨rfl, p1, rfl⟩) | (go_at_call 28; refine (hpl.out _).mono ?_; rintro e w1 ⟨rfl, rfl⟩) | (go_at_call 30; refine (expand_any false rg rn x _).mono ?_; rintro e w1 ⟨rfl, p2, rfl⟩) | (go_at_call 14; refine (leq_any rg rn c _).mono ?_; rintro e w1 ⟨rfl, p3, rfl⟩))

    go_region
    go_wp2_with (go_at_call 31; refine (compact_any (upd (expandM ⟨false, rg, rn, x⟩) g.toNat (expandM ⟨false, rg, rn, x⟩ g.toNat)) _).mono ?_; rintro e w1 ⟨rfl, p4, rfl⟩)
    exact bodyPost_ret (v := rdv (compactM (upd (expandM ⟨false, rg, rn, x⟩) g.toNat (expandM ⟨false, rg, rn, x⟩ g.toNat)))) (by simp [results, Try.results16, go_sem] <;> rfl) rfl (Gives.mk he.out (by repeat (first | exact Below.refl _ _ | refine below_gw ?_ (by simp; try omega) _ | refine Below.alloc ?_ (by simp; try omega) _ | refine Below.setCell ?_ (by simp; try omega) _ | refine Below.drew ?_)))

set_option maxHeartbeats 1000000 in
theorem add_more3 (rn : Int) (x : Clk) (g n : Int) (c : Clk) (w : World) (h : validM ⟨false, 0, rn, x⟩ = true) (hp : 0 ≤ g ∧ g < 8) (hn : 0 < n) (hz : ¬ rn = 0) (hl : leqM 0 rn c = false) :
    Calls Try.prog 16 #[.agg (rd false 0 rn x), .agg #[.int .i64 g, .int .i64 n], .agg (cl c)] w (Gives (rdv (addM ⟨false, 0, rn, x⟩ g n c)) w) := by

  by_cases hm : expandM ⟨false, 0, rn, x⟩ g.toNat < n
  · have he := Lib.hid (((congrArg rdv (add_more (c := c) h ((plc_iff g).2 hp) hn (by simp [soleM, hl, hz])))).symm)
    rw [imax_hi hm] at he
    have z1 := lit_get (expandM ⟨false, 0, rn, x⟩) (i := g.toNat) (by omega)
    have z2 := fun v => lit_set (expandM ⟨false, 0, rn, x⟩) g.toNat v
    have hpl := Lib.hid (fun w => gor_any_yes hp w)
    obtain ⟨h0, h8⟩ := hp
    go_enter Try.func16, Try.ntmps16
    go_wp2_with (first | (go_at_call 24; refine (valid_any false 0 rn x _).mono ?_; rintro e w1 ⟨rfl, p1, rfl⟩) | (go_at_call 28; refine (hpl.out _).mono ?_; rintro e w1 ⟨rfl, rfl⟩) | (go_at_call 30; refine (expand_any false 0 rn x _).mono ?_; rintro e w1 ⟨rfl, p2, rfl⟩) | (go_at_call 14; refine (leq_any 0 rn c _).mono ?_; rintro e w1 ⟨rfl, p3, rfl⟩))

    go_region
    go_wp2_with (go_at_call 31; refine (compact_any (upd (expandM ⟨false, 0, rn, x⟩) g.toNat n) _).mono ?_; rintro e w1 ⟨rfl, p4, rfl⟩)
    exact bodyPost_ret (v := rdv (compactM (upd (expandM ⟨false, 0, rn, x⟩) g.toNat n))) (by simp [results, Try.results16, go_sem] <;> rfl) rfl (Gives.mk he.out (by repeat (first | exact Below.refl _ _ | refine below_gw ?_ (by simp; try omega) _ | refine Below.alloc ?_ (by simp; try omega) _ | refine Below.setCell ?_ (by simp; try omega) _ | refine Below.drew ?_)))
  · have he := Lib.hid (((congrArg rdv (add_more (c := c) h ((plc_iff g).2 hp) hn (by simp [soleM, hl, hz])))).symm)
    rw [imax_lo hm] at he
    have z1 := lit_get (expandM ⟨false, 0, rn, x⟩) (i := g.toNat) (by omega)
    have z2 := fun v => lit_set (expandM ⟨false, 0, rn, x⟩) g.toNat v
    have hpl := Lib.hid (fun w => gor_any_yes hp w)
    obtain ⟨h0, h8⟩ := hp
    go_enter Try.func16, Try.ntmps16
    go_wp2_with (first | (go_at_call 24; refine (valid_any false 0 rn x _).mono ?_; rintro e w1 ⟨rfl, p1, rfl⟩) | (go_at_call 28; refine (hpl.out _).mono ?_; rintro e w1 ⟨rfl, rfl⟩) | (go_at_call 30; refine (expand_any false 0 rn x _).mono ?_; rintro e w1 ⟨rfl, p2, rfl⟩) | (go_at_call 14; refine (leq_any 0 rn c _).mono ?_; rintro e w1 ⟨rfl, p3, rfl⟩))

    go_region
    go_wp2_with (go_at_call 31; refine (compact_any (upd (expandM ⟨false, 0, rn, x⟩) g.toNat (expandM ⟨false, 0, rn, x⟩ g.toNat)) _).mono ?_; rintro e w1 ⟨rfl, p4, rfl⟩)
    exact bodyPost_ret (v := rdv (compactM (upd (expandM ⟨false, 0, rn, x⟩) g.toNat (expandM ⟨false, 0, rn, x⟩ g.toNat)))) (by simp [results, Try.results16, go_sem] <;> rfl) rfl (Gives.mk he.out (by repeat (first | exact Below.refl _ _ | refine below_gw ?_ (by simp; try omega) _ | refine Below.alloc ?_ (by simp; try omega) _ | refine Below.setCell ?_ (by simp; try omega) _ | refine Below.drew ?_)))


theorem add_any (s : Bool) (rg rn : Int) (x : Clk) (g n : Int) (c : Clk) (w : World) :
    Calls Try.prog 16 #[.agg (rd s rg rn x), .agg #[.int .i64 g, .int .i64 n], .agg (cl c)] w (Gives (rdv (addM ⟨s, rg, rn, x⟩ g n c)) w) := by
  cases hv : validM ⟨s, rg, rn, x⟩
  · exact add_any_no1 _ _ _ _ _ _ _ _ hv
  by_cases hp : 0 ≤ g ∧ g < 8
  · by_cases hn : 0 < n
    · cases s
      · by_cases h0 : rg = 0
        · subst h0
          by_cases h1 : rn = 0
          · subst h1; exact add_sole3 _ _ _ _ _ hv hp hn
          · cases hl : leqM 0 rn c
            · exact add_more3 _ _ _ _ _ _ hv hp hn h1 hl
            · exact add_sole2 _ _ _ _ _ _ hv hp hn h1 hl
        · cases hl : leqM rg rn c
          · exact add_more2 _ _ _ _ _ _ _ hv hp hn h0 hl
          · exact add_sole1 _ _ _ _ _ _ _ hv hp hn h0 hl
      · exact add_more1 _ _ _ _ _ _ _ hv hp hn
    · exact add_any_no3 _ _ _ _ _ _ _ _ hv hp (by omega)
  · exact add_any_no2 _ _ _ _ _ _ _ _ hv hp

end Go.Proofs.Ytkfngaobgnijmaa
