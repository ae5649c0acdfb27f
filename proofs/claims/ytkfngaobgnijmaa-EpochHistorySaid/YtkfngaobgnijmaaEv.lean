/- The laws of layer 33, walked: each returns true. -/
import Derived.Test.YtkfngaobgnijmaaEw
import Derived.Test.YtkfngaobgnijmaaEs
import Derived.Test.YtkfngaobgnijmaaEt
import Derived.Test.YtkfngaobgnijmaaEpL
namespace Go.Proofs.Ytkfngaobgnijmaa
open Go.RowKit Go.Sort

set_option maxHeartbeats 1000000 in
theorem EpochOf_any (c : Clk) (g eg en : Int) (w : World) : Calls Try.prog 3 #[.agg (cl c), .int .i64 g, .agg #[.int .i64 eg, .int .i64 en]] w (Gives (.bool true) w) := by
  go_enter Try.func3, Try.ntmps3
  go_wp2_with (go_at_call 11; (with_reducible refine (awake_any _).mono ?_); rintro e w1 ⟨rfl, p1, rfl⟩)
  refine wp_region_gw (by kernel_rfl) (by kernel_rfl) ?_
  repeat (quiet_step (first | (go_at_call 12; exact Gives.call (of_any c g _)) | (go_at_call 13; exact Gives.call (ofR_any c g _)) | (go_at_call 14; exact Gives.call (leq_any eg en c _)) | (go_at_call 15; exact Gives.call (leqR_any eg en c _))))
  refine wpQuiet_nil ?_
  intro _ hw'
  obtain ⟨p2, hw''⟩ := hw'
  subst hw''
  go_wp2
  go_ret; exact Gives.mk rfl (by repeat (first | exact Below.refl _ _ | refine below_gw ?_ (by simp; try omega) _ | refine Below.alloc ?_ (by simp; try omega) _ | refine Below.setCell ?_ (by simp; try omega) _ | refine Below.drew ?_))

theorem run_eql_rr (a b : RD) (h : Rd8 a b) (w : World) : (binOp .eql 31 (rdv a) (rdv b)).run Try.prog w = .ok (.bool true) w := by
  have e := run_eql_rd a.s b.s a.g b.g a.n b.n a.c b.c w
  rw [show rdE ⟨a.s, a.g, a.n, a.c⟩ ⟨b.s, b.g, b.n, b.c⟩ = true from (rd8_iff _ _).2 h] at e
  exact e
theorem run_eql_cc (a b : Clk) (h : Eq8 a b) (w : World) : (binOp .eql 23 (.agg (cl a)) (.agg (cl b))).run Try.prog w = .ok (.bool true) w := by
  have e := run_eql_clk a b w
  rwa [(eq8_iff _ _).2 h] at e

set_option maxHeartbeats 1000000 in
theorem EpochValid_any (s : Bool) (g n : Int) (c : Clk) (w : World) : Calls Try.prog 8 #[.agg (rd s g n c)] w (Gives (.bool true) w) := by
  have hv := valid_eq ⟨s, g, n, c⟩
  have e := fun w => run_eql_cc _ _ (set_eq ⟨s, g, n, c⟩) w
  go_enter Try.func8, Try.ntmps8
  go_wp2_with (go_at_call 11; (with_reducible refine (awake_any _).mono ?_); rintro e w1 ⟨rfl, p1, rfl⟩)
  refine wp_region_gw (by kernel_rfl) (by kernel_rfl) ?_
  repeat (quiet_step (first | (go_at_call 24; exact Gives.call (valid_any s g n c _)) | (go_at_call 22; exact Gives.call (validR_any s g n c _)) | (go_at_call 26; exact Gives.call (set_any s g n c _)) | (go_at_call 27; exact Gives.call (setR_any s g n c _))))
  refine wpQuiet_nil ?_
  intro _ hw'
  obtain ⟨p2, hw''⟩ := hw'
  subst hw''
  go_wp2
  go_ret; exact Gives.mk rfl (by repeat (first | exact Below.refl _ _ | refine below_gw ?_ (by simp; try omega) _ | refine Below.alloc ?_ (by simp; try omega) _ | refine Below.setCell ?_ (by simp; try omega) _ | refine Below.drew ?_))

set_option maxHeartbeats 1000000 in
theorem EpochAdd_any (s : Bool) (rg rn : Int) (x : Clk) (g n : Int) (c : Clk) (w : World) : Calls Try.prog 4 #[.agg (rd s rg rn x), .agg #[.int .i64 g, .int .i64 n], .agg (cl c)] w (Gives (.bool true) w) := by
  have e := fun w => run_eql_rr _ _ (add_eq ⟨s, rg, rn, x⟩ g n c) w
  go_enter Try.func4, Try.ntmps4
  go_wp2_with (go_at_call 11; (with_reducible refine (awake_any _).mono ?_); rintro e w1 ⟨rfl, p1, rfl⟩)
  refine wp_region_gw (by kernel_rfl) (by kernel_rfl) ?_
  repeat (quiet_step (first | (go_at_call 16; exact Gives.call (add_any s rg rn x g n c _)) | (go_at_call 17; exact Gives.call (addR_any s rg rn x g n c _))))
  refine wpQuiet_nil ?_
  intro _ hw'
  obtain ⟨p2, hw''⟩ := hw'
  subst hw''
  go_wp2
  go_ret; exact Gives.mk rfl (by repeat (first | exact Below.refl _ _ | refine below_gw ?_ (by simp; try omega) _ | refine Below.alloc ?_ (by simp; try omega) _ | refine Below.setCell ?_ (by simp; try omega) _ | refine Below.drew ?_))

set_option maxHeartbeats 1000000 in
theorem EpochCovered_any (s : Bool) (g n : Int) (x c : Clk) (w : World) : Calls Try.prog 5 #[.agg (rd s g n x), .agg (cl c)] w (Gives (.bool true) w) := by
  have hv := covered_eq ⟨s, g, n, x⟩ c
  have e := fun w => run_eql_rr _ _ (drop_eq ⟨s, g, n, x⟩ c) w
  go_enter Try.func5, Try.ntmps5
  go_wp2_with (go_at_call 11; (with_reducible refine (awake_any _).mono ?_); rintro e w1 ⟨rfl, p1, rfl⟩)
  refine wp_region_gw (by kernel_rfl) (by kernel_rfl) ?_
  repeat (quiet_step (first | (go_at_call 18; exact Gives.call (covered_any s g n x c _)) | (go_at_call 19; exact Gives.call (coveredR_any s g n x c _)) | (go_at_call 20; exact Gives.call (drop_any s g n x c _)) | (go_at_call 21; exact Gives.call (dropR_any s g n x c _))))
  refine wpQuiet_nil ?_
  intro _ hw'
  obtain ⟨p2, hw''⟩ := hw'
  subst hw''
  go_wp2
  go_ret; exact Gives.mk rfl (by repeat (first | exact Below.refl _ _ | refine below_gw ?_ (by simp; try omega) _ | refine Below.alloc ?_ (by simp; try omega) _ | refine Below.setCell ?_ (by simp; try omega) _ | refine Below.drew ?_))

set_option maxHeartbeats 1000000 in
theorem EpochOneForm_any (s t : Bool) (g n h m : Int) (c d : Clk) (w : World) : Calls Try.prog 9 #[.agg (rd s g n c), .agg (rd t h m d)] w (Gives (.bool true) w) := by
  cases ha : validM ⟨s, g, n, c⟩
  · go_enter Try.func9, Try.ntmps9
    go_wp2_with (first | (go_at_call 11; (with_reducible refine (awake_any _).mono ?_); rintro e w1 ⟨rfl, p1, rfl⟩) | (go_at_call 24; refine (valid_any s g n c _).mono ?_; rintro e w1 ⟨rfl, p2, rfl⟩))
    go_ret; exact Gives.mk rfl (by repeat (first | exact Below.refl _ _ | refine below_gw ?_ (by simp; try omega) _ | refine Below.alloc ?_ (by simp; try omega) _ | refine Below.setCell ?_ (by simp; try omega) _ | refine Below.drew ?_))
  · cases hb : validM ⟨t, h, m, d⟩
    · go_enter Try.func9, Try.ntmps9
      go_wp2_with (first | (go_at_call 11; (with_reducible refine (awake_any _).mono ?_); rintro e w1 ⟨rfl, p1, rfl⟩) | (go_at_call 24; first | ((with_reducible refine (valid_any s g n c _).mono ?_); rintro e w1 ⟨rfl, p2, rfl⟩) | ((with_reducible refine (valid_any t h m d _).mono ?_); rintro e w1 ⟨rfl, p2, rfl⟩)))
      go_ret; exact Gives.mk rfl (by repeat (first | exact Below.refl _ _ | refine below_gw ?_ (by simp; try omega) _ | refine Below.alloc ?_ (by simp; try omega) _ | refine Below.setCell ?_ (by simp; try omega) _ | refine Below.drew ?_))
    · have e1 := fun w => run_eql_clk (setM ⟨s, g, n, c⟩) (setM ⟨t, h, m, d⟩) w
      rw [one_form ha hb] at e1
      have e2 := fun w => run_eql_rd s t g h n m c d w
      go_enter Try.func9, Try.ntmps9
      go_wp2_with (first | (go_at_call 11; (with_reducible refine (awake_any _).mono ?_); rintro e w1 ⟨rfl, p1, rfl⟩) | (go_at_call 24; first | ((with_reducible refine (valid_any s g n c _).mono ?_); rintro e w1 ⟨rfl, p2, rfl⟩) | ((with_reducible refine (valid_any t h m d _).mono ?_); rintro e w1 ⟨rfl, p2, rfl⟩)))
      refine wp_region_gw (by kernel_rfl) (by kernel_rfl) ?_
      repeat (quiet_step (first | (go_at_call 26; first | (with_reducible exact Gives.call (set_any s g n c _)) | (with_reducible exact Gives.call (set_any t h m d _)))))
      refine wpQuiet_nil ?_
      intro _ hw'
      obtain ⟨p3, hw''⟩ := hw'
      subst hw''
      go_wp2
      go_ret; exact Gives.mk rfl (by repeat (first | exact Below.refl _ _ | refine below_gw ?_ (by simp; try omega) _ | refine Below.alloc ?_ (by simp; try omega) _ | refine Below.setCell ?_ (by simp; try omega) _ | refine Below.drew ?_))

theorem joinM_yes {a b : Clk} {k : Nat} (h : a k < b k) : joinM a b (k + 1) = upd (joinM a b k) k (b k) := by simp [joinM, h]
theorem joinM_no {a b : Clk} {k : Nat} (h : ¬ a k < b k) : joinM a b (k + 1) = joinM a b k := by simp [joinM, h]
set_option maxHeartbeats 1000000 in
theorem join_any (a b : Clk) (w : World) : Calls Try.prog 23 #[.agg (cl a), .agg (cl b)] w (Gives (.agg (cl (joinM a b 8))) w) := by
  go_enter Try.func23, Try.ntmps23
  go_wp2
  go_loopw [5] (fun i wr => ∃ k : Nat, ∃ q : Regrown, k ≤ 8 ∧ i = .int .i64 k ∧ wr = gw (((w.alloc (.cells (cl (joinM a b k)) 23)).alloc (.cells (cl b) 23)).alloc (.cells (cl zc) 23)) q) (fun i _ => 8 - (intOf i).toNat)
  case atStart => exact ⟨0, _, by omega, rfl, gw_self _⟩
  case round =>
    obtain ⟨k, q, hk, rfl, rfl⟩ := hrel
    by_cases hlt : k < 8
    · have hb := cl_get b k hlt
      have ha := cl_get (joinM a b k) k hlt
      rw [join_at, if_neg (by omega)] at ha
      by_cases hp : a k < b k
      · have hl := Lib.hid (joinM_yes hp)
        go_wp2
        refine wp_region_gw (by kernel_rfl) (by kernel_rfl) ?_
        repeat (quiet_step (first | fail))
        refine wpQuiet_nil ?_
        intro _ hw'
        obtain ⟨p2, hw''⟩ := hw'
        subst hw''
        go_wp2
        go_roundw
        case rel =>
          obtain ⟨r, hr⟩ := gw_two _ q p2
          exact ⟨k + 1, r, by omega, by go_num, by rw [hl.out]; exact hr⟩
        case measure => simp [intOf]; omega
      · have hl := Lib.hid (joinM_no hp)
        go_wp2
        refine wp_region_gw (by kernel_rfl) (by kernel_rfl) ?_
        repeat (quiet_step (first | fail))
        refine wpQuiet_nil ?_
        intro _ hw'
        obtain ⟨p2, hw''⟩ := hw'
        subst hw''
        go_wp2
        go_roundw
        case rel =>
          obtain ⟨r, hr⟩ := gw_two _ q p2
          exact ⟨k + 1, r, by omega, by go_num, by rw [hl.out]; exact hr⟩
        case measure => simp [intOf]; omega
    · obtain rfl : k = 8 := by omega
      go_wp2
      exact bodyPost_ret (v := .agg (cl (joinM a b 8))) (by simp [results, Try.results23, go_sem] <;> rfl) rfl (Gives.mk rfl (by repeat (first | exact Below.refl _ _ | refine below_gw ?_ (by simp; try omega) _ | refine Below.alloc ?_ (by simp; try omega) _ | refine Below.setCell ?_ (by simp; try omega) _ | refine Below.drew ?_)))

theorem join_le (a b : Clk) : ∀ i, i < 8 → a i ≤ joinM a b 8 i := by
  intro i hi; rw [join_at]; split <;> omega

set_option maxHeartbeats 2000000 in
theorem EpochDropExact_any (s : Bool) (g n : Int) (x c m : Clk) (w : World) : Calls Try.prog 6 #[.agg (rd s g n x), .agg (cl c), .agg (cl m)] w (Gives (.bool true) w) := by
  cases hv : validM ⟨s, g, n, x⟩
  · have hr := hv; rw [valid_eq] at hr
    have hd := Lib.hid (show dropM ⟨s, g, n, x⟩ c = zr by simp [dropM, hv])
    have e := fun w => run_eql_zr zr w
    rw [show rdE zr ⟨false, 0, 0, zc⟩ = true from (rd8_iff _ _).2 (Rd8.rfl' _)] at e
    have hdrop := Lib.hid (fun w => drop_any s g n x c w)
    have HD : Hid (∀ w, Calls Try.prog 20 #[.agg (rd s g n x), .agg (cl c)] w (Gives (rdv zr) w)) := Lib.hid (fun w => by rw [← hd.out]; exact hdrop.out w)
    clear hd hdrop
    go_enter Try.func6, Try.ntmps6
    go_wp2_with (first | (go_at_call 11; (with_reducible refine (awake_any _).mono ?_); rintro e w1 ⟨rfl, p1, rfl⟩) | (go_at_call 22; refine (validR_any s g n x _).mono ?_; rintro e w1 ⟨rfl, p2, rfl⟩) | (go_at_call 20; refine (HD.out _).mono ?_; rintro e w1 ⟨rfl, p3, rfl⟩))
    go_ret; exact Gives.mk rfl (by repeat (first | exact Below.refl _ _ | refine below_gw ?_ (by simp; try omega) _ | refine Below.alloc ?_ (by simp; try omega) _ | refine Below.setCell ?_ (by simp; try omega) _ | refine Below.drew ?_))
  · have hr := hv; rw [valid_eq] at hr
    have hex := drop_exact (d := joinM c m 8) hv (join_le c m)
    have hz := drop_zero (c := c) hv
    have hdv := (drop_valid (c := c) hv).1
    have e := fun w => run_eql_zr (dropM ⟨s, g, n, x⟩ c) w
    have cv1 : ∀ w, Calls Try.prog 18 #[.agg (rd s g n x), .agg #[Value.int .i64 (c 0), .int .i64 (c 1), .int .i64 (c 2), .int .i64 (c 3), .int .i64 (c 4), .int .i64 (c 5), .int .i64 (c 6), .int .i64 (c 7)]] w (Gives (.bool (coveredM ⟨s, g, n, x⟩ c)) w) := fun w => covered_any s g n x c w
    have cv2 : ∀ w, Calls Try.prog 18 #[.agg (rd s g n x), .agg #[Value.int .i64 (joinM c m 8 0), .int .i64 (joinM c m 8 1), .int .i64 (joinM c m 8 2), .int .i64 (joinM c m 8 3), .int .i64 (joinM c m 8 4), .int .i64 (joinM c m 8 5), .int .i64 (joinM c m 8 6), .int .i64 (joinM c m 8 7)]] w (Gives (.bool (coveredM ⟨s, g, n, x⟩ (joinM c m 8))) w) := fun w => covered_any s g n x (joinM c m 8) w
    have cv3 : ∀ w, Calls Try.prog 18 #[rdv (dropM ⟨s, g, n, x⟩ c), .agg #[Value.int .i64 (joinM c m 8 0), .int .i64 (joinM c m 8 1), .int .i64 (joinM c m 8 2), .int .i64 (joinM c m 8 3), .int .i64 (joinM c m 8 4), .int .i64 (joinM c m 8 5), .int .i64 (joinM c m 8 6), .int .i64 (joinM c m 8 7)]] w (Gives (.bool (coveredM (dropM ⟨s, g, n, x⟩ c) (joinM c m 8))) w) := fun w => covered_any _ _ _ _ (joinM c m 8) w
    have vd : ∀ w, Calls Try.prog 24 #[rdv (dropM ⟨s, g, n, x⟩ c)] w (Gives (.bool true) w) := fun w => by rw [← hdv]; exact valid_any _ _ _ _ w
    rw [hex] at cv2
    rw [hz] at cv1
    have c1 := Lib.hid cv1; have c2 := Lib.hid cv2; have c3 := Lib.hid cv3; have c4 := Lib.hid vd
    clear cv1 cv2 cv3 vd hex hz hdv
    go_enter Try.func6, Try.ntmps6
    go_wp2_with (first | (go_at_call 11; (with_reducible refine (awake_any _).mono ?_); rintro e w1 ⟨rfl, p1, rfl⟩) | (go_at_call 22; refine (validR_any s g n x _).mono ?_; rintro e w1 ⟨rfl, p2, rfl⟩) | (go_at_call 23; refine (join_any c m _).mono ?_; rintro e w1 ⟨rfl, p3, rfl⟩) | (go_at_call 20; refine (drop_any s g n x c _).mono ?_; rintro e w1 ⟨rfl, p4, rfl⟩))
    refine wp_region_gw (by kernel_rfl) (by kernel_rfl) ?_
    repeat (quiet_step (first | (go_at_call 24; with_reducible exact Gives.call (c4.out _)) | (go_at_call 18; first | (with_reducible exact Gives.call (c1.out _)) | (with_reducible exact Gives.call (c2.out _)) | (with_reducible exact Gives.call (c3.out _)))))
    refine wpQuiet_nil ?_
    intro _ hw'
    obtain ⟨p5, hw''⟩ := hw'
    subst hw''
    go_wp2
    go_ret; exact Gives.mk rfl (by repeat (first | exact Below.refl _ _ | refine below_gw ?_ (by simp; try omega) _ | refine Below.alloc ?_ (by simp; try omega) _ | refine Below.setCell ?_ (by simp; try omega) _ | refine Below.drew ?_))

end Go.Proofs.Ytkfngaobgnijmaa
