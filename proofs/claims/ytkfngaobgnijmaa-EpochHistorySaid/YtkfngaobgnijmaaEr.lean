/- The reference's functions on sets of reads: what each call returns. -/
import Derived.Test.YtkfngaobgnijmaaEp
namespace Go.Proofs.Ytkfngaobgnijmaa
open Go.RowKit Go.Sort

theorem posM_nn {c : Clk} (h : ∀ j, j < 8 → 0 ≤ c j) : posM c = cnt c 8 := by simp [posM, nnB_of h]
theorem posM_neg {c : Clk} {k : Nat} (hk : k < 8) (h : c k < 0) : posM c = -1 := by simp [posM, nnB_not hk h]
theorem posM_bd (c : Clk) : -1 ≤ posM c ∧ posM c ≤ 8 := by
  have := cnt_le c 8
  unfold posM; split <;> omega

set_option maxHeartbeats 400000 in
theorem pos_any (c : Clk) (w : World) : Calls Try.prog 35 #[.agg (cl c)] w (Gives (.int .i64 (posM c)) w) := by
  go_enter Try.func35, Try.ntmps35
  go_wp2
  go_loop [3, 4] (fun n i => ∃ k : Nat, k ≤ 8 ∧ i = .int .i64 k ∧ n = .int .i64 (cnt c k) ∧ Hid (∀ j, j < k → 0 ≤ c j)) (fun _ i => 8 - (intOf i).toNat)
  case atStart => exact ⟨0, by omega, rfl, rfl, Lib.hid (by intro j hj; omega)⟩
  case round =>
    obtain ⟨k, hk, rfl, rfl, HP⟩ := hrel
    have hcl := cnt_le c k
    by_cases hlt : k < 8
    · have hg := cl_get c k hlt
      by_cases hn : c k < 0
      · have he := Lib.hid (posM_neg hlt hn).symm
        go_wp2
        go_ret
        exact Gives.mk (congrArg (Value.int .i64) he.out) (by repeat (first | exact Below.refl _ _ | refine below_gw ?_ (by simp; try omega) _ | refine Below.alloc ?_ (by simp; try omega) _ | refine Below.setCell ?_ (by simp; try omega) _ | refine Below.drew ?_))
      · have HN : Hid (∀ j, j < k + 1 → 0 ≤ c j) := Lib.hid (by
          intro j hj
          by_cases e : j = k
          · subst e; omega
          · exact HP.out j (by omega))
        by_cases hp : 0 < c k
        · go_wp2
          exact ⟨⟨k + 1, by omega, by go_num, by rw [cnt_hi hp]; go_num, HN⟩, by simp [intOf]; omega⟩
        · go_wp2
          exact ⟨⟨k + 1, by omega, by go_num, by rw [cnt_lo hp], HN⟩, by simp [intOf]; omega⟩
    · obtain rfl : k = 8 := by omega
      have he := Lib.hid (posM_nn HP.out).symm
      go_wp2
      go_ret
      exact Gives.mk (congrArg (Value.int .i64) he.out) (by repeat (first | exact Below.refl _ _ | refine below_gw ?_ (by simp; try omega) _ | refine Below.alloc ?_ (by simp; try omega) _ | refine Below.setCell ?_ (by simp; try omega) _ | refine Below.drew ?_))

theorem run_eql_czero (c : Clk) (w : World) : (binOp .eql 23 (.agg #[Value.int .i64 (c 0), .int .i64 (c 1), .int .i64 (c 2), .int .i64 (c 3), .int .i64 (c 4), .int .i64 (c 5), .int .i64 (c 6), .int .i64 (c 7)]) (.agg #[.int .i64 0, .int .i64 0, .int .i64 0, .int .i64 0, .int .i64 0, .int .i64 0, .int .i64 0, .int .i64 0])).run Try.prog w = .ok (.bool (clE c zc)) w := by
  have h := run_eql_clk c zc w
  simp only [cl, zc_at] at h
  exact h


set_option maxHeartbeats 400000 in
theorem validR_s1  (c : Clk) (w : World)  :
    Calls Try.prog 22 #[.agg (rd true 0 0 c)] w (Gives (.bool (validR ⟨true, 0, 0, c⟩)) w) := by
  have he : validR ⟨true, 0, 0, c⟩ = (decide (2 ≤ posM c)) := (by simp [validR])
  have he' := Lib.hid (congrArg Value.bool he).symm; clear he
  have hz2 := fun w => run_eql_czero c w
  go_enter Try.func22, Try.ntmps22
  go_wp2_with (first | (go_at_call 35; refine (pos_any c _).mono ?_; rintro e w1 ⟨rfl, p1, rfl⟩) | (go_at_call 29; refine (place_any _ _).mono ?_; rintro e w1 ⟨rfl, rfl⟩))
  all_goals (go_ret; exact Gives.mk he'.out (by repeat (first | exact Below.refl _ _ | refine below_gw ?_ (by simp; try omega) _ | refine Below.alloc ?_ (by simp; try omega) _ | refine Below.setCell ?_ (by simp; try omega) _ | refine Below.drew ?_)))

set_option maxHeartbeats 400000 in
theorem validR_s2 (n : Int) (c : Clk) (w : World) (hz : ¬ n = 0) :
    Calls Try.prog 22 #[.agg (rd true 0 n c)] w (Gives (.bool (validR ⟨true, 0, n, c⟩)) w) := by
  have he : validR ⟨true, 0, n, c⟩ = false := (by simp [validR, hz])
  have he' := Lib.hid (congrArg Value.bool he).symm; clear he
  have hz2 := fun w => run_eql_czero c w
  go_enter Try.func22, Try.ntmps22
  go_wp2_with (first | (go_at_call 35; refine (pos_any c _).mono ?_; rintro e w1 ⟨rfl, p1, rfl⟩) | (go_at_call 29; refine (place_any _ _).mono ?_; rintro e w1 ⟨rfl, rfl⟩))
  all_goals (go_ret; exact Gives.mk he'.out (by repeat (first | exact Below.refl _ _ | refine below_gw ?_ (by simp; try omega) _ | refine Below.alloc ?_ (by simp; try omega) _ | refine Below.setCell ?_ (by simp; try omega) _ | refine Below.drew ?_)))

set_option maxHeartbeats 400000 in
theorem validR_s3 (g n : Int) (c : Clk) (w : World) (hz : ¬ g = 0) :
    Calls Try.prog 22 #[.agg (rd true g n c)] w (Gives (.bool (validR ⟨true, g, n, c⟩)) w) := by
  have he : validR ⟨true, g, n, c⟩ = false := (by simp [validR, hz])
  have he' := Lib.hid (congrArg Value.bool he).symm; clear he
  have hz2 := fun w => run_eql_czero c w
  go_enter Try.func22, Try.ntmps22
  go_wp2_with (first | (go_at_call 35; refine (pos_any c _).mono ?_; rintro e w1 ⟨rfl, p1, rfl⟩) | (go_at_call 29; refine (place_any _ _).mono ?_; rintro e w1 ⟨rfl, rfl⟩))
  all_goals (go_ret; exact Gives.mk he'.out (by repeat (first | exact Below.refl _ _ | refine below_gw ?_ (by simp; try omega) _ | refine Below.alloc ?_ (by simp; try omega) _ | refine Below.setCell ?_ (by simp; try omega) _ | refine Below.drew ?_)))

set_option maxHeartbeats 400000 in
theorem validR_c (g n : Int) (c : Clk) (w : World) (hc : clE c zc = false) :
    Calls Try.prog 22 #[.agg (rd false g n c)] w (Gives (.bool (validR ⟨false, g, n, c⟩)) w) := by
  have he : validR ⟨false, g, n, c⟩ = false := (by simp [validR, hc])
  have he' := Lib.hid (congrArg Value.bool he).symm; clear he
  have hz2 := fun w => run_eql_czero c w
  go_enter Try.func22, Try.ntmps22
  go_wp2_with (first | (go_at_call 35; refine (pos_any c _).mono ?_; rintro e w1 ⟨rfl, p1, rfl⟩) | (go_at_call 29; refine (place_any _ _).mono ?_; rintro e w1 ⟨rfl, rfl⟩))
  all_goals (go_ret; exact Gives.mk he'.out (by repeat (first | exact Below.refl _ _ | refine below_gw ?_ (by simp; try omega) _ | refine Below.alloc ?_ (by simp; try omega) _ | refine Below.setCell ?_ (by simp; try omega) _ | refine Below.drew ?_)))

set_option maxHeartbeats 400000 in
theorem validR_z  (c : Clk) (w : World) (hc : clE c zc = true) :
    Calls Try.prog 22 #[.agg (rd false 0 0 c)] w (Gives (.bool (validR ⟨false, 0, 0, c⟩)) w) := by
  have he : validR ⟨false, 0, 0, c⟩ = true := (by simp [validR, hc])
  have he' := Lib.hid (congrArg Value.bool he).symm; clear he
  have hz2 := fun w => run_eql_czero c w
  go_enter Try.func22, Try.ntmps22
  go_wp2_with (first | (go_at_call 35; refine (pos_any c _).mono ?_; rintro e w1 ⟨rfl, p1, rfl⟩) | (go_at_call 29; refine (place_any _ _).mono ?_; rintro e w1 ⟨rfl, rfl⟩))
  all_goals (go_ret; exact Gives.mk he'.out (by repeat (first | exact Below.refl _ _ | refine below_gw ?_ (by simp; try omega) _ | refine Below.alloc ?_ (by simp; try omega) _ | refine Below.setCell ?_ (by simp; try omega) _ | refine Below.drew ?_)))

set_option maxHeartbeats 400000 in
theorem validR_n (n : Int) (c : Clk) (w : World) (hc : clE c zc = true) (hz : ¬ n = 0) :
    Calls Try.prog 22 #[.agg (rd false 0 n c)] w (Gives (.bool (validR ⟨false, 0, n, c⟩)) w) := by
  have he : validR ⟨false, 0, n, c⟩ = (decide (0 < n)) := (by simp [validR, hc, hz, plc])
  have he' := Lib.hid (congrArg Value.bool he).symm; clear he
  have hz2 := fun w => run_eql_czero c w
  go_enter Try.func22, Try.ntmps22
  go_wp2_with (first | (go_at_call 35; refine (pos_any c _).mono ?_; rintro e w1 ⟨rfl, p1, rfl⟩) | (go_at_call 29; refine (place_any _ _).mono ?_; rintro e w1 ⟨rfl, rfl⟩))
  all_goals (go_ret; exact Gives.mk he'.out (by repeat (first | exact Below.refl _ _ | refine below_gw ?_ (by simp; try omega) _ | refine Below.alloc ?_ (by simp; try omega) _ | refine Below.setCell ?_ (by simp; try omega) _ | refine Below.drew ?_)))

set_option maxHeartbeats 400000 in
theorem validR_p (g n : Int) (c : Clk) (w : World) (hc : clE c zc = true) (hz : ¬ g = 0) (hp : plc g = true) :
    Calls Try.prog 22 #[.agg (rd false g n c)] w (Gives (.bool (validR ⟨false, g, n, c⟩)) w) := by
  have he : validR ⟨false, g, n, c⟩ = (decide (0 < n)) := (by simp [validR, hc, hz, hp])
  have he' := Lib.hid (congrArg Value.bool he).symm; clear he
  have hz2 := fun w => run_eql_czero c w
  go_enter Try.func22, Try.ntmps22
  go_wp2_with (first | (go_at_call 35; refine (pos_any c _).mono ?_; rintro e w1 ⟨rfl, p1, rfl⟩) | (go_at_call 29; refine (place_any _ _).mono ?_; rintro e w1 ⟨rfl, rfl⟩))
  all_goals (go_ret; exact Gives.mk he'.out (by repeat (first | exact Below.refl _ _ | refine below_gw ?_ (by simp; try omega) _ | refine Below.alloc ?_ (by simp; try omega) _ | refine Below.setCell ?_ (by simp; try omega) _ | refine Below.drew ?_)))

set_option maxHeartbeats 400000 in
theorem validR_q (g n : Int) (c : Clk) (w : World) (hc : clE c zc = true) (hz : ¬ g = 0) (hp : plc g = false) :
    Calls Try.prog 22 #[.agg (rd false g n c)] w (Gives (.bool (validR ⟨false, g, n, c⟩)) w) := by
  have he : validR ⟨false, g, n, c⟩ = false := (by simp [validR, hc, hz, hp])
  have he' := Lib.hid (congrArg Value.bool he).symm; clear he
  have hz2 := fun w => run_eql_czero c w
  go_enter Try.func22, Try.ntmps22
  go_wp2_with (first | (go_at_call 35; refine (pos_any c _).mono ?_; rintro e w1 ⟨rfl, p1, rfl⟩) | (go_at_call 29; refine (place_any _ _).mono ?_; rintro e w1 ⟨rfl, rfl⟩))
  all_goals (go_ret; exact Gives.mk he'.out (by repeat (first | exact Below.refl _ _ | refine below_gw ?_ (by simp; try omega) _ | refine Below.alloc ?_ (by simp; try omega) _ | refine Below.setCell ?_ (by simp; try omega) _ | refine Below.drew ?_)))

theorem validR_any (s : Bool) (g n : Int) (c : Clk) (w : World) :
    Calls Try.prog 22 #[.agg (rd s g n c)] w (Gives (.bool (validR ⟨s, g, n, c⟩)) w) := by
  cases s
  · cases hc : clE c zc
    · exact validR_c g n c w hc
    · by_cases hg : g = 0
      · subst hg
        by_cases hn : n = 0
        · subst hn; exact validR_z c w hc
        · exact validR_n n c w hc hn
      · cases hp : plc g
        · exact validR_q g n c w hc hg hp
        · exact validR_p g n c w hc hg hp
  · by_cases hg : g = 0
    · subst hg
      by_cases hn : n = 0
      · subst hn; exact validR_s1 c w
      · exact validR_s2 n c w hn
    · exact validR_s3 g n c w hg

theorem setR_in {g n : Int} {c : Clk} (h : validR ⟨false, g, n, c⟩ = true) : 0 ≤ g ∧ g < 8 := by
  simp only [validR, Bool.false_eq_true, if_false, Bool.and_eq_true, Bool.or_eq_true, beq_iff_eq, plc_iff] at h
  omega
theorem zero_set (i : Nat) (v : Int) : (#[Value.int .i64 0, .int .i64 0, .int .i64 0, .int .i64 0, .int .i64 0, .int .i64 0, .int .i64 0, .int .i64 0] : Array Value).setIfInBounds i (.int .i64 v) = cl (upd zc i v) := cl_set zc i v
set_option maxHeartbeats 400000 in
theorem setR_any (s : Bool) (g n : Int) (c : Clk) (w : World) :
    Calls Try.prog 27 #[.agg (rd s g n c)] w (Gives (.agg (cl (setR ⟨s, g, n, c⟩))) w) := by
  cases hv : validR ⟨s, g, n, c⟩
  · have he := Lib.hid (show cl zc = cl (setR ⟨s, g, n, c⟩) by simp [setR, hv])
    go_enter Try.func27, Try.ntmps27
    go_wp2_with (go_at_call 22; refine (validR_any s g n c _).mono ?_; rintro e w1 ⟨rfl, p1, rfl⟩)
    exact bodyPost_ret (v := .agg (cl zc)) (by simp [results, Try.results27, go_sem] <;> rfl) rfl (Gives.mk (by rw [he.out]) (by repeat (first | exact Below.refl _ _ | refine below_gw ?_ (by simp; try omega) _ | refine Below.alloc ?_ (by simp; try omega) _ | refine Below.setCell ?_ (by simp; try omega) _ | refine Below.drew ?_)))
  · cases s
    · have he := Lib.hid (show cl (upd zc g.toNat n) = cl (setR ⟨false, g, n, c⟩) by simp [setR, hv])
      obtain ⟨h0, h8⟩ := setR_in hv
      have z2 := fun v => zero_set g.toNat v
      go_enter Try.func27, Try.ntmps27
      go_wp2_with (go_at_call 22; refine (validR_any false g n c _).mono ?_; rintro e w1 ⟨rfl, p1, rfl⟩)
      exact bodyPost_ret (v := .agg (cl (upd zc g.toNat n))) (by simp [results, Try.results27, go_sem] <;> rfl) rfl (Gives.mk (by rw [he.out]) (by repeat (first | exact Below.refl _ _ | refine below_gw ?_ (by simp; try omega) _ | refine Below.alloc ?_ (by simp; try omega) _ | refine Below.setCell ?_ (by simp; try omega) _ | refine Below.drew ?_)))
    · have he := Lib.hid (show cl c = cl (setR ⟨true, g, n, c⟩) by simp [setR, hv])
      go_enter Try.func27, Try.ntmps27
      go_wp2_with (go_at_call 22; refine (validR_any true g n c _).mono ?_; rintro e w1 ⟨rfl, p1, rfl⟩)
      exact bodyPost_ret (v := .agg (cl c)) (by simp [results, Try.results27, go_sem] <;> rfl) rfl (Gives.mk (by rw [he.out]) (by repeat (first | exact Below.refl _ _ | refine below_gw ?_ (by simp; try omega) _ | refine Below.alloc ?_ (by simp; try omega) _ | refine Below.setCell ?_ (by simp; try omega) _ | refine Below.drew ?_)))

theorem firstM_hit {c : Clk} {k m : Nat} (h : 0 < c k) : firstM c k (m + 1) = ⟨false, k, c k, zc⟩ := by simp [firstM, h]
theorem firstM_miss {c : Clk} {k m : Nat} (h : ¬ 0 < c k) : firstM c k (m + 1) = firstM c (k + 1) m := by simp [firstM, h]
set_option maxHeartbeats 400000 in
theorem formR_any (c : Clk) (w : World) : Calls Try.prog 32 #[.agg (cl c)] w (Gives (rdv (formR c)) w) := by
  by_cases h2 : 2 ≤ posM c
  · have he := Lib.hid (show Value.agg (rd true 0 0 c) = rdv (formR c) by simp [formR, h2])
    go_enter Try.func32, Try.ntmps32
    go_wp2_with (go_at_call 35; refine (pos_any c _).mono ?_; rintro e w1 ⟨rfl, p1, rfl⟩)
    exact bodyPost_ret (v := .agg (rd true 0 0 c)) (by simp [results, Try.results32, go_sem] <;> rfl) rfl (Gives.mk he.out (by repeat (first | exact Below.refl _ _ | refine below_gw ?_ (by simp; try omega) _ | refine Below.alloc ?_ (by simp; try omega) _ | refine Below.setCell ?_ (by simp; try omega) _ | refine Below.drew ?_)))
  · have he := Lib.hid (show rdv (firstM c 0 8) = rdv (formR c) by simp [formR, h2])
    go_enter Try.func32, Try.ntmps32
    go_wp2_with (go_at_call 35; refine (pos_any c _).mono ?_; rintro e w1 ⟨rfl, p1, rfl⟩)
    go_loop [3] (fun i => ∃ k : Nat, k ≤ 8 ∧ i = .int .i64 k ∧ Hid (firstM c 0 8 = firstM c k (8 - k))) (fun i => 8 - (intOf i).toNat)
    case atStart => exact ⟨0, by omega, rfl, Lib.hid rfl⟩
    case round =>
      obtain ⟨k, hk, rfl, HF⟩ := hrel
      by_cases hlt : k < 8
      · have hg := cl_get c k hlt
        have hk8 : 8 - k = (8 - (k + 1)) + 1 := by omega
        have HK := Lib.hid hk8; clear hk8
        by_cases hp : 0 < c k
        · have hq := Lib.hid (show rdv ⟨false, k, c k, zc⟩ = rdv (firstM c 0 8) by rw [HF.out, HK.out, firstM_hit hp])
          go_wp2
          exact bodyPost_ret (v := rdv ⟨false, k, c k, zc⟩) (by simp [results, Try.results32, go_sem] <;> rfl) rfl (Gives.mk (hq.out.trans he.out) (by repeat (first | exact Below.refl _ _ | refine below_gw ?_ (by simp; try omega) _ | refine Below.alloc ?_ (by simp; try omega) _ | refine Below.setCell ?_ (by simp; try omega) _ | refine Below.drew ?_)))
        · have HN : Hid (firstM c 0 8 = firstM c (k + 1) (8 - (k + 1))) := Lib.hid (by rw [HF.out, HK.out, firstM_miss hp])
          go_wp2
          go_round
          case rel => exact ⟨k + 1, by omega, by go_num, HN⟩
          case measure => simp [intOf]; omega
      · obtain rfl : k = 8 := by omega
        have hq := Lib.hid (show rdv zr = rdv (firstM c 0 8) by rw [HF.out]; rfl)
        go_wp2
        exact bodyPost_ret (v := rdv zr) (by simp [results, Try.results32, go_sem] <;> rfl) rfl (Gives.mk (hq.out.trans he.out) (by repeat (first | exact Below.refl _ _ | refine below_gw ?_ (by simp; try omega) _ | refine Below.alloc ?_ (by simp; try omega) _ | refine Below.setCell ?_ (by simp; try omega) _ | refine Below.drew ?_)))

end Go.Proofs.Ytkfngaobgnijmaa
