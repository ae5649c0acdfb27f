/- The reference's Covered, Drop, Add, and Join and Tick of clocks: what each call returns. -/
import Derived.Test.YtkfngaobgnijmaaEr
namespace Go.Proofs.Ytkfngaobgnijmaa
open Go.RowKit Go.Sort

theorem cutR_ge (x c : Clk) : ∀ k j, k ≤ j → cutR x c k j = x j
  | 0, _, _ => rfl
  | k + 1, j, h => by
    simp only [cutR]
    split
    · simp only [upd]; rw [if_neg (by omega)]; exact cutR_ge x c k j (by omega)
    · exact cutR_ge x c k j (by omega)
theorem cutR_yes {x c : Clk} {k : Nat} (h : x k ≤ c k) : cutR x c (k + 1) = upd (cutR x c k) k 0 := by simp [cutR, h]
theorem cutR_no {x c : Clk} {k : Nat} (h : ¬ x k ≤ c k) : cutR x c (k + 1) = cutR x c k := by simp [cutR, h]

set_option maxHeartbeats 600000 in
theorem dropR_any (s : Bool) (g n : Int) (x c : Clk) (w : World) :
    Calls Try.prog 21 #[.agg (rd s g n x), .agg (cl c)] w (Gives (rdv (dropR ⟨s, g, n, x⟩ c)) w) := by
  have he := Lib.hid (show rdv (formR (cutR (setR ⟨s, g, n, x⟩) c 8)) = rdv (dropR ⟨s, g, n, x⟩ c) from rfl)
  go_enter Try.func21, Try.ntmps21
  go_wp2_with (go_at_call 27; refine (setR_any s g n x _).mono ?_; rintro e w1 ⟨rfl, p1, rfl⟩)
  go_loopw [6] (fun i wr => ∃ k : Nat, ∃ q : Regrown, k ≤ 8 ∧ i = .int .i64 k ∧ wr = gw ((gw (((w.alloc (.cells (rd s g n x) 31)).alloc (.cells (cl c) 23)).alloc (.cells (rd false 0 0 zc) 31)) p1).alloc (.cells (cl (cutR (setR ⟨s, g, n, x⟩) c k)) 23)) q) (fun i _ => 8 - (intOf i).toNat)
  case atStart => exact ⟨0, _, by omega, rfl, gw_self _⟩
  case round =>
    obtain ⟨k, q, hk, rfl, rfl⟩ := hrel
    by_cases hlt : k < 8
    · have hg := cl_get c k hlt
      have hs := cl_get (cutR (setR ⟨s, g, n, x⟩) c k) k hlt
      rw [cutR_ge _ _ k k (Nat.le_refl _)] at hs
      by_cases hp : setR ⟨s, g, n, x⟩ k ≤ c k
      · have hl := Lib.hid (cutR_yes hp)
        go_wp2
        refine wp_region_gw (by kernel_rfl) (by kernel_rfl) ?_
        repeat (quiet_step (first | fail))
        refine wpQuiet_nil ?_
        intro _ hw'
        obtain ⟨p2, hw''⟩ := hw'
        subst hw''
        go_wp2
        go_roundw
        case rel =>
          obtain ⟨r, hr⟩ := gw_two _ q p2
          exact ⟨k + 1, r, by omega, by go_num, by rw [hl.out]; exact hr⟩
        case measure => simp [intOf]; omega
      · have hl := Lib.hid (cutR_no hp)
        go_wp2
        refine wp_region_gw (by kernel_rfl) (by kernel_rfl) ?_
        repeat (quiet_step (first | fail))
        refine wpQuiet_nil ?_
        intro _ hw'
        obtain ⟨p2, hw''⟩ := hw'
        subst hw''
        go_wp2
        go_roundw
        case rel =>
          obtain ⟨r, hr⟩ := gw_two _ q p2
          exact ⟨k + 1, r, by omega, by go_num, by rw [hl.out]; exact hr⟩
        case measure => simp [intOf]; omega
    · obtain rfl : k = 8 := by omega
      go_wp2_with (go_at_call 32; refine (formR_any (cutR (setR ⟨s, g, n, x⟩) c 8) _).mono ?_; rintro e w1 ⟨rfl, p4, rfl⟩)
      exact bodyPost_ret (v := rdv (formR (cutR (setR ⟨s, g, n, x⟩) c 8))) (by simp [results, Try.results21, go_sem] <;> rfl) rfl (Gives.mk he.out (by repeat (first | exact Below.refl _ _ | refine below_gw ?_ (by simp; try omega) _ | refine Below.alloc ?_ (by simp; try omega) _ | refine Below.setCell ?_ (by simp; try omega) _ | refine Below.drew ?_)))

theorem covR_no {r : RD} {c : Clk} (h : validR r = false) : Value.bool false = .bool (coveredR r c) := by simp [coveredR, h]
theorem covR_hit {r : RD} {c : Clk} {k : Nat} (hk : k < 8) (h1 : 0 < setR r k) (h2 : c k < setR r k) : Value.bool false = .bool (coveredR r c) := by
  have : ((List.range 8).all fun g => !(decide (0 < setR r g) && decide (c g < setR r g))) = false := by
    rw [List.all_eq_false]
    exact ⟨k, by simpa using hk, by simp [h1, h2]⟩
  simp only [coveredR, this, Bool.and_false]
theorem covR_all {r : RD} {c : Clk} (h : validR r = true) (ha : ∀ j, j < 8 → ¬ (0 < setR r j ∧ c j < setR r j)) : Value.bool true = .bool (coveredR r c) := by
  have : ((List.range 8).all fun g => !(decide (0 < setR r g) && decide (c g < setR r g))) = true := by
    rw [List.all_eq_true]
    intro j hj
    have := ha j (by simpa using hj)
    simp; omega
  simp only [coveredR, h, this, Bool.and_self]

set_option maxHeartbeats 2000000 in
theorem coveredR_any (s : Bool) (g n : Int) (x c : Clk) (w : World) :
    Calls Try.prog 19 #[.agg (rd s g n x), .agg (cl c)] w (Gives (.bool (coveredR ⟨s, g, n, x⟩ c)) w) := by
  cases hv : validR ⟨s, g, n, x⟩
  · have he := Lib.hid (covR_no (c := c) hv)
    go_enter Try.func19, Try.ntmps19
    go_wp2_with (go_at_call 22; refine (validR_any s g n x _).mono ?_; rintro e w1 ⟨rfl, p1, rfl⟩)
    go_ret; exact Gives.mk he.out (by repeat (first | exact Below.refl _ _ | refine below_gw ?_ (by simp; try omega) _ | refine Below.alloc ?_ (by simp; try omega) _ | refine Below.setCell ?_ (by simp; try omega) _ | refine Below.drew ?_))
  · go_enter Try.func19, Try.ntmps19
    go_wp2_with (first | (go_at_call 22; refine (validR_any s g n x _).mono ?_; rintro e w1 ⟨rfl, p1, rfl⟩) | (go_at_call 27; refine (setR_any s g n x _).mono ?_; rintro e w1 ⟨rfl, p2, rfl⟩))
    go_loopw [6] (fun i wr => ∃ k : Nat, ∃ q : Regrown, k ≤ 8 ∧ i = .int .i64 k ∧ Hid (∀ j, j < k → ¬ (0 < setR ⟨s, g, n, x⟩ j ∧ c j < setR ⟨s, g, n, x⟩ j)) ∧ wr = gw ((gw (gw ((w.alloc (.cells (rd s g n x) 31)).alloc (.cells (cl c) 23)) p1) p2).alloc (.cells (cl (setR ⟨s, g, n, x⟩)) 23)) q) (fun i _ => 8 - (intOf i).toNat)
    case atStart => exact ⟨0, _, by omega, rfl, Lib.hid (by intro j hj; omega), gw_self _⟩
    case round =>
      obtain ⟨k, q, hk, rfl, HP, rfl⟩ := hrel
      by_cases hlt : k < 8
      · have hg := cl_get c k hlt
        have hs := cl_get (setR ⟨s, g, n, x⟩) k hlt
        by_cases h1 : 0 < setR ⟨s, g, n, x⟩ k
        · by_cases h2 : c k < setR ⟨s, g, n, x⟩ k
          · have he := Lib.hid (covR_hit (c := c) hlt h1 h2)
            go_wp2
            refine wp_region_gw (by kernel_rfl) (by kernel_rfl) ?_
            repeat (quiet_step (first | fail))
            refine wpQuiet_nil ?_
            intro _ hw'
            obtain ⟨p3, hw''⟩ := hw'
            subst hw''
            go_wp2
            go_ret; exact Gives.mk he.out (by repeat (first | exact Below.refl _ _ | refine below_gw ?_ (by simp; try omega) _ | refine Below.alloc ?_ (by simp; try omega) _ | refine Below.setCell ?_ (by simp; try omega) _ | refine Below.drew ?_))
          · have HN : Hid (∀ j, j < k + 1 → ¬ (0 < setR ⟨s, g, n, x⟩ j ∧ c j < setR ⟨s, g, n, x⟩ j)) := Lib.hid (by
              intro j hj
              by_cases e : j = k
              · subst e; omega
              · exact HP.out j (by omega))
            go_wp2
            refine wp_region_gw (by kernel_rfl) (by kernel_rfl) ?_
            repeat (quiet_step (first | fail))
            refine wpQuiet_nil ?_
            intro _ hw'
            obtain ⟨p3, hw''⟩ := hw'
            subst hw''
            go_wp2
            go_roundw
            case rel =>
              obtain ⟨r, hr⟩ := gw_two _ q p3
              exact ⟨k + 1, r, by omega, by go_num, HN, hr⟩
            case measure => simp [intOf]; omega
        · have HN : Hid (∀ j, j < k + 1 → ¬ (0 < setR ⟨s, g, n, x⟩ j ∧ c j < setR ⟨s, g, n, x⟩ j)) := Lib.hid (by
            intro j hj
            by_cases e : j = k
            · subst e; omega
            · exact HP.out j (by omega))
          have hf : decide (0 < setR ⟨s, g, n, x⟩ k) = false := by simpa using h1
          go_wp2
          refine wp_region_gw (by kernel_rfl) (by kernel_rfl) ?_
          repeat (quiet_step (first | fail))
          refine wpQuiet_nil ?_
          intro _ hw'
          obtain ⟨p3, hw''⟩ := hw'
          subst hw''
          go_wp2
          go_roundw
          case rel =>
            obtain ⟨r, hr⟩ := gw_two _ q p3
            exact ⟨k + 1, r, by omega, by go_num, HN, hr⟩
          case measure => simp [intOf]; omega
      · obtain rfl : k = 8 := by omega
        have he := Lib.hid (covR_all (c := c) hv HP.out)
        go_wp2
        go_ret; exact Gives.mk he.out (by repeat (first | exact Below.refl _ _ | refine below_gw ?_ (by simp; try omega) _ | refine Below.alloc ?_ (by simp; try omega) _ | refine Below.setCell ?_ (by simp; try omega) _ | refine Below.drew ?_))

end Go.Proofs.Ytkfngaobgnijmaa
