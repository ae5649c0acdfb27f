/- AddKeeps, walked: it returns true. -/
import Derived.Test.YtkfngaobgnijmaaEv
import Derived.Test.YtkfngaobgnijmaaQm
namespace Go.Proofs.Ytkfngaobgnijmaa
open Go.RowKit Go.Sort

theorem keeps_no {r : RD} {g n : Int} {c : Clk} (h : ¬ (validR r = true ∧ plc g = true ∧ 0 < n)) : addM r g n c = r := by
  simp only [addM, valid_eq, if_neg h]
set_option maxHeartbeats 1000000 in
theorem keeps_no1 (s : Bool) (rg rn : Int) (x : Clk) (g n : Int) (c : Clk) (w : World) (h : validR ⟨s, rg, rn, x⟩ = false) :
    Calls Try.prog 10 #[.agg (rd s rg rn x), .agg #[.int .i64 g, .int .i64 n], .agg (cl c)] w (Gives (.bool true) w) := by
  have he := keeps_no (r := ⟨s, rg, rn, x⟩) (g := g) (n := n) (c := c) (by simp [h])
  have HA : Hid (∀ w, Calls Try.prog 16 #[.agg (rd s rg rn x), .agg #[.int .i64 g, .int .i64 n], .agg (cl c)] w (Gives (.agg (rd s rg rn x)) w)) := Lib.hid (fun w => by
    have := add_any s rg rn x g n c w
    rwa [he] at this)
  clear he
  have e := fun w => run_eql_rr ⟨s, rg, rn, x⟩ ⟨s, rg, rn, x⟩ (Rd8.rfl' _) w
  go_enter Try.func10, Try.ntmps10
  go_wp2_with (first | (go_at_call 11; (with_reducible refine (awake_any _).mono ?_); rintro e w1 ⟨rfl, p1, rfl⟩) | (go_at_call 22; refine (validR_any s rg rn x _).mono ?_; rintro e w1 ⟨rfl, p2, rfl⟩))
  refine wp_region_gw (by kernel_rfl) (by kernel_rfl) ?_
  repeat (quiet_step (first | (go_at_call 16; exact Gives.call (HA.out _))))
  refine wpQuiet_nil ?_
  intro _ hw'
  obtain ⟨p3, hw''⟩ := hw'
  subst hw''
  go_wp2
  go_ret; exact Gives.mk rfl (by repeat (first | exact Below.refl _ _ | refine below_gw ?_ (by simp; try omega) _ | refine Below.alloc ?_ (by simp; try omega) _ | refine Below.setCell ?_ (by simp; try omega) _ | refine Below.drew ?_))

set_option maxHeartbeats 1000000 in
theorem keeps_no2 (s : Bool) (rg rn : Int) (x : Clk) (g n : Int) (c : Clk) (w : World) (h : validR ⟨s, rg, rn, x⟩ = true) (hg : g < 0) :
    Calls Try.prog 10 #[.agg (rd s rg rn x), .agg #[.int .i64 g, .int .i64 n], .agg (cl c)] w (Gives (.bool true) w) := by
  have he := keeps_no (r := ⟨s, rg, rn, x⟩) (g := g) (n := n) (c := c) (by rw [plc_iff]; omega)
  have HA : Hid (∀ w, Calls Try.prog 16 #[.agg (rd s rg rn x), .agg #[.int .i64 g, .int .i64 n], .agg (cl c)] w (Gives (.agg (rd s rg rn x)) w)) := Lib.hid (fun w => by
    have := add_any s rg rn x g n c w
    rwa [he] at this)
  clear he
  have e := fun w => run_eql_rr ⟨s, rg, rn, x⟩ ⟨s, rg, rn, x⟩ (Rd8.rfl' _) w
  go_enter Try.func10, Try.ntmps10
  go_wp2_with (first | (go_at_call 11; (with_reducible refine (awake_any _).mono ?_); rintro e w1 ⟨rfl, p1, rfl⟩) | (go_at_call 22; refine (validR_any s rg rn x _).mono ?_; rintro e w1 ⟨rfl, p2, rfl⟩))
  refine wp_region_gw (by kernel_rfl) (by kernel_rfl) ?_
  repeat (quiet_step (first | (go_at_call 16; exact Gives.call (HA.out _))))
  refine wpQuiet_nil ?_
  intro _ hw'
  obtain ⟨p3, hw''⟩ := hw'
  subst hw''
  go_wp2
  go_ret; exact Gives.mk rfl (by repeat (first | exact Below.refl _ _ | refine below_gw ?_ (by simp; try omega) _ | refine Below.alloc ?_ (by simp; try omega) _ | refine Below.setCell ?_ (by simp; try omega) _ | refine Below.drew ?_))

set_option maxHeartbeats 1000000 in
theorem keeps_no3 (s : Bool) (rg rn : Int) (x : Clk) (g n : Int) (c : Clk) (w : World) (h : validR ⟨s, rg, rn, x⟩ = true) (hg : 0 ≤ g) (hg8 : 8 ≤ g) :
    Calls Try.prog 10 #[.agg (rd s rg rn x), .agg #[.int .i64 g, .int .i64 n], .agg (cl c)] w (Gives (.bool true) w) := by
  have he := keeps_no (r := ⟨s, rg, rn, x⟩) (g := g) (n := n) (c := c) (by rw [plc_iff]; omega)
  have HA : Hid (∀ w, Calls Try.prog 16 #[.agg (rd s rg rn x), .agg #[.int .i64 g, .int .i64 n], .agg (cl c)] w (Gives (.agg (rd s rg rn x)) w)) := Lib.hid (fun w => by
    have := add_any s rg rn x g n c w
    rwa [he] at this)
  clear he
  have e := fun w => run_eql_rr ⟨s, rg, rn, x⟩ ⟨s, rg, rn, x⟩ (Rd8.rfl' _) w
  go_enter Try.func10, Try.ntmps10
  go_wp2_with (first | (go_at_call 11; (with_reducible refine (awake_any _).mono ?_); rintro e w1 ⟨rfl, p1, rfl⟩) | (go_at_call 22; refine (validR_any s rg rn x _).mono ?_; rintro e w1 ⟨rfl, p2, rfl⟩))
  refine wp_region_gw (by kernel_rfl) (by kernel_rfl) ?_
  repeat (quiet_step (first | (go_at_call 16; exact Gives.call (HA.out _))))
  refine wpQuiet_nil ?_
  intro _ hw'
  obtain ⟨p3, hw''⟩ := hw'
  subst hw''
  go_wp2
  go_ret; exact Gives.mk rfl (by repeat (first | exact Below.refl _ _ | refine below_gw ?_ (by simp; try omega) _ | refine Below.alloc ?_ (by simp; try omega) _ | refine Below.setCell ?_ (by simp; try omega) _ | refine Below.drew ?_))

set_option maxHeartbeats 1000000 in
theorem keeps_no4 (s : Bool) (rg rn : Int) (x : Clk) (g n : Int) (c : Clk) (w : World) (h : validR ⟨s, rg, rn, x⟩ = true) (hg : 0 ≤ g) (hg8 : g < 8) (hn : n ≤ 0) :
    Calls Try.prog 10 #[.agg (rd s rg rn x), .agg #[.int .i64 g, .int .i64 n], .agg (cl c)] w (Gives (.bool true) w) := by
  have he := keeps_no (r := ⟨s, rg, rn, x⟩) (g := g) (n := n) (c := c) (by omega)
  have HA : Hid (∀ w, Calls Try.prog 16 #[.agg (rd s rg rn x), .agg #[.int .i64 g, .int .i64 n], .agg (cl c)] w (Gives (.agg (rd s rg rn x)) w)) := Lib.hid (fun w => by
    have := add_any s rg rn x g n c w
    rwa [he] at this)
  clear he
  have e := fun w => run_eql_rr ⟨s, rg, rn, x⟩ ⟨s, rg, rn, x⟩ (Rd8.rfl' _) w
  go_enter Try.func10, Try.ntmps10
  go_wp2_with (first | (go_at_call 11; (with_reducible refine (awake_any _).mono ?_); rintro e w1 ⟨rfl, p1, rfl⟩) | (go_at_call 22; refine (validR_any s rg rn x _).mono ?_; rintro e w1 ⟨rfl, p2, rfl⟩))
  refine wp_region_gw (by kernel_rfl) (by kernel_rfl) ?_
  repeat (quiet_step (first | (go_at_call 16; exact Gives.call (HA.out _))))
  refine wpQuiet_nil ?_
  intro _ hw'
  obtain ⟨p3, hw''⟩ := hw'
  subst hw''
  go_wp2
  go_ret; exact Gives.mk rfl (by repeat (first | exact Below.refl _ _ | refine below_gw ?_ (by simp; try omega) _ | refine Below.alloc ?_ (by simp; try omega) _ | refine Below.setCell ?_ (by simp; try omega) _ | refine Below.drew ?_))


theorem set_rd (N : RD) (w : World) : Calls Try.prog 26 #[rdv N] w (Gives (.agg (cl (setM N))) w) := set_any N.s N.g N.n N.c w
set_option maxHeartbeats 4000000 in
theorem keeps_yes (s : Bool) (rg rn : Int) (x : Clk) (g n : Int) (c : Clk) (w : World) (h : validR ⟨s, rg, rn, x⟩ = true) (h0 : 0 ≤ g) (h8 : g < 8) (hn : 0 < n) :
    Calls Try.prog 10 #[.agg (rd s rg rn x), .agg #[.int .i64 g, .int .i64 n], .agg (cl c)] w (Gives (.bool true) w) := by
  obtain ⟨k1, k2, k3⟩ := add_keeps (r := ⟨s, rg, rn, x⟩) (c := c) (by rw [valid_eq]; exact h) ⟨h0, h8⟩ hn
  have K1 := Lib.hid k1
  have K2 := Lib.hid k2
  have K3 := Lib.hid k3
  clear k1 k2 k3
  go_enter Try.func10, Try.ntmps10
  go_wp2_with (first | (go_at_call 11; (with_reducible refine (awake_any _).mono ?_); rintro e w1 ⟨rfl, p1, rfl⟩) | (go_at_call 22; refine (validR_any s rg rn x _).mono ?_; rintro e w1 ⟨rfl, p2, rfl⟩) | (go_at_call 16; refine (add_any s rg rn x g n c _).mono ?_; rintro e w1 ⟨rfl, p3, rfl⟩))
  generalize addM ⟨s, rg, rn, x⟩ g n c = N at *
  refine wp_region_qm 6 [4, 5] (by kernel_rfl) (by kernel_rfl) (by simp [quietOps, List.range, List.range.loop]; rfl) (by simp [makerOps]; rfl) (by simp; rfl) ?_
  repeat (refine wpG_step (fun K hK => ?_); go_simp; first | (refine hK _ ?_; clear hK K) | (apply Exists.intro; refine ⟨fun _ => ?_, hK _ ?_⟩; (first | (go_at_call 27; exact setR_any s rg rn x _) | (go_at_call 26; exact set_rd N _)); clear hK K))
  refine wpG_nil ?_
  refine ⟨[(fun b => .pointer (some ⟨b, 0, none⟩), .cells (cl zc) 23), (fun b => .pointer (some ⟨b, 0, none⟩), .cells (cl zc) 23)], ⟨rfl, fun p => ?_, rfl, fun p => ?_, trivial⟩, ?_⟩
  · simp [makes, go_sem] <;> rfl
  · simp [makes, go_sem] <;> rfl
  intro bs hl hnd hb q hh
  match bs, hl with
  | [b8, b9], _ =>
    obtain ⟨hh8, hh9, _⟩ := hh
    have hne : b9 ≠ b8 := by have := hnd; simp at this; exact fun e => this e.symm
    have hb8 := hb b8 (by simp)
    have hb9 := hb b9 (by simp)
    generalize hA : putMk _ _ _ _ = AA
    simp [putMk, Act.put] at hA
    subst hA
    clear hb hnd
    refine wpList_store_row rfl 23 _ _ rfl rfl b8 rfl (cl (setR ⟨s, rg, rn, x⟩)) rfl _ _ hh8 rfl (by kernel_rfl) (by simp [cl, Value.oneCell']) ?_
    obtain ⟨q1, e1, H8, K8⟩ := one_row _ q b8 hb8 _ (cl (setR ⟨s, rg, rn, x⟩)) _ hh8
    rw [e1]
    rw [← K8 b9 hne] at hh9
    refine wpList_store_row rfl 23 _ _ rfl rfl b9 rfl (cl (setM N)) rfl _ _ hh9 rfl (by kernel_rfl) (by simp [cl, Value.oneCell']) ?_
    obtain ⟨q2, e2, H9, K9⟩ := one_row _ q1 b9 hb9 _ (cl (setM N)) _ hh9
    rw [e2]
    rw [← K9 b8 (fun e => hne e.symm)] at H8
    have i8 := oldIn_of hb8 H8
    have i9 := oldIn_of hb9 H9
    have c8 := row_cells H8
    have c9 := row_cells H9
    clear H8 H9 K8 K9 e1 e2 hh8 hh9 hb8 hb9 hne
    refine wpList_nil ?_
    have hsg := cl_get (setM N) g.toNat (by omega)
    have hv : ∀ w, Calls Try.prog 24 #[rdv N] w (Gives (.bool true) w) := fun w => by rw [← K1.out]; exact valid_any _ _ _ _ w
    have HV := Lib.hid hv; clear hv
    have hk2 := K2.out
    go_wp2
    refine wp_region_gw (by kernel_rfl) (by kernel_rfl) ?_
    repeat (quiet_step (first | (go_at_call 24; exact Gives.call (HV.out _))))
    refine wpQuiet_nil ?_
    intro _ hw'
    obtain ⟨p4, hw''⟩ := hw'
    subst hw''
    go_wp2
    go_loopw [57] (fun i wr => ∃ k : Nat, ∃ r : Regrown, k ≤ 8 ∧ i = .int .i64 k ∧ wr = gw (gw (((gw (gw (gw (((w.alloc (.cells (rd s rg rn x) 31)).alloc (.cells #[.int .i64 g, .int .i64 n] 25)).alloc (.cells (cl c) 23)) p1) p2) p3).alloc (.cells (rd N.s N.g N.n N.c) 31)).drew) q2) r) (fun i _ => 8 - (intOf i).toNat)
    case atStart => exact ⟨0, p4, by omega, rfl, rfl⟩
    case round =>
      obtain ⟨k, r, hk, rfl, rfl⟩ := hrel
      by_cases hlt : k < 8
      · have hk3 := K3.out k hlt
        have hg := cl_get c k hlt
        have hg8 := cl_get (setR ⟨s, rg, rn, x⟩) k hlt
        have hg9 := cl_get (setM N) k hlt
        by_cases hq1 : setM N k < setR ⟨s, rg, rn, x⟩ k
        · have hq2 : ¬ c k < setR ⟨s, rg, rn, x⟩ k := fun h => hk3 ⟨hq1, h⟩
          clear hk3
          go_wp2
          refine wp_region_gw (by kernel_rfl) (by kernel_rfl) ?_
          repeat (quiet_step (first | fail))
          refine wpQuiet_nil ?_
          intro _ hw'
          obtain ⟨p5, hw''⟩ := hw'
          subst hw''
          go_wp2
          go_roundw
          case rel =>
            obtain ⟨r', hr'⟩ := gw_two _ r p5
            exact ⟨k + 1, r', by omega, by go_num, hr'⟩
          case measure => simp [intOf]; omega
        · have hf : decide (setM N k < setR ⟨s, rg, rn, x⟩ k) = false := by simpa using hq1
          clear hk3
          go_wp2
          refine wp_region_gw (by kernel_rfl) (by kernel_rfl) ?_
          repeat (quiet_step (first | fail))
          refine wpQuiet_nil ?_
          intro _ hw'
          obtain ⟨p5, hw''⟩ := hw'
          subst hw''
          go_wp2
          go_roundw
          case rel =>
            obtain ⟨r', hr'⟩ := gw_two _ r p5
            exact ⟨k + 1, r', by omega, by go_num, hr'⟩
          case measure => simp [intOf]; omega
      · go_wp2
        go_ret; exact Gives.mk rfl (by repeat (first | exact Below.refl _ _ | refine below_gw ?_ (by simp; try omega) _ | refine Below.alloc ?_ (by simp; try omega) _ | refine Below.setCell ?_ (by simp; try omega) _ | refine Below.drew ?_))

theorem EpochAddKeeps_any (s : Bool) (rg rn : Int) (x : Clk) (g n : Int) (c : Clk) (w : World) :
    Calls Try.prog 10 #[.agg (rd s rg rn x), .agg #[.int .i64 g, .int .i64 n], .agg (cl c)] w (Gives (.bool true) w) := by
  cases hv : validR ⟨s, rg, rn, x⟩
  · exact keeps_no1 _ _ _ _ _ _ _ _ hv
  · by_cases h0 : g < 0
    · exact keeps_no2 _ _ _ _ _ _ _ _ hv h0
    · by_cases h8 : 8 ≤ g
      · exact keeps_no3 _ _ _ _ _ _ _ _ hv (by omega) h8
      · by_cases hn : n ≤ 0
        · exact keeps_no4 _ _ _ _ _ _ _ _ hv (by omega) (by omega) hn
        · exact keeps_yes _ _ _ _ _ _ _ _ hv (by omega) (by omega) (by omega)

end Go.Proofs.Ytkfngaobgnijmaa
