/- The functions on epochs and sets of reads: what each call returns. -/
import Derived.Test.YtkfngaobgnijmaaEpM
namespace Go.Proofs.Ytkfngaobgnijmaa
open Go.RowKit Go.Sort

theorem idx_cl (c : Clk) (k : Nat) (hk : k < 8) : ∀ w, (Instr.index 23 (.agg #[Value.int .i64 (c 0), .int .i64 (c 1), .int .i64 (c 2), .int .i64 (c 3), .int .i64 (c 4), .int .i64 (c 5), .int .i64 (c 6), .int .i64 (c 7)]) (.int .i64 (k : Int))).run Try.prog w = .ok (.int .i64 (c k)) w := by
  intro w
  rcases lt8 hk with rfl | rfl | rfl | rfl | rfl | rfl | rfl | rfl <;> kernel_rfl

set_option maxHeartbeats 400000 in
theorem expand_any (s : Bool) (g n : Int) (c : Clk) (w : World) :
    Calls Try.prog 30 #[.agg (rd s g n c)] w (Gives (.agg (cl (expandM ⟨s, g, n, c⟩))) w) := by
  by_cases hp : plc g = true
  · have hb : 0 ≤ g ∧ g < 8 := by simpa [plc] using hp
    obtain ⟨h0, h8⟩ := hb
    by_cases hn : 0 < n
    · have he : cl (upd c g.toNat n) = cl (expandM ⟨s, g, n, c⟩) := by simp [expandM, hp, hn]
      have he' := Lib.hid he; clear he
      have hs : ∀ x, (#[Value.int .i64 (c 0), .int .i64 (c 1), .int .i64 (c 2), .int .i64 (c 3), .int .i64 (c 4), .int .i64 (c 5), .int .i64 (c 6), .int .i64 (c 7)] : Array Value).setIfInBounds g.toNat (.int .i64 x) = cl (upd c g.toNat x) := fun x => cl_set c g.toNat x
      go_enter Try.func30, Try.ntmps30
      go_wp2
      exact bodyPost_ret (v := .agg (cl (upd c g.toNat n))) (by simp [results, Try.results30, go_sem] <;> rfl) rfl (Gives.mk (by rw [he'.out]) (by repeat (first | exact Below.refl _ _ | refine below_gw ?_ (by simp; try omega) _ | refine Below.alloc ?_ (by simp; try omega) _ | refine Below.setCell ?_ (by simp; try omega) _ | refine Below.drew ?_)))
    · have he : cl c = cl (expandM ⟨s, g, n, c⟩) := by simp [expandM, hn]
      have he' := Lib.hid he; clear he
      go_enter Try.func30, Try.ntmps30
      go_wp2
      exact bodyPost_ret (v := .agg (cl c)) (by simp [results, Try.results30, go_sem] <;> rfl) rfl (Gives.mk (by rw [← he'.out]) (by repeat (first | exact Below.refl _ _ | refine below_gw ?_ (by simp; try omega) _ | refine Below.alloc ?_ (by simp; try omega) _ | refine Below.setCell ?_ (by simp; try omega) _ | refine Below.drew ?_)))
  · have he : cl c = cl (expandM ⟨s, g, n, c⟩) := by simp [expandM, hp]
    have he' := Lib.hid he; clear he
    have hb : g < 0 ∨ 8 ≤ g := by simp [plc] at hp; omega
    clear hp
    rcases hb with hb | hb
    all_goals
      go_enter Try.func30, Try.ntmps30
      go_wp2
      exact bodyPost_ret (v := .agg (cl c)) (by simp [results, Try.results30, go_sem] <;> rfl) rfl (Gives.mk (by rw [← he'.out]) (by repeat (first | exact Below.refl _ _ | refine below_gw ?_ (by simp; try omega) _ | refine Below.alloc ?_ (by simp; try omega) _ | refine Below.setCell ?_ (by simp; try omega) _ | refine Below.drew ?_)))

set_option maxHeartbeats 400000 in
theorem compact_any (c : Clk) (w : World) :
    Calls Try.prog 31 #[.agg (cl c)] w (Gives (rdv (compactM c)) w) := by
  go_enter Try.func31, Try.ntmps31
  go_wp2
  go_loopw [3, 7] (fun n i wr => ∃ k : Nat, k ≤ 8 ∧ i = .int .i64 k ∧ n = .int .i64 (cnt c k) ∧ wr = ((w.alloc (.cells (cl c) 23)).alloc (.cells (rd false 0 0 zc) 31)).alloc (.cells #[.int .i64 (lg c k), .int .i64 (ln c k)] 25)) (fun _ i _ => 8 - (intOf i).toNat)
  case atStart => exact ⟨0, by omega, rfl, rfl, rfl⟩
  case round =>
    obtain ⟨k, hk, rfl, rfl, rfl⟩ := hrel
    have hc := cnt_le c k
    by_cases hlt : k < 8
    · have hg := cl_get c k hlt
      by_cases hp : 0 < c k
      · go_wp2
        exact ⟨⟨k + 1, by omega, by go_num, by rw [cnt_hi hp]; go_num, by simp [lg, ln, hp]⟩, by simp [intOf]; omega⟩
      · go_wp2
        exact ⟨⟨k + 1, by omega, by go_num, by rw [cnt_lo hp], by simp [lg, ln, hp]⟩, by simp [intOf]; omega⟩
    · obtain rfl : k = 8 := by omega
      by_cases h1 : 1 < cnt c 8
      · go_wp2
        exact bodyPost_ret (v := .agg (rd true 0 0 c)) (by simp [results, Try.results31, go_sem] <;> rfl) rfl (Gives.mk (rdv_compact_hi h1) (by repeat (first | exact Below.refl _ _ | refine below_gw ?_ (by simp; try omega) _ | refine Below.alloc ?_ (by simp; try omega) _ | refine Below.setCell ?_ (by simp; try omega) _ | refine Below.drew ?_)))
      · go_wp2
        exact bodyPost_ret (v := .agg (rd false (lg c 8) (ln c 8) zc)) (by simp [results, Try.results31, go_sem] <;> rfl) rfl (Gives.mk (rdv_compact_lo h1) (by repeat (first | exact Below.refl _ _ | refine below_gw ?_ (by simp; try omega) _ | refine Below.alloc ?_ (by simp; try omega) _ | refine Below.setCell ?_ (by simp; try omega) _ | refine Below.drew ?_)))


theorem nnB_of {c : Clk} (h : ∀ j, j < 8 → 0 ≤ c j) : nnB c = true := (nnB_iff c).2 h
theorem nnB_not {c : Clk} {k : Nat} (hk : k < 8) (h : c k < 0) : nnB c = false := by
  cases hb : nnB c
  · rfl
  · have := (nnB_iff c).1 hb k hk; omega
theorem valid_neg {s : Bool} {g n : Int} {c : Clk} {k : Nat} (hk : k < 8) (h : c k < 0) : Value.bool false = .bool (validM ⟨s, g, n, c⟩) := by
  simp [validM, nnB_not hk h]
theorem valid_pos {s : Bool} {g n : Int} {c : Clk} (h : ∀ j, j < 8 → 0 ≤ c j) : Value.bool (rdE (compactM (expandM ⟨s, g, n, c⟩)) ⟨s, g, n, c⟩) = .bool (validM ⟨s, g, n, c⟩) := by
  simp [validM, nnB_of h]

set_option maxHeartbeats 400000 in
theorem valid_any (s : Bool) (g n : Int) (c : Clk) (w : World) :
    Calls Try.prog 24 #[.agg (rd s g n c)] w (Gives (.bool (validM ⟨s, g, n, c⟩)) w) := by
  go_enter Try.func24, Try.ntmps24
  go_wp2
  go_loop [7] (fun i => ∃ k : Nat, k ≤ 8 ∧ i = .int .i64 k ∧ Hid (∀ j, j < k → 0 ≤ c j)) (fun i => 8 - (intOf i).toNat)
  case atStart => exact ⟨0, by omega, rfl, Lib.hid (by intro j hj; omega)⟩
  case round =>
    obtain ⟨k, hk, rfl, HP⟩ := hrel
    by_cases hlt : k < 8
    · have hi := idx_cl c k hlt
      by_cases hn : c k < 0
      · go_wp2
        go_ret; exact Gives.mk (valid_neg hlt hn) (by repeat (first | exact Below.refl _ _ | refine below_gw ?_ (by simp; try omega) _ | refine Below.alloc ?_ (by simp; try omega) _ | refine Below.setCell ?_ (by simp; try omega) _ | refine Below.drew ?_))
      · have HN : Hid (∀ j, j < k + 1 → 0 ≤ c j) := Lib.hid (by
          intro j hj
          by_cases e : j = k
          · subst e; omega
          · exact HP.out j (by omega))
        go_wp2
        go_round
        case rel => exact ⟨k + 1, by omega, by go_num, HN⟩
        case measure => simp [intOf]; omega
    · obtain rfl : k = 8 := by omega
      have he := fun w => run_eql_rdv (compactM (expandM ⟨s, g, n, c⟩)) s g n c w
      go_wp2
      refine wp_region_gw (by kernel_rfl) (by kernel_rfl) ?_
      repeat (quiet_step (first | (go_at_call 30; exact Gives.call (expand_any s g n c _)) | (go_at_call 31; exact Gives.call (compact_any (expandM ⟨s, g, n, c⟩) _))))
      refine wpQuiet_nil ?_
      intro _ hw'
      obtain ⟨p1, hw''⟩ := hw'
      subst hw''
      go_wp2
      go_ret; exact Gives.mk (valid_pos HP.out) (by repeat (first | exact Below.refl _ _ | refine below_gw ?_ (by simp; try omega) _ | refine Below.alloc ?_ (by simp; try omega) _ | refine Below.setCell ?_ (by simp; try omega) _ | refine Below.drew ?_))

set_option maxHeartbeats 400000 in
theorem set_any (s : Bool) (g n : Int) (c : Clk) (w : World) :
    Calls Try.prog 26 #[.agg (rd s g n c)] w (Gives (.agg (cl (setM ⟨s, g, n, c⟩))) w) := by
  cases hv : validM ⟨s, g, n, c⟩
  · have he : cl zc = cl (setM ⟨s, g, n, c⟩) := by simp [setM, hv]
    have he' := Lib.hid he; clear he
    go_enter Try.func26, Try.ntmps26
    go_wp2_with (go_at_call 24; refine (valid_any s g n c _).mono ?_; rintro e w1 ⟨rfl, p1, rfl⟩)
    exact bodyPost_ret (v := .agg (cl zc)) (by simp [results, Try.results26, go_sem] <;> rfl) rfl (Gives.mk (by rw [he'.out]) (by repeat (first | exact Below.refl _ _ | refine below_gw ?_ (by simp; try omega) _ | refine Below.alloc ?_ (by simp; try omega) _ | refine Below.setCell ?_ (by simp; try omega) _ | refine Below.drew ?_)))
  · have he : cl (expandM ⟨s, g, n, c⟩) = cl (setM ⟨s, g, n, c⟩) := by simp [setM, hv]
    have he' := Lib.hid he; clear he
    go_enter Try.func26, Try.ntmps26
    go_wp2_with (first | (go_at_call 24; refine (valid_any s g n c _).mono ?_; rintro e w1 ⟨rfl, p1, rfl⟩) | (go_at_call 30; refine (expand_any s g n c _).mono ?_; rintro e w1 ⟨rfl, p2, rfl⟩))
    exact bodyPost_ret (v := .agg (cl (expandM ⟨s, g, n, c⟩))) (by simp [results, Try.results26, go_sem] <;> rfl) rfl (Gives.mk (by rw [he'.out]) (by repeat (first | exact Below.refl _ _ | refine below_gw ?_ (by simp; try omega) _ | refine Below.alloc ?_ (by simp; try omega) _ | refine Below.setCell ?_ (by simp; try omega) _ | refine Below.drew ?_)))

theorem of_yes {c : Clk} {g : Int} (h0 : 0 ≤ g) (h8 : g < 8) (h : 0 < c g.toNat) : Value.agg #[.int .i64 g, .int .i64 (c g.toNat)] = .agg #[.int .i64 (ofM c g).1, .int .i64 (ofM c g).2] := by
  simp [ofM, plc, h0, h8, h]
theorem of_no {c : Clk} {g : Int} (h : ¬ (0 ≤ g ∧ g < 8 ∧ 0 < c g.toNat)) : Value.agg #[.int .i64 0, .int .i64 0] = .agg #[.int .i64 (ofM c g).1, .int .i64 (ofM c g).2] := by
  have : ¬ (plc g = true ∧ 0 < c g.toNat) := by rw [plc_iff]; omega
  simp [ofM, this]

theorem plc_false {g : Int} (h : ¬ (0 ≤ g ∧ g < 8)) : plc g = false := by
  cases hh : plc g
  · rfl
  · exact absurd ((plc_iff g).1 hh) h
set_option maxHeartbeats 400000 in
theorem gor_any (g : Int) (w : World) : Calls Try.prog 28 #[.int .i64 g] w fun e w' => e = .returned (.bool (plc g)) ∧ w = w' := by
  by_cases h0 : 0 ≤ g
  · by_cases h8 : g < 8
    · have he : plc g = true := by simp [plc, h0, h8]
      have he' := Lib.hid he; clear he
      go_enter Try.func28, Try.ntmps28
      go_wp2
      go_ret
      exact ⟨by rw [he'.out]; first | rfl | simp [h8], rfl⟩
    · have he : plc g = false := by simp [plc, h8]
      have he' := Lib.hid he; clear he
      go_enter Try.func28, Try.ntmps28
      go_wp2
      go_ret
      exact ⟨by rw [he'.out]; first | rfl | simp [h8], rfl⟩
  · have he : plc g = false := by simp [plc, h0]
    have he' := Lib.hid he; clear he
    go_enter Try.func28, Try.ntmps28
    go_wp2
    go_ret
    exact ⟨by rw [he'.out]; first | rfl | simp, rfl⟩
theorem gor_any_yes {g : Int} (h : 0 ≤ g ∧ g < 8) (w : World) : Calls Try.prog 28 #[.int .i64 g] w fun e w' => e = .returned (.bool true) ∧ w = w' := by
  have := gor_any g w
  rwa [(plc_iff g).2 h] at this
theorem gor_any_no {g : Int} (h : ¬ (0 ≤ g ∧ g < 8)) (w : World) : Calls Try.prog 28 #[.int .i64 g] w fun e w' => e = .returned (.bool false) ∧ w = w' := by
  have := gor_any g w
  rwa [plc_false h] at this

set_option maxHeartbeats 400000 in
theorem place_any (g : Int) (w : World) : Calls Try.prog 29 #[.int .i64 g] w fun e w' => e = .returned (.bool (plc g)) ∧ w = w' := by
  by_cases h0 : 0 ≤ g
  · by_cases h8 : g < 8
    · have he : plc g = true := by simp [plc, h0, h8]
      have he' := Lib.hid he; clear he
      go_enter Try.func29, Try.ntmps29
      go_wp2
      go_ret
      exact ⟨by rw [he'.out]; first | rfl | simp [h8], rfl⟩
    · have he : plc g = false := by simp [plc, h8]
      have he' := Lib.hid he; clear he
      go_enter Try.func29, Try.ntmps29
      go_wp2
      go_ret
      exact ⟨by rw [he'.out]; first | rfl | simp [h8], rfl⟩
  · have he : plc g = false := by simp [plc, h0]
    have he' := Lib.hid he; clear he
    go_enter Try.func29, Try.ntmps29
    go_wp2
    go_ret
    exact ⟨by rw [he'.out]; first | rfl | simp, rfl⟩
theorem place_any_yes {g : Int} (h : 0 ≤ g ∧ g < 8) (w : World) : Calls Try.prog 29 #[.int .i64 g] w fun e w' => e = .returned (.bool true) ∧ w = w' := by
  have := place_any g w
  rwa [(plc_iff g).2 h] at this
theorem place_any_no {g : Int} (h : ¬ (0 ≤ g ∧ g < 8)) (w : World) : Calls Try.prog 29 #[.int .i64 g] w fun e w' => e = .returned (.bool false) ∧ w = w' := by
  have := place_any g w
  rwa [plc_false h] at this

set_option maxHeartbeats 400000 in
theorem of_any (c : Clk) (g : Int) (w : World) :
    Calls Try.prog 12 #[.agg (cl c), .int .i64 g] w (Gives (.agg #[.int .i64 (ofM c g).1, .int .i64 (ofM c g).2]) w) := by
  by_cases hp : 0 ≤ g ∧ g < 8
  · obtain ⟨h0, h8⟩ := hp
    have hg := cl_get c g.toNat (by omega)
    by_cases hn : 0 < c g.toNat
    · have he := Lib.hid (of_yes h0 h8 hn)
      go_enter Try.func12, Try.ntmps12
      go_wp2
      exact bodyPost_ret (v := .agg #[.int .i64 g, .int .i64 (c g.toNat)]) (by simp [results, Try.results12, go_sem] <;> rfl) rfl (Gives.mk he.out (by repeat (first | exact Below.refl _ _ | refine below_gw ?_ (by simp; try omega) _ | refine Below.alloc ?_ (by simp; try omega) _ | refine Below.setCell ?_ (by simp; try omega) _ | refine Below.drew ?_)))
    · have he := Lib.hid (of_no (c := c) (g := g) (by omega))
      go_enter Try.func12, Try.ntmps12
      go_wp2
      exact bodyPost_ret (v := .agg #[.int .i64 0, .int .i64 0]) (by simp [results, Try.results12, go_sem] <;> rfl) rfl (Gives.mk he.out (by repeat (first | exact Below.refl _ _ | refine below_gw ?_ (by simp; try omega) _ | refine Below.alloc ?_ (by simp; try omega) _ | refine Below.setCell ?_ (by simp; try omega) _ | refine Below.drew ?_)))
  · have he := Lib.hid (of_no (c := c) (g := g) (by omega))
    have hb : g < 0 ∨ 8 ≤ g := by omega
    clear hp
    rcases hb with hb | hb
    all_goals
      go_enter Try.func12, Try.ntmps12
      go_wp2
      exact bodyPost_ret (v := .agg #[.int .i64 0, .int .i64 0]) (by simp [results, Try.results12, go_sem] <;> rfl) rfl (Gives.mk he.out (by repeat (first | exact Below.refl _ _ | refine below_gw ?_ (by simp; try omega) _ | refine Below.alloc ?_ (by simp; try omega) _ | refine Below.setCell ?_ (by simp; try omega) _ | refine Below.drew ?_)))

set_option maxHeartbeats 400000 in
theorem ofR_any (c : Clk) (g : Int) (w : World) :
    Calls Try.prog 13 #[.agg (cl c), .int .i64 g] w (Gives (.agg #[.int .i64 (ofM c g).1, .int .i64 (ofM c g).2]) w) := by
  by_cases hp : 0 ≤ g ∧ g < 8
  · obtain ⟨h0, h8⟩ := hp
    have hg := cl_get c g.toNat (by omega)
    by_cases hn : 0 < c g.toNat
    · have he := Lib.hid (of_yes h0 h8 hn)
      go_enter Try.func13, Try.ntmps13
      go_wp2
      exact bodyPost_ret (v := .agg #[.int .i64 g, .int .i64 (c g.toNat)]) (by simp [results, Try.results13, go_sem] <;> rfl) rfl (Gives.mk he.out (by repeat (first | exact Below.refl _ _ | refine below_gw ?_ (by simp; try omega) _ | refine Below.alloc ?_ (by simp; try omega) _ | refine Below.setCell ?_ (by simp; try omega) _ | refine Below.drew ?_)))
    · have he := Lib.hid (of_no (c := c) (g := g) (by omega))
      go_enter Try.func13, Try.ntmps13
      go_wp2
      exact bodyPost_ret (v := .agg #[.int .i64 0, .int .i64 0]) (by simp [results, Try.results13, go_sem] <;> rfl) rfl (Gives.mk he.out (by repeat (first | exact Below.refl _ _ | refine below_gw ?_ (by simp; try omega) _ | refine Below.alloc ?_ (by simp; try omega) _ | refine Below.setCell ?_ (by simp; try omega) _ | refine Below.drew ?_)))
  · have he := Lib.hid (of_no (c := c) (g := g) (by omega))
    have hb : g < 0 ∨ 8 ≤ g := by omega
    clear hp
    rcases hb with hb | hb
    all_goals
      go_enter Try.func13, Try.ntmps13
      go_wp2
      exact bodyPost_ret (v := .agg #[.int .i64 0, .int .i64 0]) (by simp [results, Try.results13, go_sem] <;> rfl) rfl (Gives.mk he.out (by repeat (first | exact Below.refl _ _ | refine below_gw ?_ (by simp; try omega) _ | refine Below.alloc ?_ (by simp; try omega) _ | refine Below.setCell ?_ (by simp; try omega) _ | refine Below.drew ?_)))


theorem leq_yes {c : Clk} {g n : Int} (h0 : 0 ≤ g) (h8 : g < 8) : Value.bool (decide (n ≤ c g.toNat)) = .bool (leqM g n c) := by
  simp [leqM, plc, h0, h8]
theorem leq_no {c : Clk} {g n : Int} (h : ¬ (0 ≤ g ∧ g < 8)) : Value.bool false = .bool (leqM g n c) := by
  have : ¬ plc g = true := by rw [plc_iff]; omega
  simp [leqM, this]
set_option maxHeartbeats 400000 in
theorem leq_any (g n : Int) (c : Clk) (w : World) :
    Calls Try.prog 14 #[.agg #[.int .i64 g, .int .i64 n], .agg (cl c)] w (Gives (.bool (leqM g n c)) w) := by
  by_cases hp : 0 ≤ g ∧ g < 8
  · have hpl := fun w => gor_any_yes hp w
    have hpl' := Lib.hid hpl; clear hpl
    obtain ⟨h0, h8⟩ := hp
    have hg := cl_get c g.toNat (by omega)
    have he := Lib.hid (leq_yes (c := c) (n := n) h0 h8)
    go_enter Try.func14, Try.ntmps14
    go_wp2
    refine wp_region_gw (by kernel_rfl) (by kernel_rfl) ?_
    repeat (quiet_step (first | (go_at_call 28; exact Same.call (hpl'.out _))))
    refine wpQuiet_nil ?_
    intro _ hw'
    obtain ⟨p1, hw''⟩ := hw'
    subst hw''
    go_wp2
    go_ret; exact Gives.mk he.out (by repeat (first | exact Below.refl _ _ | refine below_gw ?_ (by simp; try omega) _ | refine Below.alloc ?_ (by simp; try omega) _ | refine Below.setCell ?_ (by simp; try omega) _ | refine Below.drew ?_))
  · have hpl := fun w => gor_any_no hp w
    have hpl' := Lib.hid hpl; clear hpl
    have he := Lib.hid (leq_no (c := c) (n := n) hp)
    clear hp
    go_enter Try.func14, Try.ntmps14
    go_wp2
    refine wp_region_gw (by kernel_rfl) (by kernel_rfl) ?_
    repeat (quiet_step (first | (go_at_call 28; exact Same.call (hpl'.out _))))
    refine wpQuiet_nil ?_
    intro _ hw'
    obtain ⟨p1, hw''⟩ := hw'
    subst hw''
    go_wp2
    go_ret; exact Gives.mk he.out (by repeat (first | exact Below.refl _ _ | refine below_gw ?_ (by simp; try omega) _ | refine Below.alloc ?_ (by simp; try omega) _ | refine Below.setCell ?_ (by simp; try omega) _ | refine Below.drew ?_))

set_option maxHeartbeats 400000 in
theorem leqR_any (g n : Int) (c : Clk) (w : World) :
    Calls Try.prog 15 #[.agg #[.int .i64 g, .int .i64 n], .agg (cl c)] w (Gives (.bool (leqM g n c)) w) := by
  by_cases hp : 0 ≤ g ∧ g < 8
  · have hpl := fun w => place_any_yes hp w
    have hpl' := Lib.hid hpl; clear hpl
    obtain ⟨h0, h8⟩ := hp
    have hg := cl_get c g.toNat (by omega)
    have he := Lib.hid (leq_yes (c := c) (n := n) h0 h8)
    go_enter Try.func15, Try.ntmps15
    go_wp2
    refine wp_region_gw (by kernel_rfl) (by kernel_rfl) ?_
    repeat (quiet_step (first | (go_at_call 29; exact Same.call (hpl'.out _))))
    refine wpQuiet_nil ?_
    intro _ hw'
    obtain ⟨p1, hw''⟩ := hw'
    subst hw''
    go_wp2
    go_ret; exact Gives.mk he.out (by repeat (first | exact Below.refl _ _ | refine below_gw ?_ (by simp; try omega) _ | refine Below.alloc ?_ (by simp; try omega) _ | refine Below.setCell ?_ (by simp; try omega) _ | refine Below.drew ?_))
  · have hpl := fun w => place_any_no hp w
    have hpl' := Lib.hid hpl; clear hpl
    have he := Lib.hid (leq_no (c := c) (n := n) hp)
    clear hp
    go_enter Try.func15, Try.ntmps15
    go_wp2
    refine wp_region_gw (by kernel_rfl) (by kernel_rfl) ?_
    repeat (quiet_step (first | (go_at_call 29; exact Same.call (hpl'.out _))))
    refine wpQuiet_nil ?_
    intro _ hw'
    obtain ⟨p1, hw''⟩ := hw'
    subst hw''
    go_wp2
    go_ret; exact Gives.mk he.out (by repeat (first | exact Below.refl _ _ | refine below_gw ?_ (by simp; try omega) _ | refine Below.alloc ?_ (by simp; try omega) _ | refine Below.setCell ?_ (by simp; try omega) _ | refine Below.drew ?_))


end Go.Proofs.Ytkfngaobgnijmaa
