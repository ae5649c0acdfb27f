/- LinesValid, walked. -/
import Derived.Test.YthncoanmmnileaaTn
namespace Go.Proofs.Ythncoanmmnileaa
open Go.RowKit Go.Sort

set_option maxHeartbeats 2000000 in
theorem LinesValid_any (ad : Option Addr) (n cap : Nat) (f : Nat → Int) (sz : Int) (w : World) (h : RowAt w ad n f) :
    Calls Try.prog 4 #[tab ad n cap sz] w (Gives (.bool true) w) := by
  have HR0 := Lib.hid h; clear h
  have HW0 := Lib.hid (Below.refl w.heap.size w)
  by_cases hn : 1000 < n
  · have hn2 : (1000 : Int) < n := by omega
    go_enter Try.func4, Try.ntmps4
    go_wp2_with (go_at_call 10; refine (awake_any _).mono ?_; rintro e w1 ⟨rfl, p1, rfl⟩)
    go_ret; exact Gives.mk rfl (by repeat (first | exact Below.refl _ _ | refine below_gw ?_ (by simp; try omega) _ | refine Below.alloc ?_ (by simp; try omega) _ | refine Below.setCell ?_ (by simp; try omega) _ | refine Below.drew ?_))
  · have hn2 : ¬ (1000 : Int) < n := by omega
    have HV1 := Lib.hid (fun w ad' cap' (h : RowAt w ad' n f) (hc : n ≤ cap') => validL_any ad' n cap' f sz w h hc (by omega))
    have HV2 := Lib.hid (fun w (h : RowAt w ad n f) => validR_any ad n cap f sz w h (by omega))
    have HC1 := Lib.hid (fun w ad' cap' (h : RowAt w ad' n f) (hc : n ≤ cap') => countL_any ad' n cap' f sz w h hc (by omega))
    have HC2 := Lib.hid (fun w (h : RowAt w ad n f) => countR_any ad n cap f sz w h (by omega))
    generalize validT n f sz = V at *
    generalize countT n f sz = K at *
    go_enter Try.func4, Try.ntmps4
    go_wp2_with (go_at_call 10; refine (awake_any _).mono ?_; rintro e w1 ⟨rfl, p1, rfl⟩)
    rename_i hK
    refine wp_region_relL 15 [9, 10, 11, 12, 13, 14, 15, 16, 17, 18, 19, 20, 21, 22, 2] [fun _ v => v = tab ad n cap sz, fun w' v => ∃ ad' cap', v = tab ad' n cap' sz ∧ RowAt w' ad' n f ∧ n ≤ cap', fun _ v => v = .bool V, fun _ v => v = tab ad n cap sz, fun _ v => v = .bool V, fun _ v => v = .bool true, fun _ v => v = .bool true,
      fun _ v => v = tab ad n cap sz, fun w' v => ∃ ad' cap', v = tab ad' n cap' sz ∧ RowAt w' ad' n f ∧ n ≤ cap', fun _ v => v = .int .i64 K, fun _ v => v = tab ad n cap sz, fun _ v => v = .int .i64 K, fun _ v => v = .bool true, fun _ v => v = .bool true, fun _ v => v = .bool true] (by kernel_rfl) (by kernel_rfl) rfl rfl rfl ?_ ?_ ?_
    · refine ⟨?_, ?_, ?_, ?_, ?_, ?_, ?_, ?_, ?_, ?_, ?_, ?_, ?_, ?_, ?_, trivial⟩
      all_goals first
        | exact fun _ _ _ h => h
        | (rintro v w' q ⟨a1, a2, a3, a4, a5⟩
           exact ⟨a1, a2, a3, a4.gw q, a5⟩)
    · refine ⟨?_, ?_, ?_, ?_, ?_, ?_, ?_, ?_, ?_, ?_, ?_, ?_, ?_, ?_, ?_, trivial⟩
      · refine relAt_seen [1] rfl rfl rfl fun b p hs => ?_
        simp [allSeen, FofL, slot] at hs
        simp [execOp, relUpon, FofL, go_sem, gw_ex_self, hs]
      · refine relAt_seen [9] rfl rfl rfl fun b p hs => ?_
        simp [allSeen, FofL, slot] at hs
        simp [relUpon, FofL, go_sem, hs]
        exact (copied_any ad n cap f sz _ (HR0.out.below (by repeat (first | exact Below.refl _ _ | refine below_gw ?_ (by simp; try omega) _ | refine Below.alloc ?_ (by simp; try omega) _ | refine Below.setCell ?_ (by simp; try omega) _ | refine Below.drew ?_))) (by omega)).mono fun e w'' ⟨ad', cap', he, hb, hr, hc⟩ => ⟨_, he, ⟨ad', cap', rfl, hr, hc⟩, gw_of_below hb⟩
      · refine relAt_seen [10] rfl rfl rfl fun b p hs => ?_
        simp [allSeen, FofL, slot] at hs
        obtain ⟨ad', cap', e, hr, hc⟩ := hs
        simp [relUpon, FofL, go_sem, e]
        exact (HV1.out _ ad' cap' hr hc).mono fun e w'' ⟨he, q, hq⟩ => ⟨_, he, rfl, q, hq⟩
      · refine relAt_seen [1] rfl rfl rfl fun b p hs => ?_
        simp [allSeen, FofL, slot] at hs
        simp [execOp, relUpon, FofL, go_sem, gw_ex_self, hs]
      · refine relAt_seen [12] rfl rfl rfl fun b p hs => ?_
        simp [allSeen, FofL, slot] at hs
        simp [relUpon, FofL, go_sem, hs]
        exact (HV2.out _ (HR0.out.below (by repeat (first | exact Below.refl _ _ | refine below_gw ?_ (by simp; try omega) _ | refine Below.alloc ?_ (by simp; try omega) _ | refine Below.setCell ?_ (by simp; try omega) _ | refine Below.drew ?_)))).mono fun e w'' ⟨he, q, hq⟩ => ⟨_, he, rfl, q, hq⟩
      · refine relAt_seen [11, 13] rfl rfl rfl fun b p hs => ?_
        simp [allSeen, FofL, slot] at hs
        simp [execOp, relUpon, FofL, go_sem, gw_ex_self, hs]
      · refine relAt_seen [14] rfl rfl rfl fun b p hs => ?_
        simp [allSeen, FofL, slot] at hs
        simp [execOp, relUpon, FofL, go_sem, gw_ex_self, hs]
      · refine relAt_want [1, 15] rfl 6 15 true rfl rfl (by simp) (fun w v h => by simpa [FofL] using h) rfl fun b p hs => ?_
        simp [allSeen, FofL, slot] at hs
        simp [execOp, relUpon, FofL, go_sem, gw_ex_self, hs]
      · refine relAt_want [16, 15] rfl 6 15 true rfl rfl (by simp) (fun w v h => by simpa [FofL] using h) rfl fun b p hs => ?_
        simp [allSeen, FofL, slot] at hs
        simp [relUpon, FofL, go_sem, hs]
        exact (copied_any ad n cap f sz _ (HR0.out.below (by repeat (first | exact Below.refl _ _ | refine below_gw ?_ (by simp; try omega) _ | refine Below.alloc ?_ (by simp; try omega) _ | refine Below.setCell ?_ (by simp; try omega) _ | refine Below.drew ?_))) (by omega)).mono fun e w'' ⟨ad', cap', he, hb, hr, hc⟩ => ⟨_, he, ⟨ad', cap', rfl, hr, hc⟩, gw_of_below hb⟩
      · refine relAt_want [17, 15] rfl 6 15 true rfl rfl (by simp) (fun w v h => by simpa [FofL] using h) rfl fun b p hs => ?_
        simp [allSeen, FofL, slot] at hs
        obtain ⟨ad', cap', e, hr, hc⟩ := hs.1
        simp [relUpon, FofL, go_sem, e]
        exact (HC1.out _ ad' cap' hr hc).mono fun e w'' ⟨he, q, hq⟩ => ⟨_, he, rfl, q, hq⟩
      · refine relAt_want [1, 15] rfl 6 15 true rfl rfl (by simp) (fun w v h => by simpa [FofL] using h) rfl fun b p hs => ?_
        simp [allSeen, FofL, slot] at hs
        simp [execOp, relUpon, FofL, go_sem, gw_ex_self, hs]
      · refine relAt_want [19, 15] rfl 6 15 true rfl rfl (by simp) (fun w v h => by simpa [FofL] using h) rfl fun b p hs => ?_
        simp [allSeen, FofL, slot] at hs
        simp [relUpon, FofL, go_sem, hs]
        exact (HC2.out _ (HR0.out.below (by repeat (first | exact Below.refl _ _ | refine below_gw ?_ (by simp; try omega) _ | refine Below.alloc ?_ (by simp; try omega) _ | refine Below.setCell ?_ (by simp; try omega) _ | refine Below.drew ?_)))).mono fun e w'' ⟨he, q, hq⟩ => ⟨_, he, rfl, q, hq⟩
      · refine relAt_want [18, 20, 15] rfl 6 15 true rfl rfl (by simp) (fun w v h => by simpa [FofL] using h) rfl fun b p hs => ?_
        simp [allSeen, FofL, slot] at hs
        simp [execOp, relUpon, FofL, go_sem, gw_ex_self, hs]
      · refine relAt_seen [15, 21] rfl rfl rfl fun b p hs => ?_
        simp [allSeen, FofL, slot] at hs
        simp [execOp, relUpon, FofL, go_sem, gw_ex_self, hs]
      · refine relAt_seen [22] rfl rfl rfl fun b p hs => ?_
        simp [allSeen, FofL, slot] at hs
        simp [execOp, relUpon, FofL, go_sem, gw_ex_self, hs]
    · intro b p hdf hsz hout hF
      have h2 := hF 2
      simp [FofL, slot] at h2
      refine wpList_nil ?_
      simp only [Exit.then]
      refine hK _ _ ?_
      go_step
      exact bodyPost_ret (results_tmp rfl _ _ _) hdf (Gives.mk (by simpa using h2) (by repeat (first | exact Below.refl _ _ | refine below_gw ?_ (by simp; try omega) _ | refine Below.alloc ?_ (by simp; try omega) _ | refine Below.setCell ?_ (by simp; try omega) _ | refine Below.drew ?_)))

end Go.Proofs.Ythncoanmmnileaa
