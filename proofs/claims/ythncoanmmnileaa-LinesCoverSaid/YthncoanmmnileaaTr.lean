/- LinesTable, walked. -/
import Derived.Test.YthncoanmmnileaaTn
namespace Go.Proofs.Ythncoanmmnileaa
open Go.RowKit Go.Sort

theorem field_tab (ad : Option Addr) (n cap : Nat) (sz : Int) (w : World) : (Instr.field 25 (tab ad n cap sz) 0).run Try.prog w = .ok (.slice ad n cap) w := by kernel_rfl
theorem stL_spec (s : ByteArray) : ∀ k, (stL s k).getD 0 0 = 0 ∧ (∀ i, 0 < i → i < (stL s k).length → (stL s k).getD (i - 1) 0 < (stL s k).getD i 0) ∧ ∀ i, i < (stL s k).length → (stL s k).getD i 0 ≤ k
  | 0 => by
    refine ⟨rfl, fun i h0 hi => ?_, fun i hi => ?_⟩
    · simp [stL] at hi; omega
    · simp [stL] at hi; subst hi; simp [stL]
  | k + 1 => by
    obtain ⟨a, b, c⟩ := stL_spec s k
    obtain ⟨l1, _⟩ := stL_len s k
    simp only [stL]
    split
    · generalize stL s k = L at *
      have old : ∀ i, i < L.length → (L ++ [(k : Int) + 1]).getD i 0 = L.getD i 0 := fun i hi => by
        simp [List.getD, List.getElem?_append_left hi]
      have new : (L ++ [(k : Int) + 1]).getD L.length 0 = (k : Int) + 1 := by simp [List.getD]
      refine ⟨by rw [old 0 l1]; exact a, fun i h0 hi => ?_, fun i hi => ?_⟩
      · simp at hi
        by_cases e : i = L.length
        · subst e
          rw [new, old _ (by omega)]
          have := c (L.length - 1) (by omega)
          omega
        · rw [old _ (by omega), old _ (by omega)]
          exact b i h0 (by omega)
      · simp at hi
        by_cases e : i = L.length
        · subst e; rw [new]; omega
        · rw [old _ (by omega)]
          have := c i (by omega)
          omega
    · exact ⟨a, b, fun i hi => by have := c i hi; omega⟩
theorem stL_valid (s : ByteArray) (hs : s.size ≤ 3000) : validT (stL s s.size).length (fun i => (stL s s.size).getD i 0) s.size = true := by
  obtain ⟨a, b, c⟩ := stL_spec s s.size
  obtain ⟨l1, _⟩ := stL_len s s.size
  exact (validT_iff _ _ _).2 ⟨l1, a, b, c _ (by omega), by omega⟩

set_option maxHeartbeats 2000000 in
theorem LinesTable_any (s : ByteArray) (w : World) :
    Calls Try.prog 3 #[.string s] w (Gives (.bool true) w) := by
  have HW0 := Lib.hid (Below.refl w.heap.size w)
  by_cases hn : 3000 < s.size
  · have hn2 : (3000 : Int) < s.size := by omega
    go_enter Try.func3, Try.ntmps3
    go_wp2_with (go_at_call 10; refine (awake_any _).mono ?_; rintro e w1 ⟨rfl, p1, rfl⟩)
    go_ret; exact Gives.mk rfl (by repeat (first | exact Below.refl _ _ | refine below_gw ?_ (by simp; try omega) _ | refine Below.alloc ?_ (by simp; try omega) _ | refine Below.setCell ?_ (by simp; try omega) _ | refine Below.drew ?_))
  · have hn2 : ¬ (3000 : Int) < s.size := by omega
    have hs2 : s.size ≤ 3000 := by omega
    have hv := stL_valid s hs2
    have hl := stL_len s s.size
    have hof := fun w => ofL_any s w hs2
    have hofR := fun w => ofR_any s w hs2
    generalize hL : stL s s.size = L at *
    have hn4 : L.length ≤ 4000 := by omega
    have HOF := Lib.hid hof
    have HOFR := Lib.hid hofR
    have HVV := Lib.hid hv
    clear hof hofR hv hl hL
    generalize hf : (fun i => L.getD i 0) = f at *
    generalize hnn : L.length = n at *
    generalize hsz : (s.size : Int) = sz at *
    have HV0 := Lib.hid (fun w ad cap (h : RowAt w ad n f) (hc : n ≤ cap) => (by have := validL_any ad n cap f sz w h hc hn4; rwa [HVV.out] at this : Calls Try.prog 14 #[tab ad n cap sz] w (Gives (.bool true) w)))
    have HC0 := Lib.hid (fun w ad cap (h : RowAt w ad n f) (hc : n ≤ cap) => (by have := countL_any ad n cap f sz w h hc hn4; rwa [show countT n f sz = n by unfold countT; rw [if_pos HVV.out]] at this : Calls Try.prog 15 #[tab ad n cap sz] w (Gives (.int .i64 n) w)))
    subst hsz
    clear hf hnn
    go_enter Try.func3, Try.ntmps3
    go_wp2_with (first | (go_at_call 10; refine (awake_any _).mono ?_; rintro e w1 ⟨rfl, p1, rfl⟩) | (go_at_call 11; refine (HOF.out _).mono ?_; rintro e w1 ⟨ad, cap, rfl, hB, hR, hc⟩; have HR := Lib.hid hR; have HCC := Lib.hid hc; have HW := Lib.hid (show Below w.heap.size w w1 from below_from HW0.out (below_from (by repeat (first | exact Below.refl _ _ | refine below_gw ?_ (by simp; try omega) _ | refine Below.alloc ?_ (by simp; try omega) _ | refine Below.setCell ?_ (by simp; try omega) _ | refine Below.drew ?_)) hB)); clear hB hR hc; refine Stop.here ?_))
    refine Stop.on ?_
    have HV := Lib.hid (fun w (h : RowAt w ad n f) => HV0.out w ad cap h HCC.out)
    have HC := Lib.hid (fun w (h : RowAt w ad n f) => HC0.out w ad cap h HCC.out)
    have HS := Lib.hid (fun w ad' cap' (h : RowAt w ad n f) (h' : RowAt w ad' n f) => same_yes ad ad' n cap cap' f (s.size : Int) w h h' hn4)
    go_wp2
    rename_i hK
    generalize hsz : (s.size : Int) = sz at *
    refine wp_region_relL 18 [11, 12, 13, 14, 15, 16, 17, 18, 19, 20, 21, 22, 23, 24, 25, 26, 27, 2] [fun _ v => v = tab ad n cap sz, fun _ v => v = .string s, fun w' v => ∃ ad' cap', v = tab ad' n cap' sz ∧ RowAt w' ad' n f ∧ n ≤ cap', fun _ v => v = .bool true, fun _ v => v = .bool true, fun _ v => v = tab ad n cap sz, fun _ v => v = .bool true, fun _ v => v = .bool true, fun _ v => v = .bool true, fun _ v => v = tab ad n cap sz, fun _ v => v = .int .i64 n, fun _ v => v = .string s, fun w' v => ∃ ad' cap', v = tab ad' n cap' sz ∧ RowAt w' ad' n f ∧ n ≤ cap', fun _ v => ∃ ad' cap', v = .slice ad' n cap', fun _ v => v = .int .i64 n, fun _ v => v = .bool true, fun _ v => v = .bool true, fun _ v => v = .bool true] (by kernel_rfl) (by kernel_rfl) rfl rfl rfl ?_ ?_ ?_
    · refine ⟨?_, ?_, ?_, ?_, ?_, ?_, ?_, ?_, ?_, ?_, ?_, ?_, ?_, ?_, ?_, ?_, ?_, ?_, trivial⟩
      all_goals first
        | exact fun _ _ _ h => h
        | (rintro v w' q ⟨a1, a2, a3, a4, a5⟩
           exact ⟨a1, a2, a3, a4.gw q, a5⟩)
    · refine ⟨?_, ?_, ?_, ?_, ?_, ?_, ?_, ?_, ?_, ?_, ?_, ?_, ?_, ?_, ?_, ?_, ?_, ?_, trivial⟩
      · refine relAt_seen [3] rfl rfl rfl fun b p hs => ?_
        simp [allSeen, FofL, slot] at hs
        simp [execOp, relUpon, FofL, go_sem, gw_ex_self, hs]
      · refine relAt_seen [0] rfl rfl rfl fun b p hs => ?_
        simp [allSeen, FofL, slot] at hs
        simp [execOp, relUpon, FofL, go_sem, gw_ex_self, hs]
      · refine relAt_seen [12] rfl rfl rfl fun b p hs => ?_
        simp [allSeen, FofL, slot] at hs
        simp [relUpon, FofL, go_sem, hs]
        exact (HOFR.out _).mono fun e w'' ⟨ad', cap', he, hb, hr, hc⟩ => ⟨_, he, ⟨ad', cap', rfl, hr, hc⟩, gw_of_below hb⟩
      · refine relAt_seen [11, 13] rfl rfl rfl fun b p hs => ?_
        simp [allSeen, FofL, slot] at hs
        obtain ⟨h11, ad', cap', e, hr, hc⟩ := hs
        simp [relUpon, FofL, go_sem, e, h11]
        exact (HS.out _ ad' cap' (HR.out.below (by repeat (first | exact Below.refl _ _ | refine below_gw ?_ (by simp; try omega) _ | refine Below.alloc ?_ (by simp; try omega) _ | refine Below.setCell ?_ (by simp; try omega) _ | refine Below.drew ?_))) hr).mono fun e w'' ⟨he, q, hq⟩ => ⟨_, he, rfl, q, hq⟩
      · refine relAt_seen [14] rfl rfl rfl fun b p hs => ?_
        simp [allSeen, FofL, slot] at hs
        simp [execOp, relUpon, FofL, go_sem, gw_ex_self, hs]
      · refine relAt_want [3, 15] rfl 4 15 true rfl rfl (by simp) (fun w v h => by simpa [FofL] using h) rfl fun b p hs => ?_
        simp [allSeen, FofL, slot] at hs
        simp [execOp, relUpon, FofL, go_sem, gw_ex_self, hs]
      · refine relAt_want [16, 15] rfl 4 15 true rfl rfl (by simp) (fun w v h => by simpa [FofL] using h) rfl fun b p hs => ?_
        simp [allSeen, FofL, slot] at hs
        simp [relUpon, FofL, go_sem, hs]
        exact (HV.out _ (HR.out.below (by repeat (first | exact Below.refl _ _ | refine below_gw ?_ (by simp; try omega) _ | refine Below.alloc ?_ (by simp; try omega) _ | refine Below.setCell ?_ (by simp; try omega) _ | refine Below.drew ?_)))).mono fun e w'' ⟨he, q, hq⟩ => ⟨_, he, rfl, q, hq⟩
      · refine relAt_seen [15, 17] rfl rfl rfl fun b p hs => ?_
        simp [allSeen, FofL, slot] at hs
        simp [execOp, relUpon, FofL, go_sem, gw_ex_self, hs]
      · refine relAt_seen [18] rfl rfl rfl fun b p hs => ?_
        simp [allSeen, FofL, slot] at hs
        simp [execOp, relUpon, FofL, go_sem, gw_ex_self, hs]
      · refine relAt_want [3, 19] rfl 8 19 true rfl rfl (by simp) (fun w v h => by simpa [FofL] using h) rfl fun b p hs => ?_
        simp [allSeen, FofL, slot] at hs
        simp [execOp, relUpon, FofL, go_sem, gw_ex_self, hs]
      · refine relAt_want [20, 19] rfl 8 19 true rfl rfl (by simp) (fun w v h => by simpa [FofL] using h) rfl fun b p hs => ?_
        simp [allSeen, FofL, slot] at hs
        simp [relUpon, FofL, go_sem, hs]
        exact (HC.out _ (HR.out.below (by repeat (first | exact Below.refl _ _ | refine below_gw ?_ (by simp; try omega) _ | refine Below.alloc ?_ (by simp; try omega) _ | refine Below.setCell ?_ (by simp; try omega) _ | refine Below.drew ?_)))).mono fun e w'' ⟨he, q, hq⟩ => ⟨_, he, rfl, q, hq⟩
      · refine relAt_want [0, 19] rfl 8 19 true rfl rfl (by simp) (fun w v h => by simpa [FofL] using h) rfl fun b p hs => ?_
        simp [allSeen, FofL, slot] at hs
        simp [execOp, relUpon, FofL, go_sem, gw_ex_self, hs]
      · refine relAt_want [22, 19] rfl 8 19 true rfl rfl (by simp) (fun w v h => by simpa [FofL] using h) rfl fun b p hs => ?_
        simp [allSeen, FofL, slot] at hs
        simp [relUpon, FofL, go_sem, hs]
        exact (HOFR.out _).mono fun e w'' ⟨ad', cap', he, hb, hr, hc⟩ => ⟨_, he, ⟨ad', cap', rfl, hr, hc⟩, gw_of_below hb⟩
      · refine relAt_want [23, 19] rfl 8 19 true rfl rfl (by simp) (fun w v h => by simpa [FofL] using h) rfl fun b p hs => ?_
        simp [allSeen, FofL, slot] at hs
        obtain ⟨⟨ad', cap', e, hr, hc⟩, hs⟩ := hs
        simp [execOp, relUpon, FofL, go_sem, gw_ex_self, e, field_tab]
      · refine relAt_want [24, 19] rfl 8 19 true rfl rfl (by simp) (fun w v h => by simpa [FofL] using h) rfl fun b p hs => ?_
        simp [allSeen, FofL, slot] at hs
        obtain ⟨⟨ad', cap', e⟩, hs⟩ := hs
        simp [relUpon, FofL, go_sem, gw_ex_self, e]
      · refine relAt_want [21, 25, 19] rfl 8 19 true rfl rfl (by simp) (fun w v h => by simpa [FofL] using h) rfl fun b p hs => ?_
        simp [allSeen, FofL, slot] at hs
        simp [execOp, relUpon, FofL, go_sem, gw_ex_self, hs]
      · refine relAt_seen [19, 26] rfl rfl rfl fun b p hs => ?_
        simp [allSeen, FofL, slot] at hs
        simp [execOp, relUpon, FofL, go_sem, gw_ex_self, hs]
      · refine relAt_seen [27] rfl rfl rfl fun b p hs => ?_
        simp [allSeen, FofL, slot] at hs
        simp [execOp, relUpon, FofL, go_sem, gw_ex_self, hs]
    · intro b p hdf hsz hout hF
      have h2 := hF 2
      simp [FofL, slot] at h2
      refine wpList_nil ?_
      simp only [Exit.then]
      refine hK _ _ ?_
      go_step
      exact bodyPost_ret (results_tmp rfl _ _ _) hdf (Gives.mk (by simpa using h2) (below_from HW.out (by repeat (first | exact Below.refl _ _ | refine below_gw ?_ (by simp; try omega) _ | refine Below.alloc ?_ (by simp; try omega) _ | refine Below.setCell ?_ (by simp; try omega) _ | refine Below.drew ?_))))

end Go.Proofs.Ythncoanmmnileaa
