/- Line tables: the definition's Valid, the counts. -/
import Derived.Test.YthncoanmmnileaaTb
namespace Go.Proofs.Ythncoanmmnileaa
open Go.RowKit Go.Sort

set_option maxHeartbeats 1000000 in
theorem validR_any (ad : Option Addr) (n cap : Nat) (f : Nat → Int) (sz : Int) (w : World) (h : RowAt w ad n f) (hn : n ≤ 4000) :
    Calls Try.prog 17 #[tab ad n cap sz] w (Gives (.bool (validT n f sz)) w) := by
  by_cases h0 : n = 0
  · subst h0
    have he := Lib.hid (show validT 0 f sz = false by simp [validT])
    clear h
    go_enter Try.func17, Try.ntmps17
    go_wp2
    go_ret; exact Gives.mk (by rw [he.out]; rfl) (by repeat (first | exact Below.refl _ _ | refine below_gw ?_ (by simp; try omega) _ | refine Below.alloc ?_ (by simp; try omega) _ | refine Below.setCell ?_ (by simp; try omega) _ | refine Below.drew ?_))
  · obtain ⟨b, off, rfl, ho, hcs⟩ := h (by omega)
    have HC := Lib.hid hcs
    have q0 : ((n : Int) == 0) = false := by rw [beq_eq_false_iff_ne]; omega
    have c0 := hcs 0 (by omega)
    simp only [Nat.add_zero] at c0
    clear h
    by_cases z0 : f 0 = 0
    · rw [z0] at c0
      have he := Lib.hid (show validT n f sz = (upT f n && (decide (f (n - 1) ≤ sz) && decide (sz ≤ 1099511627776))) by simp [validT, z0, Nat.pos_of_ne_zero h0, Bool.and_assoc, Bool.and_comm, Bool.and_left_comm])
      have cl := hcs (n - 1) (by omega)
      have cn : (n - 1 : Int) = ((n - 1 : Nat) : Int) := by omega
      have cw := wrap_nat (n := n - 1) (by omega)
      have cb : 0 ≤ ((n - 1 : Nat) : Int) ∧ ((n - 1 : Nat) : Int) < n := by omega
      clear hcs
      go_enter Try.func17, Try.ntmps17
      go_wp2
      go_loopw [3] (fun i wr => ∃ k : Nat, ∃ q, k + 1 ≤ n ∧ i = .int .i64 ((k : Int) + 1) ∧ upT f (k + 1) = true ∧ wr = gw (w.alloc (.cells #[.slice (some ⟨b, off, none⟩) n cap, .int .i64 sz] 25)) q) (fun i _ => n - (intOf i).toNat)
      case atStart => exact ⟨0, _, by omega, rfl, by simp [upT], gw_self _⟩
      case round =>
      obtain ⟨k, q, hk, rfl, hup, rfl⟩ := hrel
      have HU := Lib.hid hup; clear hup
      by_cases hlt : k + 1 < n
      · have a0 := HC.out k (by omega)
        have a1 := HC.out (k + 1) (by omega)
        have kw := wrap_nat (n := k) (by omega)
        have kt : ((k : Int) + 1).toNat = k + 1 := by omega
        have kb : 0 ≤ ((k : Int) + 1) ∧ (k : Int) + 1 < n := by omega
        have kb0 : (k : Int) < n := by omega
        by_cases hlt2 : f k < f (k + 1)
        · go_wp2
          refine wp_region_gw (by kernel_rfl) (by kernel_rfl) ?_
          repeat (quiet_step (first | fail))
          refine wpQuiet_nil ?_
          intro _ hw'
          obtain ⟨p1, hw''⟩ := hw'
          subst hw''
          go_wp2
          go_roundw
          case rel =>
            obtain ⟨q2, hq2⟩ := gw_two _ q p1
            exact ⟨k + 1, q2, by omega, by go_num, by rw [upT, HU.out]; simp [hlt2], hq2⟩
          case measure => simp [intOf]; omega
        · go_wp2
          refine wp_region_gw (by kernel_rfl) (by kernel_rfl) ?_
          repeat (quiet_step (first | fail))
          refine wpQuiet_nil ?_
          intro _ hw'
          obtain ⟨p1, hw''⟩ := hw'
          subst hw''
          go_wp2
          go_ret; exact Gives.mk (by rw [he.out, up_no (f := f) (k := k) n (by omega) (by omega)]; rfl) (by repeat (first | exact Below.refl _ _ | refine below_gw ?_ (by simp; try omega) _ | refine Below.alloc ?_ (by simp; try omega) _ | refine Below.setCell ?_ (by simp; try omega) _ | refine Below.drew ?_))
      · have hkn : k + 1 = n := by omega
        have HE := Lib.hid (show validT n f sz = (decide (f (n - 1) ≤ sz) && decide (sz ≤ 1099511627776)) by rw [he.out, ← hkn, HU.out]; simp)
        by_cases hls : f (n - 1) ≤ sz
        · go_wp2
          refine wp_region_gw (by kernel_rfl) (by kernel_rfl) ?_
          repeat (quiet_step (first | fail))
          refine wpQuiet_nil ?_
          intro _ hw'
          obtain ⟨p1, hw''⟩ := hw'
          subst hw''
          go_wp2
          go_ret; exact Gives.mk (by rw [HE.out]; simp [hls]) (by repeat (first | exact Below.refl _ _ | refine below_gw ?_ (by simp; try omega) _ | refine Below.alloc ?_ (by simp; try omega) _ | refine Below.setCell ?_ (by simp; try omega) _ | refine Below.drew ?_))
        · have hd : decide (f (n - 1) ≤ sz) = false := by simpa using hls
          clear hls
          go_wp2
          refine wp_region_gw (by kernel_rfl) (by kernel_rfl) ?_
          repeat (quiet_step (first | fail))
          refine wpQuiet_nil ?_
          intro _ hw'
          obtain ⟨p1, hw''⟩ := hw'
          subst hw''
          go_wp2
          go_ret; exact Gives.mk (by rw [HE.out, hd]; rfl) (by repeat (first | exact Below.refl _ _ | refine below_gw ?_ (by simp; try omega) _ | refine Below.alloc ?_ (by simp; try omega) _ | refine Below.setCell ?_ (by simp; try omega) _ | refine Below.drew ?_))
    · have he := Lib.hid (show validT n f sz = false by simp [validT, z0])
      go_enter Try.func17, Try.ntmps17
      go_wp2
      go_ret; exact Gives.mk (by rw [he.out]; rfl) (by repeat (first | exact Below.refl _ _ | refine below_gw ?_ (by simp; try omega) _ | refine Below.alloc ?_ (by simp; try omega) _ | refine Below.setCell ?_ (by simp; try omega) _ | refine Below.drew ?_))

def countT (n : Nat) (f : Nat → Int) (sz : Int) : Int := if validT n f sz then n else 0
theorem countL_any (ad : Option Addr) (n cap : Nat) (f : Nat → Int) (sz : Int) (w : World) (h : RowAt w ad n f) (hc : n ≤ cap) (hn : n ≤ 4000) :
    Calls Try.prog 15 #[tab ad n cap sz] w (Gives (.int .i64 (countT n f sz)) w) := by
  have HR := Lib.hid h; clear h
  cases hv : validT n f sz
  all_goals
    have HV := Lib.hid (show countT n f sz = _ by unfold countT; rw [hv])
    have hq := hv
    clear hv
    go_enter Try.func15, Try.ntmps15
    go_wp2_with (go_at_call 14; refine (validL_any ad n cap f sz _ (HR.out.below (by first | exact (Below.refl _ _).alloc (Nat.le_refl _) _)) hc hn).mono ?_; rintro e w1 ⟨rfl, p1, rfl⟩)
    go_ret; exact Gives.mk (by rw [HV.out]; rfl) (by repeat (first | exact Below.refl _ _ | refine below_gw ?_ (by simp; try omega) _ | refine Below.alloc ?_ (by simp; try omega) _ | refine Below.setCell ?_ (by simp; try omega) _ | refine Below.drew ?_))
theorem countR_any (ad : Option Addr) (n cap : Nat) (f : Nat → Int) (sz : Int) (w : World) (h : RowAt w ad n f) (hn : n ≤ 4000) :
    Calls Try.prog 18 #[tab ad n cap sz] w (Gives (.int .i64 (countT n f sz)) w) := by
  have HR := Lib.hid h; clear h
  cases hv : validT n f sz
  all_goals
    have HV := Lib.hid (show countT n f sz = _ by unfold countT; rw [hv])
    have hq := hv
    clear hv
    go_enter Try.func18, Try.ntmps18
    go_wp2_with (go_at_call 17; refine (validR_any ad n cap f sz _ (HR.out.below (by first | exact (Below.refl _ _).alloc (Nat.le_refl _) _)) hn).mono ?_; rintro e w1 ⟨rfl, p1, rfl⟩)
    go_ret; exact Gives.mk (by rw [HV.out]; rfl) (by repeat (first | exact Below.refl _ _ | refine below_gw ?_ (by simp; try omega) _ | refine Below.alloc ?_ (by simp; try omega) _ | refine Below.setCell ?_ (by simp; try omega) _ | refine Below.drew ?_))

end Go.Proofs.Ythncoanmmnileaa
