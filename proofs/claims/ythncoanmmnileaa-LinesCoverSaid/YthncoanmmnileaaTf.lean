/- Line tables: the definition's Offset; Same. -/
import Derived.Test.YthncoanmmnileaaTe
namespace Go.Proofs.Ythncoanmmnileaa
open Go.RowKit Go.Sort

set_option maxHeartbeats 1000000 in
theorem offsetR_any (ad : Option Addr) (n cap : Nat) (f : Nat → Int) (sz line col : Int) (w : World) (h : RowAt w ad n f) (hn : n ≤ 4000) :
    Calls Try.prog 22 #[tab ad n cap sz, .int .i64 line, .int .i64 col] w (Gives (v2 (offsetM n f sz line col)) w) := by
  have HR := Lib.hid h
  cases hv : validT n f sz
  · have he := Lib.hid (show offsetM n f sz line col = (0, 1) by simp [offsetM, hv])
    have hs := Lib.hid (fun w (hr : RowAt w ad n f) => (by have := spanR_any ad n cap f sz line w hr hn; rwa [show spanM n f sz line = (0, 0, 1) by simp [spanM, hv]] at this : Calls Try.prog 24 #[tab ad n cap sz, .int .i64 line] w (Gives (v3 (0, 0, 1)) w)))
    clear hv h
    go_enter Try.func22, Try.ntmps22
    go_wp2_with (go_at_call 24; refine (hs.out _ (HR.out.below (by repeat (first | exact Below.refl _ _ | refine below_gw ?_ (by simp; try omega) _ | refine Below.alloc ?_ (by simp; try omega) _ | refine Below.setCell ?_ (by simp; try omega) _ | refine Below.drew ?_)))).mono ?_; rintro e w1 ⟨rfl, p1, rfl⟩)
    (try simp only [Exit.inBlock, Exit.then]); exact bodyPost_ret (results_tmp2 Try.results22 _ _ _) rfl (Gives.mk (by rw [he.out]; rfl) (by repeat (first | exact Below.refl _ _ | refine below_gw ?_ (by simp; try omega) _ | refine Below.alloc ?_ (by simp; try omega) _ | refine Below.setCell ?_ (by simp; try omega) _ | refine Below.drew ?_)))
  · have hq := hv
    clear hv
    by_cases h1 : line < 1 ∨ (n : Int) < line
    · have he := Lib.hid (show offsetM n f sz line col = (0, 2) by unfold offsetM; rw [if_pos hq, if_pos (by omega)])
      have hs := Lib.hid (fun w (hr : RowAt w ad n f) => (by have := spanR_any ad n cap f sz line w hr hn; rwa [show spanM n f sz line = (0, 0, 2) by unfold spanM; rw [if_pos hq, if_pos h1]] at this : Calls Try.prog 24 #[tab ad n cap sz, .int .i64 line] w (Gives (v3 (0, 0, 2)) w)))
      clear h h1
      go_enter Try.func22, Try.ntmps22
      go_wp2_with (go_at_call 24; refine (hs.out _ (HR.out.below (by repeat (first | exact Below.refl _ _ | refine below_gw ?_ (by simp; try omega) _ | refine Below.alloc ?_ (by simp; try omega) _ | refine Below.setCell ?_ (by simp; try omega) _ | refine Below.drew ?_)))).mono ?_; rintro e w1 ⟨rfl, p1, rfl⟩)
      (try simp only [Exit.inBlock, Exit.then]); exact bodyPost_ret (results_tmp2 Try.results22 _ _ _) rfl (Gives.mk (by rw [he.out]; rfl) (by repeat (first | exact Below.refl _ _ | refine below_gw ?_ (by simp; try omega) _ | refine Below.alloc ?_ (by simp; try omega) _ | refine Below.setCell ?_ (by simp; try omega) _ | refine Below.drew ?_)))
    · obtain ⟨k, rfl⟩ : ∃ k : Nat, line = (k : Int) + 1 := ⟨(line - 1).toNat, by omega⟩
      have hkn : k < n := by omega
      obtain ⟨b1, b2, b3, b4⟩ := end_bounds hq hkn
      have hs := Lib.hid (fun w (hr : RowAt w ad n f) => (by have := spanR_any ad n cap f sz ((k : Int) + 1) w hr hn; rwa [show spanM n f sz ((k : Int) + 1) = (f k, endM n f sz k, 0) by unfold spanM; rw [if_pos hq, if_neg h1, show ((k : Int) + 1 - 1).toNat = k by omega]] at this : Calls Try.prog 24 #[tab ad n cap sz, .int .i64 ((k : Int) + 1)] w (Gives (v3 (f k, endM n f sz k, 0)) w)))
      by_cases h3 : col < 1
      · have he := Lib.hid (show offsetM n f sz ((k : Int) + 1) col = (0, 2) by unfold offsetM; rw [if_pos hq, if_pos (by omega)])
        clear h h1
        by_cases hl : k + 1 = n
        · have q0 : ((k : Int) + 1 == (n : Int)) = true := by rw [beq_iff_eq]; omega
          generalize endM n f sz k = en at *
          go_enter Try.func22, Try.ntmps22
          go_wp2_with (go_at_call 24; refine (hs.out _ (HR.out.below (by repeat (first | exact Below.refl _ _ | refine below_gw ?_ (by simp; try omega) _ | refine Below.alloc ?_ (by simp; try omega) _ | refine Below.setCell ?_ (by simp; try omega) _ | refine Below.drew ?_)))).mono ?_; rintro e w1 ⟨rfl, p1, rfl⟩)
          (try simp only [Exit.inBlock, Exit.then]); exact bodyPost_ret (results_tmp2 Try.results22 _ _ _) rfl (Gives.mk (by rw [he.out]; rfl) (by repeat (first | exact Below.refl _ _ | refine below_gw ?_ (by simp; try omega) _ | refine Below.alloc ?_ (by simp; try omega) _ | refine Below.setCell ?_ (by simp; try omega) _ | refine Below.drew ?_)))
        · have q0 : ((k : Int) + 1 == (n : Int)) = false := by rw [beq_eq_false_iff_ne]; omega
          generalize endM n f sz k = en at *
          go_enter Try.func22, Try.ntmps22
          go_wp2_with (go_at_call 24; refine (hs.out _ (HR.out.below (by repeat (first | exact Below.refl _ _ | refine below_gw ?_ (by simp; try omega) _ | refine Below.alloc ?_ (by simp; try omega) _ | refine Below.setCell ?_ (by simp; try omega) _ | refine Below.drew ?_)))).mono ?_; rintro e w1 ⟨rfl, p1, rfl⟩)
          (try simp only [Exit.inBlock, Exit.then]); exact bodyPost_ret (results_tmp2 Try.results22 _ _ _) rfl (Gives.mk (by rw [he.out]; rfl) (by repeat (first | exact Below.refl _ _ | refine below_gw ?_ (by simp; try omega) _ | refine Below.alloc ?_ (by simp; try omega) _ | refine Below.setCell ?_ (by simp; try omega) _ | refine Below.drew ?_)))
      · have hE := Lib.hid (offset_in (sz := sz) hq hkn h3)
        have HM := Lib.hid (show mostM n f sz k = endM n f sz k - f k + if k + 1 = n then 1 else 0 from rfl)
        generalize endM n f sz k = en at *
        clear h h1
        by_cases hl : k + 1 = n
        · have q0 : ((k : Int) + 1 == (n : Int)) = true := by rw [beq_iff_eq]; omega
          have hm : mostM n f sz k = en + 1 - f k := by rw [HM.out, if_pos hl]; omega
          by_cases hcol : en + 1 - f k < col
          · have he := Lib.hid (show offsetM n f sz ((k : Int) + 1) col = (0, 2) by rw [hE.out, hm, if_pos hcol])
            clear hm
            go_enter Try.func22, Try.ntmps22
            go_wp2_with (go_at_call 24; refine (hs.out _ (HR.out.below (by repeat (first | exact Below.refl _ _ | refine below_gw ?_ (by simp; try omega) _ | refine Below.alloc ?_ (by simp; try omega) _ | refine Below.setCell ?_ (by simp; try omega) _ | refine Below.drew ?_)))).mono ?_; rintro e w1 ⟨rfl, p1, rfl⟩)
            (try simp only [Exit.inBlock, Exit.then]); exact bodyPost_ret (results_tmp2 Try.results22 _ _ _) rfl (Gives.mk (by rw [he.out]; rfl) (by repeat (first | exact Below.refl _ _ | refine below_gw ?_ (by simp; try omega) _ | refine Below.alloc ?_ (by simp; try omega) _ | refine Below.setCell ?_ (by simp; try omega) _ | refine Below.drew ?_)))
          · have he := Lib.hid (show offsetM n f sz ((k : Int) + 1) col = (f k + col - 1, 0) by rw [hE.out, hm, if_neg hcol])
            clear hm
            go_enter Try.func22, Try.ntmps22
            go_wp2_with (go_at_call 24; refine (hs.out _ (HR.out.below (by repeat (first | exact Below.refl _ _ | refine below_gw ?_ (by simp; try omega) _ | refine Below.alloc ?_ (by simp; try omega) _ | refine Below.setCell ?_ (by simp; try omega) _ | refine Below.drew ?_)))).mono ?_; rintro e w1 ⟨rfl, p1, rfl⟩)
            (try simp only [Exit.inBlock, Exit.then]); exact bodyPost_ret (results_tmp2 Try.results22 _ _ _) rfl (Gives.mk (by rw [he.out]; rfl) (by repeat (first | exact Below.refl _ _ | refine below_gw ?_ (by simp; try omega) _ | refine Below.alloc ?_ (by simp; try omega) _ | refine Below.setCell ?_ (by simp; try omega) _ | refine Below.drew ?_)))
        · have q0 : ((k : Int) + 1 == (n : Int)) = false := by rw [beq_eq_false_iff_ne]; omega
          have hm : mostM n f sz k = en - f k := by rw [HM.out, if_neg hl]; omega
          by_cases hcol : en - f k < col
          · have he := Lib.hid (show offsetM n f sz ((k : Int) + 1) col = (0, 2) by rw [hE.out, hm, if_pos hcol])
            clear hm
            go_enter Try.func22, Try.ntmps22
            go_wp2_with (go_at_call 24; refine (hs.out _ (HR.out.below (by repeat (first | exact Below.refl _ _ | refine below_gw ?_ (by simp; try omega) _ | refine Below.alloc ?_ (by simp; try omega) _ | refine Below.setCell ?_ (by simp; try omega) _ | refine Below.drew ?_)))).mono ?_; rintro e w1 ⟨rfl, p1, rfl⟩)
            (try simp only [Exit.inBlock, Exit.then]); exact bodyPost_ret (results_tmp2 Try.results22 _ _ _) rfl (Gives.mk (by rw [he.out]; rfl) (by repeat (first | exact Below.refl _ _ | refine below_gw ?_ (by simp; try omega) _ | refine Below.alloc ?_ (by simp; try omega) _ | refine Below.setCell ?_ (by simp; try omega) _ | refine Below.drew ?_)))
          · have he := Lib.hid (show offsetM n f sz ((k : Int) + 1) col = (f k + col - 1, 0) by rw [hE.out, hm, if_neg hcol])
            clear hm
            go_enter Try.func22, Try.ntmps22
            go_wp2_with (go_at_call 24; refine (hs.out _ (HR.out.below (by repeat (first | exact Below.refl _ _ | refine below_gw ?_ (by simp; try omega) _ | refine Below.alloc ?_ (by simp; try omega) _ | refine Below.setCell ?_ (by simp; try omega) _ | refine Below.drew ?_)))).mono ?_; rintro e w1 ⟨rfl, p1, rfl⟩)
            (try simp only [Exit.inBlock, Exit.then]); exact bodyPost_ret (results_tmp2 Try.results22 _ _ _) rfl (Gives.mk (by rw [he.out]; rfl) (by repeat (first | exact Below.refl _ _ | refine below_gw ?_ (by simp; try omega) _ | refine Below.alloc ?_ (by simp; try omega) _ | refine Below.setCell ?_ (by simp; try omega) _ | refine Below.drew ?_)))

/-- Two tables that are equal. -/
theorem same_yes (ad ad' : Option Addr) (n cap cap' : Nat) (f : Nat → Int) (sz : Int) (w : World) (h : RowAt w ad n f) (h' : RowAt w ad' n f) (hn : n ≤ 4000) :
    Calls Try.prog 12 #[tab ad n cap sz, tab ad' n cap' sz] w (Gives (.bool true) w) := by
  have HR := Lib.hid h
  have HR' := Lib.hid h'
  clear h h'
  go_enter Try.func12, Try.ntmps12
  go_wp2
  go_loopw [5] (fun i wr => ∃ k : Nat, ∃ q, k ≤ n ∧ i = .int .i64 k ∧ wr = gw ((w.alloc (.cells #[.slice ad n cap, .int .i64 sz] 25)).alloc (.cells #[.slice ad' n cap', .int .i64 sz] 25)) q) (fun i _ => n - (intOf i).toNat)
  case atStart => exact ⟨0, _, by omega, rfl, gw_self _⟩
  case round =>
    obtain ⟨k, q, hk, rfl, rfl⟩ := hrel
    by_cases hlt : k < n
    · obtain ⟨b, off, rfl, ho, hcs⟩ := HR.out (by omega)
      obtain ⟨b', off', rfl, ho', hcs'⟩ := HR'.out (by omega)
      have c1 := hcs k hlt
      have c2 := hcs' k hlt
      have kb : (k : Int) < n := by omega
      clear hcs hcs'
      go_wp2
      refine wp_region_gw (by kernel_rfl) (by kernel_rfl) ?_
      repeat (quiet_step (first | fail))
      refine wpQuiet_nil ?_
      intro _ hw'
      obtain ⟨p1, hw''⟩ := hw'
      subst hw''
      go_wp2
      go_roundw
      case rel =>
        obtain ⟨q2, hq2⟩ := gw_two _ q p1
        exact ⟨k + 1, q2, by omega, by go_num, hq2⟩
      case measure => simp [intOf]; omega
    · go_wp2
      go_ret; exact Gives.mk rfl (by repeat (first | exact Below.refl _ _ | refine below_gw ?_ (by simp; try omega) _ | refine Below.alloc ?_ (by simp; try omega) _ | refine Below.setCell ?_ (by simp; try omega) _ | refine Below.drew ?_))

end Go.Proofs.Ythncoanmmnileaa
