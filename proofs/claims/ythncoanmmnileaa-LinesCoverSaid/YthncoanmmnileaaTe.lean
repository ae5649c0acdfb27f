/- Line tables: Offset, Same. -/
import Derived.Test.YthncoanmmnileaaTd
namespace Go.Proofs.Ythncoanmmnileaa
open Go.RowKit Go.Sort

def mostM (n : Nat) (f : Nat → Int) (sz : Int) (k : Nat) : Int := endM n f sz k - f k + if k + 1 = n then 1 else 0
def offsetM (n : Nat) (f : Nat → Int) (sz line col : Int) : Int × Int :=
  if validT n f sz = true then if line < 1 ∨ (n : Int) < line ∨ col < 1 then (0, 2) else if mostM n f sz (line - 1).toNat < col then (0, 2) else (f (line - 1).toNat + col - 1, 0) else (0, 1)
theorem offset_in {n : Nat} {f : Nat → Int} {sz col : Int} {k : Nat} (hv : validT n f sz = true) (hk : k < n) (hc : ¬ col < 1) :
    offsetM n f sz ((k : Int) + 1) col = if mostM n f sz k < col then (0, 2) else (f k + col - 1, 0) := by
  unfold offsetM
  rw [if_pos hv, if_neg (by omega), show ((k : Int) + 1 - 1).toNat = k by omega]
theorem end_bounds {n : Nat} {f : Nat → Int} {sz : Int} (h : validT n f sz = true) {k : Nat} (hk : k < n) : 0 ≤ f k ∧ f k ≤ endM n f sz k ∧ endM n f sz k ≤ sz ∧ sz ≤ 1099511627776 := by
  have ho := (validT_iff _ _ _).1 h
  have h1 := ho.lo hk
  have h2 := ho.hi hk
  have h3 := ho.most
  unfold endM
  split
  · rename_i hl
    have := ho.hi hl
    have := ho.mono (k + 1) k (by omega) hl
    omega
  · omega

set_option maxHeartbeats 1000000 in
theorem offsetL_any (ad : Option Addr) (n cap : Nat) (f : Nat → Int) (sz line col : Int) (w : World) (h : RowAt w ad n f) (hc : n ≤ cap) (hn : n ≤ 4000) :
    Calls Try.prog 21 #[tab ad n cap sz, .int .i64 line, .int .i64 col] w (Gives (v2 (offsetM n f sz line col)) w) := by
  have HR := Lib.hid h
  cases hv : validT n f sz
  · have he := Lib.hid (show offsetM n f sz line col = (0, 1) by simp [offsetM, hv])
    have hq := hv
    clear hv h
    go_enter Try.func21, Try.ntmps21
    go_wp2_with (go_at_call 14; refine (validL_any ad n cap f sz _ (HR.out.below (by repeat (first | exact Below.refl _ _ | refine below_gw ?_ (by simp; try omega) _ | refine Below.alloc ?_ (by simp; try omega) _ | refine Below.setCell ?_ (by simp; try omega) _ | refine Below.drew ?_))) hc hn).mono ?_; rintro e w1 ⟨rfl, p1, rfl⟩)
    (try simp only [Exit.inBlock, Exit.then]); exact bodyPost_ret (results_tmp2 Try.results21 _ _ _) rfl (Gives.mk (by rw [he.out]; rfl) (by repeat (first | exact Below.refl _ _ | refine below_gw ?_ (by simp; try omega) _ | refine Below.alloc ?_ (by simp; try omega) _ | refine Below.setCell ?_ (by simp; try omega) _ | refine Below.drew ?_)))
  · have hq := hv
    clear hv
    by_cases h1 : line < 1
    · have he := Lib.hid (show offsetM n f sz line col = (0, 2) by simp [offsetM, hq, h1])
      clear h
      go_enter Try.func21, Try.ntmps21
      go_wp2_with (go_at_call 14; refine (validL_any ad n cap f sz _ (HR.out.below (by repeat (first | exact Below.refl _ _ | refine below_gw ?_ (by simp; try omega) _ | refine Below.alloc ?_ (by simp; try omega) _ | refine Below.setCell ?_ (by simp; try omega) _ | refine Below.drew ?_))) hc hn).mono ?_; rintro e w1 ⟨rfl, p1, rfl⟩)
      (try simp only [Exit.inBlock, Exit.then]); exact bodyPost_ret (results_tmp2 Try.results21 _ _ _) rfl (Gives.mk (by rw [he.out]; rfl) (by repeat (first | exact Below.refl _ _ | refine below_gw ?_ (by simp; try omega) _ | refine Below.alloc ?_ (by simp; try omega) _ | refine Below.setCell ?_ (by simp; try omega) _ | refine Below.drew ?_)))
    · by_cases h2 : (n : Int) < line
      · have he := Lib.hid (show offsetM n f sz line col = (0, 2) by simp [offsetM, hq, h2])
        clear h
        go_enter Try.func21, Try.ntmps21
        go_wp2_with (go_at_call 14; refine (validL_any ad n cap f sz _ (HR.out.below (by repeat (first | exact Below.refl _ _ | refine below_gw ?_ (by simp; try omega) _ | refine Below.alloc ?_ (by simp; try omega) _ | refine Below.setCell ?_ (by simp; try omega) _ | refine Below.drew ?_))) hc hn).mono ?_; rintro e w1 ⟨rfl, p1, rfl⟩)
        (try simp only [Exit.inBlock, Exit.then]); exact bodyPost_ret (results_tmp2 Try.results21 _ _ _) rfl (Gives.mk (by rw [he.out]; rfl) (by repeat (first | exact Below.refl _ _ | refine below_gw ?_ (by simp; try omega) _ | refine Below.alloc ?_ (by simp; try omega) _ | refine Below.setCell ?_ (by simp; try omega) _ | refine Below.drew ?_)))
      · by_cases h3 : col < 1
        · have he := Lib.hid (show offsetM n f sz line col = (0, 2) by simp [offsetM, hq, h3])
          clear h
          go_enter Try.func21, Try.ntmps21
          go_wp2_with (go_at_call 14; refine (validL_any ad n cap f sz _ (HR.out.below (by repeat (first | exact Below.refl _ _ | refine below_gw ?_ (by simp; try omega) _ | refine Below.alloc ?_ (by simp; try omega) _ | refine Below.setCell ?_ (by simp; try omega) _ | refine Below.drew ?_))) hc hn).mono ?_; rintro e w1 ⟨rfl, p1, rfl⟩)
          (try simp only [Exit.inBlock, Exit.then]); exact bodyPost_ret (results_tmp2 Try.results21 _ _ _) rfl (Gives.mk (by rw [he.out]; rfl) (by repeat (first | exact Below.refl _ _ | refine below_gw ?_ (by simp; try omega) _ | refine Below.alloc ?_ (by simp; try omega) _ | refine Below.setCell ?_ (by simp; try omega) _ | refine Below.drew ?_)))
        · obtain ⟨k, rfl⟩ : ∃ k : Nat, line = (k : Int) + 1 := ⟨(line - 1).toNat, by omega⟩
          have hkn : k < n := by omega
          have hE := Lib.hid (offset_in (sz := sz) hq hkn h3)
          obtain ⟨b1, b2, b3, b4⟩ := end_bounds hq hkn
          obtain ⟨b, off, rfl, ho, hcs⟩ := h (by omega)
          have c1 := hcs k (by omega)
          have kw := wrap_nat (n := k) (by omega)
          have mw : IntKind.i64.wrap (endM n f sz k - f k) = endM n f sz k - f k := wrap_i64 (by omega)
          have kb : (k : Int) < n := by omega
          have HEN := Lib.hid (fun w (hr : RowAt w (some ⟨b, off, none⟩) n f) => end_any (some ⟨b, off, none⟩) n cap f sz k w hr hkn hn)
          have HM := Lib.hid (show mostM n f sz k = endM n f sz k - f k + if k + 1 = n then 1 else 0 from rfl)
          generalize endM n f sz k = en at *
          clear h hcs h1 h2
          by_cases hl : k + 1 = n
          · have q0 : ((k : Int) + 1 == (n : Int)) = true := by rw [beq_iff_eq]; omega
            have hm : mostM n f sz k = en - f k + 1 := by rw [HM.out, if_pos hl]
            by_cases hcol : en - f k + 1 < col
            · have he := Lib.hid (show offsetM n f sz ((k : Int) + 1) col = (0, 2) by rw [hE.out, hm, if_pos hcol])
              clear hm
              go_enter Try.func21, Try.ntmps21
              go_wp2_with (go_at_call 14; refine (validL_any (some ⟨b, off, none⟩) n cap f sz _ (HR.out.below (by repeat (first | exact Below.refl _ _ | refine below_gw ?_ (by simp; try omega) _ | refine Below.alloc ?_ (by simp; try omega) _ | refine Below.setCell ?_ (by simp; try omega) _ | refine Below.drew ?_))) hc hn).mono ?_; rintro e w1 ⟨rfl, p1, rfl⟩)
              refine wp_region_gw (by kernel_rfl) (by kernel_rfl) ?_
              repeat (quiet_step (first | (go_at_call 27; exact Gives.call (HEN.out _ (HR.out.below (by repeat (first | exact Below.refl _ _ | refine below_gw ?_ (by simp; try omega) _ | refine Below.alloc ?_ (by simp; try omega) _ | refine Below.setCell ?_ (by simp; try omega) _ | refine Below.drew ?_)))))))
              refine wpQuiet_nil ?_
              intro _ hw'
              obtain ⟨p2, hw''⟩ := hw'
              subst hw''
              go_wp2
              (try simp only [Exit.inBlock, Exit.then]); exact bodyPost_ret (results_tmp2 Try.results21 _ _ _) rfl (Gives.mk (by rw [he.out]; rfl) (by repeat (first | exact Below.refl _ _ | refine below_gw ?_ (by simp; try omega) _ | refine Below.alloc ?_ (by simp; try omega) _ | refine Below.setCell ?_ (by simp; try omega) _ | refine Below.drew ?_)))
            · have he := Lib.hid (show offsetM n f sz ((k : Int) + 1) col = (f k + col - 1, 0) by rw [hE.out, hm, if_neg hcol])
              clear hm
              go_enter Try.func21, Try.ntmps21
              go_wp2_with (go_at_call 14; refine (validL_any (some ⟨b, off, none⟩) n cap f sz _ (HR.out.below (by repeat (first | exact Below.refl _ _ | refine below_gw ?_ (by simp; try omega) _ | refine Below.alloc ?_ (by simp; try omega) _ | refine Below.setCell ?_ (by simp; try omega) _ | refine Below.drew ?_))) hc hn).mono ?_; rintro e w1 ⟨rfl, p1, rfl⟩)
              refine wp_region_gw (by kernel_rfl) (by kernel_rfl) ?_
              repeat (quiet_step (first | (go_at_call 27; exact Gives.call (HEN.out _ (HR.out.below (by repeat (first | exact Below.refl _ _ | refine below_gw ?_ (by simp; try omega) _ | refine Below.alloc ?_ (by simp; try omega) _ | refine Below.setCell ?_ (by simp; try omega) _ | refine Below.drew ?_)))))))
              refine wpQuiet_nil ?_
              intro _ hw'
              obtain ⟨p2, hw''⟩ := hw'
              subst hw''
              go_wp2
              (try simp only [Exit.inBlock, Exit.then]); exact bodyPost_ret (results_tmp2 Try.results21 _ _ _) rfl (Gives.mk (by rw [he.out]; rfl) (by repeat (first | exact Below.refl _ _ | refine below_gw ?_ (by simp; try omega) _ | refine Below.alloc ?_ (by simp; try omega) _ | refine Below.setCell ?_ (by simp; try omega) _ | refine Below.drew ?_)))
          · have q0 : ((k : Int) + 1 == (n : Int)) = false := by rw [beq_eq_false_iff_ne]; omega
            have hm : mostM n f sz k = en - f k := by rw [HM.out, if_neg hl]; omega
            by_cases hcol : en - f k < col
            · have he := Lib.hid (show offsetM n f sz ((k : Int) + 1) col = (0, 2) by rw [hE.out, hm, if_pos hcol])
              clear hm
              go_enter Try.func21, Try.ntmps21
              go_wp2_with (go_at_call 14; refine (validL_any (some ⟨b, off, none⟩) n cap f sz _ (HR.out.below (by repeat (first | exact Below.refl _ _ | refine below_gw ?_ (by simp; try omega) _ | refine Below.alloc ?_ (by simp; try omega) _ | refine Below.setCell ?_ (by simp; try omega) _ | refine Below.drew ?_))) hc hn).mono ?_; rintro e w1 ⟨rfl, p1, rfl⟩)
              refine wp_region_gw (by kernel_rfl) (by kernel_rfl) ?_
              repeat (quiet_step (first | (go_at_call 27; exact Gives.call (HEN.out _ (HR.out.below (by repeat (first | exact Below.refl _ _ | refine below_gw ?_ (by simp; try omega) _ | refine Below.alloc ?_ (by simp; try omega) _ | refine Below.setCell ?_ (by simp; try omega) _ | refine Below.drew ?_)))))))
              refine wpQuiet_nil ?_
              intro _ hw'
              obtain ⟨p2, hw''⟩ := hw'
              subst hw''
              go_wp2
              (try simp only [Exit.inBlock, Exit.then]); exact bodyPost_ret (results_tmp2 Try.results21 _ _ _) rfl (Gives.mk (by rw [he.out]; rfl) (by repeat (first | exact Below.refl _ _ | refine below_gw ?_ (by simp; try omega) _ | refine Below.alloc ?_ (by simp; try omega) _ | refine Below.setCell ?_ (by simp; try omega) _ | refine Below.drew ?_)))
            · have he := Lib.hid (show offsetM n f sz ((k : Int) + 1) col = (f k + col - 1, 0) by rw [hE.out, hm, if_neg hcol])
              clear hm
              go_enter Try.func21, Try.ntmps21
              go_wp2_with (go_at_call 14; refine (validL_any (some ⟨b, off, none⟩) n cap f sz _ (HR.out.below (by repeat (first | exact Below.refl _ _ | refine below_gw ?_ (by simp; try omega) _ | refine Below.alloc ?_ (by simp; try omega) _ | refine Below.setCell ?_ (by simp; try omega) _ | refine Below.drew ?_))) hc hn).mono ?_; rintro e w1 ⟨rfl, p1, rfl⟩)
              refine wp_region_gw (by kernel_rfl) (by kernel_rfl) ?_
              repeat (quiet_step (first | (go_at_call 27; exact Gives.call (HEN.out _ (HR.out.below (by repeat (first | exact Below.refl _ _ | refine below_gw ?_ (by simp; try omega) _ | refine Below.alloc ?_ (by simp; try omega) _ | refine Below.setCell ?_ (by simp; try omega) _ | refine Below.drew ?_)))))))
              refine wpQuiet_nil ?_
              intro _ hw'
              obtain ⟨p2, hw''⟩ := hw'
              subst hw''
              go_wp2
              (try simp only [Exit.inBlock, Exit.then]); exact bodyPost_ret (results_tmp2 Try.results21 _ _ _) rfl (Gives.mk (by rw [he.out]; rfl) (by repeat (first | exact Below.refl _ _ | refine below_gw ?_ (by simp; try omega) _ | refine Below.alloc ?_ (by simp; try omega) _ | refine Below.setCell ?_ (by simp; try omega) _ | refine Below.drew ?_)))

end Go.Proofs.Ythncoanmmnileaa
