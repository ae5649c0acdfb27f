/- Line tables: the definition's Position; a copy of a table. -/
import Derived.Test.YthncoanmmnileaaTg
namespace Go.Proofs.Ythncoanmmnileaa
open Go.RowKit Go.Sort

set_option maxHeartbeats 1000000 in
theorem posR_any (ad : Option Addr) (n cap : Nat) (f : Nat → Int) (sz at' : Int) (w : World) (h : RowAt w ad n f) (hn : n ≤ 4000) :
    Calls Try.prog 20 #[tab ad n cap sz, .int .i64 at'] w (Gives (v3 (posM n f sz at')) w) := by
  have HR := Lib.hid h
  cases hv : validT n f sz
  · have he := Lib.hid (show posM n f sz at' = (0, 0, 1) by simp [posM, hv])
    have hq := hv
    clear hv h
    go_enter Try.func20, Try.ntmps20
    go_wp2_with (go_at_call 17; refine (validR_any ad n cap f sz _ (HR.out.below (by repeat (first | exact Below.refl _ _ | refine below_gw ?_ (by simp; try omega) _ | refine Below.alloc ?_ (by simp; try omega) _ | refine Below.setCell ?_ (by simp; try omega) _ | refine Below.drew ?_))) hn).mono ?_; rintro e w1 ⟨rfl, p1, rfl⟩)
    (try simp only [Exit.inBlock, Exit.then]); exact bodyPost_ret (results_tmp3 Try.results20 _ _ _) rfl (Gives.mk (by rw [he.out]; rfl) (by repeat (first | exact Below.refl _ _ | refine below_gw ?_ (by simp; try omega) _ | refine Below.alloc ?_ (by simp; try omega) _ | refine Below.setCell ?_ (by simp; try omega) _ | refine Below.drew ?_)))
  · have hq := hv
    clear hv
    by_cases h1 : at' < 0
    · have he := Lib.hid (show posM n f sz at' = (0, 0, 2) by simp [posM, hq, h1])
      clear h
      go_enter Try.func20, Try.ntmps20
      go_wp2_with (go_at_call 17; refine (validR_any ad n cap f sz _ (HR.out.below (by repeat (first | exact Below.refl _ _ | refine below_gw ?_ (by simp; try omega) _ | refine Below.alloc ?_ (by simp; try omega) _ | refine Below.setCell ?_ (by simp; try omega) _ | refine Below.drew ?_))) hn).mono ?_; rintro e w1 ⟨rfl, p1, rfl⟩)
      (try simp only [Exit.inBlock, Exit.then]); exact bodyPost_ret (results_tmp3 Try.results20 _ _ _) rfl (Gives.mk (by rw [he.out]; rfl) (by repeat (first | exact Below.refl _ _ | refine below_gw ?_ (by simp; try omega) _ | refine Below.alloc ?_ (by simp; try omega) _ | refine Below.setCell ?_ (by simp; try omega) _ | refine Below.drew ?_)))
    · by_cases h2 : sz < at'
      · have he := Lib.hid (show posM n f sz at' = (0, 0, 2) by simp [posM, hq, h2])
        clear h
        go_enter Try.func20, Try.ntmps20
        go_wp2_with (go_at_call 17; refine (validR_any ad n cap f sz _ (HR.out.below (by repeat (first | exact Below.refl _ _ | refine below_gw ?_ (by simp; try omega) _ | refine Below.alloc ?_ (by simp; try omega) _ | refine Below.setCell ?_ (by simp; try omega) _ | refine Below.drew ?_))) hn).mono ?_; rintro e w1 ⟨rfl, p1, rfl⟩)
        (try simp only [Exit.inBlock, Exit.then]); exact bodyPost_ret (results_tmp3 Try.results20 _ _ _) rfl (Gives.mk (by rw [he.out]; rfl) (by repeat (first | exact Below.refl _ _ | refine below_gw ?_ (by simp; try omega) _ | refine Below.alloc ?_ (by simp; try omega) _ | refine Below.setCell ?_ (by simp; try omega) _ | refine Below.drew ?_)))
      · have ho := (validT_iff _ _ _).1 hq
        obtain ⟨s1, s2, s3, s4⟩ := cnt_spec ho (by omega : 0 ≤ at') n ho.pos (Nat.le_refl _)
        have he := Lib.hid (show posM n f sz at' = ((cntM f at' n : Int), at' - f (cntM f at' n - 1) + 1, (0 : Int)) by unfold posM; rw [if_pos hq, if_neg (by omega)])
        obtain ⟨b, off, rfl, hold, hcs⟩ := h ho.pos
        have b1 := ho.most
        have HCS := Lib.hid hcs
        have HB2 := Lib.hid (show 0 ≤ f (cntM f at' n - 1) ∧ f (cntM f at' n - 1) ≤ at' from ⟨ho.lo (by omega), s3 _ (by omega)⟩)
        have HS := Lib.hid (show 0 < cntM f at' n ∧ cntM f at' n ≤ n from ⟨s1, s2⟩)
        clear h hcs s1 s2 s3 s4 ho
        go_enter Try.func20, Try.ntmps20
        go_wp2_with (go_at_call 17; refine (validR_any (some ⟨b, off, none⟩) n cap f sz _ (HR.out.below (by repeat (first | exact Below.refl _ _ | refine below_gw ?_ (by simp; try omega) _ | refine Below.alloc ?_ (by simp; try omega) _ | refine Below.setCell ?_ (by simp; try omega) _ | refine Below.drew ?_))) hn).mono ?_; rintro e w1 ⟨rfl, p1, rfl⟩)
        go_loopw [7, 8] (fun s i wr => ∃ j : Nat, ∃ q, j ≤ n ∧ i = .int .i64 j ∧ s = .int .i64 ((cntM f at' j - 1 : Nat) : Int) ∧ wr = gw (w.alloc (.cells #[.slice (some ⟨b, off, none⟩) n cap, .int .i64 sz] 25)) q) (fun _ i _ => n - (intOf i).toNat)
        case atStart => exact ⟨0, p1, by omega, rfl, rfl, rfl⟩
        case round =>
        obtain ⟨j, q, hj, rfl, rfl, rfl⟩ := hrel
        by_cases hlt : j < n
        · have a1 := HCS.out j hlt
          have jb : (j : Int) < n := by omega
          by_cases hf : f j ≤ at'
          · have HN := Lib.hid (show cntM f at' (j + 1) - 1 = j by simp [cntM, hf])
            generalize cntM f at' j - 1 = kk at *
            go_wp2
            go_roundw
            case rel => exact ⟨j + 1, q, by omega, by go_num, by rw [HN.out], rfl⟩
            case measure => simp [intOf]; omega
          · have HN := Lib.hid (show cntM f at' (j + 1) - 1 = cntM f at' j - 1 by simp [cntM, hf])
            generalize hkk : cntM f at' j - 1 = kk at *
            clear hkk
            go_wp2
            go_roundw
            case rel => exact ⟨j + 1, q, by omega, by go_num, by rw [HN.out], rfl⟩
            case measure => simp [intOf]; omega
        · have hjn : j = n := by omega
          subst hjn
          have hs := HS.out
          have b2 := HB2.out
          generalize cntM f at' j = c at *
          have c1 := HCS.out (c - 1) (by omega)
          have cw := wrap_nat (n := c - 1) (by omega)
          have cn : ((c - 1 : Nat) : Int) + 1 = (c : Int) := by omega
          have cw2 := wrap_nat (n := c) (by omega)
          have cb : ((c - 1 : Nat) : Int) < j := by omega
          have w1 : IntKind.i64.wrap (at' - f (c - 1)) = at' - f (c - 1) := wrap_i64 (by omega)
          have w2 : IntKind.i64.wrap (at' - f (c - 1) + 1) = at' - f (c - 1) + 1 := wrap_i64 (by omega)
          clear hs b2
          go_wp2
          refine wp_region_gw (by kernel_rfl) (by kernel_rfl) ?_
          repeat (quiet_step (first | fail))
          refine wpQuiet_nil ?_
          intro _ hw'
          obtain ⟨p3, hw''⟩ := hw'
          subst hw''
          go_wp2
          (try simp only [Exit.inBlock, Exit.then]); exact bodyPost_ret (results_tmp3 Try.results20 _ _ _) rfl (Gives.mk (by rw [he.out]; rfl) (by repeat (first | exact Below.refl _ _ | refine below_gw ?_ (by simp; try omega) _ | refine Below.alloc ?_ (by simp; try omega) _ | refine Below.setCell ?_ (by simp; try omega) _ | refine Below.drew ?_)))

end Go.Proofs.Ythncoanmmnileaa
