/- Line tables: end, Span. -/
import Derived.Test.YthncoanmmnileaaTc
namespace Go.Proofs.Ythncoanmmnileaa
open Go.RowKit Go.Sort

theorem results_tmp3 {fn : Func} {t u v : Tmp} (h : fn.results = #[.tmp t, .tmp u, .tmp v]) (tmps : Array Value) (P : Program) (w : World) :
    (results fn tmps).run P w = .ok (.tuple #[tmps.getD t undef, tmps.getD u undef, tmps.getD v undef]) w := by
  simp [results, h]
def endM (n : Nat) (f : Nat → Int) (sz : Int) (k : Nat) : Int := if k + 1 < n then f (k + 1) else sz
def spanM (n : Nat) (f : Nat → Int) (sz line : Int) : Int × Int × Int :=
  if validT n f sz = true then if line < 1 ∨ (n : Int) < line then (0, 0, 2) else (f (line - 1).toNat, endM n f sz (line - 1).toNat, 0) else (0, 0, 1)
abbrev v3 (x : Int × Int × Int) : Value := .tuple #[.int .i64 x.1, .int .i64 x.2.1, .int .i64 x.2.2]
abbrev v2 (x : Int × Int) : Value := .tuple #[.int .i64 x.1, .int .i64 x.2]

theorem end_any (ad : Option Addr) (n cap : Nat) (f : Nat → Int) (sz : Int) (k : Nat) (w : World) (h : RowAt w ad n f) (hk : k < n) (hn : n ≤ 4000) :
    Calls Try.prog 27 #[tab ad n cap sz, .int .i64 k] w (Gives (.int .i64 (endM n f sz k)) w) := by
  obtain ⟨b, off, rfl, ho, hcs⟩ := h (by omega)
  clear h
  by_cases hl : k + 1 < n
  · have c1 := hcs (k + 1) hl
    have he := Lib.hid (show endM n f sz k = f (k + 1) by simp [endM, hl])
    clear hcs
    go_enter Try.func27, Try.ntmps27
    go_wp2
    go_ret; exact Gives.mk (by rw [he.out]; rfl) (by repeat (first | exact Below.refl _ _ | refine below_gw ?_ (by simp; try omega) _ | refine Below.alloc ?_ (by simp; try omega) _ | refine Below.setCell ?_ (by simp; try omega) _ | refine Below.drew ?_))
  · have he := Lib.hid (show endM n f sz k = sz by simp [endM, hl])
    clear hcs
    go_enter Try.func27, Try.ntmps27
    go_wp2
    go_ret; exact Gives.mk (by rw [he.out]; rfl) (by repeat (first | exact Below.refl _ _ | refine below_gw ?_ (by simp; try omega) _ | refine Below.alloc ?_ (by simp; try omega) _ | refine Below.setCell ?_ (by simp; try omega) _ | refine Below.drew ?_))

set_option maxHeartbeats 1000000 in
theorem spanL_any (ad : Option Addr) (n cap : Nat) (f : Nat → Int) (sz line : Int) (w : World) (h : RowAt w ad n f) (hc : n ≤ cap) (hn : n ≤ 4000) :
    Calls Try.prog 23 #[tab ad n cap sz, .int .i64 line] w (Gives (v3 (spanM n f sz line)) w) := by
  have HR := Lib.hid h
  cases hv : validT n f sz
  · have he := Lib.hid (show spanM n f sz line = (0, 0, 1) by simp [spanM, hv])
    have hq := hv
    clear hv h
    go_enter Try.func23, Try.ntmps23
    go_wp2_with (go_at_call 14; refine (validL_any ad n cap f sz _ (HR.out.below (by repeat (first | exact Below.refl _ _ | refine below_gw ?_ (by simp; try omega) _ | refine Below.alloc ?_ (by simp; try omega) _ | refine Below.setCell ?_ (by simp; try omega) _ | refine Below.drew ?_))) hc hn).mono ?_; rintro e w1 ⟨rfl, p1, rfl⟩)
    (try simp only [Exit.inBlock, Exit.then]); exact bodyPost_ret (results_tmp3 Try.results23 _ _ _) rfl (Gives.mk (by rw [he.out]; rfl) (by repeat (first | exact Below.refl _ _ | refine below_gw ?_ (by simp; try omega) _ | refine Below.alloc ?_ (by simp; try omega) _ | refine Below.setCell ?_ (by simp; try omega) _ | refine Below.drew ?_)))
  · have hq := hv
    clear hv
    by_cases h1 : line < 1
    · have he := Lib.hid (show spanM n f sz line = (0, 0, 2) by simp [spanM, hq, h1])
      clear h
      go_enter Try.func23, Try.ntmps23
      go_wp2_with (go_at_call 14; refine (validL_any ad n cap f sz _ (HR.out.below (by repeat (first | exact Below.refl _ _ | refine below_gw ?_ (by simp; try omega) _ | refine Below.alloc ?_ (by simp; try omega) _ | refine Below.setCell ?_ (by simp; try omega) _ | refine Below.drew ?_))) hc hn).mono ?_; rintro e w1 ⟨rfl, p1, rfl⟩)
      (try simp only [Exit.inBlock, Exit.then]); exact bodyPost_ret (results_tmp3 Try.results23 _ _ _) rfl (Gives.mk (by rw [he.out]; rfl) (by repeat (first | exact Below.refl _ _ | refine below_gw ?_ (by simp; try omega) _ | refine Below.alloc ?_ (by simp; try omega) _ | refine Below.setCell ?_ (by simp; try omega) _ | refine Below.drew ?_)))
    · by_cases h2 : (n : Int) < line
      · have he := Lib.hid (show spanM n f sz line = (0, 0, 2) by simp [spanM, hq, h2])
        clear h
        go_enter Try.func23, Try.ntmps23
        go_wp2_with (go_at_call 14; refine (validL_any ad n cap f sz _ (HR.out.below (by repeat (first | exact Below.refl _ _ | refine below_gw ?_ (by simp; try omega) _ | refine Below.alloc ?_ (by simp; try omega) _ | refine Below.setCell ?_ (by simp; try omega) _ | refine Below.drew ?_))) hc hn).mono ?_; rintro e w1 ⟨rfl, p1, rfl⟩)
        (try simp only [Exit.inBlock, Exit.then]); exact bodyPost_ret (results_tmp3 Try.results23 _ _ _) rfl (Gives.mk (by rw [he.out]; rfl) (by repeat (first | exact Below.refl _ _ | refine below_gw ?_ (by simp; try omega) _ | refine Below.alloc ?_ (by simp; try omega) _ | refine Below.setCell ?_ (by simp; try omega) _ | refine Below.drew ?_)))
      · obtain ⟨k, rfl⟩ : ∃ k : Nat, line = (k : Int) + 1 := ⟨(line - 1).toNat, by omega⟩
        have he := Lib.hid (show spanM n f sz ((k : Int) + 1) = (f k, endM n f sz k, 0) by
          unfold spanM
          rw [if_pos hq, if_neg (by omega), show ((k : Int) + 1 - 1).toNat = k by omega])
        obtain ⟨b, off, rfl, ho, hcs⟩ := h (by omega)
        have c1 := hcs k (by omega)
        have kw := wrap_nat (n := k) (by omega)
        have kb : (k : Int) < n := by omega
        clear h hcs h1
        go_enter Try.func23, Try.ntmps23
        go_wp2_with (go_at_call 14; refine (validL_any (some ⟨b, off, none⟩) n cap f sz _ (HR.out.below (by repeat (first | exact Below.refl _ _ | refine below_gw ?_ (by simp; try omega) _ | refine Below.alloc ?_ (by simp; try omega) _ | refine Below.setCell ?_ (by simp; try omega) _ | refine Below.drew ?_))) hc hn).mono ?_; rintro e w1 ⟨rfl, p1, rfl⟩)
        refine wp_region_gw (by kernel_rfl) (by kernel_rfl) ?_
        repeat (quiet_step (first | (go_at_call 27; exact Gives.call (end_any (some ⟨b, off, none⟩) n cap f sz k _ (HR.out.below (by repeat (first | exact Below.refl _ _ | refine below_gw ?_ (by simp; try omega) _ | refine Below.alloc ?_ (by simp; try omega) _ | refine Below.setCell ?_ (by simp; try omega) _ | refine Below.drew ?_))) (by omega) hn))))
        refine wpQuiet_nil ?_
        intro _ hw'
        obtain ⟨p2, hw''⟩ := hw'
        subst hw''
        go_wp2
        (try simp only [Exit.inBlock, Exit.then]); exact bodyPost_ret (results_tmp3 Try.results23 _ _ _) rfl (Gives.mk (by rw [he.out]; rfl) (by repeat (first | exact Below.refl _ _ | refine below_gw ?_ (by simp; try omega) _ | refine Below.alloc ?_ (by simp; try omega) _ | refine Below.setCell ?_ (by simp; try omega) _ | refine Below.drew ?_)))

set_option maxHeartbeats 1000000 in
theorem spanR_any (ad : Option Addr) (n cap : Nat) (f : Nat → Int) (sz line : Int) (w : World) (h : RowAt w ad n f) (hn : n ≤ 4000) :
    Calls Try.prog 24 #[tab ad n cap sz, .int .i64 line] w (Gives (v3 (spanM n f sz line)) w) := by
  have HR := Lib.hid h
  cases hv : validT n f sz
  · have he := Lib.hid (show spanM n f sz line = (0, 0, 1) by simp [spanM, hv])
    have hq := hv
    clear hv h
    go_enter Try.func24, Try.ntmps24
    go_wp2_with (go_at_call 17; refine (validR_any ad n cap f sz _ (HR.out.below (by repeat (first | exact Below.refl _ _ | refine below_gw ?_ (by simp; try omega) _ | refine Below.alloc ?_ (by simp; try omega) _ | refine Below.setCell ?_ (by simp; try omega) _ | refine Below.drew ?_))) hn).mono ?_; rintro e w1 ⟨rfl, p1, rfl⟩)
    (try simp only [Exit.inBlock, Exit.then]); exact bodyPost_ret (results_tmp3 Try.results24 _ _ _) rfl (Gives.mk (by rw [he.out]; rfl) (by repeat (first | exact Below.refl _ _ | refine below_gw ?_ (by simp; try omega) _ | refine Below.alloc ?_ (by simp; try omega) _ | refine Below.setCell ?_ (by simp; try omega) _ | refine Below.drew ?_)))
  · have hq := hv
    clear hv
    by_cases h1 : line < 1
    · have he := Lib.hid (show spanM n f sz line = (0, 0, 2) by simp [spanM, hq, h1])
      clear h
      go_enter Try.func24, Try.ntmps24
      go_wp2_with (go_at_call 17; refine (validR_any ad n cap f sz _ (HR.out.below (by repeat (first | exact Below.refl _ _ | refine below_gw ?_ (by simp; try omega) _ | refine Below.alloc ?_ (by simp; try omega) _ | refine Below.setCell ?_ (by simp; try omega) _ | refine Below.drew ?_))) hn).mono ?_; rintro e w1 ⟨rfl, p1, rfl⟩)
      (try simp only [Exit.inBlock, Exit.then]); exact bodyPost_ret (results_tmp3 Try.results24 _ _ _) rfl (Gives.mk (by rw [he.out]; rfl) (by repeat (first | exact Below.refl _ _ | refine below_gw ?_ (by simp; try omega) _ | refine Below.alloc ?_ (by simp; try omega) _ | refine Below.setCell ?_ (by simp; try omega) _ | refine Below.drew ?_)))
    · by_cases h2 : (n : Int) < line
      · have he := Lib.hid (show spanM n f sz line = (0, 0, 2) by simp [spanM, hq, h2])
        clear h
        go_enter Try.func24, Try.ntmps24
        go_wp2_with (go_at_call 17; refine (validR_any ad n cap f sz _ (HR.out.below (by repeat (first | exact Below.refl _ _ | refine below_gw ?_ (by simp; try omega) _ | refine Below.alloc ?_ (by simp; try omega) _ | refine Below.setCell ?_ (by simp; try omega) _ | refine Below.drew ?_))) hn).mono ?_; rintro e w1 ⟨rfl, p1, rfl⟩)
        (try simp only [Exit.inBlock, Exit.then]); exact bodyPost_ret (results_tmp3 Try.results24 _ _ _) rfl (Gives.mk (by rw [he.out]; rfl) (by repeat (first | exact Below.refl _ _ | refine below_gw ?_ (by simp; try omega) _ | refine Below.alloc ?_ (by simp; try omega) _ | refine Below.setCell ?_ (by simp; try omega) _ | refine Below.drew ?_)))
      · obtain ⟨k, rfl⟩ : ∃ k : Nat, line = (k : Int) + 1 := ⟨(line - 1).toNat, by omega⟩
        have hee : spanM n f sz ((k : Int) + 1) = (f k, endM n f sz k, 0) := by
          unfold spanM
          rw [if_pos hq, if_neg (by omega), show ((k : Int) + 1 - 1).toNat = k by omega]
        obtain ⟨b, off, rfl, ho, hcs⟩ := h (by omega)
        have c1 := hcs k (by omega)
        have kw := wrap_nat (n := k) (by omega)
        have kb : (k : Int) < n := by omega
        by_cases hl : k + 1 < n
        · have c2 := hcs (k + 1) hl
          have he := Lib.hid (show spanM n f sz ((k : Int) + 1) = (f k, f (k + 1), 0) by rw [hee]; simp [endM, hl])
          have q0 : ((k : Int) + 1 == (n : Int)) = false := by rw [beq_eq_false_iff_ne]; omega
          have kt : ((k : Int) + 1).toNat = k + 1 := by omega
          have kb2 : 0 ≤ ((k : Int) + 1) ∧ (k : Int) + 1 < n := by omega
          clear h hcs h1 hee
          go_enter Try.func24, Try.ntmps24
          go_wp2_with (go_at_call 17; refine (validR_any (some ⟨b, off, none⟩) n cap f sz _ (HR.out.below (by repeat (first | exact Below.refl _ _ | refine below_gw ?_ (by simp; try omega) _ | refine Below.alloc ?_ (by simp; try omega) _ | refine Below.setCell ?_ (by simp; try omega) _ | refine Below.drew ?_))) hn).mono ?_; rintro e w1 ⟨rfl, p1, rfl⟩)
          refine wp_region_gw (by kernel_rfl) (by kernel_rfl) ?_
          repeat (quiet_step (first | fail))
          refine wpQuiet_nil ?_
          intro _ hw'
          obtain ⟨p2, hw''⟩ := hw'
          subst hw''
          go_wp2
          (try simp only [Exit.inBlock, Exit.then]); exact bodyPost_ret (results_tmp3 Try.results24 _ _ _) rfl (Gives.mk (by rw [he.out]; rfl) (by repeat (first | exact Below.refl _ _ | refine below_gw ?_ (by simp; try omega) _ | refine Below.alloc ?_ (by simp; try omega) _ | refine Below.setCell ?_ (by simp; try omega) _ | refine Below.drew ?_)))
        · have he := Lib.hid (show spanM n f sz ((k : Int) + 1) = (f k, sz, 0) by rw [hee]; simp [endM, hl])
          have q0 : ((k : Int) + 1 == (n : Int)) = true := by rw [beq_iff_eq]; omega
          clear h hcs h1 hee
          go_enter Try.func24, Try.ntmps24
          go_wp2_with (go_at_call 17; refine (validR_any (some ⟨b, off, none⟩) n cap f sz _ (HR.out.below (by repeat (first | exact Below.refl _ _ | refine below_gw ?_ (by simp; try omega) _ | refine Below.alloc ?_ (by simp; try omega) _ | refine Below.setCell ?_ (by simp; try omega) _ | refine Below.drew ?_))) hn).mono ?_; rintro e w1 ⟨rfl, p1, rfl⟩)
          refine wp_region_gw (by kernel_rfl) (by kernel_rfl) ?_
          repeat (quiet_step (first | fail))
          refine wpQuiet_nil ?_
          intro _ hw'
          obtain ⟨p2, hw''⟩ := hw'
          subst hw''
          go_wp2
          (try simp only [Exit.inBlock, Exit.then]); exact bodyPost_ret (results_tmp3 Try.results24 _ _ _) rfl (Gives.mk (by rw [he.out]; rfl) (by repeat (first | exact Below.refl _ _ | refine below_gw ?_ (by simp; try omega) _ | refine Below.alloc ?_ (by simp; try omega) _ | refine Below.setCell ?_ (by simp; try omega) _ | refine Below.drew ?_)))

end Go.Proofs.Ythncoanmmnileaa
