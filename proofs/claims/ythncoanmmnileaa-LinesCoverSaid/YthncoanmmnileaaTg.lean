/- Line tables: Position by binary search. -/
import Derived.Test.YthncoanmmnileaaTf
namespace Go.Proofs.Ythncoanmmnileaa
open Go.RowKit Go.Sort

/-- The closure: does line k start behind the offset? -/
theorem clos_any (bt ba b off n cap : Nat) (f : Nat → Int) (at' : Int) (k : Nat) (w : World) (hk : k < n)
    (h1 : w.cell? ⟨bt, 0, none⟩ = some (.slice (some ⟨b, off, none⟩) n cap)) (h2 : w.cell? ⟨ba, 0, none⟩ = some (.int .i64 at')) (h3 : w.cell? ⟨b, off + k, none⟩ = some (.int .i64 (f k))) :
    Calls Try.prog 26 #[.int .i64 k, .pointer (some ⟨bt, 0, none⟩), .pointer (some ⟨ba, 0, none⟩)] w (Gives (.bool (decide (at' < f k))) w) := by
  have kb : (k : Int) < n := by omega
  have o1 := Old.of_cell h1
  have o2 := Old.of_cell h2
  have o3 := Old.of_cell h3
  simp only at o1 o2 o3
  go_enter Try.func26, Try.ntmps26
  go_wp2
  refine wp_region_gw (by kernel_rfl) (by kernel_rfl) ?_
  repeat (quiet_step (first | fail))
  refine wpQuiet_nil ?_
  intro _ hw'
  obtain ⟨p1, hw''⟩ := hw'
  subst hw''
  go_wp2
  go_ret; exact Gives.mk rfl (by repeat (first | exact Below.refl _ _ | refine below_gw ?_ (by simp; try omega) _ | refine Below.alloc ?_ (by simp; try omega) _ | refine Below.setCell ?_ (by simp; try omega) _ | refine Below.drew ?_))

set_option maxHeartbeats 1000000 in
theorem search_any (bt ba b off n cap : Nat) (f : Nat → Int) (at' : Int) (w : World) (hn : n ≤ 4000) (c : Nat) (hc : c ≤ n) (hlo : ∀ i, i < c → f i ≤ at') (hhi : ∀ i, c ≤ i → i < n → at' < f i)
    (h1 : w.cell? ⟨bt, 0, none⟩ = some (.slice (some ⟨b, off, none⟩) n cap)) (h2 : w.cell? ⟨ba, 0, none⟩ = some (.int .i64 at')) (h3 : ∀ k, k < n → w.cell? ⟨b, off + k, none⟩ = some (.int .i64 (f k))) :
    Calls Try.prog 25 #[.int .i64 n, .func (.func 26) #[] #[.pointer (some ⟨bt, 0, none⟩), .pointer (some ⟨ba, 0, none⟩)]] w (Gives (.int .i64 c) w) := by
  have H1 := Lib.hid h1
  have H2 := Lib.hid h2
  have H3 := Lib.hid h3
  have HL := Lib.hid hlo
  have HH := Lib.hid hhi
  clear h1 h2 h3 hlo hhi
  go_enter Try.func25, Try.ntmps25
  go_wp2
  go_loopw [5, 6] (fun i j wr => ∃ (lo hi : Nat) (q : Regrown), i = .int .i64 lo ∧ j = .int .i64 hi ∧ lo ≤ c ∧ c ≤ hi ∧ hi ≤ n ∧ wr = gw w q) (fun i j _ => (intOf j).toNat - (intOf i).toNat)
  case atStart => exact ⟨0, n, _, rfl, rfl, by omega, by omega, by omega, gw_self _⟩
  case round =>
    obtain ⟨lo, hi, q, rfl, rfl, hl, hh, hn', rfl⟩ := hrel
    by_cases hlt : lo < hi
    · obtain ⟨m, hm⟩ : ∃ m : Nat, m = (lo + hi) / 2 := ⟨_, rfl⟩
      have hmi : ((lo : Int) + hi) / 2 = (m : Int) := by omega
      have hml : lo ≤ m ∧ m < hi := by omega
      have HM := Lib.hid hm
      have HI := Lib.hid hml
      clear hm hml
      have a1 := (gw_cell w q bt 0 (Old.of_cell H1.out)).trans H1.out
      have a2 := (gw_cell w q ba 0 (Old.of_cell H2.out)).trans H2.out
      have a3 := H3.out m (by have := HI.out; omega)
      have a4 := (gw_cell w q b (off + m) (Old.of_cell a3)).trans a3
      have HC := Lib.hid (clos_any bt ba b off n cap f at' m (gw w q) (by have := HI.out; omega) a1 a2 a4)
      clear a1 a2 a3 a4
      by_cases hmc : m < c
      · have hf : decide (at' < f m) = false := by have := HL.out m hmc; simp; omega
        rw [hf] at HC
        clear hf
        go_wp2_with (go_at_call 26; refine HC.out.mono ?_; rintro e w1 ⟨rfl, p1, rfl⟩)
        go_roundw
        case rel =>
          obtain ⟨q2, hq2⟩ := gw_two w q p1
          have := HI.out
          exact ⟨m + 1, hi, q2, by go_num, rfl, by omega, by omega, by omega, hq2⟩
        case measure => have := HI.out; simp [intOf]; omega
      · have hf : decide (at' < f m) = true := by have := HH.out m (by omega) (by have := HI.out; omega); simp; omega
        rw [hf] at HC
        clear hf
        go_wp2_with (go_at_call 26; refine HC.out.mono ?_; rintro e w1 ⟨rfl, p1, rfl⟩)
        go_roundw
        case rel =>
          obtain ⟨q2, hq2⟩ := gw_two w q p1
          have := HI.out
          exact ⟨lo, m, q2, rfl, rfl, by omega, by omega, by omega, hq2⟩
        case measure => have := HI.out; simp [intOf]; omega
    · have e : lo = c := by omega
      subst e
      go_wp2
      go_ret; exact Gives.mk rfl (by repeat (first | exact Below.refl _ _ | refine below_gw ?_ (by simp; try omega) _ | refine Below.alloc ?_ (by simp; try omega) _ | refine Below.setCell ?_ (by simp; try omega) _ | refine Below.drew ?_))

/-- How many starts lie up to an offset. -/
def cntM (f : Nat → Int) (at' : Int) : Nat → Nat
  | 0 => 0
  | k + 1 => if f k ≤ at' then k + 1 else cntM f at' k
def posM (n : Nat) (f : Nat → Int) (sz at' : Int) : Int × Int × Int :=
  if validT n f sz = true then if at' < 0 ∨ sz < at' then (0, 0, 2) else (cntM f at' n, at' - f (cntM f at' n - 1) + 1, 0) else (0, 0, 1)
theorem cnt_spec {n : Nat} {f : Nat → Int} {sz at' : Int} (h : Ok n f sz) (h0 : 0 ≤ at') : ∀ k, 0 < k → k ≤ n →
    0 < cntM f at' k ∧ cntM f at' k ≤ k ∧ (∀ i, i < cntM f at' k → f i ≤ at') ∧ ∀ i, cntM f at' k ≤ i → i < k → at' < f i
  | k + 1, _, hk => by
    by_cases hf : f k ≤ at'
    · simp only [cntM, hf, if_true]
      refine ⟨by omega, by omega, fun i hi => ?_, fun i h1 h2 => by omega⟩
      have := h.mono k i (by omega) (by omega)
      omega
    · simp only [cntM, hf, if_false]
      have hk0 : 0 < k := by
        rcases Nat.eq_zero_or_pos k with e | e
        · subst e; rw [h.zero] at hf; omega
        · exact e
      obtain ⟨a, b, c, d⟩ := cnt_spec h h0 k hk0 (by omega)
      refine ⟨a, by omega, c, fun i h1 h2 => ?_⟩
      by_cases e : i = k
      · subst e; omega
      · exact d i h1 (by omega)

set_option maxHeartbeats 1000000 in
theorem posL_any (ad : Option Addr) (n cap : Nat) (f : Nat → Int) (sz at' : Int) (w : World) (h : RowAt w ad n f) (hc : n ≤ cap) (hn : n ≤ 4000) :
    Calls Try.prog 19 #[tab ad n cap sz, .int .i64 at'] w (Gives (v3 (posM n f sz at')) w) := by
  have HR := Lib.hid h
  cases hv : validT n f sz
  · have he := Lib.hid (show posM n f sz at' = (0, 0, 1) by simp [posM, hv])
    have hq := hv
    clear hv h
    go_enter Try.func19, Try.ntmps19
    go_wp2_with (go_at_call 14; refine (validL_any ad n cap f sz _ (HR.out.below (by repeat (first | exact Below.refl _ _ | refine below_gw ?_ (by simp; try omega) _ | refine Below.alloc ?_ (by simp; try omega) _ | refine Below.setCell ?_ (by simp; try omega) _ | refine Below.drew ?_))) hc hn).mono ?_; rintro e w1 ⟨rfl, p1, rfl⟩)
    (try simp only [Exit.inBlock, Exit.then]); exact bodyPost_ret (results_tmp3 Try.results19 _ _ _) rfl (Gives.mk (by rw [he.out]; rfl) (by repeat (first | exact Below.refl _ _ | refine below_gw ?_ (by simp; try omega) _ | refine Below.alloc ?_ (by simp; try omega) _ | refine Below.setCell ?_ (by simp; try omega) _ | refine Below.drew ?_)))
  · have hq := hv
    clear hv
    by_cases h1 : at' < 0
    · have he := Lib.hid (show posM n f sz at' = (0, 0, 2) by simp [posM, hq, h1])
      clear h
      go_enter Try.func19, Try.ntmps19
      go_wp2_with (go_at_call 14; refine (validL_any ad n cap f sz _ (HR.out.below (by repeat (first | exact Below.refl _ _ | refine below_gw ?_ (by simp; try omega) _ | refine Below.alloc ?_ (by simp; try omega) _ | refine Below.setCell ?_ (by simp; try omega) _ | refine Below.drew ?_))) hc hn).mono ?_; rintro e w1 ⟨rfl, p1, rfl⟩)
      (try simp only [Exit.inBlock, Exit.then]); exact bodyPost_ret (results_tmp3 Try.results19 _ _ _) rfl (Gives.mk (by rw [he.out]; rfl) (by repeat (first | exact Below.refl _ _ | refine below_gw ?_ (by simp; try omega) _ | refine Below.alloc ?_ (by simp; try omega) _ | refine Below.setCell ?_ (by simp; try omega) _ | refine Below.drew ?_)))
    · by_cases h2 : sz < at'
      · have he := Lib.hid (show posM n f sz at' = (0, 0, 2) by simp [posM, hq, h2])
        clear h
        go_enter Try.func19, Try.ntmps19
        go_wp2_with (go_at_call 14; refine (validL_any ad n cap f sz _ (HR.out.below (by repeat (first | exact Below.refl _ _ | refine below_gw ?_ (by simp; try omega) _ | refine Below.alloc ?_ (by simp; try omega) _ | refine Below.setCell ?_ (by simp; try omega) _ | refine Below.drew ?_))) hc hn).mono ?_; rintro e w1 ⟨rfl, p1, rfl⟩)
        (try simp only [Exit.inBlock, Exit.then]); exact bodyPost_ret (results_tmp3 Try.results19 _ _ _) rfl (Gives.mk (by rw [he.out]; rfl) (by repeat (first | exact Below.refl _ _ | refine below_gw ?_ (by simp; try omega) _ | refine Below.alloc ?_ (by simp; try omega) _ | refine Below.setCell ?_ (by simp; try omega) _ | refine Below.drew ?_)))
      · have ho := (validT_iff _ _ _).1 hq
        obtain ⟨s1, s2, s3, s4⟩ := cnt_spec ho (by omega : 0 ≤ at') n ho.pos (Nat.le_refl _)
        have he := Lib.hid (show posM n f sz at' = ((cntM f at' n : Int), at' - f (cntM f at' n - 1) + 1, (0 : Int)) by unfold posM; rw [if_pos hq, if_neg (by omega)])
        generalize cntM f at' n = c at *
        obtain ⟨b, off, rfl, hold, hcs⟩ := h ho.pos
        have b1 := ho.most
        have b2 := ho.lo (i := c - 1) (by omega)
        have b3 := s3 (c - 1) (by omega)
        have HCS := Lib.hid hcs
        have c1 := hcs (c - 1) (by omega)
        have cw := wrap_nat (n := c - 1) (by omega)
        have cn : (c : Int) - 1 = ((c - 1 : Nat) : Int) := by omega
        have cb : ((c - 1 : Nat) : Int) < n := by omega
        have w1 : IntKind.i64.wrap (at' - f (c - 1)) = at' - f (c - 1) := wrap_i64 (by omega)
        have w2 : IntKind.i64.wrap (at' - f (c - 1) + 1) = at' - f (c - 1) + 1 := wrap_i64 (by omega)
        have H3 := Lib.hid s3
        have H4 := Lib.hid s4
        clear h hcs s3 s4
        go_enter Try.func19, Try.ntmps19
        go_wp2_with (first | (go_at_call 14; refine (validL_any (some ⟨b, off, none⟩) n cap f sz _ (HR.out.below (by repeat (first | exact Below.refl _ _ | refine below_gw ?_ (by simp; try omega) _ | refine Below.alloc ?_ (by simp; try omega) _ | refine Below.setCell ?_ (by simp; try omega) _ | refine Below.drew ?_))) hc hn).mono ?_; rintro e w1 ⟨rfl, p1, rfl⟩) | (go_at_call 25; refine (search_any w.heap.size (w.heap.size + 1) b off n cap f at' _ hn c s2 H3.out H4.out (by simp [go_sem]) (by simp [go_sem]) (fun k hk => by have := HCS.out k hk; simp [go_sem, hold, this])).mono ?_; rintro e w1 ⟨rfl, p2, rfl⟩))
        refine wp_region_gw (by kernel_rfl) (by kernel_rfl) ?_
        repeat (quiet_step (first | fail))
        refine wpQuiet_nil ?_
        intro _ hw'
        obtain ⟨p3, hw''⟩ := hw'
        subst hw''
        go_wp2
        (try simp only [Exit.inBlock, Exit.then]); exact bodyPost_ret (results_tmp3 Try.results19 _ _ _) rfl (Gives.mk (by rw [he.out]; rfl) (by repeat (first | exact Below.refl _ _ | refine below_gw ?_ (by simp; try omega) _ | refine Below.alloc ?_ (by simp; try omega) _ | refine Below.setCell ?_ (by simp; try omega) _ | refine Below.drew ?_)))

end Go.Proofs.Ythncoanmmnileaa
