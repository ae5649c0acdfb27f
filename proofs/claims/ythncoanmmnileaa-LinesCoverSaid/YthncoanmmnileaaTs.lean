/- LinesCover: in plain Lean, then walked. -/
import Derived.Test.YthncoanmmnileaaTr
namespace Go.Proofs.Ythncoanmmnileaa
open Go.RowKit Go.Sort

theorem stL_feed (s : ByteArray) : ∀ k j, j < k → (s.data[j]?.getD 0 = 10 ↔ ∃ i, 0 < i ∧ i < (stL s k).length ∧ (stL s k).getD i 0 = (j : Int) + 1)
  | 0, j, h => by omega
  | k + 1, j, h => by
    obtain ⟨_, _, c⟩ := stL_spec s k
    obtain ⟨l1, _⟩ := stL_len s k
    simp only [stL]
    split
    · rename_i hn
      have ih := stL_feed s k
      generalize stL s k = L at *
      have old : ∀ i, i < L.length → (L ++ [(k : Int) + 1]).getD i 0 = L.getD i 0 := fun i hi => by
        simp [List.getD, List.getElem?_append_left hi]
      have new : (L ++ [(k : Int) + 1]).getD L.length 0 = (k : Int) + 1 := by simp [List.getD]
      by_cases e : j = k
      · subst e
        exact ⟨fun _ => ⟨L.length, l1, by simp, new⟩, fun _ => hn⟩
      · rw [ih j (by omega)]
        constructor
        · rintro ⟨i, h0, h1, h2⟩
          exact ⟨i, h0, by simp; omega, by rw [old i h1]; exact h2⟩
        · rintro ⟨i, h0, h1, h2⟩
          simp at h1
          by_cases ei : i = L.length
          · subst ei; rw [new] at h2; omega
          · exact ⟨i, h0, by omega, by rw [old i (by omega)] at h2; exact h2⟩
    · rename_i hn
      by_cases e : j = k
      · subst e
        refine ⟨fun h => absurd h hn, fun ⟨i, h0, h1, h2⟩ => ?_⟩
        have := c i h1
        omega
      · exact stL_feed s k j (by omega)

structure Cover (s : ByteArray) (n : Nat) (f : Nat → Int) : Prop where
  ok : Ok n f s.size
  feed : ∀ j (h : j < s.size), s[j] = 10 ↔ ∃ i, 0 < i ∧ i < n ∧ f i = (j : Int) + 1
theorem stL_cover (s : ByteArray) (hs : s.size ≤ 3000) : Cover s (stL s s.size).length (fun i => (stL s s.size).getD i 0) where
  ok := (validT_iff _ _ _).1 (stL_valid s hs)
  feed := fun j h => by
    have := stL_feed s s.size j h
    have hd : s.data[j]?.getD 0 = s[j] := by
      have h' : j < s.data.size := h
      rw [Array.getElem?_eq_getElem h']; rfl
    rwa [hd] at this
/-- A byte of line k is a line feed if and only if the next one starts behind it. -/
theorem Cover.line {s : ByteArray} {n : Nat} {f : Nat → Int} (h : Cover s n f) {k j : Nat} (hk : k < n) (h0 : f k ≤ j) (h1 : (j : Int) < endM n f s.size k) (hj : j < s.size) : s[j] = 10 ↔ k + 1 < n ∧ (j : Int) + 1 = endM n f s.size k := by
  rw [h.feed j hj]
  constructor
  · rintro ⟨i, hi0, hin, e⟩
    have hki : k < i := by
      rcases Nat.lt_or_ge k i with h' | h'
      · exact h'
      · have := h.ok.mono k i h' hk
        omega
    refine ⟨by omega, ?_⟩
    unfold endM at *
    rw [if_pos (by omega)] at *
    have := h.ok.mono i (k + 1) (by omega) hin
    omega
  · rintro ⟨hk1, e⟩
    unfold endM at e
    rw [if_pos hk1] at e
    exact ⟨k + 1, by omega, hk1, e.symm⟩
/-- Where line k starts; behind the last: the end. -/
def atM (n : Nat) (f : Nat → Int) (sz : Int) (k : Nat) : Int := if k < n then f k else sz
theorem atM_next {n : Nat} {f : Nat → Int} {sz : Int} {k : Nat} : atM n f sz (k + 1) = endM n f sz k := rfl

open Classical in
noncomputable def fdM (p : Prop) : Int := if p then 1 else 0
theorem fdM_yes {p : Prop} (h : p) : fdM p = 1 := if_pos h
theorem fdM_no {p : Prop} (h : ¬ p) : fdM p = 0 := if_neg h

set_option maxRecDepth 100000 in
set_option maxHeartbeats 2000000 in
theorem LinesCover_any (s : ByteArray) (w : World) :
    Calls Try.prog 9 #[.string s] w (Gives (.bool true) w) := by
  have HW0 := Lib.hid (Below.refl w.heap.size w)
  by_cases hn : 1000 < s.size
  · have hn2 : (1000 : Int) < s.size := by omega
    go_enter Try.func9, Try.ntmps9
    go_wp2_with (go_at_call 10; refine (awake_any _).mono ?_; rintro e w1 ⟨rfl, p1, rfl⟩)
    go_ret; exact Gives.mk rfl (by repeat (first | exact Below.refl _ _ | refine below_gw ?_ (by simp; try omega) _ | refine Below.alloc ?_ (by simp; try omega) _ | refine Below.setCell ?_ (by simp; try omega) _ | refine Below.drew ?_))
  · have hn2 : ¬ (1000 : Int) < s.size := by omega
    have hs2 : s.size ≤ 3000 := by omega
    have hcv := stL_cover s hs2
    have hl := stL_len s s.size
    have hof := fun w => ofL_any s w hs2
    generalize hL : stL s s.size = L at *
    have hn4 : L.length ≤ 4000 := by omega
    have HOF := Lib.hid hof
    have HCV := Lib.hid hcv
    clear hof hcv hL
    generalize hf : (fun i => L.getD i 0) = f at *
    generalize hnn : L.length = n at *
    have HC0 := Lib.hid (fun w ad cap (h : RowAt w ad n f) (hc : n ≤ cap) => (by have := countL_any ad n cap f s.size w h hc hn4; rwa [show countT n f s.size = n by unfold countT; rw [if_pos ((validT_iff _ _ _).2 HCV.out.ok)]] at this : Calls Try.prog 15 #[tab ad n cap s.size] w (Gives (.int .i64 n) w)))
    clear hf hnn
    have hb1 : ¬ (n : Int) < 1 := by omega
    have hb2 : ¬ (s.size : Int) + 1 < n := by omega
    go_enter Try.func9, Try.ntmps9
    go_wp2_with (first | (go_at_call 10; refine (awake_any _).mono ?_; rintro e w1 ⟨rfl, p1, rfl⟩) | (go_at_call 11; refine (HOF.out _).mono ?_; rintro e w1 ⟨ad, cap, rfl, hB, hR, hc⟩; have HR := Lib.hid hR; have HCC := Lib.hid hc; have HW := Lib.hid (show Below w.heap.size w w1 from below_from HW0.out (below_from (by repeat (first | exact Below.refl _ _ | refine below_gw ?_ (by simp; try omega) _ | refine Below.alloc ?_ (by simp; try omega) _ | refine Below.setCell ?_ (by simp; try omega) _ | refine Below.drew ?_)) hB)); clear hB hR hc; refine Stop.here ?_))
    refine Stop.on ?_
    have HC := Lib.hid (fun w (h : RowAt w ad n f) => HC0.out w ad cap h HCC.out)
    go_wp2_with (first | (go_at_call 15; refine (HC.out _ (HR.out.below (by repeat (first | exact Below.refl _ _ | refine below_gw ?_ (by simp; try omega) _ | refine Below.alloc ?_ (by simp; try omega) _ | refine Below.setCell ?_ (by simp; try omega) _ | refine Below.drew ?_)))).mono ?_; rintro e w1 ⟨rfl, q1, rfl⟩))
    go_loopw [5, 6] (fun av kv wr => ∃ (k : Nat) (q : Regrown), k ≤ n ∧ kv = .int .i64 ((k : Int) + 1) ∧ av = .int .i64 (atM n f s.size k) ∧ wr = gw (w1.alloc (.cells #[.slice ad n cap, .int .i64 s.size] 25)) q) (fun _ kv _ => n + 1 - (intOf kv).toNat)
    case atStart => exact ⟨0, q1, by omega, rfl, by rw [show atM n f s.size 0 = 0 by unfold atM; rw [if_pos (by omega)]; exact HCV.out.ok.zero], rfl⟩
    case round =>
    obtain ⟨k, q, hk, rfl, rfl, rfl⟩ := hrel
    by_cases hlt : k < n
    · have hv := (validT_iff _ _ _).2 HCV.out.ok
      obtain ⟨b1, b2, b3, b4⟩ := end_bounds hv hlt
      have HL := Lib.hid (fun j h0 h1 hj => HCV.out.line (k := k) (j := j) hlt h0 h1 hj)
      have hstrict := HCV.out.ok.up (k + 1) (by omega)
      have hs := fun w (hr : RowAt w ad n f) => spanL_any ad n cap f s.size ((k : Int) + 1) w hr HCC.out hn4
      rw [show spanM n f s.size ((k : Int) + 1) = (f k, endM n f s.size k, 0) by unfold spanM; rw [if_pos hv, if_neg (by omega), show ((k : Int) + 1 - 1).toNat = k by omega]] at hs
      have hat : atM n f s.size k = f k := by unfold atM; rw [if_pos hlt]
      have HE := Lib.hid (show atM n f s.size (k + 1) = endM n f s.size k from rfl)
      have hst : k + 1 < n → f k < endM n f s.size k := fun h => by unfold endM; rw [if_pos h]; simpa using hstrict h
      clear hstrict hv
      rw [hat]
      generalize endM n f s.size k = en at *
      generalize f k = fk at *
      obtain ⟨a, rfl⟩ : ∃ a : Nat, fk = (a : Int) := ⟨fk.toNat, by omega⟩
      obtain ⟨e, rfl⟩ : ∃ e : Nat, en = (e : Int) := ⟨en.toNat, by omega⟩
      have HSP := Lib.hid hs
      have HST := Lib.hid hst
      clear hat hs hst
      have c1 : (k : Int) + 1 ≤ n := by omega
      go_wp2_with (first | (go_at_call 23; refine (HSP.out _ (HR.out.below (by repeat (first | exact Below.refl _ _ | refine below_gw ?_ (by simp; try omega) _ | refine Below.alloc ?_ (by simp; try omega) _ | refine Below.setCell ?_ (by simp; try omega) _ | refine Below.drew ?_)))).mono ?_; rintro e w1 ⟨rfl, q2, rfl⟩))
      go_loopw [10, 11] (fun fd iv wr => ∃ (i : Nat) (q : Regrown), a ≤ i ∧ i ≤ e ∧ iv = .int .i64 i ∧ fd = .int .i64 (fdM (k + 1 < n ∧ i = e)) ∧ wr = gw (w1.alloc (.cells #[.slice ad n cap, .int .i64 s.size] 25)) q) (fun _ iv _ => e - (intOf iv).toNat)
      case atStart =>
        obtain ⟨q3, hq3⟩ := gw_two (w1.alloc (.cells #[.slice ad n cap, .int .i64 s.size] 25)) q q2
        exact ⟨a, q3, by omega, by omega, rfl, by rw [fdM_no (fun h => by have := HST.out h.1; omega)], hq3⟩
      case round =>
      obtain ⟨i, q3, hai, hie, rfl, rfl, rfl⟩ := hrel
      by_cases hlt2 : i < e
      · have hne : ¬ (k + 1 < n ∧ i = e) := by omega
        rw [fdM_no hne]
        have his : i < s.size := by omega
        have hii : (i : Int) < s.size := by omega
        have hie2 : (i : Int) < e := by omega
        have h10 := HL.out i (by omega) (by omega) his
        by_cases hy : k + 1 < n ∧ (i : Int) + 1 = e
        · have q0 : ((s[i].toNat : Int) == 10) = true := by rw [h10.2 hy]; rfl
          have HN := Lib.hid (fdM_yes (show k + 1 < n ∧ i + 1 = e from ⟨hy.1, by omega⟩))
          clear h10 hy
          go_wp2
          go_roundw
          case rel => exact ⟨i + 1, q3, by omega, by omega, by go_num, by rw [HN.out], rfl⟩
          case measure => simp [intOf]; omega
        · have q0 : ((s[i].toNat : Int) == 10) = false := by
            rw [beq_eq_false_iff_ne]
            intro e
            exact hy (h10.1 (u8_ten (by omega)))
          have HN := Lib.hid (fdM_no (show ¬ (k + 1 < n ∧ i + 1 = e) by omega))
          clear h10 hy
          go_wp2
          go_roundw
          case rel => exact ⟨i + 1, q3, by omega, by omega, by go_num, by rw [HN.out], rfl⟩
          case measure => simp [intOf]; omega
      · have hie2 : i = e := by omega
        subst hie2
        by_cases hl2 : k + 1 < n
        · rw [fdM_yes ⟨hl2, rfl⟩]
          have hst := HST.out hl2
          obtain ⟨t, rfl⟩ : ∃ t, i = t + 1 := ⟨i - 1, by omega⟩
          have h10 := HL.out t (by omega) (by omega) (by omega)
          have q0 : ((s[t].toNat : Int) == 10) = true := by rw [h10.2 ⟨hl2, by omega⟩]; rfl
          have qb : ((s[t].toNat : Int) != 10) = false := by rw [bne, q0]; rfl
          have d1 : (k : Int) + 1 < n := by omega
          have d2 : (t : Int) < s.size := by omega
          have d3 : ((k : Int) + 1 == n) = false := by rw [beq_eq_false_iff_ne]; omega
          clear h10 hst
          go_wp2
          go_roundw
          case rel => exact ⟨k + 1, q3, by omega, by go_num, by rw [HE.out], rfl⟩
          case measure => simp [intOf]; omega
        · rw [fdM_no (fun h => hl2 h.1)]
          have d1 : ¬ (k : Int) + 1 < n := by omega
          go_wp2
          go_roundw
          case rel => exact ⟨k + 1, q3, by omega, by go_num, by rw [HE.out], rfl⟩
          case measure => simp [intOf]; omega
    · have hkn : k = n := by omega
      subst hkn
      have c1 : ¬ (k : Int) + 1 ≤ k := by omega
      have ha : atM k f s.size k = s.size := by unfold atM; rw [if_neg (by omega)]
      rw [ha]
      go_wp2
      go_ret
      exact Gives.mk (by simp) (below_from HW.out (by repeat (first | exact Below.refl _ _ | refine below_gw ?_ (by simp; try omega) _ | refine Below.alloc ?_ (by simp; try omega) _ | refine Below.setCell ?_ (by simp; try omega) _ | refine Below.drew ?_)))

end Go.Proofs.Ythncoanmmnileaa
