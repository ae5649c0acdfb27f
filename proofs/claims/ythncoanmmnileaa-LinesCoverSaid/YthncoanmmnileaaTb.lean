/- Line tables: what Valid tells. -/
import Derived.Test.YthncoanmmnileaaOwn
namespace Go.Proofs.Ythncoanmmnileaa
open Go.RowKit Go.Sort

theorem wrap_i64 {x : Int} (h : -9223372036854775808 ≤ x ∧ x ≤ 9223372036854775807) : IntKind.i64.wrap x = x := by
  rw [IntKind.wrap_i64]; omega
theorem wrap_nat {n : Nat} (h : n ≤ 1000000) : IntKind.i64.wrap (n : Int) = n := wrap_i64 (by omega)
/-- A table's value. -/
abbrev tab (ad : Option Addr) (n cap : Nat) (sz : Int) : Value := .agg #[.slice ad n cap, .int .i64 sz]
/-- The starts in memory. -/
def RowAt (w : World) (ad : Option Addr) (n : Nat) (f : Nat → Int) : Prop :=
  0 < n → ∃ b off, ad = some ⟨b, off, none⟩ ∧ Old b w ∧ ∀ i, i < n → w.cell? ⟨b, off + i, none⟩ = some (.int .i64 (f i))
theorem RowAt.gw {w : World} {ad : Option Addr} {n : Nat} {f : Nat → Int} (h : RowAt w ad n f) (p : Regrown) : RowAt (gw w p) ad n f := by
  intro h0
  obtain ⟨b, off, e, ho, hc⟩ := h h0
  exact ⟨b, off, e, by simp [Old] at ho ⊢; omega, fun i hi => by rw [gw_cell _ _ _ _ ho]; exact hc i hi⟩
theorem RowAt.below {w w' : World} {ad : Option Addr} {n : Nat} {f : Nat → Int} (h : RowAt w ad n f) (hb : Below w.heap.size w w') : RowAt w' ad n f := by
  obtain ⟨p, rfl⟩ := gw_of_below hb
  exact h.gw p
/-- The first k starts are increasing. -/
def upT (f : Nat → Int) : Nat → Bool
  | 0 => true
  | k + 1 => upT f k && (k == 0 || decide (f (k - 1) < f k))
theorem upT_iff (f : Nat → Int) : ∀ k, upT f k = true ↔ ∀ i, 0 < i → i < k → f (i - 1) < f i
  | 0 => by simp [upT]
  | k + 1 => by
    simp only [upT, Bool.and_eq_true, Bool.or_eq_true, beq_iff_eq, decide_eq_true_eq, upT_iff f k]
    constructor
    · rintro ⟨h, h2⟩ i h0 hi
      by_cases e : i = k
      · subst e; omega
      · exact h i h0 (by omega)
    · intro h
      refine ⟨fun i h0 hi => h i h0 (by omega), ?_⟩
      by_cases e : k = 0
      · exact .inl e
      · exact .inr (h k (by omega) (by omega))
theorem up_no {f : Nat → Int} {k : Nat} (n : Nat) (h : k + 1 < n) (hk : ¬ f k < f (k + 1)) : upT f n = false := by
  cases hu : upT f n with
  | false => rfl
  | true => exact absurd ((upT_iff f n).1 hu (k + 1) (by omega) h) hk
def validT (n : Nat) (f : Nat → Int) (sz : Int) : Bool := decide (0 < n) && decide (f 0 = 0) && decide (sz ≤ 1099511627776) && upT f n && decide (f (n - 1) ≤ sz)
structure Ok (n : Nat) (f : Nat → Int) (sz : Int) : Prop where
  pos : 0 < n
  zero : f 0 = 0
  up : ∀ i, 0 < i → i < n → f (i - 1) < f i
  last : f (n - 1) ≤ sz
  most : sz ≤ 1099511627776
theorem validT_iff (n : Nat) (f : Nat → Int) (sz : Int) : validT n f sz = true ↔ Ok n f sz := by
  simp only [validT, Bool.and_eq_true, decide_eq_true_eq, upT_iff]
  constructor
  · rintro ⟨⟨⟨⟨a, b⟩, c⟩, d⟩, e⟩; exact ⟨a, b, d, e, c⟩
  · rintro ⟨a, b, d, e, c⟩; exact ⟨⟨⟨⟨a, b⟩, c⟩, d⟩, e⟩
theorem Ok.mono {n : Nat} {f : Nat → Int} {sz : Int} (h : Ok n f sz) : ∀ j i, i ≤ j → j < n → f i ≤ f j
  | 0, i, hi, _ => by have : i = 0 := by omega
                      subst this; exact Int.le_refl _
  | j + 1, i, hi, hj => by
    by_cases e : i = j + 1
    · subst e; exact Int.le_refl _
    · have := h.mono j i (by omega) (by omega)
      have := h.up (j + 1) (by omega) hj
      simp only [Nat.add_sub_cancel] at this
      omega
theorem Ok.lo {n : Nat} {f : Nat → Int} {sz : Int} (h : Ok n f sz) {i : Nat} (hi : i < n) : 0 ≤ f i := by
  have := h.mono i 0 (by omega) hi
  rw [h.zero] at this; exact this
theorem Ok.hi {n : Nat} {f : Nat → Int} {sz : Int} (h : Ok n f sz) {i : Nat} (hi : i < n) : f i ≤ sz := by
  have := h.mono (n - 1) i (by omega) (by omega)
  have := h.last
  omega

set_option maxHeartbeats 400000 in
theorem validL_any (ad : Option Addr) (n cap : Nat) (f : Nat → Int) (sz : Int) (w : World) (h : RowAt w ad n f) (hc : n ≤ cap) (hn : n ≤ 4000) :
    Calls Try.prog 14 #[tab ad n cap sz] w (Gives (.bool (validT n f sz)) w) := by
  by_cases h0 : n = 0
  · subst h0
    have he := Lib.hid (show validT 0 f sz = false by simp [validT])
    clear h
    go_enter Try.func14, Try.ntmps14
    go_wp2
    go_ret; exact Gives.mk (by rw [he.out]; rfl) (by repeat (first | exact Below.refl _ _ | refine below_gw ?_ (by simp; try omega) _ | refine Below.alloc ?_ (by simp; try omega) _ | refine Below.setCell ?_ (by simp; try omega) _ | refine Below.drew ?_))
  · obtain ⟨b, off, rfl, ho, hcs⟩ := h (by omega)
    have HC := Lib.hid hcs
    have q0 : ((n : Int) == 0) = false := by rw [beq_eq_false_iff_ne]; omega
    have c0 := hcs 0 (by omega)
    simp only [Nat.add_zero] at c0
    clear h
    by_cases z0 : f 0 = 0
    · by_cases z1 : sz ≤ 1099511627776
      · rw [z0] at c0
        have he := Lib.hid (show validT n f sz = (upT f n && decide (f (n - 1) ≤ sz)) by simp [validT, z0, z1, Nat.pos_of_ne_zero h0])
        have cl := hcs (n - 1) (by omega)
        have cn : (n - 1 : Int) = ((n - 1 : Nat) : Int) := by omega
        have cw := wrap_nat (n := n - 1) (by omega)
        have cb : 0 ≤ ((n - 1 : Nat) : Int) ∧ ((n - 1 : Nat) : Int) < n := by omega
        clear hcs
        go_enter Try.func14, Try.ntmps14
        go_wp2
        all_goals
          go_loopw [25] (fun i wr => ∃ k : Nat, k ≤ n - 1 ∧ i = .int .i64 k ∧ upT f (k + 1) = true ∧ wr = w.alloc (.cells #[.slice (some ⟨b, off, none⟩) n cap, .int .i64 sz] 25)) (fun i _ => n - (intOf i).toNat)
          case atStart => exact ⟨0, by omega, rfl, by simp [upT], by first | rfl | (subst cap; rfl) | (simp_all; done)⟩
          case round =>
          obtain ⟨k, hk, rfl, hup, rfl⟩ := hrel
          have HU := Lib.hid hup; clear hup
          by_cases hlt : k < n - 1
          · first
            | (exfalso; omega)
            | (have a0 := HC.out k (by omega)
               have a1 := HC.out (k + 1) (by omega)
               rw [show off + (k + 1) = off + 1 + k by omega] at a1
               by_cases hlt2 : f k < f (k + 1)
               · go_wp2
                 go_roundw
                 case rel => exact ⟨k + 1, by omega, by go_num, by rw [upT, HU.out]; simp [hlt2], by trivial⟩
                 case measure => simp [intOf]; omega
               · go_wp2
                 go_ret; exact Gives.mk (by rw [he.out, up_no (f := f) (k := k) n (by omega) (by omega)]; rfl) (by repeat (first | exact Below.refl _ _ | refine below_gw ?_ (by simp; try omega) _ | refine Below.alloc ?_ (by simp; try omega) _ | refine Below.setCell ?_ (by simp; try omega) _ | refine Below.drew ?_)))
          · have hkn : k + 1 = n := by omega
            have HE := Lib.hid (show validT n f sz = decide (f (n - 1) ≤ sz) by rw [he.out, ← hkn, HU.out]; simp)
            go_wp2
            refine wp_region_gw (by kernel_rfl) (by kernel_rfl) ?_
            repeat (quiet_step (first | fail))
            refine wpQuiet_nil ?_
            intro _ hw'
            obtain ⟨p1, hw''⟩ := hw'
            subst hw''
            go_wp2
            go_ret; exact Gives.mk (by rw [HE.out]; rfl) (by repeat (first | exact Below.refl _ _ | refine below_gw ?_ (by simp; try omega) _ | refine Below.alloc ?_ (by simp; try omega) _ | refine Below.setCell ?_ (by simp; try omega) _ | refine Below.drew ?_))
      · have he := Lib.hid (show validT n f sz = false by simp [validT, z1])
        rw [z0] at c0
        go_enter Try.func14, Try.ntmps14
        go_wp2
        go_ret; exact Gives.mk (by rw [he.out]; rfl) (by repeat (first | exact Below.refl _ _ | refine below_gw ?_ (by simp; try omega) _ | refine Below.alloc ?_ (by simp; try omega) _ | refine Below.setCell ?_ (by simp; try omega) _ | refine Below.drew ?_))
    · have he := Lib.hid (show validT n f sz = false by simp [validT, z0])
      go_enter Try.func14, Try.ntmps14
      go_wp2
      go_ret; exact Gives.mk (by rw [he.out]; rfl) (by repeat (first | exact Below.refl _ _ | refine below_gw ?_ (by simp; try omega) _ | refine Below.alloc ?_ (by simp; try omega) _ | refine Below.setCell ?_ (by simp; try omega) _ | refine Below.drew ?_))

end Go.Proofs.Ythncoanmmnileaa
