/- Line tables: the example of the document holds. -/
import Derived.Test.YthncoanmmnileaaTl
namespace Go.Proofs.Ythncoanmmnileaa
open Go.RowKit Go.Sort

def exS : ByteArray := ⟨#[97, 98, 10, 10, 99]⟩
def exF (i : Nat) : Int := ([0, 3, 4] : List Int).getD i 0
theorem ofL_ex (w : World) : Calls Try.prog 11 #[.string ⟨#[97, 98, 10, 10, 99]⟩] w fun e w' => ∃ ad cap, e = .returned (tab ad 3 cap 5) ∧ Below w.heap.size w w' ∧ RowAt w' ad 3 exF ∧ 3 ≤ cap := by
  have h := ofL_any exS w (by decide)
  have e : stL exS exS.size = [0, 3, 4] := by kernel_rfl
  have e2 : ((exS.size : Nat) : Int) = 5 := by kernel_rfl
  rw [e, e2] at h
  exact h

theorem below_from {w w1 W : World} (h : Below w.heap.size w w1) (k : Below w1.heap.size w1 W) : Below w.heap.size w W := h.trans (k.mono h.size)
set_option maxHeartbeats 1000000 in
theorem awake_any (w : World) : Calls Try.prog 10 #[] w (Gives (.bool true) w) := by
  have p1 := Lib.hid (show posM 3 exF 5 4 = (3, 1, 0) by kernel_rfl)
  have p2 := Lib.hid (show offsetM 3 exF 5 3 2 = (5, 0) by kernel_rfl)
  have p3 := Lib.hid (show spanM 3 exF 5 1 = (0, 3, 0) by kernel_rfl)
  have p4 := Lib.hid (show validT 3 exF 5 = true by kernel_rfl)
  have p5 := Lib.hid (show countT 3 exF 5 = 3 by kernel_rfl)
  go_enter Try.func10, Try.ntmps10
  go_wp2_with (go_at_call 11; refine (ofL_ex _).mono ?_; rintro e w1 ⟨ad, cap, rfl, hB, hR, hc⟩; have HB := Lib.hid hB; have HR := Lib.hid hR; have HCC := Lib.hid hc; clear hB hR hc; refine Stop.here ?_)
  refine Stop.on ?_
  have h1 := Lib.hid (fun w (h : RowAt w ad 3 exF) => p1.out ▸ posL_any ad 3 cap exF 5 4 w h HCC.out (by decide))
  have h2 := Lib.hid (fun w (h : RowAt w ad 3 exF) => p2.out ▸ offsetL_any ad 3 cap exF 5 3 2 w h HCC.out (by decide))
  have h3 := Lib.hid (fun w (h : RowAt w ad 3 exF) => p3.out ▸ spanL_any ad 3 cap exF 5 1 w h HCC.out (by decide))
  have h4 := Lib.hid (fun w (h : RowAt w ad 3 exF) => p4.out ▸ validL_any ad 3 cap exF 5 w h HCC.out (by decide))
  have h5 := Lib.hid (fun w (h : RowAt w ad 3 exF) => p5.out ▸ countL_any ad 3 cap exF 5 w h HCC.out (by decide))
  go_wp2_with (first | (go_at_call 19; refine (h1.out _ (HR.out.below (by repeat (first | exact Below.refl _ _ | refine below_gw ?_ (by simp; try omega) _ | refine Below.alloc ?_ (by simp; try omega) _ | refine Below.setCell ?_ (by simp; try omega) _ | refine Below.drew ?_)))).mono ?_; rintro e w1 ⟨rfl, q1, rfl⟩) | (go_at_call 21; refine (h2.out _ (HR.out.below (by repeat (first | exact Below.refl _ _ | refine below_gw ?_ (by simp; try omega) _ | refine Below.alloc ?_ (by simp; try omega) _ | refine Below.setCell ?_ (by simp; try omega) _ | refine Below.drew ?_)))).mono ?_; rintro e w1 ⟨rfl, q2, rfl⟩) | (go_at_call 23; refine (h3.out _ (HR.out.below (by repeat (first | exact Below.refl _ _ | refine below_gw ?_ (by simp; try omega) _ | refine Below.alloc ?_ (by simp; try omega) _ | refine Below.setCell ?_ (by simp; try omega) _ | refine Below.drew ?_)))).mono ?_; rintro e w1 ⟨rfl, q3, rfl⟩) | (go_at_call 14; refine (h4.out _ (HR.out.below (by repeat (first | exact Below.refl _ _ | refine below_gw ?_ (by simp; try omega) _ | refine Below.alloc ?_ (by simp; try omega) _ | refine Below.setCell ?_ (by simp; try omega) _ | refine Below.drew ?_)))).mono ?_; rintro e w1 ⟨rfl, q4, rfl⟩) | (go_at_call 15; refine (h5.out _ (HR.out.below (by repeat (first | exact Below.refl _ _ | refine below_gw ?_ (by simp; try omega) _ | refine Below.alloc ?_ (by simp; try omega) _ | refine Below.setCell ?_ (by simp; try omega) _ | refine Below.drew ?_)))).mono ?_; rintro e w1 ⟨rfl, q5, rfl⟩))
  go_ret
  exact Gives.mk rfl (below_from HB.out (by repeat (first | exact Below.refl _ _ | refine below_gw ?_ (by simp; try omega) _ | refine Below.alloc ?_ (by simp; try omega) _ | refine Below.setCell ?_ (by simp; try omega) _ | refine Below.drew ?_)))

end Go.Proofs.Ythncoanmmnileaa
