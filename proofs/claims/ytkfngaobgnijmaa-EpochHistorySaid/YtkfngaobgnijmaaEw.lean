/- The examples of the document, run. -/
import Derived.Test.YtkfngaobgnijmaaEpA
import Derived.Test.YtkfngaobgnijmaaEpD
namespace Go.Proofs.Ytkfngaobgnijmaa
open Go.RowKit Go.Sort

def kA : Clk := fun | 1 => 3 | _ => 0
def kB : Clk := fun | 0 => 2 | 1 => 3 | _ => 0
def kC : Clk := fun | 0 => 2 | _ => 0
theorem aw1 (w : World) : Calls Try.prog 16 #[.agg #[.bool false, .int .i64 0, .int .i64 0, .int .i64 0, .int .i64 0, .int .i64 0, .int .i64 0, .int .i64 0, .int .i64 0, .int .i64 0, .int .i64 0], .agg #[.int .i64 1, .int .i64 3], .agg #[.int .i64 0, .int .i64 3, .int .i64 0, .int .i64 0, .int .i64 0, .int .i64 0, .int .i64 0, .int .i64 0]] w (Gives (.agg #[.bool false, .int .i64 1, .int .i64 3, .int .i64 0, .int .i64 0, .int .i64 0, .int .i64 0, .int .i64 0, .int .i64 0, .int .i64 0, .int .i64 0]) w) := by
  have h := add_any false 0 0 zc 1 3 kA w
  rw [show rdv (addM ⟨false, 0, 0, zc⟩ 1 3 kA) = .agg #[.bool false, .int .i64 1, .int .i64 3, .int .i64 0, .int .i64 0, .int .i64 0, .int .i64 0, .int .i64 0, .int .i64 0, .int .i64 0, .int .i64 0] by kernel_rfl] at h
  exact h
theorem aw2 (w : World) : Calls Try.prog 16 #[.agg #[.bool false, .int .i64 1, .int .i64 3, .int .i64 0, .int .i64 0, .int .i64 0, .int .i64 0, .int .i64 0, .int .i64 0, .int .i64 0, .int .i64 0], .agg #[.int .i64 0, .int .i64 2], .agg #[.int .i64 2, .int .i64 3, .int .i64 0, .int .i64 0, .int .i64 0, .int .i64 0, .int .i64 0, .int .i64 0]] w (Gives (.agg #[.bool false, .int .i64 0, .int .i64 2, .int .i64 0, .int .i64 0, .int .i64 0, .int .i64 0, .int .i64 0, .int .i64 0, .int .i64 0, .int .i64 0]) w) := by
  have h := add_any false 1 3 zc 0 2 kB w
  rw [show rdv (addM ⟨false, 1, 3, zc⟩ 0 2 kB) = .agg #[.bool false, .int .i64 0, .int .i64 2, .int .i64 0, .int .i64 0, .int .i64 0, .int .i64 0, .int .i64 0, .int .i64 0, .int .i64 0, .int .i64 0] by kernel_rfl] at h
  exact h
theorem aw3 (w : World) : Calls Try.prog 16 #[.agg #[.bool false, .int .i64 1, .int .i64 3, .int .i64 0, .int .i64 0, .int .i64 0, .int .i64 0, .int .i64 0, .int .i64 0, .int .i64 0, .int .i64 0], .agg #[.int .i64 0, .int .i64 2], .agg #[.int .i64 2, .int .i64 0, .int .i64 0, .int .i64 0, .int .i64 0, .int .i64 0, .int .i64 0, .int .i64 0]] w (Gives (.agg #[.bool true, .int .i64 0, .int .i64 0, .int .i64 2, .int .i64 3, .int .i64 0, .int .i64 0, .int .i64 0, .int .i64 0, .int .i64 0, .int .i64 0]) w) := by
  have h := add_any false 1 3 zc 0 2 kC w
  rw [show rdv (addM ⟨false, 1, 3, zc⟩ 0 2 kC) = .agg #[.bool true, .int .i64 0, .int .i64 0, .int .i64 2, .int .i64 3, .int .i64 0, .int .i64 0, .int .i64 0, .int .i64 0, .int .i64 0, .int .i64 0] by kernel_rfl] at h
  exact h
theorem aw4 (w : World) : Calls Try.prog 20 #[.agg #[.bool true, .int .i64 0, .int .i64 0, .int .i64 2, .int .i64 3, .int .i64 0, .int .i64 0, .int .i64 0, .int .i64 0, .int .i64 0, .int .i64 0], .agg #[.int .i64 0, .int .i64 3, .int .i64 0, .int .i64 0, .int .i64 0, .int .i64 0, .int .i64 0, .int .i64 0]] w (Gives (.agg #[.bool false, .int .i64 0, .int .i64 2, .int .i64 0, .int .i64 0, .int .i64 0, .int .i64 0, .int .i64 0, .int .i64 0, .int .i64 0, .int .i64 0]) w) := by
  have h := drop_any true 0 0 kB kA w
  rw [show rdv (dropM ⟨true, 0, 0, kB⟩ kA) = .agg #[.bool false, .int .i64 0, .int .i64 2, .int .i64 0, .int .i64 0, .int .i64 0, .int .i64 0, .int .i64 0, .int .i64 0, .int .i64 0, .int .i64 0] by kernel_rfl] at h
  exact h
theorem aw5 (w : World) : Calls Try.prog 12 #[.agg #[.int .i64 0, .int .i64 3, .int .i64 0, .int .i64 0, .int .i64 0, .int .i64 0, .int .i64 0, .int .i64 0], .int .i64 1] w (Gives (.agg #[.int .i64 1, .int .i64 3]) w) := by
  have h := of_any kA 1 w
  rw [show Value.agg #[.int .i64 (ofM kA 1).1, .int .i64 (ofM kA 1).2] = .agg #[.int .i64 1, .int .i64 3] by kernel_rfl] at h
  exact h
theorem eq1 (w : World) : (binOp .eql 31 (.agg #[.bool false, .int .i64 1, .int .i64 3, .int .i64 0, .int .i64 0, .int .i64 0, .int .i64 0, .int .i64 0, .int .i64 0, .int .i64 0, .int .i64 0]) (.agg #[.bool false, .int .i64 1, .int .i64 3, .int .i64 0, .int .i64 0, .int .i64 0, .int .i64 0, .int .i64 0, .int .i64 0, .int .i64 0, .int .i64 0])).run Try.prog w = .ok (.bool true) w := by kernel_rfl
theorem eq2 (w : World) : (binOp .eql 31 (.agg #[.bool false, .int .i64 0, .int .i64 2, .int .i64 0, .int .i64 0, .int .i64 0, .int .i64 0, .int .i64 0, .int .i64 0, .int .i64 0, .int .i64 0]) (.agg #[.bool false, .int .i64 0, .int .i64 2, .int .i64 0, .int .i64 0, .int .i64 0, .int .i64 0, .int .i64 0, .int .i64 0, .int .i64 0, .int .i64 0])).run Try.prog w = .ok (.bool true) w := by kernel_rfl
theorem eq3 (w : World) : (binOp .eql 31 (.agg #[.bool true, .int .i64 0, .int .i64 0, .int .i64 2, .int .i64 3, .int .i64 0, .int .i64 0, .int .i64 0, .int .i64 0, .int .i64 0, .int .i64 0]) (.agg #[.bool true, .int .i64 0, .int .i64 0, .int .i64 2, .int .i64 3, .int .i64 0, .int .i64 0, .int .i64 0, .int .i64 0, .int .i64 0, .int .i64 0])).run Try.prog w = .ok (.bool true) w := by kernel_rfl

set_option maxHeartbeats 1000000 in
theorem awake_any (w : World) : Calls Try.prog 11 #[] w (Gives (.bool true) w) := by
  have e1 := eq1
  have e2 := eq2
  have e3 := eq3
  go_enter Try.func11, Try.ntmps11
  go_wp2_with (first | (go_at_call 16; (with_reducible refine (aw1 _).mono ?_); rintro e w1 ⟨rfl, p1, rfl⟩) | (go_at_call 16; (with_reducible refine (aw2 _).mono ?_); rintro e w1 ⟨rfl, p1, rfl⟩) | (go_at_call 16; (with_reducible refine (aw3 _).mono ?_); rintro e w1 ⟨rfl, p1, rfl⟩) | (go_at_call 20; (with_reducible refine (aw4 _).mono ?_); rintro e w1 ⟨rfl, p1, rfl⟩) | (go_at_call 12; (with_reducible refine (aw5 _).mono ?_); rintro e w1 ⟨rfl, p1, rfl⟩))
  go_ret; exact Gives.mk rfl (by repeat (first | exact Below.refl _ _ | refine below_gw ?_ (by simp; try omega) _ | refine Below.alloc ?_ (by simp; try omega) _ | refine Below.setCell ?_ (by simp; try omega) _ | refine Below.drew ?_))

end Go.Proofs.Ytkfngaobgnijmaa
