/- The given memory: usable, and what a nil memory answers. -/
import Derived.Test.YtioajmhfofmdoaaKy
import Derived.BigQuiet
namespace Go.Proofs.Ytioajmhfofmdoaa
open Go.RowKit Go.Sort Go.Maps

def usM (o f : Int) : Bool := decide (0 ≤ o) && decide (0 ≤ f)
theorem usable_any (o f : Int) (w : World) : Calls Try.prog 25 #[locv o f] w (Gives (.bool (usM o f)) w) := by
  by_cases h1 : 0 ≤ o
  · have he := Lib.hid (show usM o f = decide (0 ≤ f) by simp [usM, h1])
    go_enter Try.func25, Try.ntmps25
    go_wp2
    go_ret; exact Gives.mk (by rw [he.out]; rfl) (by repeat (first | exact Below.refl _ _ | refine below_gw ?_ (by simp; try omega) _ | refine Below.alloc ?_ (by simp; try omega) _ | refine Below.setCell ?_ (by simp; try omega) _ | refine Below.drew ?_))
  · have he := Lib.hid (show usM o f = false by simp [usM, h1])
    have hd : decide (0 ≤ o) = false := by simpa using h1
    clear h1
    go_enter Try.func25, Try.ntmps25
    go_wp2
    go_ret; exact Gives.mk (by rw [he.out]; rfl) (by repeat (first | exact Below.refl _ _ | refine below_gw ?_ (by simp; try omega) _ | refine Below.alloc ?_ (by simp; try omega) _ | refine Below.setCell ?_ (by simp; try omega) _ | refine Below.drew ?_))
theorem getNil_any (o f : Int) (w : World) : Calls Try.prog 13 #[.pointer none, locv o f] w (Gives (wv wz) w) := by
  go_enter Try.func13, Try.ntmps13
  go_wp2
  exact bodyPost_ret (v := .agg #[.int .i64 0, .int .i64 0, .bool false, .int .i64 0, .int .i64 0, .int .i64 0, .int .i64 0, .int .i64 0, .int .i64 0, .int .i64 0, .int .i64 0, .int .i64 0, .int .i64 0]) (by simp [results, Try.results13, go_sem] <;> rfl) rfl (Gives.mk rfl (by repeat (first | exact Below.refl _ _ | refine below_gw ?_ (by simp; try omega) _ | refine Below.alloc ?_ (by simp; try omega) _ | refine Below.setCell ?_ (by simp; try omega) _ | refine Below.drew ?_)))
theorem pagesNil_any (w : World) : Calls Try.prog 16 #[.pointer none] w (Gives (.int .i64 0) w) := by
  go_enter Try.func16, Try.ntmps16
  go_wp2
  go_ret; exact Gives.mk rfl (by repeat (first | exact Below.refl _ _ | refine below_gw ?_ (by simp; try omega) _ | refine Below.alloc ?_ (by simp; try omega) _ | refine Below.setCell ?_ (by simp; try omega) _ | refine Below.drew ?_))
/-- A location that can have no word. -/
theorem getOut_any (m : Value) (o f : Int) (w : World) (h : usM o f = false) (bm : Nat) (hm : m = .pointer (some ⟨bm, 0, none⟩)) : Calls Try.prog 13 #[m, locv o f] w (Gives (wv wz) w) := by
  subst hm
  have HU := Lib.hid (fun w => (by have := usable_any o f w; rwa [h] at this : Calls Try.prog 25 #[locv o f] w (Gives (.bool false) w)))
  clear h
  go_enter Try.func13, Try.ntmps13
  go_wp2_with (go_at_call 25; refine (HU.out _).mono ?_; rintro e w1 ⟨rfl, p1, rfl⟩)
  exact bodyPost_ret (v := .agg #[.int .i64 0, .int .i64 0, .bool false, .int .i64 0, .int .i64 0, .int .i64 0, .int .i64 0, .int .i64 0, .int .i64 0, .int .i64 0, .int .i64 0, .int .i64 0, .int .i64 0]) (by simp [results, Try.results13, go_sem] <;> rfl) rfl (Gives.mk rfl (by repeat (first | exact Below.refl _ _ | refine below_gw ?_ (by simp; try omega) _ | refine Below.alloc ?_ (by simp; try omega) _ | refine Below.setCell ?_ (by simp; try omega) _ | refine Below.drew ?_)))
theorem setNil_any (o f : Int) (x : Wd) (w : World) : Calls Try.prog 23 #[.pointer none, locv o f, wv x] w (Gives (.tuple #[]) w) := by
  have qz : ∀ w, (binOp .eql 37 (wv wz) (wv x)).run Try.prog w = .ok (.bool (wdE wz x)) w := fun w => run_eql_wd wz x w
  generalize wdE wz x = z at *
  cases z
  all_goals
    go_enter Try.func23, Try.ntmps23
    go_wp2
    refine wp_region_gw (by kernel_rfl) (by kernel_rfl) ?_
    repeat (quiet_step (first | (go_at_call 13; exact Gives.call (getNil_any o f _))))
    refine wpQuiet_nil ?_
    intro _ hw'
    obtain ⟨p1, hw''⟩ := hw'
    subst hw''
    go_wp2
    (try simp only [Exit.inBlock, Exit.then]); exact bodyPost_ret (results_none rfl _ _ _) rfl (Gives.mk rfl (by repeat (first | exact Below.refl _ _ | refine below_gw ?_ (by simp; try omega) _ | refine Below.alloc ?_ (by simp; try omega) _ | refine Below.setCell ?_ (by simp; try omega) _ | refine Below.drew ?_)))

end Go.Proofs.Ytioajmhfofmdoaa
