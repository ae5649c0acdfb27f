/- A nil memory: Clear, Clone. -/
import Derived.Test.YtioajmhfofmdoaaMm
namespace Go.Proofs.Ytioajmhfofmdoaa
open Go.RowKit Go.Sort Go.Maps

theorem clearNil_any (o : Int) (w : World) : Calls Try.prog 18 #[.pointer none, .int .i64 o] w (Gives (.tuple #[]) w) := by
  go_enter Try.func18, Try.ntmps18
  go_wp2
  (try simp only [Exit.inBlock, Exit.then]); exact bodyPost_ret (results_none rfl _ _ _) rfl (Gives.mk rfl (by repeat (first | exact Below.refl _ _ | refine below_gw ?_ (by simp; try omega) _ | refine Below.alloc ?_ (by simp; try omega) _ | refine Below.setCell ?_ (by simp; try omega) _ | refine Below.drew ?_)))
theorem cloneNil_any (w : World) : Calls Try.prog 22 #[.pointer none] w (Gives (.pointer none) w) := by
  go_enter Try.func22, Try.ntmps22
  go_wp2
  go_ret; exact Gives.mk rfl (by repeat (first | exact Below.refl _ _ | refine below_gw ?_ (by simp; try omega) _ | refine Below.alloc ?_ (by simp; try omega) _ | refine Below.setCell ?_ (by simp; try omega) _ | refine Below.drew ?_))

end Go.Proofs.Ytioajmhfofmdoaa
