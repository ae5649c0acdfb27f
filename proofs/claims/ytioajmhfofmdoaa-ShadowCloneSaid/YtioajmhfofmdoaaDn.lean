/- A change to a nil memory. -/
import Derived.Test.YtioajmhfofmdoaaNn
import Derived.Test.YtioajmhfofmdoaaRi
namespace Go.Proofs.Ytioajmhfofmdoaa
open Go.RowKit Go.Sort Go.Maps

theorem doNil_any (o f : Int) (x : Wd) (d : Bool) (w : World) : Calls Try.prog 11 #[.pointer none, opv o f x d] w (Gives (.tuple #[]) w) := by
  cases d
  all_goals
    go_enter Try.func11, Try.ntmps11
    go_wp2_with (first | (go_at_call 23; refine (setNil_any o f x _).mono ?_; rintro e w1 ⟨rfl, p1, rfl⟩) | (go_at_call 18; refine (clearNil_any o _).mono ?_; rintro e w1 ⟨rfl, p2, rfl⟩))
    (try simp only [Exit.inBlock, Exit.then]); exact bodyPost_ret (results_none rfl _ _ _) rfl (Gives.mk rfl (by repeat (first | exact Below.refl _ _ | refine below_gw ?_ (by simp; try omega) _ | refine Below.alloc ?_ (by simp; try omega) _ | refine Below.setCell ?_ (by simp; try omega) _ | refine Below.drew ?_)))

end Go.Proofs.Ytioajmhfofmdoaa
