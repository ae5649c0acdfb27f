/- The program is laid out. -/
import Derived.Test.YtbhkcejjehgfcaaOa
namespace Go.Proofs.Ytbhkcejjehgfcaa
open Go.RowKit Go.Sort Go.ChangeShapes Go.WideShapes Go.ChangeAt
theorem Try.laidOut : laidOutB Try.prog = true := by kernel_rfl
end Go.Proofs.Ytbhkcejjehgfcaa
