/- The program is laid out. -/
import Derived.Test.YtmgiojkdcpolfaaOn
namespace Go.Proofs.Ytmgiojkdcpolfaa
open Go.RowKit Go.Sort Go.ChangeShapes Go.WideShapes Go.ChangeAt
theorem Try.laidOut : laidOutB Try.prog = true := by kernel_rfl
end Go.Proofs.Ytmgiojkdcpolfaa
