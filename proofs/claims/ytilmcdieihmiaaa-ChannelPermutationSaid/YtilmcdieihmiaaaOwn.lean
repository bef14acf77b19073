/- Two facts on the program that every law's statement asks for. -/
import Derived.Test.YtilmcdieihmiaaaArgs
namespace Go.Proofs.Ytilmcdieihmiaaa
open Go.ChangeShapes Go.WideShapes Go.ChangeAt Go.RowKit
theorem own : ownKnob Try.prog.godebug = none := by kernel_rfl
theorem laidOut : laidOutB Try.prog = true := by kernel_rfl
end Go.Proofs.Ytilmcdieihmiaaa
