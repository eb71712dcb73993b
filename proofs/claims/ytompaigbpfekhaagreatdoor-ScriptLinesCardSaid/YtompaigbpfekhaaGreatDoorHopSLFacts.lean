/- What is proved here: the closed facts of the row of ScriptLines. -/
import Derived.Test.YtompaigbpfekhaaGreatDoorHopSLLift
namespace Go.Proofs.YtompaigbpfekhaaGreatDoor
open Go Go.Hop Go.ChangeShapes Go.WideShapes Go.ChangeAt Go.RowKit
theorem jf5 : joinedFacts Tryz.prog 5 Tryz.f5 Rows.scriptLinesSpec Rows.scriptLinesRow = true := by kernel_rfl
end Go.Proofs.YtompaigbpfekhaaGreatDoor
