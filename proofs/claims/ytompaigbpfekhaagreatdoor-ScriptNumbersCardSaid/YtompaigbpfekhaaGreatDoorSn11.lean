/- What is proved here: the closed facts of the row of ScriptNumbers. -/
import Derived.Test.YtompaigbpfekhaaGreatDoorSn10
namespace Go.Proofs.YtompaigbpfekhaaGreatDoor
open Go Go.Hop Go.ChangeShapes Go.WideShapes Go.ChangeAt Go.RowKit
theorem jf3 : joinedFacts Tryz.prog 3 Tryz.f3 Rows.scriptNumbersSpec Rows.scriptNumbersRow = true := by kernel_rfl
end Go.Proofs.YtompaigbpfekhaaGreatDoor
