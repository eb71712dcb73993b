/- What is proved here: the statement of ScriptLines. -/
import Derived.Test.YtompaigbpfekhaaGreatDoorHopSLLift
import Derived.Test.YtompaigbpfekhaaGreatDoorHopSLFacts
namespace Go.Proofs.YtompaigbpfekhaaGreatDoor
open Go Go.Hop Go.ChangeShapes Go.WideShapes Go.ChangeAt Go.RowKit
theorem scriptLines_holds : Rows.ScriptLinesSaid :=
  OpenClaim.holds_of_wide 5 Tryz.f5 rfl rfl rfl rfl rfl rfl rfl ⟨rfl, rfl, rfl, rfl, rfl⟩ rfl rfl rfl rfl rfl (by kernel_rfl) Tryz.func5 jf5
    (of_decide_eq_true (by kernel_rfl)) (by unfold Func.isWrapper; first | (rw [if_pos (by decide +kernel)]; kernel_rfl) | (rw [if_neg (by decide +kernel)]; exact ⟨rfl, rfl⟩))
    (fun os started H enc _ => lifted_lines os started H enc)
end Go.Proofs.YtompaigbpfekhaaGreatDoor
