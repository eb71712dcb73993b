/- What is proved here: the statement of ScriptNumbers. -/
import Derived.Test.YtompaigbpfekhaaGreatDoorSn10
import Derived.Test.YtompaigbpfekhaaGreatDoorSn11
namespace Go.Proofs.YtompaigbpfekhaaGreatDoor
open Go Go.Hop Go.ChangeShapes Go.WideShapes Go.ChangeAt Go.RowKit
theorem scriptNumbers_holds : Rows.ScriptNumbersSaid :=
  OpenClaim.holds_of_wide 3 Tryz.f3 rfl rfl rfl rfl rfl rfl rfl ⟨rfl, rfl, rfl, rfl, rfl⟩ rfl rfl rfl rfl rfl (by kernel_rfl) Tryz.func3 jf3
    (of_decide_eq_true (by kernel_rfl)) (by unfold Func.isWrapper; first | (rw [if_pos (by decide +kernel)]; kernel_rfl) | (rw [if_neg (by decide +kernel)]; exact ⟨rfl, rfl⟩))
    (fun os started H enc _ => lifted_numbers os started H enc)
end Go.Proofs.YtompaigbpfekhaaGreatDoor
