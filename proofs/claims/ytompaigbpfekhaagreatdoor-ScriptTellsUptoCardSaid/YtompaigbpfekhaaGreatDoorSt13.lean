/- What is proved here: the statement of ScriptTells, where the arguments are of a bounded bulk. -/
import Derived.Test.YtompaigbpfekhaaGreatDoorSt11
import Derived.Test.YtompaigbpfekhaaGreatDoorSt12
namespace Go.Proofs.YtompaigbpfekhaaGreatDoor
open Go Go.Hop Go.ChangeShapes Go.WideShapes Go.ChangeAt Go.RowKit
theorem scriptTells_upto : Rows.ScriptTellsUptoSaid :=
  OpenClaim.holds_of_cond 4 Tryz.f4 rfl rfl rfl rfl rfl rfl rfl ⟨rfl, rfl, rfl, rfl, rfl⟩ rfl rfl rfl rfl rfl (by kernel_rfl) Tryz.func4 jf4
    (of_decide_eq_true (by kernel_rfl)) (by unfold Func.isWrapper; first | (rw [if_pos (by decide +kernel)]; kernel_rfl) | (rw [if_neg (by decide +kernel)]; exact ⟨rfl, rfl⟩))
    (fun os started H enc _ F => by rw [OpenClaim.pre_eq_preRow]; exact lifted_tells os started H enc F)
end Go.Proofs.YtompaigbpfekhaaGreatDoor
