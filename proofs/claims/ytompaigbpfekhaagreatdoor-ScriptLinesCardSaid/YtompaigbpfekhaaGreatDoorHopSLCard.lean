/- What is proved here: the tied card of ScriptLines. -/
import Derived.Test.YtompaigbpfekhaaGreatDoorHopSLHolds
import Derived.Test.YtompaigbpfekhaaGreatDoorCards
import Derived.SevenTiedAt
namespace Go.Proofs.YtompaigbpfekhaaGreatDoor
open Go
theorem scriptLines_card : Rows.ScriptLinesCardSaid :=
  Claim7.holds_tied_plain_at .later [] [.data, .data, .data, .data, .sentinel, .sentinel, .pinned] true (true, "6545f3b5629a00911c65954fc506257201889d7383177fc0d35d702a8470d761") true
    scriptLines_holds (fun _ h => by cases h) (by kernel_rfl) (fun _ h => by cases h) scriptLines_row_tie rfl ⟨rfl, rfl⟩ (by kernel_rfl) rfl
    (fun f fn hf hfn => by
      obtain rfl : f = 5 := Option.some.inj ((show Tryz.prog.funcNamed "hopper/hopperlaw21.ScriptLines" = some 5 by kernel_rfl).symm.trans hf) |>.symm
      obtain rfl : fn = Tryz.f5 := (Option.some.inj (Tryz.func5.symm.trans hfn)).symm
      exact ⟨by kernel_rfl, fun j t ht => by
        rw [Tryz.params5] at ht
        have hm : t ∈ [9, 9] := by simpa using Array.mem_of_getElem? ht
        have hall : ([9, 9].all fun u => !Tryz.prog.wantsStandIn u) = true := by kernel_rfl
        exact (show Tryz.prog.wantsStandIn t = false by simpa using List.all_eq_true.1 hall t hm)⟩)
    (by kernel_rfl)
end Go.Proofs.YtompaigbpfekhaaGreatDoor
