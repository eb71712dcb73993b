/- What is proved here: the tied card of ScriptNumbers. -/
import Derived.Test.YtompaigbpfekhaaGreatDoorSn12
import Derived.Test.YtompaigbpfekhaaGreatDoorCards
import Derived.SevenTiedAt
namespace Go.Proofs.YtompaigbpfekhaaGreatDoor
open Go
theorem scriptNumbers_card : Rows.ScriptNumbersCardSaid :=
  Claim7.holds_tied_plain_at .later [] [.data, .data, .data, .data, .sentinel, .sentinel, .pinned] true (true, "6545f3b5629a00911c65954fc506257201889d7383177fc0d35d702a8470d761") true
    scriptNumbers_holds (fun _ h => by cases h) (by kernel_rfl) (fun _ h => by cases h) scriptNumbers_row_tie rfl ⟨rfl, rfl⟩ (by kernel_rfl) rfl
    (fun f fn hf hfn => by
      obtain rfl : f = 3 := Option.some.inj ((show Tryz.prog.funcNamed "hopper/hopperlaw21.ScriptNumbers" = some 3 by kernel_rfl).symm.trans hf) |>.symm
      obtain rfl : fn = Tryz.f3 := (Option.some.inj (Tryz.func3.symm.trans hfn)).symm
      exact ⟨by kernel_rfl, fun j t ht => by
        rw [Tryz.params3] at ht
        simp at ht⟩)
    (by kernel_rfl)
end Go.Proofs.YtompaigbpfekhaaGreatDoor
