/- What is proved here: the tied card of ScriptTells. -/
import Derived.Test.YtompaigbpfekhaaGreatDoorSt13
import Derived.Test.YtompaigbpfekhaaGreatDoorCards
import Derived.SevenTiedAt
namespace Go.Proofs.YtompaigbpfekhaaGreatDoor
open Go
theorem scriptTells_card : Rows.ScriptTellsUptoCardSaid :=
  Claim7.holds_tied_plain_at .later [] [.data, .data, .data, .data, .sentinel, .sentinel, .pinned] true (true, "6545f3b5629a00911c65954fc506257201889d7383177fc0d35d702a8470d761") true
    scriptTells_upto (fun _ h => by cases h) (by kernel_rfl) (fun _ h => by cases h) scriptTellsUpto_row_tie rfl ⟨rfl, rfl⟩ (by kernel_rfl) rfl
    (fun f fn hf hfn => by
      obtain rfl : f = 4 := Option.some.inj ((show Tryz.prog.funcNamed "hopper/hopperlaw21.ScriptTells" = some 4 by kernel_rfl).symm.trans hf) |>.symm
      obtain rfl : fn = Tryz.f4 := (Option.some.inj (Tryz.func4.symm.trans hfn)).symm
      exact ⟨by kernel_rfl, fun j t ht => by
        rw [Tryz.params4] at ht
        have hm : t ∈ [9, 29, 3, 30] := by simpa using Array.mem_of_getElem? ht
        have hall : ([9, 29, 3, 30].all fun u => !Tryz.prog.wantsStandIn u) = true := by kernel_rfl
        exact (show Tryz.prog.wantsStandIn t = false by simpa using List.all_eq_true.1 hall t hm)⟩)
    (by kernel_rfl)
end Go.Proofs.YtompaigbpfekhaaGreatDoor
