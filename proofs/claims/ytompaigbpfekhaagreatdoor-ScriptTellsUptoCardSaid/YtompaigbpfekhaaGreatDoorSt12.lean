/- What is proved here: the closed facts of a row, one by one. -/
import Derived.Test.YtompaigbpfekhaaGreatDoorSt11
namespace Go.Proofs.YtompaigbpfekhaaGreatDoor
open Go Go.Hop Go.ChangeShapes Go.WideShapes Go.ChangeAt Go.RowKit
theorem jf4_0 : (Rows.scriptTellsUptoRow.wf (OpenSpec.ofChange ((Rows.OpenSpec.upto Rows.scriptTellsSpec).bare))) = true := by kernel_rfl
theorem jf4_1 : (laidOutB Tryz.prog) = true := by kernel_rfl
theorem jf4_2 : (mapsRowed Tryz.prog) = true := by kernel_rfl
theorem jf4_3 : (Tryz.f4.params.all (Tryz.prog.readableRec ·)) = true := by kernel_rfl
theorem jf4_4 : (namedTie Tryz.prog Rows.scriptTellsUptoRow.named ((Rows.OpenSpec.upto Rows.scriptTellsSpec).bare).vars) = true := by kernel_rfl
theorem jf4_5 : ((Rows.scriptTellsUptoRow.stops == [])) = true := by kernel_rfl
theorem jf4_6 : ((Tryz.prog.stops == [])) = true := by kernel_rfl
theorem jf4_7 : ((Rows.scriptTellsUptoRow.knobs == [])) = true := by kernel_rfl
theorem jf4_8 : ((Tryz.prog.stopKnobs == [])) = true := by kernel_rfl
theorem jf4_9 : ((Rows.scriptTellsUptoRow.inPlace == Tryz.prog.inPlace 4)) = true := by kernel_rfl
theorem jf4_10 : ((Rows.scriptTellsUptoRow.unfollowed == Tryz.prog.unfollowed 4)) = true := by kernel_rfl
theorem jf4_11 : ((Rows.scriptTellsUptoRow.recurses == Tryz.prog.recurses 4)) = true := by kernel_rfl
theorem jf4_12 : ((Rows.scriptTellsUptoRow.named == Tryz.prog.varsNamed 4)) = true := by kernel_rfl
theorem jf4_13 : ((Rows.scriptTellsUptoRow.maps == (Tryz.f4.params.toList ++ ((Rows.OpenSpec.upto Rows.scriptTellsSpec).bare).plain.varTypes Tryz.prog).any (Tryz.prog.mapsRec ·))) = true := by kernel_rfl
theorem jf4_14 : ((Rows.scriptTellsUptoRow.ifaces == (Tryz.f4.params.toList ++ ((Rows.OpenSpec.upto Rows.scriptTellsSpec).bare).plain.varTypes Tryz.prog).any (Tryz.prog.ifacesRec ·))) = true := by kernel_rfl
theorem jf4_15 : ((Rows.scriptTellsUptoRow.mapsOut == Tryz.prog.mapsAmong Tryz.f4.resultTypes.toList)) = true := by kernel_rfl
theorem jf4_16 : ((Rows.scriptTellsUptoRow.loops == (Tryz.f4.params.toList ++ ((Rows.OpenSpec.upto Rows.scriptTellsSpec).bare).plain.varTypes Tryz.prog).any (Tryz.prog.loopsFrom ·))) = true := by kernel_rfl
theorem jf4_17 : ((Rows.scriptTellsUptoRow.wideKeys == (Tryz.f4.params.toList ++ ((Rows.OpenSpec.upto Rows.scriptTellsSpec).bare).plain.varTypes Tryz.prog ++ Tryz.f4.resultTypes.toList).any (Tryz.prog.wideKeysFrom ·))) = true := by kernel_rfl
theorem jf4_18 : (((Rows.OpenSpec.upto Rows.scriptTellsSpec).bare).vars.all (Tryz.prog.varReadable ·)) = true := by kernel_rfl
theorem jf4_19 : (Tryz.f4.resultTypes.all (fun t => Tryz.prog.readableRec t && decide (t < Tryz.prog.types.size))) = true := by kernel_rfl
theorem jf4_20 : ((Rows.scriptTellsUptoRow.ifacesOut == Tryz.f4.resultTypes.toList.any (Tryz.prog.ifacesRec ·))) = true := by kernel_rfl
theorem jf4_21 : ((Rows.scriptTellsUptoRow.loopsOut == Tryz.f4.resultTypes.toList.any (Tryz.prog.loopsFrom ·))) = true := by kernel_rfl
theorem jf4_22 : ((Rows.scriptTellsUptoRow.plainKeys == Tryz.prog.plainKeys)) = true := by kernel_rfl
theorem jf4_23 : (Rows.scriptTellsUptoRow.shortTexts.isNone) = true := by kernel_rfl
theorem jf4_24 : (Tryz.prog.stopsHeard) = true := by kernel_rfl
theorem jf4_25 : (Tryz.prog.mayEnter) = true := by kernel_rfl
theorem jf4_26 : ((Rows.scriptTellsUptoRow.lifted == Tryz.prog.liftsFinal)) = true := by kernel_rfl
theorem jf4_27 : ((Tryz.prog.make == some Rows.scriptTellsUptoRow.make)) = true := by kernel_rfl
theorem jf4_28 : ((Rows.scriptTellsUptoRow.kinds == (if Rows.scriptTellsUptoRow.domain.isEmpty then [] else Tryz.f4.params.toList.map fun t => match Tryz.prog.underlying t with | some (.int k) => some k | _ => none))) = true := by kernel_rfl
theorem jf4_29 : ((Rows.scriptTellsUptoRow.pinned == Rows.scriptTellsUptoRow.pinnedBy)) = true := by kernel_rfl
theorem jf4_30 : ((Rows.scriptTellsUptoRow.veiled == (Tryz.f4.params.toList ++ ((Rows.OpenSpec.upto Rows.scriptTellsSpec).bare).plain.varTypes Tryz.prog ++ Tryz.f4.resultTypes.toList).any (Tryz.prog.veiledRec ·))) = true := by kernel_rfl
theorem jf4_31 : (Rows.scriptTellsUptoRow.veiledFits Tryz.prog Tryz.f4.params.toList (Tryz.f4.params.toList ++ ((Rows.OpenSpec.upto Rows.scriptTellsSpec).bare).plain.varTypes Tryz.prog ++ Tryz.f4.resultTypes.toList)) = true := by kernel_rfl
theorem and2 {a b : Bool} (h : a = true) (k : b = true) : (a && b) = true := by rw [h, k]; rfl
set_option maxRecDepth 100000 in
theorem jf4 : joinedFacts Tryz.prog 4 Tryz.f4 ((Rows.OpenSpec.upto Rows.scriptTellsSpec).bare) Rows.scriptTellsUptoRow = true := and2 (and2 (and2 (and2 (and2 (and2 (and2 (and2 (and2 (and2 (and2 (and2 (and2 (and2 (and2 (and2 (and2 (and2 (and2 (and2 (and2 (and2 (and2 (and2 (and2 (and2 (and2 (and2 (and2 (and2 (and2 (jf4_0) jf4_1) jf4_2) jf4_3) jf4_4) jf4_5) jf4_6) jf4_7) jf4_8) jf4_9) jf4_10) jf4_11) jf4_12) jf4_13) jf4_14) jf4_15) jf4_16) jf4_17) jf4_18) jf4_19) jf4_20) jf4_21) jf4_22) jf4_23) jf4_24) jf4_25) jf4_26) jf4_27) jf4_28) jf4_29) jf4_30) jf4_31
end Go.Proofs.YtompaigbpfekhaaGreatDoor
