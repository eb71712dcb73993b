/- What is proved here: the statement of ScriptLines. -/
import Derived.Test.YtompaigbpfekhaaGreatDoorHopSLRow
import Derived.Lib.LaidU8
namespace Go.Proofs.YtompaigbpfekhaaGreatDoor
open Go Go.Hop Go.ChangeShapes Go.WideShapes Go.ChangeAt Go.RowKit
open Go.ChangeMaps (open_string shut_string)
/-- A start: the heap that the door's run leaves, and the pinned table. -/
noncomputable def startW (os : Os) : World :=
  let w0 := World.doorLaid Tryz.prog 600 os
  { w0 with heap := w0.heap.modify 2 fun
      | .cells _ t fz => .cells (Lib.firstTab.map (Value.int .u8)).toArray t fz
      | o => o }
set_option maxRecDepth 100000 in
theorem start_met (os : Os) (args : Array Value) : laidMetH Tryz.prog Rows.scriptLinesRow.laid ((startW os).forCall (fun _ _ => 0) ⟨#[], args, []⟩).memory :=
  laidMetH_of_parts3 (fuel := 8) (laidMet_of_run' 8 (by kernel_rfl) (by kernel_rfl)) (by kernel_rfl) (by kernel_rfl)
set_option maxRecDepth 100000 in
theorem lifted_lines (os : Os) (started : os.Started) (H : Type) (enc : TypeId × Value → H) :
    ReturnsInHanded {} Tryz.checked os 5 .any (fun w args => (Rows.scriptLinesSpec.pre enc Tryz.prog Tryz.f5 [] false w args ∧ laidMetH Tryz.prog Rows.scriptLinesRow.laid w) ∧ sizedMet enc Tryz.prog Tryz.f5 (OpenSpec.ofChange Rows.scriptLinesSpec) false w args)
      (Rows.scriptLinesSpec.post enc Tryz.prog Tryz.f5 false true false false) := by
  refine returns_both (C := Tryz.checked) (X := fun w _ => laidMetH Tryz.prog Rows.scriptLinesRow.laid w) (fun _ _ _ hh h => h.of_heap hh) seatOwn started (by kernel_rfl) Tryz.func5
    (ChangeSpec.witness_shaped (enc := enc) (C := Tryz.checked) (os := os) (X := fun w _ => laidMetH Tryz.prog Rows.scriptLinesRow.laid w) false (startW os) #[.string ⟨#[]⟩, .string ⟨#[]⟩] 8 rfl (World.shaped_of_RefB (by kernel_rfl) (by kernel_rfl)) (by kernel_rfl) (by kernel_rfl) (by kernel_rfl) (start_met os _)) ?_
  intro W base args ds gs before hval0 hW _ hsz0 hL hsh
  have hval : ∀ (j : Nat) t v, Tryz.f5.params[j]? = some t → args[j]? = some v → Value.okWide Tryz.prog W .any base t v := hval0
  have hsz : (DataW.weightsEach Tryz.prog (Tryz.f5.params.toList ++ Rows.scriptLinesSpec.plain.varTypes Tryz.prog) (ds ++ gs)).all (· ≤ reachBytes) = true := hsz0
  clear hsz0
  have hW' := hW
  obtain ⟨p, q, hA0, hV, rfl, hfz, hnd⟩ := hW
  have hA : DataW.TrodAll enc Tryz.prog W 0 (fun _ => true) true Tryz.f5.params.toList args.toList ds p := hA0
  rw [Tryz.params5] at hA hval hsz
  obtain ⟨v0, v1, d0, d1, p0, p1, rfl, rfl, rfl, h0, h1⟩ := trodAll_two hA
  obtain ⟨rfl, rfl⟩ := trodVars_none hV
  obtain ⟨s, rfl, rfl, rfl, hs⟩ := open_string Tryz.underlying9 (hval 0 9 v0 rfl rfl) h0
  obtain ⟨t, rfl, rfl, rfl, ht⟩ := open_string Tryz.underlying9 (hval 1 9 v1 rfl rfl) h1
  clear hA0 hval0
  simp only [List.append_nil] at hW'
  have l0 := sized_string hsz (j := 0) (t := 9) rfl rfl
  have l1 := sized_string hsz (j := 1) (t := 9) rfl rfl
  have hr := reachBytes_lt
  have e0 : s.size = s.data.size := rfl
  have e1 : t.size = t.data.size := rfl
  have e2 : s.data.toList.length = s.data.size := Array.length_toList
  have e3 : t.data.toList.length = t.data.size := Array.length_toList
  have e4 : (2 : Nat) ^ 47 = 140737488355328 := by decide
  refine (lines_call s t (by omega) (by omega) W (of_laid (laid_is ▸ hL) hsh)).mono fun e W' ⟨he, hnx⟩ => ?_
  subst he
  refine ⟨_, rfl, _, _, _, [], [], [], hW', ?_, ?_, rfl, hnx.frame _, fun h => by cases h⟩
  · exact trodAll_mk1 (shut_bool Tryz.underlying4 _)
  · exact trodAll_mk2 (shut_string Tryz.underlying9 hs) (shut_string Tryz.underlying9 ht)
end Go.Proofs.YtompaigbpfekhaaGreatDoor
