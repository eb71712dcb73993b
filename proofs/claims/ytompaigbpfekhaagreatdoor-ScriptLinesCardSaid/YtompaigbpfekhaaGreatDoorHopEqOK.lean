/- What is proved here: which structs may be compared part by part. -/
import Derived.Test.YtompaigbpfekhaaGreatDoorHopTab
import Derived.Test.YtompaigbpfekhaaGreatDoorHopEq
namespace Go.Hop
open Go.Proofs
theorem eq26 : EqOK Tryz.prog 26 := ⟨by kernel_rfl, by kernel_rfl, by kernel_rfl⟩
theorem eqOK : ∀ t ∈ [26], EqOK Tryz.prog t := by
  intro t ht
  rw [List.mem_singleton] at ht
  subst ht; exact eq26
end Go.Hop
