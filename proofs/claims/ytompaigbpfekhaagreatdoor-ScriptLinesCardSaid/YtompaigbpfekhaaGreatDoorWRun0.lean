/- What is proved here: what a function of the text computes. Printed by program. -/
import Derived.Test.YtompaigbpfekhaaGreatDoorHopParse
import Derived.Test.YtompaigbpfekhaaGreatDoorHopTab
namespace Go.Hop
open Go.Proofs
set_option maxRecDepth 4000
theorem run_nil (u : Value) (σ : Sg) (w : World) (R : List Assn) (hh : Holds σ w (R)) :
    Calls Tryz.prog 22 ⟨[.pointer none, u]⟩ w fun e w' => ∃ v L', e = .returned v ∧ (v = .slice none 0 0 ∧ L' = R) ∧ Holds σ w' L' := by
  refine enter Tryz.func22 rfl Tryz.ntmps22 rfl fun a hk => ?_
  refine wp_seq_k fun K1 hK1 => ?_
  refine reg_q tabOK hk hh [] [0, 1] rfl trivial (fun a hk => ?_)
  refine hK1 a w ?_; try clear hK1 K1
  refine wp_seq_k fun K2 hK2 => ?_
  refine reg_q tabOK hk hh [] [0, 1, 5] rfl trivial (fun a hk => ?_)
  refine hK2 a w ?_; try clear hK2 K2
  refine wp_seq_k fun K3 hK3 => ?_
  refine wp_seq_k fun K4 hK4 => ?_
  refine reg_q tabOK hk hh [] [0, 1, 5, 9] rfl trivial (fun a hk => ?_)
  refine hK4 a w ?_; try clear hK4 K4
  refine code_cond hk rfl (fun _ => ?_) (fun h => by cases h)
  refine wp_seq_k fun K5 hK5 => ?_
  refine reg_q tabOK hk hh [] [0, 1, 4, 5] rfl trivial (fun a hk => ?_)
  refine hK5 a w ?_; try clear hK5 K5
  refine wp_ret ?_
  refine then_ret ?_
  refine fin_ret hk (show Tryz.f22.results = ⟨[.tmp 4]⟩ from rfl) (by exact (res_tmp hk rfl .nil)) ?_
  exact ⟨_, _, rfl, ⟨rfl, rfl⟩, hh⟩

end Go.Hop
