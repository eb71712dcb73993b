/- What is proved here: what a function of the text computes. Printed by program. -/
import Derived.Test.YtompaigbpfekhaaGreatDoorWSet
namespace Go.Hop
open Go.Proofs
set_option maxRecDepth 4000
theorem forms_spec  (σ : Sg) (w : World) (R : List Assn) (hh : Holds σ w (R)) :
    Calls Tryz.prog 18 ⟨[]⟩ w fun e w' => ∃ v L', e = .returned v ∧ (∃ b, v = .slice (some ⟨b, 0, none⟩) 13 13 ∧ L' = row b 44 formsC :: R) ∧ Holds σ w' L' := by
  refine enter Tryz.func18 rfl Tryz.ntmps18 rfl fun a hk => ?_
  refine wp_seq_k fun K1 hK1 => ?_
  refine reg_q tabOK hk hh [] [] rfl trivial (fun a hk => ?_)
  refine hK1 a w ?_; try clear hK1 K1
  refine wp_seq_k fun K2 hK2 => ?_
  refine wp_region_lit ?_
  refine seq_q tabOK (i := 0) (stop := 13) hk hh [] rfl trivial (fun a hk => ?_)
  refine seq_eff hk hh rfl rfl (eff_lit tabOK rfl rfl rfl (by decide) rfl) (fun v L a w hp hk hh => ?_)
  obtain ⟨b1, rfl, hL⟩ := hp; rw [hL] at hh; clear hL
  refine rest_q tabOK (i := 14) hk hh [] [0] rfl trivial (fun a hk => ?_)
  refine hK2 a w ?_; try clear hK2 K2
  refine wp_ret ?_
  refine fin_ret hk (show Tryz.f18.results = ⟨[.tmp 0]⟩ from rfl) (by exact (res_tmp hk rfl .nil)) ?_
  refine ⟨_, _, rfl, ⟨_, rfl, rfl⟩, hh⟩

end Go.Hop
