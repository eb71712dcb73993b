/- What is proved here: what a function of the text computes. Printed by program. -/
import Derived.Test.YtompaigbpfekhaaGreatDoorHopParse
import Derived.Test.YtompaigbpfekhaaGreatDoorHopEqOK
import Derived.Test.YtompaigbpfekhaaGreatDoorWLine
namespace Go.Hop
open Go.Proofs
set_option maxRecDepth 4000
theorem again_spec (s : List UInt8) (x : ActL) (hs : s.length ≤ 4000000000) {σ : Sg} {w : World} {R : List Assn} (hR : Lay R) (hh : Holds σ w (R)) :
    Calls Tryz.prog 19 ⟨[S s, .agg ⟨[.int .i64 x.k, .int .i64 x.a, .int .i64 x.b, .int .i64 x.n, S x.s]⟩]⟩ w fun e w' => ∃ v L', e = .returned v ∧ (v = .bool (decide (lineO s = some x)) ∧ L' = R) ∧ Holds σ w' L' := by
  refine enter Tryz.func19 rfl Tryz.ntmps19 rfl fun a hk => ?_
  refine wp_seq_k fun K1 hK1 => ?_
  refine wp_region_lit ?_
  refine seq_eff hk hh rfl rfl (eff_box rfl rfl) (fun v L a w hp hk hh => ?_)
  obtain ⟨b1, rfl, hL⟩ := hp; rw [hL] at hh; clear hL
  refine rest_q tabOK (i := 1) hk hh [] [0, 3] rfl trivial (fun a hk => ?_)
  refine hK1 a w ?_; try clear hK1 K1
  refine wp_seq_k fun K2 hK2 => ?_
  refine wp_region_lit ?_
  refine seq_q tabOK (i := 0) (stop := 1) hk hh [] rfl trivial (fun a hk => ?_)
  refine seq_eff hk hh rfl rfl (eff_call Tryz.func15 rfl rfl rfl rfl (fun w hh => line_spec s (by first | exact hs | exact hw0 _ | omega) (by exact (hR.cons _)) hh)) (fun v L a w hp hk hh => ?_)
  obtain ⟨x2, ok3, rfl, hL, hlx2, hzx2⟩ := hp; rw [hL] at hh; clear hL
  refine seq_q tabOK (i := 2) (stop := 5) hk hh [] rfl trivial (fun a hk => ?_)
  refine seq_eff hk hh rfl rfl (eff_alloc tabOK rfl) (fun v L a w hp hk hh => ?_)
  obtain ⟨b4, rfl, hL⟩ := hp; rw [hL] at hh; clear hL
  refine seq_eff hk hh rfl rfl (eff_store tabOK 0 rfl rfl rfl rfl rfl rfl rfl (by simp)) (fun v L a w hp hk hh => ?_)
  obtain ⟨rfl, hL⟩ := hp; rw [hL] at hh; clear hL
  refine rest_q tabOK (i := 7) hk hh [] [3, 5, 6] rfl trivial (fun a hk => ?_)
  refine hK2 a w ?_; try clear hK2 K2
  refine wp_seq_k fun K3 hK3 => ?_
  by_cases c5 : ok3 = true
  · refine reg_q tabOK hk hh [(0, .bool true), (2, .agg ⟨[.int .i64 x2.k, .int .i64 x2.a, .int .i64 x2.b, .int .i64 x2.n, S x2.s]⟩), (3, .agg ⟨[.int .i64 x.k, .int .i64 x.a, .int .i64 x.b, .int .i64 x.n, S x.s]⟩), (4, .bool (decide (x2 = x)))] [4] rfl ?_ (fun a hk => ?_)
    · exact ⟨ob_eq tabOK rfl (v_id c5), ob_loadN tabOK 0 rfl rfl rfl rfl rfl, ob_loadN tabOK 1 rfl rfl rfl rfl rfl, ob_conv (ob_eqS tabOK eqOK rfl rfl rfl rfl) (act_eq x2 x), trivial⟩
    refine hK3 a w ?_; try clear hK3 K3
    refine wp_ret ?_
    refine fin_ret hk (show Tryz.f19.results = ⟨[.tmp 4]⟩ from rfl) (by exact (res_tmp hk rfl .nil)) ?_
    replace hh := (hh.at_ 0 rfl).drop
    replace hh := (hh.at_ 0 rfl).drop
    refine ⟨_, _, rfl, ⟨?_, rfl⟩, hh⟩
    simp [retV, hlx2, c5]
  · refine reg_q tabOK hk hh [(0, .bool false)] [4] rfl ?_ (fun a hk => ?_)
    · exact ⟨ob_eq tabOK rfl (v_id (by simpa using c5)), trivial⟩
    refine hK3 a w ?_; try clear hK3 K3
    refine wp_ret ?_
    refine fin_ret hk (show Tryz.f19.results = ⟨[.tmp 4]⟩ from rfl) (by exact (res_tmp hk rfl .nil)) ?_
    replace hh := (hh.at_ 0 rfl).drop
    replace hh := (hh.at_ 0 rfl).drop
    refine ⟨_, _, rfl, ⟨?_, rfl⟩, hh⟩
    simp [retV, hlx2, c5]

end Go.Hop
