/- What is proved here: what a function of the text computes. Printed by program. -/
import Derived.Test.YtompaigbpfekhaaGreatDoorHopShelf
namespace Go.Hop
open Go.Proofs
set_option maxRecDepth 4000
theorem snumber_spec (s : List UInt8) (hs : s.length ≤ 4000000000) {σ : Sg} {w : World} {R : List Assn} (hR : Lay R) (hh : Holds σ w (R)) :
    Calls Tryz.prog 46 ⟨[S s]⟩ w fun e w' => ∃ v L', e = .returned v ∧ ((∃ n b, v = .tuple ⟨[.int .i64 n, .bool b]⟩ ∧ NumIs s n b) ∧ L' = R) ∧ Holds σ w' L' := by
  refine enter Tryz.func46 rfl Tryz.ntmps46 rfl fun a hk => ?_
  refine wp_seq_k fun K1 hK1 => ?_
  refine reg_q tabOK hk hh [] [0] rfl trivial (fun a hk => ?_)
  refine hK1 a w ?_; try clear hK1 K1
  refine wp_seq_k fun K2 hK2 => ?_
  refine wp_region_lit ?_
  refine seq_q tabOK (i := 0) (stop := 1) hk hh [] rfl trivial (fun a hk => ?_)
  refine seq_eff hk hh rfl rfl (eff_call Tryz.func71 rfl rfl rfl rfl (fun w hh => parse_spec s (by omega) (by exact hR) hh)) (fun v L a w hp hk hh => ?_)
  obtain ⟨⟨n, er, b, rfl, hn, her, hnum⟩, hL⟩ := hp; rw [hL] at hh; clear hL
  refine rest_q tabOK (i := 2) hk hh [] [0, 4, 5] rfl trivial (fun a hk => ?_)
  refine hK2 a w ?_; try clear hK2 K2
  refine wp_seq_k fun K3 hK3 => ?_
  by_cases c1 : b = true
  · refine wp_region_lit ?_
    refine seq_q tabOK (i := 0) (stop := 5) hk hh [(2, .bool true)] rfl ?_ (fun a hk => ?_)
    · exact ⟨ob_conv (ob_errnil tabOK rfl rfl her) (v_id c1), trivial⟩
    refine seq_eff hk hh rfl rfl (eff_call Tryz.func30 rfl rfl rfl rfl (fun w hh => fmt_spec n (by first | assumption | (unfold I64; omega)) (by exact hR) hh)) (fun v L a w hp hk hh => ?_)
    obtain ⟨rfl, hL⟩ := hp; rw [hL] at hh; clear hL
    refine rest_q tabOK (i := 6) hk hh [] [2, 3] rfl trivial (fun a hk => ?_)
    refine hK3 a w ?_; try clear hK3 K3
    refine wp_ret ?_
    refine fin_ret hk (show Tryz.f46.results = ⟨[.tmp 2, .tmp 3]⟩ from rfl) (by exact (res_tmp hk rfl (res_tmp hk rfl .nil))) ?_
    refine ⟨_, _, rfl, ⟨⟨_, _, rfl, hn, ?_⟩, rfl⟩, hh⟩
    rw [hnum]
    simp [c1]
  · refine reg_q tabOK hk hh [(2, .bool false)] [2, 3] rfl ?_ (fun a hk => ?_)
    · exact ⟨ob_conv (ob_errnil tabOK rfl rfl her) (v_id (by simpa using c1)), trivial⟩
    refine hK3 a w ?_; try clear hK3 K3
    refine wp_ret ?_
    refine fin_ret hk (show Tryz.f46.results = ⟨[.tmp 2, .tmp 3]⟩ from rfl) (by exact (res_tmp hk rfl (res_tmp hk rfl .nil))) ?_
    refine ⟨_, _, rfl, ⟨⟨_, _, rfl, hn, ?_⟩, rfl⟩, hh⟩
    rw [hnum]
    simp [c1]

end Go.Hop
