/- What is proved here: what a function of the text computes. Printed by program. -/
import Derived.Test.YtompaigbpfekhaaGreatDoorWText
import Derived.Test.YtompaigbpfekhaaGreatDoorWParse
import Derived.Test.YtompaigbpfekhaaGreatDoorWSame
import Derived.Test.YtompaigbpfekhaaGreatDoorWRun0
namespace Go.Hop
open Go.Proofs
set_option maxRecDepth 4000
theorem known_spec  {σ : Sg} {w : World} {R : List Assn} (hR : Lay R) (hh : Holds σ w (R)) :
    Calls Tryz.prog 11 ⟨[]⟩ w fun e w' => ∃ v L', e = .returned v ∧ (v = .bool true ∧ L' = R) ∧ Holds σ w' L' := by
  refine enter Tryz.func11 rfl Tryz.ntmps11 rfl fun a hk => ?_
  refine wp_seq_k fun K1 hK1 => ?_
  refine reg_q tabOK hk hh [] [] rfl trivial (fun a hk => ?_)
  refine hK1 a w ?_; try clear hK1 K1
  refine wp_seq_k fun K2 hK2 => ?_
  refine wp_region_lit ?_
  refine seq_eff hk hh rfl rfl (eff_call Tryz.func15 rfl rfl rfl rfl (fun w hh => line_spec [108, 101, 97, 100, 32, 48] (by decide) (by exact hR) hh)) (fun v L a w hp hk hh => ?_)
  obtain ⟨x, ok, rfl, hL, hl, hz⟩ := hp; rw [hL] at hh; clear hL
  obtain ⟨rfl, rfl⟩ := line_known hl line_lead0
  clear hl hz
  refine seq_q tabOK (i := 1) (stop := 4) hk hh [] rfl trivial (fun a hk => ?_)
  refine seq_eff hk hh rfl rfl (eff_alloc tabOK rfl) (fun v L a w hp hk hh => ?_)
  obtain ⟨b1, rfl, hL⟩ := hp; rw [hL] at hh; clear hL
  refine seq_eff hk hh rfl rfl (eff_store tabOK 0 rfl rfl rfl rfl rfl rfl rfl (by simp)) (fun v L a w hp hk hh => ?_)
  obtain ⟨rfl, hL⟩ := hp; rw [hL] at hh; clear hL
  refine rest_q tabOK (i := 6) hk hh [] [1, 2] rfl trivial (fun a hk => ?_)
  refine hK2 a w ?_; try clear hK2 K2
  refine wp_seq_k fun K3 hK3 => ?_
  refine wp_region_lit ?_
  refine seq_eff hk hh rfl rfl (eff_call Tryz.func15 rfl rfl rfl rfl (fun w hh => line_spec [108, 101, 97, 100] (by decide) (by exact (hR.cons _)) hh)) (fun v L a w hp hk hh => ?_)
  obtain ⟨x, ok, rfl, hL, hl, hz⟩ := hp; rw [hL] at hh; clear hL
  obtain ⟨rfl, rfl⟩ := line_unknown hl hz line_lead
  clear hl hz
  refine seq_q tabOK (i := 1) (stop := 4) hk hh [] rfl trivial (fun a hk => ?_)
  refine seq_eff hk hh rfl rfl (eff_alloc tabOK rfl) (fun v L a w hp hk hh => ?_)
  obtain ⟨b2, rfl, hL⟩ := hp; rw [hL] at hh; clear hL
  refine seq_eff hk hh rfl rfl (eff_store tabOK 0 rfl rfl rfl rfl rfl rfl rfl (by simp)) (fun v L a w hp hk hh => ?_)
  obtain ⟨rfl, hL⟩ := hp; rw [hL] at hh; clear hL
  refine rest_q tabOK (i := 6) hk hh [] [1, 2, 4] rfl trivial (fun a hk => ?_)
  refine hK3 a w ?_; try clear hK3 K3
  refine wp_seq_k fun K4 hK4 => ?_
  refine wp_region_lit ?_
  refine seq_eff hk hh rfl rfl (eff_call Tryz.func14 rfl rfl rfl rfl (fun w hh => parse_text knownT (by decide) (by exact ((hR.cons _).cons _)) hh)) (fun v L a w hp hk hh => ?_)
  obtain ⟨u1, u2, rfl, hL⟩ := hp; rw [hL, parse_known] at hh; clear hL
  change Holds σ w (Own 26 5 u1 2 (actC [ingA, tikA]) :: Own 3 1 u2 [(3 : Int)].length (intC [3]) :: _) at hh
  have hx := own_ne (hh.at_ 0 rfl) (by omega)
  clear hh; obtain ⟨b3, cap4, sp5, hu, hcap4, hh⟩ := hx; subst hu
  refine rest_q tabOK (i := 1) hk hh [] [1, 2, 4, 5, 6] rfl trivial (fun a hk => ?_)
  refine hK4 a w ?_; try clear hK4 K4
  refine wp_seq_k fun K5 hK5 => ?_
  refine wp_region_lit ?_
  refine seq_q tabOK (i := 0) (stop := 31) hk hh [(2, .agg ⟨[.int .i64 8, .int .i64 0, .int .i64 0, .int .i64 0, S []]⟩), (4, .bool true), (17, .pointer (some ⟨b3, 0, none⟩)), (19, S [97, 61, 49]), (20, .bool true), (24, .pointer (some ⟨b3, 0, none⟩)), (26, .int .i64 5)] rfl ?_ (fun a hk => ?_)
  · exact ⟨ob_loadN tabOK 3 rfl rfl rfl rfl rfl, ob_conv (ob_eqS tabOK eqOK rfl rfl rfl rfl) ((act_eq (⟨8, 0, 0, 0, []⟩ : ActL) (⟨8, 0, 0, 0, []⟩ : ActL)).trans (v_dt rfl)), ob_indexAddr tabOK (0) rfl rfl rfl rfl (by omega) (by omega) (by show 0 + (0 : Int).toNat * 5 = 0; omega), ob_load tabOK 0 rfl rfl rfl rfl rfl, ob_eq tabOK rfl (v_et rfl), ob_indexAddr tabOK (0) rfl rfl rfl rfl (by omega) (by omega) (by show 0 + (0 : Int).toNat * 5 = 0; omega), ob_load tabOK 0 rfl rfl rfl rfl rfl, trivial⟩
  refine seq_eff hk hh rfl rfl (eff_lit tabOK rfl rfl rfl (by decide) rfl) (fun v L a w hp hk hh => ?_)
  obtain ⟨b6, rfl, hL⟩ := hp; rw [hL] at hh; clear hL
  refine seq_eff hk hh rfl rfl (eff_call Tryz.func21 rfl rfl rfl rfl (fun w hh => same_spec [3] [3] u2 b6 1 [] (by decide) (by decide) σ w _ (hh.picks [2, 0] rfl))) (fun v L a w hp hk hh => ?_)
  obtain ⟨hv, hL⟩ := hp; rw [hL] at hh; clear hL; have hv2 := hv.trans (v_dt rfl); clear hv; subst hv2
  refine seq_q tabOK (i := 33) (stop := 36) hk hh [] rfl trivial (fun a hk => ?_)
  refine seq_eff hk hh rfl rfl (eff_call Tryz.func8 rfl rfl rfl rfl (fun w hh => text_spec ⟨0, 0, 0, 0, []⟩ zero_ok (by exact (((((hR.cons _).cons _).cons _).cons _).cons _)) hh)) (fun v L a w hp hk hh => ?_)
  obtain ⟨hv, hL⟩ := hp; rw [hL] at hh; clear hL; rw [text_zero] at hv; subst hv
  refine seq_q tabOK (i := 37) (stop := 43) hk hh [(37, .bool true), (41, .pointer (some ⟨b3, 0, none⟩)), (42, .agg ⟨[.int .i64 9, .int .i64 1, .int .i64 0, .int .i64 5, S [97, 61, 49]]⟩)] rfl ?_ (fun a hk => ?_)
  · exact ⟨ob_eq tabOK rfl (v_et rfl), ob_indexAddr tabOK (0) rfl rfl rfl rfl (by omega) (by omega) (by show 0 + (0 : Int).toNat * 5 = 0; omega), ob_loadN tabOK 2 rfl rfl rfl rfl rfl, trivial⟩
  refine seq_eff hk hh rfl rfl (eff_call Tryz.func8 rfl rfl rfl rfl (fun w hh => text_spec ingA ing_ok (by exact (((((hR.cons _).cons _).cons _).cons _).cons _)) hh)) (fun v L a w hp hk hh => ?_)
  obtain ⟨hv, hL⟩ := hp; rw [hL] at hh; clear hL; rw [text_ing] at hv; subst hv
  refine seq_q tabOK (i := 44) (stop := 48) hk hh [(44, .bool true)] rfl ?_ (fun a hk => ?_)
  · exact ⟨ob_eq tabOK rfl (v_et rfl), trivial⟩
  refine seq_eff hk hh rfl rfl (eff_call Tryz.func22 rfl rfl rfl rfl (fun w hh => run_nil _ σ w _ hh)) (fun v L a w hp hk hh => ?_)
  obtain ⟨rfl, hL⟩ := hp; rw [hL] at hh; clear hL
  refine rest_q tabOK (i := 49) hk hh [] [0] rfl trivial (fun a hk => ?_)
  refine hK5 a w ?_; try clear hK5 K5
  refine wp_ret ?_
  refine fin_ret hk (show Tryz.f11.results = ⟨[.tmp 0]⟩ from rfl) (by exact (res_tmp hk rfl .nil)) ?_
  replace hh := (hh.at_ 0 rfl).drop
  replace hh := (hh.at_ 0 rfl).drop
  replace hh := (hh.at_ 0 rfl).drop
  replace hh := (hh.at_ 0 rfl).drop
  replace hh := (hh.at_ 0 rfl).drop
  exact ⟨_, _, rfl, ⟨rfl, rfl⟩, hh⟩

end Go.Hop
