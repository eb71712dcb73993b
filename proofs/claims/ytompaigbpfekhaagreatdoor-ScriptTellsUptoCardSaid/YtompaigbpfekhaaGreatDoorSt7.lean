/- What is proved here: what a function of the text computes. Printed by program. -/
import Derived.Test.YtompaigbpfekhaaGreatDoorSt0
import Derived.Test.YtompaigbpfekhaaGreatDoorSt2
import Derived.Test.YtompaigbpfekhaaGreatDoorSt4
import Derived.Test.YtompaigbpfekhaaGreatDoorSt6
namespace Go.Hop
open Go.Proofs
set_option maxRecDepth 4000
set_option maxHeartbeats 4000000
theorem act_spec (d : DrawL) (r n g : Int) (hr : 0 ≤ r ∧ r ≤ 8) (hn : 0 ≤ n ∧ n ≤ 8) (hg : 0 ≤ g ∧ g ≤ 1000) (σ : Sg) (w : World) (R : List Assn) (hh : Holds σ w (R)) :
    Calls Tryz.prog 12 ⟨[.agg ⟨[.int .i64 d.k, .int .i64 d.a, .int .i64 d.b, .int .i64 d.n]⟩, .int .i64 r, .int .i64 n, .int .i64 g]⟩ w fun e w' => ∃ v L', e = .returned v ∧ (v = .agg ⟨(actO d r n g).cs⟩ ∧ L' = R) ∧ Holds σ w' L' := by
  refine enter Tryz.func12 rfl Tryz.ntmps12 rfl fun a hk => ?_
  refine wp_seq_k fun K1 hK1 => ?_
  refine wp_region_lit ?_
  refine seq_eff hk hh rfl rfl (eff_box rfl rfl) (fun v L a w hp hk hh => ?_)
  obtain ⟨b1, rfl, hL⟩ := hp; rw [hL] at hh; clear hL
  refine seq_eff hk hh rfl rfl (eff_alloc tabOK rfl) (fun v L a w hp hk hh => ?_)
  obtain ⟨b2, rfl, hL⟩ := hp; rw [hL] at hh; clear hL
  refine rest_q tabOK (i := 2) hk hh [] [1, 2, 3, 4, 8] rfl trivial (fun a hk => ?_)
  refine hK1 a w ?_; try clear hK1 K1
  refine wp_seq_k fun K2 hK2 => ?_
  refine wp_region_lit ?_
  refine seq_q tabOK (i := 0) (stop := 2) hk hh [(1, .int .i64 d.k)] rfl ?_ (fun a hk => ?_)
  · exact ⟨ob_load tabOK 1 rfl rfl rfl rfl rfl, trivial⟩
  refine seq_eff hk hh rfl rfl (eff_call Tryz.func13 rfl rfl rfl rfl (fun w hh => within_spec d.k 0 31 (by first | omega | (split <;> omega)) (by first | omega | (split <;> omega)) (by first | omega | (split <;> omega)) σ w _ hh)) (fun v L a w hp hk hh => ?_)
  obtain ⟨rfl, hL⟩ := hp; rw [hL] at hh; clear hL
  have hw3 := within_rng (n := d.k) (lo := 0) (hi := 31) (by first | omega | (unfold maxI; split <;> omega))
  refine rest_q tabOK (i := 3) hk hh [] [1, 2, 3, 4, 8, 9] rfl trivial (fun a hk => ?_)
  refine hK2 a w ?_; try clear hK2 K2
  refine wp_seq_k fun K3 hK3 => ?_
  refine reg_q tabOK hk hh [(2, .int .i64 (n - r))] [1, 2, 3, 4, 8, 9, 10] rfl ?_ (fun a hk => ?_)
  · exact ⟨ob_eq tabOK rfl (eq_i64 (by omega)), trivial⟩
  refine hK3 a w ?_; try clear hK3 K3
  refine wp_seq_k fun K4 hK4 => ?_
  refine wp_region_lit ?_
  refine seq_q tabOK (i := 0) (stop := 2) hk hh [(1, .int .i64 d.n)] rfl ?_ (fun a hk => ?_)
  · exact ⟨ob_load tabOK 1 rfl rfl rfl rfl rfl, trivial⟩
  refine seq_eff hk hh rfl rfl (eff_call Tryz.func13 rfl rfl rfl rfl (fun w hh => within_spec d.n 0 1000 (by first | omega | (split <;> omega)) (by first | omega | (split <;> omega)) (by first | omega | (split <;> omega)) σ w _ hh)) (fun v L a w hp hk hh => ?_)
  obtain ⟨rfl, hL⟩ := hp; rw [hL] at hh; clear hL
  have hw4 := within_rng (n := d.n) (lo := 0) (hi := 1000) (by first | omega | (unfold maxI; split <;> omega))
  refine rest_q tabOK (i := 3) hk hh [] [1, 2, 3, 4, 8, 9, 10, 11] rfl trivial (fun a hk => ?_)
  refine hK4 a w ?_; try clear hK4 K4
  refine wp_seq_k fun K5 hK5 => ?_
  refine wp_region_lit ?_
  refine seq_q tabOK (i := 0) (stop := 5) hk hh [(2, .int .i64 d.a), (4, .int .i64 ((if 1 > n - r then 1 else n - r) - 1))] rfl ?_ (fun a hk => ?_)
  · exact ⟨ob_load tabOK 1 rfl rfl rfl rfl rfl, ob_eq tabOK rfl (eq_i64 (by omega)), trivial⟩
  refine seq_eff hk hh rfl rfl (eff_call Tryz.func13 rfl rfl rfl rfl (fun w hh => within_spec d.a 0 ((if 1 > n - r then 1 else n - r) - 1) (by first | omega | (split <;> omega)) (by first | omega | (split <;> omega)) (by first | omega | (split <;> omega)) σ w _ hh)) (fun v L a w hp hk hh => ?_)
  obtain ⟨rfl, hL⟩ := hp; rw [hL] at hh; clear hL
  have hw5 := within_rng (n := d.a) (lo := 0) (hi := (if 1 > n - r then 1 else n - r) - 1) (by first | omega | (unfold maxI; split <;> omega))
  refine rest_q tabOK (i := 6) hk hh [(6, .int .i64 (r + (withinI d.a 0 ((if 1 > n - r then 1 else n - r) - 1))))] [1, 2, 3, 4, 8, 9, 11, 12] rfl ?_ (fun a hk => ?_)
  · exact ⟨ob_eq tabOK rfl (eq_i64 (by omega)), trivial⟩
  refine hK5 a w ?_; try clear hK5 K5
  refine wp_seq_k fun K6 hK6 => ?_
  refine wp_region_lit ?_
  refine seq_q tabOK (i := 0) (stop := 5) hk hh [(1, .int .i64 d.a), (3, .int .i64 (n - 1))] rfl ?_ (fun a hk => ?_)
  · exact ⟨ob_load tabOK 1 rfl rfl rfl rfl rfl, ob_eq tabOK rfl (eq_i64 (by omega)), trivial⟩
  refine seq_eff hk hh rfl rfl (eff_call Tryz.func13 rfl rfl rfl rfl (fun w hh => within_spec d.a 0 (if 0 > n - 1 then 0 else n - 1) (by first | omega | (split <;> omega)) (by first | omega | (split <;> omega)) (by first | omega | (split <;> omega)) σ w _ hh)) (fun v L a w hp hk hh => ?_)
  obtain ⟨rfl, hL⟩ := hp; rw [hL] at hh; clear hL
  have hw6 := within_rng (n := d.a) (lo := 0) (hi := (if 0 > n - 1 then 0 else n - 1)) (by first | omega | (unfold maxI; split <;> omega))
  refine rest_q tabOK (i := 6) hk hh [] [1, 2, 3, 4, 8, 9, 11, 12, 13] rfl trivial (fun a hk => ?_)
  refine hK6 a w ?_; try clear hK6 K6
  refine wp_seq_k fun K7 hK7 => ?_
  refine wp_block ?_
  refine wp_seq_k fun K8 hK8 => ?_
  refine reg_q tabOK hk hh [] [1, 2, 3, 4, 8, 9, 11, 12, 13, 37] rfl trivial (fun a hk => ?_)
  refine hK8 a w ?_; try clear hK8 K8
  refine code_cond hk rfl (fun c7 => ?_) (fun c7 => ?_)
  · replace c7 : withinI d.k 0 31 < 4 := (of_decide_eq_true c7)
    refine wp_seq_k fun K9 hK9 => ?_
    have hm8 := tmod_rng (withinI d.n 0 1000) (d := 9) (by first | omega | (split <;> omega))
    have hm9 := tmod_rng (withinI d.n 0 1000) (d := 9) (by first | omega | (split <;> omega))
    refine wp_region_lit ?_
    refine seq_q tabOK (i := 0) (stop := 5) hk hh [(2, .int .i64 ((withinI d.n 0 1000).tmod 9)), (3, .int .i64 (1 + ((withinI d.n 0 1000).tmod 9)))] rfl ?_ (fun a hk => ?_)
    · exact ⟨ob_rem rfl rfl (by first | omega | (split <;> omega)), ob_eq tabOK rfl (eq_i64 (by omega)), trivial⟩
    refine seq_eff hk hh rfl rfl (eff_store tabOK 0 rfl rfl rfl rfl rfl rfl rfl (by simp)) (fun v L a w hp hk hh => ?_)
    obtain ⟨rfl, hL⟩ := hp; rw [hL] at hh; clear hL
    refine rest_q tabOK (i := 6) hk hh [] [4, 8, 12] rfl trivial (fun a hk => ?_)
    refine hK9 a w ?_; try clear hK9 K9
    refine wp_ret ?_
    refine blk_ret ?_
    refine then_ret ?_
    refine fin_ret hk (show Tryz.f12.results = ⟨[.cell 8 26]⟩ from rfl) (by exact (res_cellN tabOK hk hh 0 rfl rfl rfl rfl rfl .nil)) ?_
    replace hh := (hh.at_ 0 rfl).drop
    replace hh := (hh.at_ 0 rfl).drop
    refine ⟨_, _, rfl, ⟨?_, rfl⟩, hh⟩
    simp only [retV, actO, if_pos c7, if_true, if_false]
  · replace c7 : ¬ (withinI d.k 0 31 < 4) := (of_decide_eq_false c7)
    refine wp_seq_k fun K10 hK10 => ?_
    refine reg_q tabOK hk hh [] [1, 2, 3, 4, 8, 9, 11, 12, 13, 45] rfl trivial (fun a hk => ?_)
    refine hK10 a w ?_; try clear hK10 K10
    refine code_cond hk rfl (fun c10 => ?_) (fun c10 => ?_)
    · replace c10 : withinI d.k 0 31 < 6 := (of_decide_eq_true c10)
      refine wp_seq_k fun K11 hK11 => ?_
      have hm11 := tmod_rng (withinI d.n 0 1000) (d := 40) (by first | omega | (split <;> omega))
      have hm12 := tmod_rng (withinI d.n 0 1000) (d := 40) (by first | omega | (split <;> omega))
      refine wp_region_lit ?_
      refine seq_q tabOK (i := 0) (stop := 5) hk hh [(2, .int .i64 ((withinI d.n 0 1000).tmod 40)), (3, .int .i64 (1 + ((withinI d.n 0 1000).tmod 40)))] rfl ?_ (fun a hk => ?_)
      · exact ⟨ob_rem rfl rfl (by first | omega | (split <;> omega)), ob_eq tabOK rfl (eq_i64 (by omega)), trivial⟩
      refine seq_eff hk hh rfl rfl (eff_store tabOK 0 rfl rfl rfl rfl rfl rfl rfl (by simp)) (fun v L a w hp hk hh => ?_)
      obtain ⟨rfl, hL⟩ := hp; rw [hL] at hh; clear hL
      refine rest_q tabOK (i := 6) hk hh [] [4, 8, 12] rfl trivial (fun a hk => ?_)
      refine hK11 a w ?_; try clear hK11 K11
      refine wp_ret ?_
      refine blk_ret ?_
      refine then_ret ?_
      refine fin_ret hk (show Tryz.f12.results = ⟨[.cell 8 26]⟩ from rfl) (by exact (res_cellN tabOK hk hh 0 rfl rfl rfl rfl rfl .nil)) ?_
      replace hh := (hh.at_ 0 rfl).drop
      replace hh := (hh.at_ 0 rfl).drop
      refine ⟨_, _, rfl, ⟨?_, rfl⟩, hh⟩
      simp only [retV, actO, if_neg c7, if_pos c10, if_true, if_false]
    · replace c10 : ¬ (withinI d.k 0 31 < 6) := (of_decide_eq_false c10)
      refine wp_seq_k fun K12 hK12 => ?_
      refine reg_q tabOK hk hh [] [1, 2, 3, 4, 8, 9, 11, 12, 13, 53] rfl trivial (fun a hk => ?_)
      refine hK12 a w ?_; try clear hK12 K12
      refine code_cond hk rfl (fun c13 => ?_) (fun c13 => ?_)
      · replace c13 : withinI d.k 0 31 < 15 := (of_decide_eq_true c13)
        refine wp_seq_k fun K13 hK13 => ?_
        have hm14 := tmod_rng (withinI d.n 0 1000) (d := (if 1 > g then 1 else g)) (by first | omega | (split <;> omega))
        have hm15 := tmod_rng (withinI d.n 0 1000) (d := (if 1 > g then 1 else g)) (by first | omega | (split <;> omega))
        refine wp_region_lit ?_
        refine seq_q tabOK (i := 0) (stop := 5) hk hh [(3, .int .i64 ((withinI d.n 0 1000).tmod (if 1 > g then 1 else g)))] rfl ?_ (fun a hk => ?_)
        · exact ⟨ob_rem rfl rfl (by first | omega | (split <;> omega)), trivial⟩
        refine seq_eff hk hh rfl rfl (eff_store tabOK 0 rfl rfl rfl rfl rfl rfl rfl (by simp)) (fun v L a w hp hk hh => ?_)
        obtain ⟨rfl, hL⟩ := hp; rw [hL] at hh; clear hL
        refine rest_q tabOK (i := 6) hk hh [] [4, 8, 12] rfl trivial (fun a hk => ?_)
        refine hK13 a w ?_; try clear hK13 K13
        refine wp_ret ?_
        refine blk_ret ?_
        refine then_ret ?_
        refine fin_ret hk (show Tryz.f12.results = ⟨[.cell 8 26]⟩ from rfl) (by exact (res_cellN tabOK hk hh 0 rfl rfl rfl rfl rfl .nil)) ?_
        replace hh := (hh.at_ 0 rfl).drop
        replace hh := (hh.at_ 0 rfl).drop
        refine ⟨_, _, rfl, ⟨?_, rfl⟩, hh⟩
        simp only [retV, actO, if_neg c7, if_neg c10, if_pos c13, if_true, if_false]
      · replace c13 : ¬ (withinI d.k 0 31 < 15) := (of_decide_eq_false c13)
        refine wp_seq_k fun K14 hK14 => ?_
        refine reg_q tabOK hk hh [] [1, 2, 3, 4, 8, 9, 11, 12, 13, 61] rfl trivial (fun a hk => ?_)
        refine hK14 a w ?_; try clear hK14 K14
        refine code_cond hk rfl (fun c16 => ?_) (fun c16 => ?_)
        · replace c16 : withinI d.k 0 31 = 15 := (c_et c16)
          refine wp_seq_k fun K15 hK15 => ?_
          have hm17 := tmod_rng (withinI d.n 0 1000) (d := (if 1 > g then 1 else g)) (by first | omega | (split <;> omega))
          have hm18 := tmod_rng (withinI d.n 0 1000) (d := (if 1 > g then 1 else g)) (by first | omega | (split <;> omega))
          refine wp_region_lit ?_
          refine seq_q tabOK (i := 0) (stop := 5) hk hh [(3, .int .i64 ((withinI d.n 0 1000).tmod (if 1 > g then 1 else g)))] rfl ?_ (fun a hk => ?_)
          · exact ⟨ob_rem rfl rfl (by first | omega | (split <;> omega)), trivial⟩
          refine seq_eff hk hh rfl rfl (eff_store tabOK 0 rfl rfl rfl rfl rfl rfl rfl (by simp)) (fun v L a w hp hk hh => ?_)
          obtain ⟨rfl, hL⟩ := hp; rw [hL] at hh; clear hL
          refine rest_q tabOK (i := 6) hk hh [] [4, 8, 12] rfl trivial (fun a hk => ?_)
          refine hK15 a w ?_; try clear hK15 K15
          refine wp_ret ?_
          refine blk_ret ?_
          refine then_ret ?_
          refine fin_ret hk (show Tryz.f12.results = ⟨[.cell 8 26]⟩ from rfl) (by exact (res_cellN tabOK hk hh 0 rfl rfl rfl rfl rfl .nil)) ?_
          replace hh := (hh.at_ 0 rfl).drop
          replace hh := (hh.at_ 0 rfl).drop
          refine ⟨_, _, rfl, ⟨?_, rfl⟩, hh⟩
          simp only [retV, actO, if_neg c7, if_neg c10, if_neg c13, if_pos c16, if_true, if_false]
        · replace c16 : ¬ (withinI d.k 0 31 = 15) := (c_ef c16)
          refine wp_seq_k fun K16 hK16 => ?_
          refine reg_q tabOK hk hh [] [1, 2, 3, 4, 8, 9, 11, 12, 13, 69] rfl trivial (fun a hk => ?_)
          refine hK16 a w ?_; try clear hK16 K16
          refine code_cond hk rfl (fun c19 => ?_) (fun c19 => ?_)
          · replace c19 : withinI d.k 0 31 = 16 := (c_et c19)
            refine wp_seq_k fun K17 hK17 => ?_
            have hm20 := tmod_rng (withinI d.n 0 1000) (d := (if 1 > g then 1 else g)) (by first | omega | (split <;> omega))
            have hm21 := tmod_rng (withinI d.n 0 1000) (d := (if 1 > g then 1 else g)) (by first | omega | (split <;> omega))
            refine wp_region_lit ?_
            refine seq_q tabOK (i := 0) (stop := 5) hk hh [(3, .int .i64 ((withinI d.n 0 1000).tmod (if 1 > g then 1 else g)))] rfl ?_ (fun a hk => ?_)
            · exact ⟨ob_rem rfl rfl (by first | omega | (split <;> omega)), trivial⟩
            refine seq_eff hk hh rfl rfl (eff_store tabOK 0 rfl rfl rfl rfl rfl rfl rfl (by simp)) (fun v L a w hp hk hh => ?_)
            obtain ⟨rfl, hL⟩ := hp; rw [hL] at hh; clear hL
            refine rest_q tabOK (i := 6) hk hh [] [4, 8, 12] rfl trivial (fun a hk => ?_)
            refine hK17 a w ?_; try clear hK17 K17
            refine wp_ret ?_
            refine blk_ret ?_
            refine then_ret ?_
            refine fin_ret hk (show Tryz.f12.results = ⟨[.cell 8 26]⟩ from rfl) (by exact (res_cellN tabOK hk hh 0 rfl rfl rfl rfl rfl .nil)) ?_
            replace hh := (hh.at_ 0 rfl).drop
            replace hh := (hh.at_ 0 rfl).drop
            refine ⟨_, _, rfl, ⟨?_, rfl⟩, hh⟩
            simp only [retV, actO, if_neg c7, if_neg c10, if_neg c13, if_neg c16, if_pos c19, if_true, if_false]
          · replace c19 : ¬ (withinI d.k 0 31 = 16) := (c_ef c19)
            refine wp_seq_k fun K18 hK18 => ?_
            refine reg_q tabOK hk hh [] [1, 2, 4, 8, 9, 11, 12, 13, 77] rfl trivial (fun a hk => ?_)
            refine hK18 a w ?_; try clear hK18 K18
            refine code_cond hk rfl (fun c22 => ?_) (fun c22 => ?_)
            · replace c22 : withinI d.k 0 31 = 17 := (c_et c22)
              refine wp_seq_k fun K19 hK19 => ?_
              refine wp_region_lit ?_
              refine seq_q tabOK (i := 0) (stop := 6) hk hh [(2, .int .i64 d.b), (4, .int .i64 (n - 1))] rfl ?_ (fun a hk => ?_)
              · exact ⟨ob_load tabOK 1 rfl rfl rfl rfl rfl, ob_eq tabOK rfl (eq_i64 (by omega)), trivial⟩
              refine seq_eff hk hh rfl rfl (eff_call Tryz.func13 rfl rfl rfl rfl (fun w hh => within_spec d.b 0 (if 0 > n - 1 then 0 else n - 1) (by first | omega | (split <;> omega)) (by first | omega | (split <;> omega)) (by first | omega | (split <;> omega)) σ w _ hh)) (fun v L a w hp hk hh => ?_)
              obtain ⟨rfl, hL⟩ := hp; rw [hL] at hh; clear hL
              have hw23 := within_rng (n := d.b) (lo := 0) (hi := (if 0 > n - 1 then 0 else n - 1)) (by first | omega | (unfold maxI; split <;> omega))
              refine seq_q tabOK (i := 7) (stop := 8) hk hh [] rfl trivial (fun a hk => ?_)
              refine seq_eff hk hh rfl rfl (eff_store tabOK 0 rfl rfl rfl rfl rfl rfl rfl (by simp)) (fun v L a w hp hk hh => ?_)
              obtain ⟨rfl, hL⟩ := hp; rw [hL] at hh; clear hL
              refine rest_q tabOK (i := 9) hk hh [] [4, 8, 12] rfl trivial (fun a hk => ?_)
              refine hK19 a w ?_; try clear hK19 K19
              refine wp_ret ?_
              refine blk_ret ?_
              refine then_ret ?_
              refine fin_ret hk (show Tryz.f12.results = ⟨[.cell 8 26]⟩ from rfl) (by exact (res_cellN tabOK hk hh 0 rfl rfl rfl rfl rfl .nil)) ?_
              replace hh := (hh.at_ 0 rfl).drop
              replace hh := (hh.at_ 0 rfl).drop
              refine ⟨_, _, rfl, ⟨?_, rfl⟩, hh⟩
              simp only [retV, actO, if_neg c7, if_neg c10, if_neg c13, if_neg c16, if_neg c19, if_pos c22, if_true, if_false]
            · replace c22 : ¬ (withinI d.k 0 31 = 17) := (c_ef c22)
              refine wp_seq_k fun K20 hK20 => ?_
              refine reg_q tabOK hk hh [] [1, 2, 4, 8, 9, 11, 12, 13, 88] rfl trivial (fun a hk => ?_)
              refine hK20 a w ?_; try clear hK20 K20
              refine code_cond hk rfl (fun c24 => ?_) (fun c24 => ?_)
              · replace c24 : withinI d.k 0 31 = 18 := (c_et c24)
                refine wp_seq_k fun K21 hK21 => ?_
                refine wp_region_lit ?_
                refine seq_q tabOK (i := 0) (stop := 6) hk hh [(2, .int .i64 d.b), (4, .int .i64 (n - 1))] rfl ?_ (fun a hk => ?_)
                · exact ⟨ob_load tabOK 1 rfl rfl rfl rfl rfl, ob_eq tabOK rfl (eq_i64 (by omega)), trivial⟩
                refine seq_eff hk hh rfl rfl (eff_call Tryz.func13 rfl rfl rfl rfl (fun w hh => within_spec d.b 0 (if 0 > n - 1 then 0 else n - 1) (by first | omega | (split <;> omega)) (by first | omega | (split <;> omega)) (by first | omega | (split <;> omega)) σ w _ hh)) (fun v L a w hp hk hh => ?_)
                obtain ⟨rfl, hL⟩ := hp; rw [hL] at hh; clear hL
                have hw25 := within_rng (n := d.b) (lo := 0) (hi := (if 0 > n - 1 then 0 else n - 1)) (by first | omega | (unfold maxI; split <;> omega))
                refine seq_q tabOK (i := 7) (stop := 8) hk hh [] rfl trivial (fun a hk => ?_)
                refine seq_eff hk hh rfl rfl (eff_store tabOK 0 rfl rfl rfl rfl rfl rfl rfl (by simp)) (fun v L a w hp hk hh => ?_)
                obtain ⟨rfl, hL⟩ := hp; rw [hL] at hh; clear hL
                refine rest_q tabOK (i := 9) hk hh [] [4, 8, 12] rfl trivial (fun a hk => ?_)
                refine hK21 a w ?_; try clear hK21 K21
                refine wp_ret ?_
                refine blk_ret ?_
                refine then_ret ?_
                refine fin_ret hk (show Tryz.f12.results = ⟨[.cell 8 26]⟩ from rfl) (by exact (res_cellN tabOK hk hh 0 rfl rfl rfl rfl rfl .nil)) ?_
                replace hh := (hh.at_ 0 rfl).drop
                replace hh := (hh.at_ 0 rfl).drop
                refine ⟨_, _, rfl, ⟨?_, rfl⟩, hh⟩
                simp only [retV, actO, if_neg c7, if_neg c10, if_neg c13, if_neg c16, if_neg c19, if_neg c22, if_pos c24, if_true, if_false]
              · replace c24 : ¬ (withinI d.k 0 31 = 18) := (c_ef c24)
                refine wp_seq_k fun K22 hK22 => ?_
                refine reg_q tabOK hk hh [] [1, 4, 8, 9, 11, 12, 13, 99] rfl trivial (fun a hk => ?_)
                refine hK22 a w ?_; try clear hK22 K22
                refine code_cond hk rfl (fun c26 => ?_) (fun c26 => ?_)
                · replace c26 : withinI d.k 0 31 = 19 := (c_et c26)
                  refine wp_seq_k fun K23 hK23 => ?_
                  have hm27 := tmod_rng (withinI d.n 0 1000) (d := 70) (by first | omega | (split <;> omega))
                  have hm28 := tmod_rng (withinI d.n 0 1000) (d := 70) (by first | omega | (split <;> omega))
                  refine wp_region_lit ?_
                  refine seq_q tabOK (i := 0) (stop := 4) hk hh [(2, .int .i64 ((withinI d.n 0 1000).tmod 70))] rfl ?_ (fun a hk => ?_)
                  · exact ⟨ob_rem rfl rfl (by first | omega | (split <;> omega)), trivial⟩
                  refine seq_eff hk hh rfl rfl (eff_store tabOK 0 rfl rfl rfl rfl rfl rfl rfl (by simp)) (fun v L a w hp hk hh => ?_)
                  obtain ⟨rfl, hL⟩ := hp; rw [hL] at hh; clear hL
                  refine rest_q tabOK (i := 5) hk hh [] [4, 8, 12] rfl trivial (fun a hk => ?_)
                  refine hK23 a w ?_; try clear hK23 K23
                  refine wp_ret ?_
                  refine blk_ret ?_
                  refine then_ret ?_
                  refine fin_ret hk (show Tryz.f12.results = ⟨[.cell 8 26]⟩ from rfl) (by exact (res_cellN tabOK hk hh 0 rfl rfl rfl rfl rfl .nil)) ?_
                  replace hh := (hh.at_ 0 rfl).drop
                  replace hh := (hh.at_ 0 rfl).drop
                  refine ⟨_, _, rfl, ⟨?_, rfl⟩, hh⟩
                  simp only [retV, actO, if_neg c7, if_neg c10, if_neg c13, if_neg c16, if_neg c19, if_neg c22, if_neg c24, if_pos c26, if_true, if_false]
                · replace c26 : ¬ (withinI d.k 0 31 = 19) := (c_ef c26)
                  refine wp_seq_k fun K24 hK24 => ?_
                  refine reg_q tabOK hk hh [] [1, 4, 8, 9, 11, 12, 106] rfl trivial (fun a hk => ?_)
                  refine hK24 a w ?_; try clear hK24 K24
                  refine code_cond hk rfl (fun c29 => ?_) (fun c29 => ?_)
                  · replace c29 : withinI d.k 0 31 < 22 := (of_decide_eq_true c29)
                    refine wp_seq_k fun K25 hK25 => ?_
                    refine wp_region_lit ?_
                    refine seq_q tabOK (i := 0) (stop := 5) hk hh [(1, .int .i64 d.a), (3, .int .i64 (r - 1))] rfl ?_ (fun a hk => ?_)
                    · exact ⟨ob_load tabOK 1 rfl rfl rfl rfl rfl, ob_eq tabOK rfl (eq_i64 (by omega)), trivial⟩
                    refine seq_eff hk hh rfl rfl (eff_call Tryz.func13 rfl rfl rfl rfl (fun w hh => within_spec d.a 0 (if 0 > r - 1 then 0 else r - 1) (by first | omega | (split <;> omega)) (by first | omega | (split <;> omega)) (by first | omega | (split <;> omega)) σ w _ hh)) (fun v L a w hp hk hh => ?_)
                    obtain ⟨rfl, hL⟩ := hp; rw [hL] at hh; clear hL
                    have hw30 := within_rng (n := d.a) (lo := 0) (hi := (if 0 > r - 1 then 0 else r - 1)) (by first | omega | (unfold maxI; split <;> omega))
                    refine seq_q tabOK (i := 6) (stop := 7) hk hh [] rfl trivial (fun a hk => ?_)
                    refine seq_eff hk hh rfl rfl (eff_store tabOK 0 rfl rfl rfl rfl rfl rfl rfl (by simp)) (fun v L a w hp hk hh => ?_)
                    obtain ⟨rfl, hL⟩ := hp; rw [hL] at hh; clear hL
                    refine rest_q tabOK (i := 8) hk hh [] [4, 8, 12] rfl trivial (fun a hk => ?_)
                    refine hK25 a w ?_; try clear hK25 K25
                    refine wp_ret ?_
                    refine blk_ret ?_
                    refine then_ret ?_
                    refine fin_ret hk (show Tryz.f12.results = ⟨[.cell 8 26]⟩ from rfl) (by exact (res_cellN tabOK hk hh 0 rfl rfl rfl rfl rfl .nil)) ?_
                    replace hh := (hh.at_ 0 rfl).drop
                    replace hh := (hh.at_ 0 rfl).drop
                    refine ⟨_, _, rfl, ⟨?_, rfl⟩, hh⟩
                    simp only [retV, actO, if_neg c7, if_neg c10, if_neg c13, if_neg c16, if_neg c19, if_neg c22, if_neg c24, if_neg c26, if_pos c29, if_true, if_false]
                  · replace c29 : ¬ (withinI d.k 0 31 < 22) := (of_decide_eq_false c29)
                    refine wp_seq_k fun K26 hK26 => ?_
                    refine reg_q tabOK hk hh [] [4, 8, 9, 11, 12, 116] rfl trivial (fun a hk => ?_)
                    refine hK26 a w ?_; try clear hK26 K26
                    refine code_cond hk rfl (fun c31 => ?_) (fun c31 => ?_)
                    · replace c31 : withinI d.k 0 31 < 26 := (of_decide_eq_true c31)
                      refine wp_seq_k fun K27 hK27 => ?_
                      refine reg_d tabOK (by kernel_rfl) hk hh [1, 4, 10] [4, 8, 12] rfl 3 [(3, .int .i64 d.b), (8, .int .i64 (1 + (withinI d.n 0 1000)))] ?_
                      refine chain_one rfl ?_ rfl (eff_call Tryz.func23 rfl rfl rfl rfl (fun w hh => names_spec σ w _ hh)) (fun v L hp => ?_)
                      · exact ⟨ob_load tabOK 1 rfl rfl rfl rfl rfl, ob_eq tabOK rfl (eq_i64 (by omega)), trivial⟩
                      obtain ⟨b32, rfl, hL⟩ := hp; subst hL
                      refine ⟨[], rfl, ?_⟩
                      refine chain_one rfl ?_ rfl (eff_call Tryz.func13 rfl rfl rfl rfl (fun w hh => within_spec d.b 0 7 (by first | omega | (split <;> omega)) (by first | omega | (split <;> omega)) (by first | omega | (split <;> omega)) σ w _ hh)) (fun v L hp => ?_)
                      · exact ⟨ob_load tabOK 2 rfl rfl rfl rfl rfl, ob_eq tabOK rfl (eq_i64 (by omega)), trivial⟩
                      obtain ⟨rfl, hL⟩ := hp; subst hL
                      have hw33 := within_rng (n := d.b) (lo := 0) (hi := 7) (by first | omega | (unfold maxI; split <;> omega))
                      refine ⟨[(5, .pointer (some ⟨b32, (withinI d.b 0 7).toNat, none⟩)), (6, S (namesL.getD ((withinI d.b 0 7).toNat) []))], rfl, ?_⟩
                      refine chain_one rfl ?_ rfl (eff_store tabOK 1 rfl rfl rfl rfl rfl rfl rfl (by simp)) (fun v L hp => ?_)
                      · exact ⟨ob_indexAddr tabOK ((withinI d.b 0 7).toNat) rfl rfl rfl rfl (by omega) (by omega) (by show 0 + (withinI d.b 0 7 : Int).toNat * 1 = (withinI d.b 0 7).toNat; omega), ob_load tabOK 0 rfl rfl rfl rfl (namesS_at (by omega)), ob_eq tabOK rfl (eq_i64 (by omega)), trivial⟩
                      obtain ⟨rfl, hL⟩ := hp; subst hL
                      refine ⟨[], rfl, ?_⟩
                      refine chain_fin rfl trivial (fun a w hk hh => ?_)
                      refine hK27 a w ?_; try clear hK27 K27
                      refine wp_ret ?_
                      refine blk_ret ?_
                      refine then_ret ?_
                      refine fin_ret hk (show Tryz.f12.results = ⟨[.cell 8 26]⟩ from rfl) (by exact (res_cellN tabOK hk hh 0 rfl rfl rfl rfl rfl .nil)) ?_
                      replace hh := (hh.at_ 0 rfl).drop
                      replace hh := (hh.at_ 0 rfl).drop
                      replace hh := (hh.at_ 0 rfl).drop
                      refine ⟨_, _, rfl, ⟨?_, rfl⟩, hh⟩
                      simp only [retV, actO, if_neg c7, if_neg c10, if_neg c13, if_neg c16, if_neg c19, if_neg c22, if_neg c24, if_neg c26, if_neg c29, if_pos c31, if_true, if_false]
                    · replace c31 : ¬ (withinI d.k 0 31 < 26) := (of_decide_eq_false c31)
                      refine wp_seq_k fun K28 hK28 => ?_
                      refine reg_q tabOK hk hh [] [4, 8, 9, 11, 12, 129] rfl trivial (fun a hk => ?_)
                      refine hK28 a w ?_; try clear hK28 K28
                      refine code_cond hk rfl (fun c34 => ?_) (fun c34 => ?_)
                      · replace c34 : withinI d.k 0 31 < 29 := (of_decide_eq_true c34)
                        refine wp_seq_k fun K29 hK29 => ?_
                        refine wp_region_lit ?_
                        refine seq_q tabOK (i := 0) (stop := 2) hk hh [] rfl trivial (fun a hk => ?_)
                        refine seq_eff hk hh rfl rfl (eff_store tabOK 0 rfl rfl rfl rfl rfl rfl rfl (by simp)) (fun v L a w hp hk hh => ?_)
                        obtain ⟨rfl, hL⟩ := hp; rw [hL] at hh; clear hL
                        refine rest_q tabOK (i := 3) hk hh [] [4, 8, 12] rfl trivial (fun a hk => ?_)
                        refine hK29 a w ?_; try clear hK29 K29
                        refine wp_ret ?_
                        refine blk_ret ?_
                        refine then_ret ?_
                        refine fin_ret hk (show Tryz.f12.results = ⟨[.cell 8 26]⟩ from rfl) (by exact (res_cellN tabOK hk hh 0 rfl rfl rfl rfl rfl .nil)) ?_
                        replace hh := (hh.at_ 0 rfl).drop
                        replace hh := (hh.at_ 0 rfl).drop
                        refine ⟨_, _, rfl, ⟨?_, rfl⟩, hh⟩
                        simp only [retV, actO, if_neg c7, if_neg c10, if_neg c13, if_neg c16, if_neg c19, if_neg c22, if_neg c24, if_neg c26, if_neg c29, if_neg c31, if_pos c34, if_true, if_false]
                      · replace c34 : ¬ (withinI d.k 0 31 < 29) := (of_decide_eq_false c34)
                        refine wp_seq_k fun K30 hK30 => ?_
                        refine reg_q tabOK hk hh [] [4, 8, 9, 11, 12, 134] rfl trivial (fun a hk => ?_)
                        refine hK30 a w ?_; try clear hK30 K30
                        refine code_cond hk rfl (fun c35 => ?_) (fun c35 => ?_)
                        · replace c35 : withinI d.k 0 31 = 29 := (c_et c35)
                          refine wp_seq_k fun K31 hK31 => ?_
                          refine wp_region_lit ?_
                          refine seq_q tabOK (i := 0) (stop := 2) hk hh [] rfl trivial (fun a hk => ?_)
                          refine seq_eff hk hh rfl rfl (eff_store tabOK 0 rfl rfl rfl rfl rfl rfl rfl (by simp)) (fun v L a w hp hk hh => ?_)
                          obtain ⟨rfl, hL⟩ := hp; rw [hL] at hh; clear hL
                          refine rest_q tabOK (i := 3) hk hh [] [4, 8, 12] rfl trivial (fun a hk => ?_)
                          refine hK31 a w ?_; try clear hK31 K31
                          refine wp_ret ?_
                          refine blk_ret ?_
                          refine then_ret ?_
                          refine fin_ret hk (show Tryz.f12.results = ⟨[.cell 8 26]⟩ from rfl) (by exact (res_cellN tabOK hk hh 0 rfl rfl rfl rfl rfl .nil)) ?_
                          replace hh := (hh.at_ 0 rfl).drop
                          replace hh := (hh.at_ 0 rfl).drop
                          refine ⟨_, _, rfl, ⟨?_, rfl⟩, hh⟩
                          simp only [retV, actO, if_neg c7, if_neg c10, if_neg c13, if_neg c16, if_neg c19, if_neg c22, if_neg c24, if_neg c26, if_neg c29, if_neg c31, if_neg c34, if_pos c35, if_true, if_false]
                        · replace c35 : ¬ (withinI d.k 0 31 = 29) := (c_ef c35)
                          refine wp_seq_k fun K32 hK32 => ?_
                          refine reg_q tabOK hk hh [] [4, 8, 11, 12, 139] rfl trivial (fun a hk => ?_)
                          refine hK32 a w ?_; try clear hK32 K32
                          refine code_cond hk rfl (fun c36 => ?_) (fun c36 => ?_)
                          · replace c36 : withinI d.k 0 31 = 30 := (c_et c36)
                            refine wp_seq_k fun K33 hK33 => ?_
                            have hm37 := tmod_rng (withinI d.n 0 1000) (d := 4) (by first | omega | (split <;> omega))
                            have hm38 := tmod_rng (withinI d.n 0 1000) (d := 4) (by first | omega | (split <;> omega))
                            refine wp_region_lit ?_
                            refine seq_q tabOK (i := 0) (stop := 5) hk hh [(2, .int .i64 ((withinI d.n 0 1000).tmod 4)), (3, .int .i64 (1 + ((withinI d.n 0 1000).tmod 4)))] rfl ?_ (fun a hk => ?_)
                            · exact ⟨ob_rem rfl rfl (by first | omega | (split <;> omega)), ob_eq tabOK rfl (eq_i64 (by omega)), trivial⟩
                            refine seq_eff hk hh rfl rfl (eff_store tabOK 0 rfl rfl rfl rfl rfl rfl rfl (by simp)) (fun v L a w hp hk hh => ?_)
                            obtain ⟨rfl, hL⟩ := hp; rw [hL] at hh; clear hL
                            refine rest_q tabOK (i := 6) hk hh [] [4, 8, 12] rfl trivial (fun a hk => ?_)
                            refine hK33 a w ?_; try clear hK33 K33
                            refine wp_ret ?_
                            refine blk_ret ?_
                            refine then_ret ?_
                            refine fin_ret hk (show Tryz.f12.results = ⟨[.cell 8 26]⟩ from rfl) (by exact (res_cellN tabOK hk hh 0 rfl rfl rfl rfl rfl .nil)) ?_
                            replace hh := (hh.at_ 0 rfl).drop
                            replace hh := (hh.at_ 0 rfl).drop
                            refine ⟨_, _, rfl, ⟨?_, rfl⟩, hh⟩
                            simp only [retV, actO, if_neg c7, if_neg c10, if_neg c13, if_neg c16, if_neg c19, if_neg c22, if_neg c24, if_neg c26, if_neg c29, if_neg c31, if_neg c34, if_neg c35, if_pos c36, if_true, if_false]
                          · replace c36 : ¬ (withinI d.k 0 31 = 30) := (c_ef c36)
                            refine wp_skip ?_
                            refine blk_nm ?_
                            refine hK7 a w ?_; try clear hK7 K7
                            refine wp_seq_k fun K34 hK34 => ?_
                            refine reg_d tabOK (by kernel_rfl) hk hh [1, 4, 8] [8] rfl 3 [(3, .int .i64 d.b)] ?_
                            refine chain_one rfl ?_ rfl (eff_call Tryz.func23 rfl rfl rfl rfl (fun w hh => names_spec σ w _ hh)) (fun v L hp => ?_)
                            · exact ⟨ob_load tabOK 1 rfl rfl rfl rfl rfl, trivial⟩
                            obtain ⟨b39, rfl, hL⟩ := hp; subst hL
                            refine ⟨[], rfl, ?_⟩
                            refine chain_one rfl ?_ rfl (eff_call Tryz.func13 rfl rfl rfl rfl (fun w hh => within_spec d.b 0 7 (by first | omega | (split <;> omega)) (by first | omega | (split <;> omega)) (by first | omega | (split <;> omega)) σ w _ hh)) (fun v L hp => ?_)
                            · exact ⟨ob_load tabOK 2 rfl rfl rfl rfl rfl, trivial⟩
                            obtain ⟨rfl, hL⟩ := hp; subst hL
                            have hw40 := within_rng (n := d.b) (lo := 0) (hi := 7) (by first | omega | (unfold maxI; split <;> omega))
                            refine ⟨[(5, .pointer (some ⟨b39, (withinI d.b 0 7).toNat, none⟩)), (6, S (namesL.getD ((withinI d.b 0 7).toNat) []))], rfl, ?_⟩
                            refine chain_one rfl ?_ rfl (eff_store tabOK 1 rfl rfl rfl rfl rfl rfl rfl (by simp)) (fun v L hp => ?_)
                            · exact ⟨ob_indexAddr tabOK ((withinI d.b 0 7).toNat) rfl rfl rfl rfl (by omega) (by omega) (by show 0 + (withinI d.b 0 7 : Int).toNat * 1 = (withinI d.b 0 7).toNat; omega), ob_load tabOK 0 rfl rfl rfl rfl (namesS_at (by omega)), trivial⟩
                            obtain ⟨rfl, hL⟩ := hp; subst hL
                            refine ⟨[], rfl, ?_⟩
                            refine chain_fin rfl trivial (fun a w hk hh => ?_)
                            refine hK34 a w ?_; try clear hK34 K34
                            refine wp_ret ?_
                            refine fin_ret hk (show Tryz.f12.results = ⟨[.cell 8 26]⟩ from rfl) (by exact (res_cellN tabOK hk hh 0 rfl rfl rfl rfl rfl .nil)) ?_
                            replace hh := (hh.at_ 0 rfl).drop
                            replace hh := (hh.at_ 0 rfl).drop
                            replace hh := (hh.at_ 0 rfl).drop
                            refine ⟨_, _, rfl, ⟨?_, rfl⟩, hh⟩
                            simp only [retV, actO, if_neg c7, if_neg c10, if_neg c13, if_neg c16, if_neg c19, if_neg c22, if_neg c24, if_neg c26, if_neg c29, if_neg c31, if_neg c34, if_neg c35, if_neg c36, if_true, if_false]

end Go.Hop
/- What is proved here: which structs may be compared part by part. -/
namespace Go.Hop
open Go.Proofs
theorem eq26 : EqOK Tryz.prog 26 := ⟨by kernel_rfl, by kernel_rfl, by kernel_rfl⟩
theorem eqOK : ∀ t ∈ [26], EqOK Tryz.prog t := by
  intro t ht
  rw [List.mem_singleton] at ht
  subst ht; exact eq26
end Go.Hop
/- What is proved here: what a function of the text computes. Printed by program. -/
namespace Go.Hop
open Go.Proofs
set_option maxRecDepth 4000
theorem snumber_spec (s : List UInt8) (hs : s.length ≤ 4000000000) {σ : Sg} {w : World} {R : List Assn} (hR : Lay R) (hh : Holds σ w (R)) :
    Calls Tryz.prog 46 ⟨[S s]⟩ w fun e w' => ∃ v L', e = .returned v ∧ ((∃ n b, v = .tuple ⟨[.int .i64 n, .bool b]⟩ ∧ NumIs s n b) ∧ L' = R) ∧ Holds σ w' L' := by
  refine enter Tryz.func46 rfl Tryz.ntmps46 rfl fun a hk => ?_
  refine wp_seq_k fun K1 hK1 => ?_
  refine reg_q tabOK hk hh [] [0] rfl trivial (fun a hk => ?_)
  refine hK1 a w ?_; try clear hK1 K1
  refine wp_seq_k fun K2 hK2 => ?_
  refine wp_region_lit ?_
  refine seq_q tabOK (i := 0) (stop := 1) hk hh [] rfl trivial (fun a hk => ?_)
  refine seq_eff hk hh rfl rfl (eff_call Tryz.func71 rfl rfl rfl rfl (fun w hh => parse_spec s (by omega) (by exact hR) hh)) (fun v L a w hp hk hh => ?_)
  obtain ⟨⟨n, er, b, rfl, hn, her, hnum⟩, hL⟩ := hp; rw [hL] at hh; clear hL
  refine rest_q tabOK (i := 2) hk hh [] [0, 4, 5] rfl trivial (fun a hk => ?_)
  refine hK2 a w ?_; try clear hK2 K2
  refine wp_seq_k fun K3 hK3 => ?_
  by_cases c1 : b = true
  · refine wp_region_lit ?_
    refine seq_q tabOK (i := 0) (stop := 5) hk hh [(2, .bool true)] rfl ?_ (fun a hk => ?_)
    · exact ⟨ob_conv (ob_errnil tabOK rfl rfl her) (v_id c1), trivial⟩
    refine seq_eff hk hh rfl rfl (eff_call Tryz.func30 rfl rfl rfl rfl (fun w hh => fmt_spec n (by first | assumption | (unfold I64; omega)) (by exact hR) hh)) (fun v L a w hp hk hh => ?_)
    obtain ⟨rfl, hL⟩ := hp; rw [hL] at hh; clear hL
    refine rest_q tabOK (i := 6) hk hh [] [2, 3] rfl trivial (fun a hk => ?_)
    refine hK3 a w ?_; try clear hK3 K3
    refine wp_ret ?_
    refine fin_ret hk (show Tryz.f46.results = ⟨[.tmp 2, .tmp 3]⟩ from rfl) (by exact (res_tmp hk rfl (res_tmp hk rfl .nil))) ?_
    refine ⟨_, _, rfl, ⟨⟨_, _, rfl, hn, ?_⟩, rfl⟩, hh⟩
    rw [hnum]
    simp [c1]
  · refine reg_q tabOK hk hh [(2, .bool false)] [2, 3] rfl ?_ (fun a hk => ?_)
    · exact ⟨ob_conv (ob_errnil tabOK rfl rfl her) (v_id (by simpa using c1)), trivial⟩
    refine hK3 a w ?_; try clear hK3 K3
    refine wp_ret ?_
    refine fin_ret hk (show Tryz.f46.results = ⟨[.tmp 2, .tmp 3]⟩ from rfl) (by exact (res_tmp hk rfl (res_tmp hk rfl .nil))) ?_
    refine ⟨_, _, rfl, ⟨⟨_, _, rfl, hn, ?_⟩, rfl⟩, hh⟩
    rw [hnum]
    simp [c1]

end Go.Hop
/- What is proved here: what a function of the text computes. Printed by program. -/
namespace Go.Hop
open Go.Proofs
set_option maxRecDepth 4000
theorem set_spec (b : Nat) (x : ActL) (c : Int) (s : List UInt8) (hs : s.length ≤ 4000000000) {σ : Sg} {w : World} {R : List Assn} (hR : Lay R) (hh : Holds σ w ([row b 26 [.int .i64 x.k, .int .i64 x.a, .int .i64 x.b, .int .i64 x.n, S x.s]] ++ R)) :
    Calls Tryz.prog 35 ⟨[.pointer (some ⟨b, 0, none⟩), .int .i32 c, S s]⟩ w fun e w' => ∃ v L', e = .returned v ∧ (∃ y ok, v = .bool ok ∧ L' = row b 26 y.cs :: R ∧ setF x c s = if ok = true then some y else none) ∧ Holds σ w' L' := by
  refine enter Tryz.func35 rfl Tryz.ntmps35 rfl fun a hk => ?_
  refine wp_seq_k fun K1 hK1 => ?_
  refine reg_q tabOK hk hh [] [0, 1, 2] rfl trivial (fun a hk => ?_)
  refine hK1 a w ?_; try clear hK1 K1
  refine wp_seq_k fun K2 hK2 => ?_
  refine wp_seq_k fun K3 hK3 => ?_
  refine reg_q tabOK hk hh [] [0, 1, 2, 10] rfl trivial (fun a hk => ?_)
  refine hK3 a w ?_; try clear hK3 K3
  refine code_cond hk rfl (fun c1 => ?_) (fun c1 => ?_)
  · replace c1 : c = 115 := (c_et c1)
    refine wp_seq_k fun K4 hK4 => ?_
    refine wp_region_lit ?_
    refine seq_q tabOK (i := 0) (stop := 4) hk hh [] rfl trivial (fun a hk => ?_)
    refine seq_eff hk hh rfl rfl (eff_store tabOK 0 rfl rfl rfl rfl rfl rfl rfl (by simp)) (fun v L a w hp hk hh => ?_)
    obtain ⟨rfl, hL⟩ := hp; rw [hL] at hh; clear hL
    refine rest_q tabOK (i := 5) hk hh [] [0, 1, 2] rfl trivial (fun a hk => ?_)
    refine hK4 a w ?_; try clear hK4 K4
    refine wp_seq_k fun K5 hK5 => ?_
    refine reg_q tabOK hk hh [] [0, 1, 2, 6] rfl trivial (fun a hk => ?_)
    refine hK5 a w ?_; try clear hK5 K5
    refine wp_ret ?_
    refine then_ret ?_
    refine fin_ret hk (show Tryz.f35.results = ⟨[.tmp 6]⟩ from rfl) (by exact (res_tmp hk rfl .nil)) ?_
    refine ⟨_, _, rfl, ⟨⟨x.k, x.a, x.b, x.n, s⟩, (!(s == [])), rfl, rfl, ?_⟩, hh⟩
    first | (rw [setF, if_pos c1]; simp [bne]; done) | (have hq := hn.2; rw [setF, if_neg c1, hq]; cases ok <;> simp [c1])
  · replace c1 : ¬ (c = 115) := (c_ef c1)
    refine wp_skip ?_
    refine hK2 a w ?_; try clear hK2 K2
    refine wp_seq_k fun K6 hK6 => ?_
    refine wp_region_lit ?_
    refine seq_q tabOK (i := 0) (stop := 1) hk hh [] rfl trivial (fun a hk => ?_)
    refine seq_eff hk hh rfl rfl (eff_call Tryz.func46 rfl rfl rfl rfl (fun w hh => snumber_spec s (by omega) (by exact (hR.cons _)) hh)) (fun v L a w hp hk hh => ?_)
    obtain ⟨⟨n, ok, rfl, hn⟩, hL⟩ := hp; rw [hL] at hh; clear hL
    refine rest_q tabOK (i := 2) hk hh [] [0, 1, 7, 8] rfl trivial (fun a hk => ?_)
    refine hK6 a w ?_; try clear hK6 K6
    refine wp_seq_k fun K7 hK7 => ?_
    refine wp_seq_k fun K8 hK8 => ?_
    refine reg_q tabOK hk hh [] [0, 7, 8, 22] rfl trivial (fun a hk => ?_)
    refine hK8 a w ?_; try clear hK8 K8
    refine wp_block ?_
    refine wp_seq_k fun K9 hK9 => ?_
    refine reg_q tabOK hk hh [] [0, 7, 8, 22, 27] rfl trivial (fun a hk => ?_)
    refine hK9 a w ?_; try clear hK9 K9
    refine code_cond hk rfl (fun c2 => ?_) (fun c2 => ?_)
    · replace c2 : c = 97 := (c_et c2)
      refine wp_region_lit ?_
      refine seq_q tabOK (i := 0) (stop := 4) hk hh [] rfl trivial (fun a hk => ?_)
      refine seq_eff hk hh rfl rfl (eff_store tabOK 0 rfl rfl rfl rfl rfl rfl rfl (by simp)) (fun v L a w hp hk hh => ?_)
      obtain ⟨rfl, hL⟩ := hp; rw [hL] at hh; clear hL
      refine rest_q tabOK (i := 5) hk hh [] [8] rfl trivial (fun a hk => ?_)
      refine blk_nm ?_
      refine hK7 a w ?_; try clear hK7 K7
      refine wp_seq_k fun K10 hK10 => ?_
      refine reg_q tabOK hk hh [] [6] rfl trivial (fun a hk => ?_)
      refine hK10 a w ?_; try clear hK10 K10
      refine wp_ret ?_
      refine fin_ret hk (show Tryz.f35.results = ⟨[.tmp 6]⟩ from rfl) (by exact (res_tmp hk rfl .nil)) ?_
      refine ⟨_, _, rfl, ⟨⟨x.k, n, x.b, x.n, x.s⟩, ok, rfl, rfl, ?_⟩, hh⟩
      first | (rw [setF, if_pos c1]; simp [bne]; done) | (have hq := hn.2; rw [setF, if_neg c1, hq]; cases ok <;> simp [c1, c2])
    · replace c2 : ¬ (c = 97) := (c_ef c2)
      refine wp_seq_k fun K11 hK11 => ?_
      refine reg_q tabOK hk hh [] [0, 7, 8, 33] rfl trivial (fun a hk => ?_)
      refine hK11 a w ?_; try clear hK11 K11
      refine code_cond hk rfl (fun c3 => ?_) (fun c3 => ?_)
      · replace c3 : c = 98 := (c_et c3)
        refine wp_region_lit ?_
        refine seq_q tabOK (i := 0) (stop := 4) hk hh [] rfl trivial (fun a hk => ?_)
        refine seq_eff hk hh rfl rfl (eff_store tabOK 0 rfl rfl rfl rfl rfl rfl rfl (by simp)) (fun v L a w hp hk hh => ?_)
        obtain ⟨rfl, hL⟩ := hp; rw [hL] at hh; clear hL
        refine rest_q tabOK (i := 5) hk hh [] [8] rfl trivial (fun a hk => ?_)
        refine blk_nm ?_
        refine hK7 a w ?_; try clear hK7 K7
        refine wp_seq_k fun K12 hK12 => ?_
        refine reg_q tabOK hk hh [] [6] rfl trivial (fun a hk => ?_)
        refine hK12 a w ?_; try clear hK12 K12
        refine wp_ret ?_
        refine fin_ret hk (show Tryz.f35.results = ⟨[.tmp 6]⟩ from rfl) (by exact (res_tmp hk rfl .nil)) ?_
        refine ⟨_, _, rfl, ⟨⟨x.k, x.a, n, x.n, x.s⟩, ok, rfl, rfl, ?_⟩, hh⟩
        first | (rw [setF, if_pos c1]; simp [bne]; done) | (have hq := hn.2; rw [setF, if_neg c1, hq]; cases ok <;> simp [c1, c2, c3])
      · replace c3 : ¬ (c = 98) := (c_ef c3)
        refine wp_region_lit ?_
        refine seq_q tabOK (i := 0) (stop := 4) hk hh [] rfl trivial (fun a hk => ?_)
        refine seq_eff hk hh rfl rfl (eff_store tabOK 0 rfl rfl rfl rfl rfl rfl rfl (by simp)) (fun v L a w hp hk hh => ?_)
        obtain ⟨rfl, hL⟩ := hp; rw [hL] at hh; clear hL
        refine rest_q tabOK (i := 5) hk hh [] [8] rfl trivial (fun a hk => ?_)
        refine blk_nm ?_
        refine hK7 a w ?_; try clear hK7 K7
        refine wp_seq_k fun K13 hK13 => ?_
        refine reg_q tabOK hk hh [] [6] rfl trivial (fun a hk => ?_)
        refine hK13 a w ?_; try clear hK13 K13
        refine wp_ret ?_
        refine fin_ret hk (show Tryz.f35.results = ⟨[.tmp 6]⟩ from rfl) (by exact (res_tmp hk rfl .nil)) ?_
        refine ⟨_, _, rfl, ⟨⟨x.k, x.a, x.b, n, x.s⟩, ok, rfl, rfl, ?_⟩, hh⟩
        first | (rw [setF, if_pos c1]; simp [bne]; done) | (have hq := hn.2; rw [setF, if_neg c1, hq]; cases ok <;> simp [c1, c2, c3])

end Go.Hop
/- What is proved here: what a function of the text computes. Printed by program. -/
namespace Go.Hop
open Go.Proofs
set_option maxRecDepth 4000
theorem read_spec (fw ff : List UInt8) (fk : Int) (bl : Nat) (l : List (List UInt8)) (hl : 1 ≤ l.length) (hl2 : l.length ≤ 5000000000) (hff : ff.length ≤ 1000000) (hasc : ∀ i, (ff.getD i 0).toNat < 128) (hlen : ∀ i, (l.getD i []).length ≤ 4000000000) {σ : Sg} {w : World} {R : List Assn} (hR : Lay R) (hh : Holds σ w ([row bl 9 (l.map S)] ++ R)) :
    Calls Tryz.prog 26 ⟨[.agg ⟨[S fw, .int .i64 fk, S ff]⟩, .slice (some ⟨bl, 0, none⟩) l.length l.length]⟩ w fun e w' => ∃ v L', e = .returned v ∧ (∃ x ok, v = .tuple ⟨[.agg ⟨x.cs⟩, .bool ok]⟩ ∧ L' = row bl 9 (l.map S) :: R ∧ readF ⟨fw, fk, ff⟩ l = (if ok = true then some x else none) ∧ (ok = false → x = zA)) ∧ Holds σ w' L' := by
  refine enter Tryz.func26 rfl Tryz.ntmps26 rfl fun a hk => ?_
  refine wp_seq_k fun K1 hK1 => ?_
  refine wp_region_lit ?_
  refine seq_eff hk hh rfl rfl (eff_box rfl rfl) (fun v L a w hp hk hh => ?_)
  obtain ⟨b1, rfl, hL⟩ := hp; rw [hL] at hh; clear hL
  refine seq_eff hk hh rfl rfl (eff_alloc tabOK rfl) (fun v L a w hp hk hh => ?_)
  obtain ⟨b2, rfl, hL⟩ := hp; rw [hL] at hh; clear hL
  refine rest_q tabOK (i := 2) hk hh [] [1, 2, 4] rfl trivial (fun a hk => ?_)
  refine hK1 a w ?_; try clear hK1 K1
  refine wp_seq_k fun K2 hK2 => ?_
  refine wp_seq_k fun K3 hK3 => ?_
  by_cases c3 : l.getD 0 [] = fw
  · refine reg_d tabOK (by kernel_rfl) hk hh [] [1, 2, 4, 23] rfl 0 [(1, .pointer (some ⟨bl, 0, none⟩)), (2, S (l.getD 0 [])), (4, S fw), (5, .bool false), (10, S ff), (12, .int .i64 (1 + (ff.length : Int)))] ?_
    refine chain_fin rfl ?_ (fun a w hk hh => ?_)
    · exact ⟨ob_indexAddr tabOK (0) rfl rfl rfl rfl (by omega) (by omega) (by show 0 + (0 : Int).toNat * 1 = 0; omega), ob_load tabOK 2 rfl rfl rfl rfl (map_S_at (by omega)), ob_load tabOK 1 rfl rfl rfl rfl rfl, ob_eq tabOK rfl (v_not (v_et c3)), ob_load tabOK 1 rfl rfl rfl rfl rfl, ob_eq tabOK rfl (eq_i64 (by omega)), trivial⟩
    refine hK3 a w ?_; try clear hK3 K3
    refine code_cond hk rfl (fun c4 => ?_) (fun c4 => ?_)
    · replace c4 : ¬ ((l.length : Int) = 1 + (ff.length : Int)) := (c_nt c4)
      refine wp_seq_k fun K4 hK4 => ?_
      refine wp_region_lit ?_
      refine seq_q tabOK (i := 0) (stop := 1) hk hh [] rfl trivial (fun a hk => ?_)
      refine seq_eff hk hh rfl rfl (eff_store tabOK 0 rfl rfl rfl rfl rfl rfl rfl (by simp)) (fun v L a w hp hk hh => ?_)
      obtain ⟨rfl, hL⟩ := hp; rw [hL] at hh; clear hL
      refine rest_q tabOK (i := 2) hk hh [] [1, 2, 4, 5] rfl trivial (fun a hk => ?_)
      refine hK4 a w ?_; try clear hK4 K4
      refine wp_ret ?_
      refine then_ret ?_
      refine fin_ret hk (show Tryz.f26.results = ⟨[.cell 4 26, .tmp 5]⟩ from rfl) (by exact (res_cellN tabOK hk hh 0 rfl rfl rfl rfl rfl (res_tmp hk rfl .nil))) ?_
      replace hh := (hh.at_ 0 rfl).drop
      replace hh := (hh.at_ 0 rfl).drop
      refine ⟨_, _, rfl, ⟨⟨0, 0, 0, 0, []⟩, false, rfl, rfl, ?_, (fun _ => rfl)⟩, hh⟩
      rw [readF, if_neg (fun h => by have h2 : l.length = 1 + ff.length := h.2; first | exact absurd h.1 c3 | omega)]; rfl
    · replace c4 : (l.length : Int) = 1 + (ff.length : Int) := (c_nf c4)
      refine wp_skip ?_
      refine hK2 a w ?_; try clear hK2 K2
      refine wp_seq_k fun K5 hK5 => ?_
      refine wp_region_lit ?_
      refine seq_q tabOK (i := 0) (stop := 3) hk hh [(1, .int .i64 fk)] rfl ?_ (fun a hk => ?_)
      · exact ⟨ob_load tabOK 1 rfl rfl rfl rfl rfl, trivial⟩
      refine seq_eff hk hh rfl rfl (eff_alloc tabOK rfl) (fun v L a w hp hk hh => ?_)
      obtain ⟨b5, rfl, hL⟩ := hp; rw [hL] at hh; clear hL
      refine seq_eff hk hh rfl rfl (eff_store tabOK 0 rfl rfl rfl rfl rfl rfl rfl (by simp)) (fun v L a w hp hk hh => ?_)
      obtain ⟨rfl, hL⟩ := hp; rw [hL] at hh; clear hL
      refine rest_q tabOK (i := 5) hk hh [] [1, 2, 4, 6] rfl trivial (fun a hk => ?_)
      refine hK5 a w ?_; try clear hK5 K5
      refine wp_seq_k fun K6 hK6 => ?_
      refine wp_seq_k fun K7 hK7 => ?_
      refine wp_region_lit ?_
      refine seq_q tabOK (i := 0) (stop := 2) hk hh [(1, S ff)] rfl ?_ (fun a hk => ?_)
      · exact ⟨ob_load tabOK 2 rfl rfl rfl rfl rfl, trivial⟩
      refine seq_eff hk hh rfl rfl (eff_range_str tabOK rfl rfl) (fun v L a w hp hk hh => ?_)
      obtain ⟨b6, rfl, hL⟩ := hp; rw [hL] at hh; clear hL
      refine rest_q tabOK (i := 3) hk hh [] [1, 4, 6, 30] rfl trivial (fun a hk => ?_)
      refine hK7 a w ?_; try clear hK7 K7
      refine wp_block ?_
      replace hh := (hh.at_ 3 rfl).drop
      replace hh := hh.picks [1, 0, 0, 0] rfl
      replace hk := hk.keep [1, 4, 6, 30] rfl
      refine code_loop (α := Nat) (fun (m : Nat) (E : Env) (L : List Assn) => ∃ (i : Nat) (x : ActL), E = [(1, .slice (some ⟨bl, 0, none⟩) l.length l.length), (4, .pointer (some ⟨b2, 0, none⟩)), (6, .pointer (some ⟨b5, 0, none⟩)), (30, .pointer (some ⟨b6, 0, none⟩))] ∧ L = [row b5 26 [.int .i64 x.k, .int .i64 x.a, .int .i64 x.b, .int .i64 x.n, S x.s], iterS b6 ff i, row b2 26 [.int .i64 0, .int .i64 0, .int .i64 0, .int .i64 0, S []], row bl 9 (l.map S)] ++ R ∧ (i ≤ ff.length) ∧ (fillF x (ff.drop i) (l.drop (1 + i)) = fillF ⟨fk, 0, 0, 0, []⟩ ff (l.drop 1)) ∧ m = ff.length - i) id _ hk hh ⟨0, ⟨fk, 0, 0, 0, []⟩, rfl, rfl, (by omega), rfl, rfl⟩ ?_
      clear hk hh
      rintro _ _ _ a w ⟨i, x, rfl, hL, hi, inv, rfl⟩ hk hh; rw [hL] at hh; clear hL
      refine wp_seq_k fun K8 hK8 => ?_
      by_cases c7 : i < ff.length
      · refine wp_region_lit ?_
        refine seq_eff hk hh rfl rfl (eff_next_ascii 1 rfl rfl (getD_at c7) (hasc _)) (fun v L a w hp hk hh => ?_)
        obtain ⟨rfl, hL⟩ := hp; rw [hL] at hh; clear hL
        refine rest_q tabOK (i := 1) hk hh [] [1, 4, 6, 30, 31, 32] rfl trivial (fun a hk => ?_)
        refine hK8 a w ?_; try clear hK8 K8
        refine wp_seq_k fun K9 hK9 => ?_
        refine code_cond hk rfl (fun _ => ?_) (fun h => by cases h)
        refine wp_skip ?_
        refine hK9 a w ?_; try clear hK9 K9
        refine wp_block ?_
        refine wp_seq_k fun K10 hK10 => ?_
        refine reg_q tabOK hk hh [] [1, 4, 6, 7, 8, 30] rfl trivial (fun a hk => ?_)
        refine hK10 a w ?_; try clear hK10 K10
        refine wp_seq_k fun K11 hK11 => ?_
        refine wp_region_lit ?_
        refine seq_q tabOK (i := 0) (stop := 6) hk hh [(3, .int .i64 (1 + (i : Int))), (4, .pointer (some ⟨bl, (1 + (i : Int)).toNat, none⟩)), (5, S (l.getD ((1 + (i : Int)).toNat) []))] rfl ?_ (fun a hk => ?_)
        · exact ⟨ob_eq tabOK rfl (eq_i64 (by omega)), ob_indexAddr tabOK ((1 + (i : Int)).toNat) rfl rfl rfl rfl (by omega) (by omega) (by show 0 + (1 + (i : Int) : Int).toNat * 1 = (1 + (i : Int)).toNat; omega), ob_load tabOK 3 rfl rfl rfl rfl (map_S_at (by omega)), trivial⟩
        refine seq_eff hk hh rfl rfl (eff_call Tryz.func35 rfl rfl rfl rfl (fun w hh => set_spec b5 ⟨x.k, x.a, x.b, x.n, x.s⟩ ((ff.getD i 0).toNat : Int) (l.getD ((1 + (i : Int)).toNat) []) (hlen _) (by exact (((hR.cons _).cons _).cons _)) (hh.at_ 1 rfl))) (fun v L a w hp hk hh => ?_)
        obtain ⟨y, ok, rfl, hL, hset⟩ := hp; rw [hL] at hh; clear hL
        refine rest_q tabOK (i := 7) hk hh [] [1, 4, 6, 30, 42] rfl trivial (fun a hk => ?_)
        refine hK11 a w ?_; try clear hK11 K11
        refine code_cond hk rfl (fun c8 => ?_) (fun c8 => ?_)
        · replace c8 : ¬ (ok = true) := (by simp [(c_it c8)])
          refine wp_seq_k fun K12 hK12 => ?_
          refine wp_region_lit ?_
          refine seq_q tabOK (i := 0) (stop := 1) hk hh [] rfl trivial (fun a hk => ?_)
          refine seq_eff hk hh rfl rfl (eff_store tabOK 2 rfl rfl rfl rfl rfl rfl rfl (by simp)) (fun v L a w hp hk hh => ?_)
          obtain ⟨rfl, hL⟩ := hp; rw [hL] at hh; clear hL
          refine rest_q tabOK (i := 2) hk hh [] [1, 4, 5, 6, 30] rfl trivial (fun a hk => ?_)
          refine hK12 a w ?_; try clear hK12 K12
          refine wp_ret ?_
          refine blk_ret ?_
          refine then_ret ?_
          refine blk_ret ?_
          refine then_ret ?_
          refine fin_ret hk (show Tryz.f26.results = ⟨[.cell 4 26, .tmp 5]⟩ from rfl) (by exact (res_cellN tabOK hk hh 0 rfl rfl rfl rfl rfl (res_tmp hk rfl .nil))) ?_
          replace hh := (hh.at_ 0 rfl).drop
          replace hh := (hh.at_ 0 rfl).drop
          replace hh := (hh.at_ 0 rfl).drop
          refine ⟨_, _, rfl, ⟨⟨0, 0, 0, 0, []⟩, false, rfl, rfl, ?_, (fun _ => rfl)⟩, hh⟩
          rw [readF, if_pos ⟨c3, by show l.length = 1 + ff.length; omega⟩]; exact fill_miss (j := (1 + (i : Int)).toNat) inv (by omega) (by omega) (by omega) (by rw [hset, if_neg c8])
        · replace c8 : ok = true := (c_if c8)
          refine wp_skip ?_
          refine blk_nm ?_
          refine then_nm ?_
          exact ⟨_, _, _, ⟨i + 1, y, rfl, rfl, (by omega), (fill_hit (j := (1 + (i : Int)).toNat) inv (by omega) (by omega) (by omega) (by rw [hset, if_pos c8])), rfl⟩, (by simp only [id]; omega), hk.keep [1, 4, 6, 30] rfl, hh⟩
      · refine wp_region_lit ?_
        refine seq_eff hk hh rfl rfl (eff_next_end 1 rfl rfl (by omega)) (fun v L a w hp hk hh => ?_)
        obtain ⟨rfl, hL⟩ := hp; rw [hL] at hh; clear hL
        refine rest_q tabOK (i := 1) hk hh [] [1, 4, 6, 30, 31, 32] rfl trivial (fun a hk => ?_)
        refine hK8 a w ?_; try clear hK8 K8
        refine wp_seq_k fun K13 hK13 => ?_
        refine code_cond hk rfl (fun h => by cases h) (fun _ => ?_)
        refine wp_exit ?_
        refine then_exit ?_
        refine then_exit ?_
        refine blk_out ?_
        refine hK6 a w ?_; try clear hK6 K6
        refine wp_seq_k fun K14 hK14 => ?_
        refine wp_region_lit ?_
        refine seq_q tabOK (i := 0) (stop := 1) hk hh [(0, .agg ⟨[.int .i64 x.k, .int .i64 x.a, .int .i64 x.b, .int .i64 x.n, S x.s]⟩)] rfl ?_ (fun a hk => ?_)
        · exact ⟨ob_loadN tabOK 0 rfl rfl rfl rfl rfl, trivial⟩
        refine seq_eff hk hh rfl rfl (eff_store tabOK 2 rfl rfl rfl rfl rfl rfl rfl (by simp)) (fun v L a w hp hk hh => ?_)
        obtain ⟨rfl, hL⟩ := hp; rw [hL] at hh; clear hL
        refine rest_q tabOK (i := 2) hk hh [] [4, 5] rfl trivial (fun a hk => ?_)
        refine hK14 a w ?_; try clear hK14 K14
        refine wp_ret ?_
        refine fin_ret hk (show Tryz.f26.results = ⟨[.cell 4 26, .tmp 5]⟩ from rfl) (by exact (res_cellN tabOK hk hh 0 rfl rfl rfl rfl rfl (res_tmp hk rfl .nil))) ?_
        replace hh := (hh.at_ 0 rfl).drop
        replace hh := (hh.at_ 0 rfl).drop
        replace hh := (hh.at_ 0 rfl).drop
        refine ⟨_, _, rfl, ⟨x, true, rfl, rfl, ?_, (fun h => by cases h)⟩, hh⟩
        rw [readF, if_pos ⟨c3, by show l.length = 1 + ff.length; omega⟩]; exact fill_end inv (by omega)
  · refine reg_d tabOK (by kernel_rfl) hk hh [] [1, 2, 4, 23] rfl 0 [(1, .pointer (some ⟨bl, 0, none⟩)), (2, S (l.getD 0 [])), (4, S fw), (5, .bool true)] ?_
    refine chain_fin rfl ?_ (fun a w hk hh => ?_)
    · exact ⟨ob_indexAddr tabOK (0) rfl rfl rfl rfl (by omega) (by omega) (by show 0 + (0 : Int).toNat * 1 = 0; omega), ob_load tabOK 2 rfl rfl rfl rfl (map_S_at (by omega)), ob_load tabOK 1 rfl rfl rfl rfl rfl, ob_eq tabOK rfl (v_not (v_ef c3)), trivial⟩
    refine hK3 a w ?_; try clear hK3 K3
    refine code_cond hk rfl (fun _ => ?_) (fun h => by cases h)
    refine wp_seq_k fun K15 hK15 => ?_
    refine wp_region_lit ?_
    refine seq_q tabOK (i := 0) (stop := 1) hk hh [] rfl trivial (fun a hk => ?_)
    refine seq_eff hk hh rfl rfl (eff_store tabOK 0 rfl rfl rfl rfl rfl rfl rfl (by simp)) (fun v L a w hp hk hh => ?_)
    obtain ⟨rfl, hL⟩ := hp; rw [hL] at hh; clear hL
    refine rest_q tabOK (i := 2) hk hh [] [1, 2, 4, 5] rfl trivial (fun a hk => ?_)
    refine hK15 a w ?_; try clear hK15 K15
    refine wp_ret ?_
    refine then_ret ?_
    refine fin_ret hk (show Tryz.f26.results = ⟨[.cell 4 26, .tmp 5]⟩ from rfl) (by exact (res_cellN tabOK hk hh 0 rfl rfl rfl rfl rfl (res_tmp hk rfl .nil))) ?_
    replace hh := (hh.at_ 0 rfl).drop
    replace hh := (hh.at_ 0 rfl).drop
    refine ⟨_, _, rfl, ⟨⟨0, 0, 0, 0, []⟩, false, rfl, rfl, ?_, (fun _ => rfl)⟩, hh⟩
    rw [readF, if_neg (fun h => by have h2 : l.length = 1 + ff.length := h.2; first | exact absurd h.1 c3 | omega)]; rfl

end Go.Hop
/- What is proved here: what a function of the text computes. Printed by program. -/
namespace Go.Hop
open Go.Proofs
set_option maxRecDepth 4000
theorem forms_spec  (σ : Sg) (w : World) (R : List Assn) (hh : Holds σ w (R)) :
    Calls Tryz.prog 18 ⟨[]⟩ w fun e w' => ∃ v L', e = .returned v ∧ (∃ b, v = .slice (some ⟨b, 0, none⟩) 13 13 ∧ L' = row b 44 formsC :: R) ∧ Holds σ w' L' := by
  refine enter Tryz.func18 rfl Tryz.ntmps18 rfl fun a hk => ?_
  refine wp_seq_k fun K1 hK1 => ?_
  refine reg_q tabOK hk hh [] [] rfl trivial (fun a hk => ?_)
  refine hK1 a w ?_; try clear hK1 K1
  refine wp_seq_k fun K2 hK2 => ?_
  refine wp_region_lit ?_
  refine seq_q tabOK (i := 0) (stop := 13) hk hh [] rfl trivial (fun a hk => ?_)
  refine seq_eff hk hh rfl rfl (eff_lit tabOK rfl rfl rfl (by decide) rfl) (fun v L a w hp hk hh => ?_)
  obtain ⟨b1, rfl, hL⟩ := hp; rw [hL] at hh; clear hL
  refine rest_q tabOK (i := 14) hk hh [] [0] rfl trivial (fun a hk => ?_)
  refine hK2 a w ?_; try clear hK2 K2
  refine wp_ret ?_
  refine fin_ret hk (show Tryz.f18.results = ⟨[.tmp 0]⟩ from rfl) (by exact (res_tmp hk rfl .nil)) ?_
  refine ⟨_, _, rfl, ⟨_, rfl, rfl⟩, hh⟩

end Go.Hop
/- What is proved here: what a function of the text computes. Printed by program. -/
namespace Go.Hop
open Go.Proofs
set_option maxRecDepth 4000
theorem line_spec (s : List UInt8) (hs : s.length ≤ 4000000000) {σ : Sg} {w : World} {R : List Assn} (hR : Lay R) (hh : Holds σ w (R)) :
    Calls Tryz.prog 15 ⟨[S s]⟩ w fun e w' => ∃ v L', e = .returned v ∧ (∃ x ok, v = .tuple ⟨[.agg ⟨x.cs⟩, .bool ok]⟩ ∧ L' = R ∧ lineO s = (if ok = true then some x else none) ∧ (ok = false → x = zA)) ∧ Holds σ w' L' := by
  refine enter Tryz.func15 rfl Tryz.ntmps15 rfl fun a hk => ?_
  refine wp_seq_k fun K1 hK1 => ?_
  refine wp_region_lit ?_
  refine seq_eff hk hh rfl rfl (eff_alloc tabOK rfl) (fun v L a w hp hk hh => ?_)
  obtain ⟨b1, rfl, hL⟩ := hp; rw [hL] at hh; clear hL
  refine rest_q tabOK (i := 1) hk hh [] [0, 2] rfl trivial (fun a hk => ?_)
  refine hK1 a w ?_; try clear hK1 K1
  refine wp_seq_k fun K2 hK2 => ?_
  refine wp_seq_k fun K3 hK3 => ?_
  refine wp_region_lit ?_
  refine seq_q tabOK (i := 0) (stop := 1) hk hh [] rfl trivial (fun a hk => ?_)
  refine seq_eff hk hh rfl rfl (eff_call Tryz.func25 rfl rfl rfl rfl (fun w hh => contains_spec 10 s hh)) (fun v L a w hp hk hh => ?_)
  obtain ⟨rfl, hL⟩ := hp; rw [hL] at hh; clear hL
  refine rest_q tabOK (i := 2) hk hh [] [0, 2, 11] rfl trivial (fun a hk => ?_)
  refine hK3 a w ?_; try clear hK3 K3
  refine code_cond hk rfl (fun c2 => ?_) (fun c2 => ?_)
  · replace c2 : 10 ∈ s := (of_decide_eq_true c2)
    refine wp_seq_k fun K4 hK4 => ?_
    refine wp_region_lit ?_
    refine seq_q tabOK (i := 0) (stop := 1) hk hh [] rfl trivial (fun a hk => ?_)
    refine seq_eff hk hh rfl rfl (eff_store tabOK 0 rfl rfl rfl rfl rfl rfl rfl (by simp)) (fun v L a w hp hk hh => ?_)
    obtain ⟨rfl, hL⟩ := hp; rw [hL] at hh; clear hL
    refine rest_q tabOK (i := 2) hk hh [] [0, 2, 3] rfl trivial (fun a hk => ?_)
    refine hK4 a w ?_; try clear hK4 K4
    refine wp_ret ?_
    refine then_ret ?_
    refine fin_ret hk (show Tryz.f15.results = ⟨[.cell 2 26, .tmp 3]⟩ from rfl) (by exact (res_cellN tabOK hk hh 0 rfl rfl rfl rfl rfl (res_tmp hk rfl .nil))) ?_
    replace hh := (hh.at_ 0 rfl).drop
    refine ⟨_, _, rfl, ⟨zA, false, rfl, rfl, ?_, (fun _ => rfl)⟩, hh⟩
    exact line_bad c2
  · replace c2 : ¬ (10 ∈ s) := (of_decide_eq_false c2)
    refine wp_skip ?_
    refine hK2 a w ?_; try clear hK2 K2
    refine wp_seq_k fun K5 hK5 => ?_
    refine wp_region_lit ?_
    refine seq_q tabOK (i := 0) (stop := 1) hk hh [] rfl trivial (fun a hk => ?_)
    refine seq_eff hk hh rfl rfl (eff_call Tryz.func24 rfl rfl rfl rfl (fun w hh => split_spec 32 s (by omega) (by exact (hR.cons _)) hh)) (fun v L a w hp hk hh => ?_)
    obtain ⟨b3, rfl, hL⟩ := hp; rw [hL] at hh; clear hL
    refine rest_q tabOK (i := 2) hk hh [] [2, 4] rfl trivial (fun a hk => ?_)
    refine hK5 a w ?_; try clear hK5 K5
    refine wp_seq_k fun K6 hK6 => ?_
    refine reg_q tabOK hk hh [] [2, 4, 5] rfl trivial (fun a hk => ?_)
    refine hK6 a w ?_; try clear hK6 K6
    refine wp_seq_k fun K7 hK7 => ?_
    refine wp_seq_k fun K8 hK8 => ?_
    refine wp_region_lit ?_
    refine seq_eff hk hh rfl rfl (eff_call Tryz.func18 rfl rfl rfl rfl (fun w hh => forms_spec σ w _ hh)) (fun v L a w hp hk hh => ?_)
    obtain ⟨b4, rfl, hL⟩ := hp; rw [hL] at hh; clear hL
    refine rest_q tabOK (i := 1) hk hh [] [2, 4, 5, 15, 16, 17] rfl trivial (fun a hk => ?_)
    refine hK8 a w ?_; try clear hK8 K8
    refine wp_block ?_
    replace hh := hh.picks [2, 1, 0] rfl
    replace hk := hk.keep [2, 4, 5, 15, 16, 17] rfl
    refine code_loop (α := Nat) (fun (m : Nat) (E : Env) (L : List Assn) => ∃ (i : Nat), E = [(2, .pointer (some ⟨b1, 0, none⟩)), (4, .slice (some ⟨b3, 0, none⟩) ((spl 32 s).length) ((spl 32 s).length)), (5, .func (.func 26) ⟨[]⟩ ⟨[]⟩), (15, .slice (some ⟨b4, 0, none⟩) 13 13), (16, .int .i64 13), (17, .int .i64 (i : Int))] ∧ L = [row b1 26 [.int .i64 0, .int .i64 0, .int .i64 0, .int .i64 0, S []], row b3 9 ((spl 32 s).map S), row b4 44 formsC] ++ R ∧ (i ≤ 13) ∧ (∀ j, j < i → readF (F j) (spl 32 s) = none) ∧ m = 13 - i) id _ hk hh ⟨0, rfl, rfl, (by omega), (fun j hj => by omega), rfl⟩ ?_
    clear hk hh
    rintro _ _ _ a w ⟨i, rfl, hL, hi, inv, rfl⟩ hk hh; rw [hL] at hh; clear hL
    have hl1 : 1 ≤ (spl 32 s).length := spl_pos
    have hl2 : (spl 32 s).length ≤ 5000000000 := Nat.le_trans spl_len (by omega)
    have hlen : ∀ i, ((spl 32 s).getD i []).length ≤ 4000000000 := fun i => Nat.le_trans spl_word hs
    refine wp_seq_k fun K9 hK9 => ?_
    refine reg_q tabOK hk hh [] [2, 4, 5, 15, 16, 17, 18] rfl trivial (fun a hk => ?_)
    refine hK9 a w ?_; try clear hK9 K9
    refine wp_seq_k fun K10 hK10 => ?_
    refine code_cond hk rfl (fun c5 => ?_) (fun c5 => ?_)
    · replace c5 : (i : Int) < 13 := (of_decide_eq_true c5)
      refine wp_skip ?_
      refine hK10 a w ?_; try clear hK10 K10
      refine wp_seq_k fun K11 hK11 => ?_
      refine wp_block ?_
      refine wp_seq_k fun K12 hK12 => ?_
      refine wp_region_lit ?_
      refine seq_q tabOK (i := 0) (stop := 2) hk hh [(0, .pointer (some ⟨b4, i * 3, none⟩)), (1, .agg ⟨[S ((F i).w), .int .i64 ((F i).k), S ((F i).f)]⟩)] rfl ?_ (fun a hk => ?_)
      · exact ⟨ob_indexAddr tabOK (i * 3) rfl rfl rfl rfl (by omega) (by omega) (by show 0 + ((i : Int) : Int).toNat * 3 = i * 3; omega), ob_loadN tabOK 2 rfl rfl rfl rfl (forms_at (by omega)), trivial⟩
      refine seq_eff hk hh rfl rfl (eff_alloc tabOK rfl) (fun v L a w hp hk hh => ?_)
      obtain ⟨b6, rfl, hL⟩ := hp; rw [hL] at hh; clear hL
      refine seq_eff hk hh rfl rfl (eff_store tabOK 0 rfl rfl rfl rfl rfl rfl rfl (by simp)) (fun v L a w hp hk hh => ?_)
      obtain ⟨rfl, hL⟩ := hp; rw [hL] at hh; clear hL
      refine rest_q tabOK (i := 4) hk hh [] [2, 4, 5, 7, 15, 16, 17] rfl trivial (fun a hk => ?_)
      refine hK12 a w ?_; try clear hK12 K12
      refine wp_seq_k fun K13 hK13 => ?_
      have hff : (F i).f.length ≤ 1000000 := Nat.le_trans (forms_len (by omega)).1 (by decide)
      have hasc : ∀ k, ((F i).f.getD k 0).toNat < 128 := getD_ascii (forms_ascii (by omega))
      refine wp_region_lit ?_
      refine seq_q tabOK (i := 0) (stop := 3) hk hh [(1, .agg ⟨[S ((F i).w), .int .i64 ((F i).k), S ((F i).f)]⟩)] rfl ?_ (fun a hk => ?_)
      · exact ⟨ob_loadN tabOK 0 rfl rfl rfl rfl rfl, trivial⟩
      refine seq_eff hk hh rfl rfl (eff_callv (f := 26) Tryz.func26 rfl rfl rfl rfl rfl (fun w hh => read_spec ((F i).w) ((F i).f) ((F i).k) b3 (spl 32 s) hl1 hl2 hff hasc hlen (by exact (((hR.cons _).cons _).cons _)) (hh.at_ 2 rfl))) (fun v L a w hp hk hh => ?_)
      obtain ⟨x, ok, rfl, hL, hread, hz⟩ := hp; rw [hL] at hh; clear hL
      refine seq_q tabOK (i := 4) (stop := 7) hk hh [] rfl trivial (fun a hk => ?_)
      refine seq_eff hk hh rfl rfl (eff_alloc tabOK rfl) (fun v L a w hp hk hh => ?_)
      obtain ⟨b7, rfl, hL⟩ := hp; rw [hL] at hh; clear hL
      refine seq_eff hk hh rfl rfl (eff_store tabOK 0 rfl rfl rfl rfl rfl rfl rfl (by simp)) (fun v L a w hp hk hh => ?_)
      obtain ⟨rfl, hL⟩ := hp; rw [hL] at hh; clear hL
      refine rest_q tabOK (i := 9) hk hh [] [2, 4, 5, 8, 9, 15, 16, 17] rfl trivial (fun a hk => ?_)
      refine hK13 a w ?_; try clear hK13 K13
      refine wp_seq_k fun K14 hK14 => ?_
      refine reg_q tabOK hk hh [] [2, 4, 5, 8, 15, 16, 17, 28] rfl trivial (fun a hk => ?_)
      refine hK14 a w ?_; try clear hK14 K14
      refine code_cond hk rfl (fun c8 => ?_) (fun c8 => ?_)
      · replace c8 : ok = true := c8
        refine wp_seq_k fun K15 hK15 => ?_
        refine wp_region_lit ?_
        refine seq_q tabOK (i := 0) (stop := 1) hk hh [(0, .agg ⟨[.int .i64 x.k, .int .i64 x.a, .int .i64 x.b, .int .i64 x.n, S x.s]⟩)] rfl ?_ (fun a hk => ?_)
        · exact ⟨ob_loadN tabOK 0 rfl rfl rfl rfl rfl, trivial⟩
        refine seq_eff hk hh rfl rfl (eff_store tabOK 3 rfl rfl rfl rfl rfl rfl rfl (by simp)) (fun v L a w hp hk hh => ?_)
        obtain ⟨rfl, hL⟩ := hp; rw [hL] at hh; clear hL
        refine rest_q tabOK (i := 2) hk hh [] [2, 3, 4, 5, 15, 16, 17] rfl trivial (fun a hk => ?_)
        refine hK15 a w ?_; try clear hK15 K15
        refine wp_ret ?_
        refine blk_ret ?_
        refine then_ret ?_
        refine then_ret ?_
        refine blk_ret ?_
        refine then_ret ?_
        refine fin_ret hk (show Tryz.f15.results = ⟨[.cell 2 26, .tmp 3]⟩ from rfl) (by exact (res_cellN tabOK hk hh 0 rfl rfl rfl rfl rfl (res_tmp hk rfl .nil))) ?_
        replace hh := (hh.at_ 0 rfl).drop
        replace hh := (hh.at_ 0 rfl).drop
        replace hh := (hh.at_ 0 rfl).drop
        replace hh := (hh.at_ 0 rfl).drop
        replace hh := (hh.at_ 0 rfl).drop
        refine ⟨_, _, rfl, ⟨x, true, rfl, rfl, ?_, (fun h => by cases h)⟩, hh⟩
        exact line_hit c2 inv (by omega) (by rw [hread, if_pos c8])
      · replace c8 : ¬ (ok = true) := (by simp [c8])
        refine wp_skip ?_
        refine blk_nm ?_
        refine hK11 a w ?_; try clear hK11 K11
        refine reg_q tabOK hk hh [(0, .int .i64 ((i : Int) + 1))] [2, 4, 5, 15, 16, 17] rfl ?_ (fun a hk => ?_)
        · exact ⟨ob_eq tabOK rfl (eq_i64 (by omega)), trivial⟩
        replace hh := (hh.at_ 0 rfl).drop
        replace hh := (hh.at_ 1 rfl).drop
        replace hh := hh.picks [1, 0, 0] rfl
        refine then_nm ?_
        exact ⟨_, _, _, ⟨i + 1, rfl, rfl, (by omega), (fun j hj => (Nat.lt_succ_iff_lt_or_eq.1 hj).elim (fun h => inv j h) (fun h => by rw [h, hread, if_neg c8])), rfl⟩, (by simp only [id]; omega), hk.keep [2, 4, 5, 15, 16, 17] rfl, hh⟩
    · replace c5 : ¬ ((i : Int) < 13) := (of_decide_eq_false c5)
      refine wp_exit ?_
      refine then_exit ?_
      refine then_exit ?_
      refine blk_out ?_
      refine hK7 a w ?_; try clear hK7 K7
      refine wp_seq_k fun K16 hK16 => ?_
      refine wp_region_lit ?_
      refine seq_q tabOK (i := 0) (stop := 1) hk hh [] rfl trivial (fun a hk => ?_)
      refine seq_eff hk hh rfl rfl (eff_store tabOK 0 rfl rfl rfl rfl rfl rfl rfl (by simp)) (fun v L a w hp hk hh => ?_)
      obtain ⟨rfl, hL⟩ := hp; rw [hL] at hh; clear hL
      refine rest_q tabOK (i := 2) hk hh [] [2, 3] rfl trivial (fun a hk => ?_)
      refine hK16 a w ?_; try clear hK16 K16
      refine wp_ret ?_
      refine fin_ret hk (show Tryz.f15.results = ⟨[.cell 2 26, .tmp 3]⟩ from rfl) (by exact (res_cellN tabOK hk hh 0 rfl rfl rfl rfl rfl (res_tmp hk rfl .nil))) ?_
      replace hh := (hh.at_ 0 rfl).drop
      replace hh := (hh.at_ 0 rfl).drop
      replace hh := (hh.at_ 0 rfl).drop
      refine ⟨_, _, rfl, ⟨zA, false, rfl, rfl, ?_, (fun _ => rfl)⟩, hh⟩
      exact line_none c2 (fun j hj => inv j (by omega))

end Go.Hop
/- What is proved here: what a function of the text computes. Printed by program. -/
namespace Go.Hop
open Go.Proofs
set_option maxRecDepth 4000
theorem again_spec (s : List UInt8) (x : ActL) (hs : s.length ≤ 4000000000) {σ : Sg} {w : World} {R : List Assn} (hR : Lay R) (hh : Holds σ w (R)) :
    Calls Tryz.prog 19 ⟨[S s, .agg ⟨[.int .i64 x.k, .int .i64 x.a, .int .i64 x.b, .int .i64 x.n, S x.s]⟩]⟩ w fun e w' => ∃ v L', e = .returned v ∧ (v = .bool (decide (lineO s = some x)) ∧ L' = R) ∧ Holds σ w' L' := by
  refine enter Tryz.func19 rfl Tryz.ntmps19 rfl fun a hk => ?_
  refine wp_seq_k fun K1 hK1 => ?_
  refine wp_region_lit ?_
  refine seq_eff hk hh rfl rfl (eff_box rfl rfl) (fun v L a w hp hk hh => ?_)
  obtain ⟨b1, rfl, hL⟩ := hp; rw [hL] at hh; clear hL
  refine rest_q tabOK (i := 1) hk hh [] [0, 3] rfl trivial (fun a hk => ?_)
  refine hK1 a w ?_; try clear hK1 K1
  refine wp_seq_k fun K2 hK2 => ?_
  refine wp_region_lit ?_
  refine seq_q tabOK (i := 0) (stop := 1) hk hh [] rfl trivial (fun a hk => ?_)
  refine seq_eff hk hh rfl rfl (eff_call Tryz.func15 rfl rfl rfl rfl (fun w hh => line_spec s (by first | exact hs | exact hw0 _ | omega) (by exact (hR.cons _)) hh)) (fun v L a w hp hk hh => ?_)
  obtain ⟨x2, ok3, rfl, hL, hlx2, hzx2⟩ := hp; rw [hL] at hh; clear hL
  refine seq_q tabOK (i := 2) (stop := 5) hk hh [] rfl trivial (fun a hk => ?_)
  refine seq_eff hk hh rfl rfl (eff_alloc tabOK rfl) (fun v L a w hp hk hh => ?_)
  obtain ⟨b4, rfl, hL⟩ := hp; rw [hL] at hh; clear hL
  refine seq_eff hk hh rfl rfl (eff_store tabOK 0 rfl rfl rfl rfl rfl rfl rfl (by simp)) (fun v L a w hp hk hh => ?_)
  obtain ⟨rfl, hL⟩ := hp; rw [hL] at hh; clear hL
  refine rest_q tabOK (i := 7) hk hh [] [3, 5, 6] rfl trivial (fun a hk => ?_)
  refine hK2 a w ?_; try clear hK2 K2
  refine wp_seq_k fun K3 hK3 => ?_
  by_cases c5 : ok3 = true
  · refine reg_q tabOK hk hh [(0, .bool true), (2, .agg ⟨[.int .i64 x2.k, .int .i64 x2.a, .int .i64 x2.b, .int .i64 x2.n, S x2.s]⟩), (3, .agg ⟨[.int .i64 x.k, .int .i64 x.a, .int .i64 x.b, .int .i64 x.n, S x.s]⟩), (4, .bool (decide (x2 = x)))] [4] rfl ?_ (fun a hk => ?_)
    · exact ⟨ob_eq tabOK rfl (v_id c5), ob_loadN tabOK 0 rfl rfl rfl rfl rfl, ob_loadN tabOK 1 rfl rfl rfl rfl rfl, ob_conv (ob_eqS tabOK eqOK rfl rfl rfl rfl) (act_eq x2 x), trivial⟩
    refine hK3 a w ?_; try clear hK3 K3
    refine wp_ret ?_
    refine fin_ret hk (show Tryz.f19.results = ⟨[.tmp 4]⟩ from rfl) (by exact (res_tmp hk rfl .nil)) ?_
    replace hh := (hh.at_ 0 rfl).drop
    replace hh := (hh.at_ 0 rfl).drop
    refine ⟨_, _, rfl, ⟨?_, rfl⟩, hh⟩
    simp [retV, hlx2, c5]
  · refine reg_q tabOK hk hh [(0, .bool false)] [4] rfl ?_ (fun a hk => ?_)
    · exact ⟨ob_eq tabOK rfl (v_id (by simpa using c5)), trivial⟩
    refine hK3 a w ?_; try clear hK3 K3
    refine wp_ret ?_
    refine fin_ret hk (show Tryz.f19.results = ⟨[.tmp 4]⟩ from rfl) (by exact (res_tmp hk rfl .nil)) ?_
    replace hh := (hh.at_ 0 rfl).drop
    replace hh := (hh.at_ 0 rfl).drop
    refine ⟨_, _, rfl, ⟨?_, rfl⟩, hh⟩
    simp [retV, hlx2, c5]

end Go.Hop
/- What is proved here: what a function of the text computes. Printed by program. -/
namespace Go.Hop
open Go.Proofs
set_option maxRecDepth 4000
theorem ftext_spec (fw ff : List UInt8) (fk : Int) (x : ActL) (hx : ActOK x) (hff : ff.length ≤ 3) (hfw : fw.length ≤ 10) (hasc : ∀ i, (ff.getD i 0).toNat < 128) {σ : Sg} {w : World} {R : List Assn} (hR : Lay R) (hh : Holds σ w (R)) :
    Calls Tryz.prog 17 ⟨[.agg ⟨[S fw, .int .i64 fk, S ff]⟩, .agg ⟨[.int .i64 x.k, .int .i64 x.a, .int .i64 x.b, .int .i64 x.n, S x.s]⟩]⟩ w fun e w' => ∃ v L', e = .returned v ∧ (v = S (showT fw ff x) ∧ L' = R) ∧ Holds σ w' L' := by
  refine enter Tryz.func17 rfl Tryz.ntmps17 rfl fun a hk => ?_
  have hxa := hx.a
  have hxb := hx.b
  have hxn := hx.n
  refine wp_seq_k fun K1 hK1 => ?_
  refine wp_region_lit ?_
  refine seq_eff hk hh rfl rfl (eff_box rfl rfl) (fun v L a w hp hk hh => ?_)
  obtain ⟨b1, rfl, hL⟩ := hp; rw [hL] at hh; clear hL
  refine seq_eff hk hh rfl rfl (eff_box rfl rfl) (fun v L a w hp hk hh => ?_)
  obtain ⟨b2, rfl, hL⟩ := hp; rw [hL] at hh; clear hL
  refine rest_q tabOK (i := 2) hk hh [] [2, 3] rfl trivial (fun a hk => ?_)
  refine hK1 a w ?_; try clear hK1 K1
  refine wp_seq_k fun K2 hK2 => ?_
  refine wp_region_lit ?_
  refine seq_q tabOK (i := 0) (stop := 2) hk hh [(1, S fw)] rfl ?_ (fun a hk => ?_)
  · exact ⟨ob_load tabOK 1 rfl rfl rfl rfl rfl, trivial⟩
  refine seq_eff hk hh rfl rfl (eff_lit tabOK rfl rfl rfl (by decide) rfl) (fun v L a w hp hk hh => ?_)
  obtain ⟨b3, rfl, hL⟩ := hp; rw [hL] at hh; clear hL
  refine rest_q tabOK (i := 3) hk hh [] [2, 3, 5] rfl trivial (fun a hk => ?_)
  refine hK2 a w ?_; try clear hK2 K2
  refine wp_seq_k fun K3 hK3 => ?_
  refine wp_seq_k fun K4 hK4 => ?_
  refine wp_region_lit ?_
  refine seq_q tabOK (i := 0) (stop := 2) hk hh [(1, S ff)] rfl ?_ (fun a hk => ?_)
  · exact ⟨ob_load tabOK 2 rfl rfl rfl rfl rfl, trivial⟩
  refine seq_eff hk hh rfl rfl (eff_range_str tabOK rfl rfl) (fun v L a w hp hk hh => ?_)
  obtain ⟨b4, rfl, hL⟩ := hp; rw [hL] at hh; clear hL
  refine rest_q tabOK (i := 3) hk hh [] [3, 5, 13] rfl trivial (fun a hk => ?_)
  refine hK4 a w ?_; try clear hK4 K4
  refine wp_block ?_
  replace hh := own_again (k := 1) (sp := []) (n := 1) (cap := 1) (cs := [S fw]) ⟨by omega, rfl, rfl⟩ (hh.at_ 1 rfl)
  replace hh := (hh.at_ 3 rfl).drop
  replace hk := hk.keep [3, 5, 13] rfl
  refine code_loop (α := Nat) (fun (m : Nat) (E : Env) (L : List Assn) => ∃ (i : Nat) (O : List (List UInt8)) (u : Value), E = [(3, .pointer (some ⟨b2, 0, none⟩)), (5, u), (13, .pointer (some ⟨b4, 0, none⟩))] ∧ L = [Own 9 1 u O.length (O.map S), iterS b4 ff i, row b2 26 [.int .i64 x.k, .int .i64 x.a, .int .i64 x.b, .int .i64 x.n, S x.s]] ++ R ∧ (i ≤ ff.length) ∧ (O.length ≤ 1 + i) ∧ (O = fw :: (ff.take i).map (fldT x)) ∧ m = ff.length - i) id _ hk hh ⟨0, [fw], (.slice (some ⟨b3, 0, none⟩) 1 1), rfl, rfl, (by omega), (by simp), (by simp), rfl⟩ ?_
  clear hk hh
  rintro _ _ _ a w ⟨i, O, u, rfl, hL, hi, hO, inv, rfl⟩ hk hh; rw [hL] at hh; clear hL
  refine wp_seq_k fun K5 hK5 => ?_
  by_cases c5 : i < ff.length
  · refine wp_region_lit ?_
    refine seq_eff hk hh rfl rfl (eff_next_ascii 1 rfl rfl (getD_at c5) (hasc _)) (fun v L a w hp hk hh => ?_)
    obtain ⟨rfl, hL⟩ := hp; rw [hL] at hh; clear hL
    refine rest_q tabOK (i := 1) hk hh [] [3, 5, 13, 14, 15] rfl trivial (fun a hk => ?_)
    refine hK5 a w ?_; try clear hK5 K5
    refine wp_seq_k fun K6 hK6 => ?_
    refine code_cond hk rfl (fun _ => ?_) (fun h => by cases h)
    refine wp_skip ?_
    refine hK6 a w ?_; try clear hK6 K6
    refine wp_block ?_
    refine wp_seq_k fun K7 hK7 => ?_
    refine reg_q tabOK hk hh [] [3, 5, 7, 13] rfl trivial (fun a hk => ?_)
    refine hK7 a w ?_; try clear hK7 K7
    refine wp_seq_k fun K8 hK8 => ?_
    refine reg_q tabOK hk hh [] [3, 5, 13, 17] rfl trivial (fun a hk => ?_)
    refine hK8 a w ?_; try clear hK8 K8
    refine wp_block ?_
    refine wp_seq_k fun K9 hK9 => ?_
    refine reg_q tabOK hk hh [] [3, 5, 13, 17, 24] rfl trivial (fun a hk => ?_)
    refine hK9 a w ?_; try clear hK9 K9
    refine code_cond hk rfl (fun c6 => ?_) (fun c6 => ?_)
    · replace c6 : ((ff.getD i 0).toNat : Int) = 97 := (c_et c6)
      refine wp_region_lit ?_
      refine seq_q tabOK (i := 0) (stop := 3) hk hh [(2, .int .i64 x.a)] rfl ?_ (fun a hk => ?_)
      · exact ⟨ob_load tabOK 2 rfl rfl rfl rfl rfl, trivial⟩
      refine seq_eff hk hh rfl rfl (eff_call Tryz.func29 rfl rfl rfl rfl (fun w hh => itoa_spec x.a (by first | assumption | (unfold I64; omega)) (by exact (((hR.cons _).cons _).cons _)) hh)) (fun v L a w hp hk hh => ?_)
      obtain ⟨rfl, hL⟩ := hp; rw [hL] at hh; clear hL
      refine seq_eff hk hh rfl rfl (eff_lit tabOK rfl rfl rfl (by decide) rfl) (fun v L a w hp hk hh => ?_)
      obtain ⟨b7, rfl, hL⟩ := hp; rw [hL] at hh; clear hL
      refine seq_eff hk hh rfl rfl (eff_append tabOK 2 rfl rfl rfl rfl rfl rfl rfl (.inl ⟨_, rfl⟩) (fun _ => rfl) (fun w hh => src_row (j := 1) hh rfl rfl) rfl rfl (by show (O.length + 1) * 16 ≤ 140737488355328; omega) (by show 0 < 16; omega)) (fun u8 L a w hp hk hh => ?_)
      rw [hp] at hh; clear hp
      refine rest_q tabOK (i := 6) hk hh [] [3, 5, 13] rfl trivial (fun a hk => ?_)
      refine blk_nm ?_
      refine blk_nm ?_
      rw [len_snoc (x := (Lib.itoa x.a)), map_snoc] at hh
      replace hh := (hh.at_ 1 rfl).drop
      refine then_nm ?_
      exact ⟨_, _, _, ⟨i + 1, O ++ [(Lib.itoa x.a)], u8, rfl, rfl, (by omega), (by simp only [List.length_append, List.length_cons, List.length_nil]; omega), (words_step inv (by omega) (fld_a c6)), rfl⟩, (by simp only [id]; omega), hk.keep [3, 5, 13] rfl, hh⟩
    · replace c6 : ¬ (((ff.getD i 0).toNat : Int) = 97) := (c_ef c6)
      refine wp_seq_k fun K10 hK10 => ?_
      refine reg_q tabOK hk hh [] [3, 5, 13, 17, 32] rfl trivial (fun a hk => ?_)
      refine hK10 a w ?_; try clear hK10 K10
      refine code_cond hk rfl (fun c9 => ?_) (fun c9 => ?_)
      · replace c9 : ((ff.getD i 0).toNat : Int) = 98 := (c_et c9)
        refine wp_region_lit ?_
        refine seq_q tabOK (i := 0) (stop := 3) hk hh [(2, .int .i64 x.b)] rfl ?_ (fun a hk => ?_)
        · exact ⟨ob_load tabOK 2 rfl rfl rfl rfl rfl, trivial⟩
        refine seq_eff hk hh rfl rfl (eff_call Tryz.func29 rfl rfl rfl rfl (fun w hh => itoa_spec x.b (by first | assumption | (unfold I64; omega)) (by exact (((hR.cons _).cons _).cons _)) hh)) (fun v L a w hp hk hh => ?_)
        obtain ⟨rfl, hL⟩ := hp; rw [hL] at hh; clear hL
        refine seq_eff hk hh rfl rfl (eff_lit tabOK rfl rfl rfl (by decide) rfl) (fun v L a w hp hk hh => ?_)
        obtain ⟨b10, rfl, hL⟩ := hp; rw [hL] at hh; clear hL
        refine seq_eff hk hh rfl rfl (eff_append tabOK 2 rfl rfl rfl rfl rfl rfl rfl (.inl ⟨_, rfl⟩) (fun _ => rfl) (fun w hh => src_row (j := 1) hh rfl rfl) rfl rfl (by show (O.length + 1) * 16 ≤ 140737488355328; omega) (by show 0 < 16; omega)) (fun u11 L a w hp hk hh => ?_)
        rw [hp] at hh; clear hp
        refine rest_q tabOK (i := 6) hk hh [] [3, 5, 13] rfl trivial (fun a hk => ?_)
        refine blk_nm ?_
        refine blk_nm ?_
        rw [len_snoc (x := (Lib.itoa x.b)), map_snoc] at hh
        replace hh := (hh.at_ 1 rfl).drop
        refine then_nm ?_
        exact ⟨_, _, _, ⟨i + 1, O ++ [(Lib.itoa x.b)], u11, rfl, rfl, (by omega), (by simp only [List.length_append, List.length_cons, List.length_nil]; omega), (words_step inv (by omega) (fld_b c6 c9)), rfl⟩, (by simp only [id]; omega), hk.keep [3, 5, 13] rfl, hh⟩
      · replace c9 : ¬ (((ff.getD i 0).toNat : Int) = 98) := (c_ef c9)
        refine wp_seq_k fun K11 hK11 => ?_
        refine reg_q tabOK hk hh [] [3, 5, 13, 40] rfl trivial (fun a hk => ?_)
        refine hK11 a w ?_; try clear hK11 K11
        refine code_cond hk rfl (fun c12 => ?_) (fun c12 => ?_)
        · replace c12 : ((ff.getD i 0).toNat : Int) = 115 := (c_et c12)
          refine wp_region_lit ?_
          refine seq_q tabOK (i := 0) (stop := 3) hk hh [(2, S x.s)] rfl ?_ (fun a hk => ?_)
          · exact ⟨ob_load tabOK 2 rfl rfl rfl rfl rfl, trivial⟩
          refine seq_eff hk hh rfl rfl (eff_lit tabOK rfl rfl rfl (by decide) rfl) (fun v L a w hp hk hh => ?_)
          obtain ⟨b13, rfl, hL⟩ := hp; rw [hL] at hh; clear hL
          refine seq_eff hk hh rfl rfl (eff_append tabOK 2 rfl rfl rfl rfl rfl rfl rfl (.inl ⟨_, rfl⟩) (fun _ => rfl) (fun w hh => src_row (j := 1) hh rfl rfl) rfl rfl (by show (O.length + 1) * 16 ≤ 140737488355328; omega) (by show 0 < 16; omega)) (fun u14 L a w hp hk hh => ?_)
          rw [hp] at hh; clear hp
          refine rest_q tabOK (i := 5) hk hh [] [3, 5, 13] rfl trivial (fun a hk => ?_)
          refine blk_nm ?_
          refine blk_nm ?_
          rw [len_snoc (x := x.s), map_snoc] at hh
          replace hh := (hh.at_ 1 rfl).drop
          refine then_nm ?_
          exact ⟨_, _, _, ⟨i + 1, O ++ [x.s], u14, rfl, rfl, (by omega), (by simp only [List.length_append, List.length_cons, List.length_nil]; omega), (words_step inv (by omega) (fld_s c6 c9 c12)), rfl⟩, (by simp only [id]; omega), hk.keep [3, 5, 13] rfl, hh⟩
        · replace c12 : ¬ (((ff.getD i 0).toNat : Int) = 115) := (c_ef c12)
          refine wp_region_lit ?_
          refine seq_q tabOK (i := 0) (stop := 3) hk hh [(2, .int .i64 x.n)] rfl ?_ (fun a hk => ?_)
          · exact ⟨ob_load tabOK 2 rfl rfl rfl rfl rfl, trivial⟩
          refine seq_eff hk hh rfl rfl (eff_call Tryz.func30 rfl rfl rfl rfl (fun w hh => fmt_spec x.n (by first | assumption | (unfold I64; omega)) (by exact (((hR.cons _).cons _).cons _)) hh)) (fun v L a w hp hk hh => ?_)
          obtain ⟨rfl, hL⟩ := hp; rw [hL] at hh; clear hL
          refine seq_eff hk hh rfl rfl (eff_lit tabOK rfl rfl rfl (by decide) rfl) (fun v L a w hp hk hh => ?_)
          obtain ⟨b15, rfl, hL⟩ := hp; rw [hL] at hh; clear hL
          refine seq_eff hk hh rfl rfl (eff_append tabOK 2 rfl rfl rfl rfl rfl rfl rfl (.inl ⟨_, rfl⟩) (fun _ => rfl) (fun w hh => src_row (j := 1) hh rfl rfl) rfl rfl (by show (O.length + 1) * 16 ≤ 140737488355328; omega) (by show 0 < 16; omega)) (fun u16 L a w hp hk hh => ?_)
          rw [hp] at hh; clear hp
          refine rest_q tabOK (i := 6) hk hh [] [3, 5, 13] rfl trivial (fun a hk => ?_)
          refine blk_nm ?_
          refine blk_nm ?_
          rw [len_snoc (x := (Lib.itoa x.n)), map_snoc] at hh
          replace hh := (hh.at_ 1 rfl).drop
          refine then_nm ?_
          exact ⟨_, _, _, ⟨i + 1, O ++ [(Lib.itoa x.n)], u16, rfl, rfl, (by omega), (by simp only [List.length_append, List.length_cons, List.length_nil]; omega), (words_step inv (by omega) (fld_n c6 c9 c12)), rfl⟩, (by simp only [id]; omega), hk.keep [3, 5, 13] rfl, hh⟩
  · refine wp_region_lit ?_
    refine seq_eff hk hh rfl rfl (eff_next_end 1 rfl rfl (by omega)) (fun v L a w hp hk hh => ?_)
    obtain ⟨rfl, hL⟩ := hp; rw [hL] at hh; clear hL
    refine rest_q tabOK (i := 1) hk hh [] [3, 5, 13, 14, 15] rfl trivial (fun a hk => ?_)
    refine hK5 a w ?_; try clear hK5 K5
    refine wp_seq_k fun K12 hK12 => ?_
    refine code_cond hk rfl (fun h => by cases h) (fun _ => ?_)
    refine wp_exit ?_
    refine then_exit ?_
    refine then_exit ?_
    refine blk_out ?_
    refine hK3 a w ?_; try clear hK3 K3
    refine wp_seq_k fun K13 hK13 => ?_
    have hfin := words_fin inv (by omega)
    subst hfin
    clear inv
    have hsl := show_len (x := x) (fw := fw) (ff := ff) hx hff hfw
    have hjl : ([32].intercalate (wordsT fw ff x)).length ≤ 140737488355328 := Nat.le_trans hsl (by decide)
    have hjn : (wordsT fw ff x).length ≤ 140737488355328 := by omega
    refine wp_region_lit ?_
    refine seq_q tabOK (i := 0) (stop := 1) hk hh [] rfl trivial (fun a hk => ?_)
    refine seq_eff hk hh rfl rfl (eff_call Tryz.func31 rfl rfl rfl rfl (fun w hh => join_spec 32 (wordsT fw ff x) rfl hjl hjn (hh.at_ 0 rfl))) (fun v L a w hp hk hh => ?_)
    obtain ⟨rfl, hL⟩ := hp; rw [hL] at hh; clear hL
    refine rest_q tabOK (i := 2) hk hh [] [4] rfl trivial (fun a hk => ?_)
    refine hK13 a w ?_; try clear hK13 K13
    refine wp_ret ?_
    refine fin_ret hk (show Tryz.f17.results = ⟨[.tmp 4]⟩ from rfl) (by exact (res_tmp hk rfl .nil)) ?_
    replace hh := (hh.at_ 0 rfl).drop
    replace hh := (hh.at_ 0 rfl).drop
    exact ⟨_, _, rfl, ⟨rfl, rfl⟩, hh⟩

end Go.Hop
