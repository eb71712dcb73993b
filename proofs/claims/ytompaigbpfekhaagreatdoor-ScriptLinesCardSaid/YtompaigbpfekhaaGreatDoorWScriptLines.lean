/- What is proved here: what a function of the text computes. Printed by program. -/
import Derived.Test.YtompaigbpfekhaaGreatDoorWKnown
import Derived.Test.YtompaigbpfekhaaGreatDoorHopBoth
namespace Go.Hop
open Go.Proofs
set_option maxRecDepth 4000
set_option maxHeartbeats 4000000
theorem scriptlines_spec (sa sb : List UInt8) (hsa : sa.length ≤ 1000000000000000000) (hsb : sb.length ≤ 1000000000000000000) {σ : Sg} {w : World} {R : List Assn} (hR : Lay R) (hh : Holds σ w (R)) :
    Calls Tryz.prog 5 ⟨[S sa, S sb]⟩ w fun e w' => ∃ v L', e = .returned v ∧ (v = .bool true ∧ L' = R) ∧ Holds σ w' L' := by
  refine enter Tryz.func5 rfl Tryz.ntmps5 rfl fun a hk => ?_
  refine wp_seq_k fun K1 hK1 => ?_
  refine reg_q tabOK hk hh [] [0, 1] rfl trivial (fun a hk => ?_)
  refine hK1 a w ?_; try clear hK1 K1
  refine wp_seq_k fun K2 hK2 => ?_
  refine wp_seq_k fun K3 hK3 => ?_
  refine reg_q tabOK hk hh [] [0, 1, 17] rfl trivial (fun a hk => ?_)
  refine hK3 a w ?_; try clear hK3 K3
  refine code_cond hk rfl (fun c1 => ?_) (fun c1 => ?_)
  · replace c1 : (sa.length : Int) > 60 := (of_decide_eq_true c1)
    refine reg_q tabOK hk hh [(1, S (sa.take 60))] [0, 1] rfl ?_ (fun a hk => ?_)
    · exact ⟨ob_slice_str tabOK rfl rfl rfl rfl (by omega) (by omega) (by omega) (by simp), trivial⟩
    refine hK2 a w ?_; try clear hK2 K2
    refine wp_seq_k fun K4 hK4 => ?_
    refine wp_seq_k fun K5 hK5 => ?_
    refine reg_q tabOK hk hh [] [0, 1, 22] rfl trivial (fun a hk => ?_)
    refine hK5 a w ?_; try clear hK5 K5
    refine code_cond hk rfl (fun c2 => ?_) (fun c2 => ?_)
    · replace c2 : (sb.length : Int) > 60 := (of_decide_eq_true c2)
      refine reg_q tabOK hk hh [(1, S (sb.take 60))] [0, 1] rfl ?_ (fun a hk => ?_)
      · exact ⟨ob_slice_str tabOK rfl rfl rfl rfl (by omega) (by omega) (by omega) (by simp), trivial⟩
      refine hK4 a w ?_; try clear hK4 K4
      refine wp_seq_k fun K6 hK6 => ?_
      have hX : ((sa.take 60)).length ≤ 60 := by first | omega | (rw [List.length_take]; omega)
      have hY : ((sb.take 60)).length ≤ 60 := by first | omega | (rw [List.length_take]; omega)
      have hp1 : (parseO ((sa.take 60) ++ [10] ++ (sb.take 60))).1 = (parseO (sa.take 60)).1 ++ (parseO (sb.take 60)).1 := by rw [parse_both hX hY]
      have hp2 : (parseO ((sa.take 60) ++ [10] ++ (sb.take 60))).2 = (parseO (sa.take 60)).2 ++ (parseO (sb.take 60)).2.map (· + ((spl 10 (sa.take 60)).length : Int)) := by rw [parse_both hX hY]
      have hn1 : (parseO ((sa.take 60) ++ [10] ++ (sb.take 60))).1.length = (parseO (sa.take 60)).1.length + (parseO (sb.take 60)).1.length := by rw [hp1, List.length_append]
      have hn2 : (parseO ((sa.take 60) ++ [10] ++ (sb.take 60))).2.length = (parseO (sa.take 60)).2.length + (parseO (sb.take 60)).2.length := by rw [hp2, List.length_append, List.length_map]
      have hq0 := parse_len (l := (sa.take 60))
      have hq1 := parse_len (l := (sb.take 60))
      have hsx := spl_len (c := 10) (l := (sa.take 60))
      refine wp_region_lit ?_
      refine seq_q tabOK (i := 0) (stop := 1) hk hh [] rfl trivial (fun a hk => ?_)
      refine seq_eff hk hh rfl rfl (eff_call Tryz.func14 rfl rfl rfl rfl (fun w hh => parse_text (sa.take 60) (by omega) (by exact hR) hh)) (fun v L a w hp hk hh => ?_)
      obtain ⟨u3, u4, rfl, hL⟩ := hp; rw [hL] at hh; clear hL
      refine rest_q tabOK (i := 2) hk hh [] [0, 1, 5, 6] rfl trivial (fun a hk => ?_)
      refine hK6 a w ?_; try clear hK6 K6
      refine wp_seq_k fun K7 hK7 => ?_
      refine wp_region_lit ?_
      refine seq_q tabOK (i := 0) (stop := 1) hk hh [] rfl trivial (fun a hk => ?_)
      refine seq_eff hk hh rfl rfl (eff_call Tryz.func14 rfl rfl rfl rfl (fun w hh => parse_text (sb.take 60) (by omega) (by exact ((hR.cons _).cons _)) hh)) (fun v L a w hp hk hh => ?_)
      obtain ⟨u5, u6, rfl, hL⟩ := hp; rw [hL] at hh; clear hL
      refine rest_q tabOK (i := 2) hk hh [] [0, 1, 5, 6, 7, 8] rfl trivial (fun a hk => ?_)
      refine hK7 a w ?_; try clear hK7 K7
      refine wp_seq_k fun K8 hK8 => ?_
      refine wp_region_lit ?_
      refine seq_q tabOK (i := 0) (stop := 4) hk hh [(1, S ((sa.take 60) ++ [10])), (3, S (((sa.take 60) ++ [10]) ++ (sb.take 60)))] rfl ?_ (fun a hk => ?_)
      · exact ⟨ob_concat rfl rfl (by simp only [List.length_append, List.length_cons, List.length_nil]; omega), ob_concat rfl rfl (by simp only [List.length_append, List.length_cons, List.length_nil]; omega), trivial⟩
      refine seq_eff hk hh rfl rfl (eff_call Tryz.func14 rfl rfl rfl rfl (fun w hh => parse_text (((sa.take 60) ++ [10]) ++ (sb.take 60)) (by simp only [List.length_append, List.length_cons, List.length_nil]; omega) (by exact ((((hR.cons _).cons _).cons _).cons _)) hh)) (fun v L a w hp hk hh => ?_)
      obtain ⟨u7, u8, rfl, hL⟩ := hp; rw [hL] at hh; clear hL
      refine rest_q tabOK (i := 5) hk hh [] [0, 5, 6, 7, 8, 9, 10] rfl trivial (fun a hk => ?_)
      refine hK8 a w ?_; try clear hK8 K8
      refine wp_seq_k fun K9 hK9 => ?_
      refine reg_q tabOK hk hh [] [0, 5, 6, 7, 8, 9, 10, 11] rfl trivial (fun a hk => ?_)
      refine hK9 a w ?_; try clear hK9 K9
      refine wp_seq_k fun K10 hK10 => ?_
      refine wp_seq_k fun K11 hK11 => ?_
      refine reg_q tabOK hk hh [] [0, 5, 6, 7, 8, 9, 10, 11, 12] rfl trivial (fun a hk => ?_)
      refine hK11 a w ?_; try clear hK11 K11
      refine wp_block ?_
      replace hh := hh.picks [4, 4, 2, 2, 0, 0] rfl
      replace hk := hk.keep [0, 5, 6, 7, 8, 9, 10, 11, 12] rfl
      refine code_loop (α := Nat) (fun (m : Nat) (E : Env) (L : List Assn) => ∃ (i : Nat) (n : Nat), E = [(0, S (sa.take 60)), (5, u3), (6, u4), (7, u5), (8, u6), (9, u7), (10, u8), (11, .int .i64 (n : Int)), (12, .int .i64 (i : Int))] ∧ L = [Own 26 5 u3 ((parseO (sa.take 60)).1.length) (actC (parseO (sa.take 60)).1), Own 3 1 u4 ((parseO (sa.take 60)).2.length) (intC (parseO (sa.take 60)).2), Own 26 5 u5 ((parseO (sb.take 60)).1.length) (actC (parseO (sb.take 60)).1), Own 3 1 u6 ((parseO (sb.take 60)).2.length) (intC (parseO (sb.take 60)).2), Own 26 5 u7 ((parseO (((sa.take 60) ++ [10]) ++ (sb.take 60))).1.length) (actC (parseO (((sa.take 60) ++ [10]) ++ (sb.take 60))).1), Own 3 1 u8 ((parseO (((sa.take 60) ++ [10]) ++ (sb.take 60))).2.length) (intC (parseO (((sa.take 60) ++ [10]) ++ (sb.take 60))).2)] ++ R ∧ (i ≤ (sa.take 60).length) ∧ (n ≤ 1 + i) ∧ (n = 1 + ((sa.take 60).take i).count 10) ∧ m = (sa.take 60).length - i) id _ hk hh ⟨0, 1, rfl, rfl, (by omega), (by omega), (by simp), rfl⟩ ?_
      clear hk hh
      rintro _ _ _ a w ⟨i, n, rfl, hL, hi, hni, hcn, rfl⟩ hk hh; rw [hL] at hh; clear hL
      refine wp_seq_k fun K12 hK12 => ?_
      refine wp_seq_k fun K13 hK13 => ?_
      refine reg_q tabOK hk hh [] [0, 5, 6, 7, 8, 9, 10, 11, 12, 46] rfl trivial (fun a hk => ?_)
      refine hK13 a w ?_; try clear hK13 K13
      refine code_cond hk rfl (fun c9 => ?_) (fun c9 => ?_)
      · replace c9 : (i : Int) < ((sa.take 60).length : Int) := (of_decide_eq_true c9)
        refine wp_skip ?_
        refine hK12 a w ?_; try clear hK12 K12
        refine wp_seq_k fun K14 hK14 => ?_
        refine wp_block ?_
        refine wp_seq_k fun K15 hK15 => ?_
        refine reg_q tabOK hk hh [(2, .int .u8 (((sa.take 60).getD i 0).toNat : Int))] [0, 5, 6, 7, 8, 9, 10, 11, 12, 52] rfl ?_ (fun a hk => ?_)
        · exact ⟨ob_index tabOK rfl rfl rfl (by omega) (getD_at (by omega)), trivial⟩
        refine hK15 a w ?_; try clear hK15 K15
        refine code_cond hk rfl (fun c10 => ?_) (fun c10 => ?_)
        · replace c10 : (((sa.take 60).getD i 0).toNat : Int) = 10 := (c_et c10)
          refine reg_q tabOK hk hh [(1, .int .i64 ((n : Int) + 1))] [0, 5, 6, 7, 8, 9, 10, 11, 12] rfl ?_ (fun a hk => ?_)
          · exact ⟨ob_eq tabOK rfl (eq_i64 (by omega)), trivial⟩
          refine blk_nm ?_
          refine hK14 a w ?_; try clear hK14 K14
          refine reg_q tabOK hk hh [(1, .int .i64 ((i : Int) + 1))] [0, 5, 6, 7, 8, 9, 10, 11, 12] rfl ?_ (fun a hk => ?_)
          · exact ⟨ob_eq tabOK rfl (eq_i64 (by omega)), trivial⟩
          refine then_nm ?_
          exact ⟨_, _, _, ⟨i + 1, n + 1, rfl, rfl, (by omega), (by omega), (by have := count_hit (i := i) (by omega) c10; omega), rfl⟩, (by simp only [id]; omega), hk.keep [0, 5, 6, 7, 8, 9, 10, 11, 12] rfl, hh⟩
        · replace c10 : ¬ ((((sa.take 60).getD i 0).toNat : Int) = 10) := (c_ef c10)
          refine wp_skip ?_
          refine blk_nm ?_
          refine hK14 a w ?_; try clear hK14 K14
          refine reg_q tabOK hk hh [(1, .int .i64 ((i : Int) + 1))] [0, 5, 6, 7, 8, 9, 10, 11, 12] rfl ?_ (fun a hk => ?_)
          · exact ⟨ob_eq tabOK rfl (eq_i64 (by omega)), trivial⟩
          refine then_nm ?_
          exact ⟨_, _, _, ⟨i + 1, n, rfl, rfl, (by omega), (by omega), (by have := count_miss (i := i) (by omega) c10; omega), rfl⟩, (by simp only [id]; omega), hk.keep [0, 5, 6, 7, 8, 9, 10, 11, 12] rfl, hh⟩
      · replace c9 : ¬ ((i : Int) < ((sa.take 60).length : Int)) := (of_decide_eq_false c9)
        refine wp_exit ?_
        refine then_exit ?_
        refine then_exit ?_
        refine blk_out ?_
        refine hK10 a w ?_; try clear hK10 K10
        refine wp_seq_k fun K16 hK16 => ?_
        refine wp_seq_k fun K17 hK17 => ?_
        have hns : n = (spl 10 (sa.take 60)).length := by rw [hcn]; exact count_end (by omega)
        by_cases c11 : ((parseO (((sa.take 60) ++ [10]) ++ (sb.take 60))).1.length : Int) = ((parseO (sa.take 60)).1.length : Int) + ((parseO (sb.take 60)).1.length : Int)
        · refine reg_q tabOK hk hh [(1, .int .i64 ((parseO (((sa.take 60) ++ [10]) ++ (sb.take 60))).1.length : Int)), (3, .int .i64 ((parseO (sa.take 60)).1.length : Int)), (5, .int .i64 ((parseO (sb.take 60)).1.length : Int)), (6, .int .i64 (((parseO (sa.take 60)).1.length : Int) + ((parseO (sb.take 60)).1.length : Int))), (7, .bool false), (10, .int .i64 ((parseO (((sa.take 60) ++ [10]) ++ (sb.take 60))).2.length : Int)), (12, .int .i64 ((parseO (sa.take 60)).2.length : Int)), (14, .int .i64 ((parseO (sb.take 60)).2.length : Int)), (15, .int .i64 (((parseO (sa.take 60)).2.length : Int) + ((parseO (sb.take 60)).2.length : Int)))] [5, 6, 7, 8, 9, 10, 11, 72] rfl ?_ (fun a hk => ?_)
          · exact ⟨ob_lenOwn tabOK 4 rfl rfl rfl, ob_lenOwn tabOK 0 rfl rfl rfl, ob_lenOwn tabOK 2 rfl rfl rfl, ob_eq tabOK rfl (eq_i64 (by omega)), ob_eq tabOK rfl (v_nf c11), ob_lenOwn tabOK 5 rfl rfl rfl, ob_lenOwn tabOK 1 rfl rfl rfl, ob_lenOwn tabOK 3 rfl rfl rfl, ob_eq tabOK rfl (eq_i64 (by omega)), trivial⟩
          refine hK17 a w ?_; try clear hK17 K17
          refine code_cond hk rfl (fun c12 => ?_) (fun c12 => ?_)
          · replace c12 : ¬ (((parseO (((sa.take 60) ++ [10]) ++ (sb.take 60))).2.length : Int) = ((parseO (sa.take 60)).2.length : Int) + ((parseO (sb.take 60)).2.length : Int)) := (c_nt c12)
            exfalso; omega
          · replace c12 : ((parseO (((sa.take 60) ++ [10]) ++ (sb.take 60))).2.length : Int) = ((parseO (sa.take 60)).2.length : Int) + ((parseO (sb.take 60)).2.length : Int) := (c_nf c12)
            refine wp_skip ?_
            refine hK16 a w ?_; try clear hK16 K16
            refine wp_seq_k fun K18 hK18 => ?_
            refine wp_seq_k fun K19 hK19 => ?_
            refine reg_q tabOK hk hh [(1, .int .i64 ((parseO (((sa.take 60) ++ [10]) ++ (sb.take 60))).1.length : Int))] [5, 6, 7, 8, 9, 10, 11, 74, 75] rfl ?_ (fun a hk => ?_)
            · exact ⟨ob_lenOwn tabOK 4 rfl rfl rfl, trivial⟩
            refine hK19 a w ?_; try clear hK19 K19
            refine wp_block ?_
            replace hk := hk.keep [5, 6, 7, 8, 9, 10, 11, 74, 75] rfl
            refine code_loop (α := Nat) (fun (m : Nat) (E : Env) (L : List Assn) => ∃ (i : Nat), E = [(5, u3), (6, u4), (7, u5), (8, u6), (9, u7), (10, u8), (11, .int .i64 (n : Int)), (74, .int .i64 ((parseO (((sa.take 60) ++ [10]) ++ (sb.take 60))).1.length : Int)), (75, .int .i64 (i : Int))] ∧ L = [Own 26 5 u3 ((parseO (sa.take 60)).1.length) (actC (parseO (sa.take 60)).1), Own 3 1 u4 ((parseO (sa.take 60)).2.length) (intC (parseO (sa.take 60)).2), Own 26 5 u5 ((parseO (sb.take 60)).1.length) (actC (parseO (sb.take 60)).1), Own 3 1 u6 ((parseO (sb.take 60)).2.length) (intC (parseO (sb.take 60)).2), Own 26 5 u7 ((parseO (((sa.take 60) ++ [10]) ++ (sb.take 60))).1.length) (actC (parseO (((sa.take 60) ++ [10]) ++ (sb.take 60))).1), Own 3 1 u8 ((parseO (((sa.take 60) ++ [10]) ++ (sb.take 60))).2.length) (intC (parseO (((sa.take 60) ++ [10]) ++ (sb.take 60))).2)] ++ R ∧ (i ≤ (parseO ((sa.take 60) ++ [10] ++ (sb.take 60))).1.length) ∧ m = (parseO ((sa.take 60) ++ [10] ++ (sb.take 60))).1.length - i) id _ hk hh ⟨0, rfl, rfl, (by omega), rfl⟩ ?_
            clear hk hh
            rintro _ _ _ a w ⟨i, rfl, hL, hi, rfl⟩ hk hh; rw [hL] at hh; clear hL
            refine wp_seq_k fun K20 hK20 => ?_
            refine reg_q tabOK hk hh [] [5, 6, 7, 8, 9, 10, 11, 74, 75, 76] rfl trivial (fun a hk => ?_)
            refine hK20 a w ?_; try clear hK20 K20
            refine wp_seq_k fun K21 hK21 => ?_
            refine code_cond hk rfl (fun c13 => ?_) (fun c13 => ?_)
            · replace c13 : (i : Int) < ((parseO (((sa.take 60) ++ [10]) ++ (sb.take 60))).1.length : Int) := (of_decide_eq_true c13)
              refine wp_skip ?_
              refine hK21 a w ?_; try clear hK21 K21
              refine wp_seq_k fun K22 hK22 => ?_
              refine wp_block ?_
              refine wp_seq_k fun K23 hK23 => ?_
              refine reg_q tabOK hk hh [] [5, 6, 7, 8, 9, 10, 11, 13, 74, 75] rfl trivial (fun a hk => ?_)
              refine hK23 a w ?_; try clear hK23 K23
              refine wp_seq_k fun K24 hK24 => ?_
              by_cases c14 : (i : Int) < ((parseO (sa.take 60)).1.length : Int)
              · have hx := own_ne (hh.at_ 4 rfl) (by omega)
                clear hh; obtain ⟨b15, cap16, sp17, hu, hcap16, hH⟩ := hx; subst hu; have hh := hH; clear hH
                have hx := own_ne (hh.at_ 1 rfl) (by omega)
                clear hh; obtain ⟨b18, cap19, sp20, hu, hcap19, hH⟩ := hx; subst hu; have hh := hH; clear hH
                by_cases c21 : ((parseO (((sa.take 60) ++ [10]) ++ (sb.take 60))).1.getD i zA) = ((parseO (sa.take 60)).1.getD i zA)
                · by_cases c22 : (i : Int) ≥ ((parseO (sa.take 60)).1.length : Int)
                  · exfalso; omega
                  · refine reg_d tabOK (by kernel_rfl) hk hh [] [5, 6, 7, 8, 9, 10, 11, 74, 75, 112] rfl 0 [(3, .bool true), (7, .pointer (some ⟨b15, i * 5, none⟩)), (8, .agg ⟨[.int .i64 (((parseO (((sa.take 60) ++ [10]) ++ (sb.take 60))).1.getD i zA).k), .int .i64 (((parseO (((sa.take 60) ++ [10]) ++ (sb.take 60))).1.getD i zA).a), .int .i64 (((parseO (((sa.take 60) ++ [10]) ++ (sb.take 60))).1.getD i zA).b), .int .i64 (((parseO (((sa.take 60) ++ [10]) ++ (sb.take 60))).1.getD i zA).n), S (((parseO (((sa.take 60) ++ [10]) ++ (sb.take 60))).1.getD i zA).s)]⟩), (11, .pointer (some ⟨b18, i * 5, none⟩)), (12, .agg ⟨[.int .i64 (((parseO (sa.take 60)).1.getD i zA).k), .int .i64 (((parseO (sa.take 60)).1.getD i zA).a), .int .i64 (((parseO (sa.take 60)).1.getD i zA).b), .int .i64 (((parseO (sa.take 60)).1.getD i zA).n), S (((parseO (sa.take 60)).1.getD i zA).s)]⟩), (13, .bool false), (19, .bool false)] ?_
                    refine chain_fin rfl ?_ (fun a w hk hh => ?_)
                    · exact ⟨ob_eq tabOK rfl (v_dt c14), ob_indexAddr tabOK (i * 5) rfl rfl rfl rfl (by omega) (by omega) (by show 0 + ((i : Int) : Int).toNat * 5 = i * 5; omega), ob_loadN tabOK 1 rfl rfl rfl rfl (acts_at (by omega)), ob_indexAddr tabOK (i * 5) rfl rfl rfl rfl (by omega) (by omega) (by show 0 + ((i : Int) : Int).toNat * 5 = i * 5; omega), ob_loadN tabOK 0 rfl rfl rfl rfl (acts_at (by omega)), ob_conv (ob_conv (ob_neS tabOK eqOK rfl rfl rfl rfl) (act_ne ((parseO (((sa.take 60) ++ [10]) ++ (sb.take 60))).1.getD i zA) ((parseO (sa.take 60)).1.getD i zA))) (v_not (v_dt c21)), ob_eq tabOK rfl (v_df c22), trivial⟩
                    refine hK24 a w ?_; try clear hK24 K24
                    refine code_cond hk rfl (fun h => by cases h) (fun _ => ?_)
                    refine wp_skip ?_
                    refine blk_nm ?_
                    refine hK22 a w ?_; try clear hK22 K22
                    refine reg_q tabOK hk hh [(0, .int .i64 ((i : Int) + 1))] [5, 6, 7, 8, 9, 10, 11, 74, 75] rfl ?_ (fun a hk => ?_)
                    · exact ⟨ob_eq tabOK rfl (eq_i64 (by omega)), trivial⟩
                    replace hh := own_again hcap16 (hh.at_ 1 rfl)
                    replace hh := own_again hcap19 (hh.at_ 1 rfl)
                    replace hh := hh.picks [0, 1, 1, 1, 0, 0] rfl
                    refine then_nm ?_
                    exact ⟨_, _, _, ⟨i + 1, rfl, rfl, (by omega), rfl⟩, (by simp only [id]; omega), hk.keep [5, 6, 7, 8, 9, 10, 11, 74, 75] rfl, hh⟩
                · exact absurd (by rw [hp1]; exact app_left (by omega)) c21
              · have hx := own_ne (hh.at_ 4 rfl) (by omega)
                clear hh; obtain ⟨b23, cap24, sp25, hu, hcap24, hH⟩ := hx; subst hu; have hh := hH; clear hH
                by_cases c26 : (i : Int) ≥ ((parseO (sa.take 60)).1.length : Int)
                · have hx := own_ne (hh.at_ 3 rfl) (by omega)
                  clear hh; obtain ⟨b27, cap28, sp29, hu, hcap28, hH⟩ := hx; subst hu; have hh := hH; clear hH
                  refine reg_d tabOK (by kernel_rfl) hk hh [] [5, 6, 7, 8, 9, 10, 11, 74, 75, 112] rfl 0 [(2, .int .i64 ((parseO (sa.take 60)).1.length : Int)), (3, .bool false), (18, .int .i64 ((parseO (sa.take 60)).1.length : Int)), (19, .bool true), (23, .pointer (some ⟨b23, i * 5, none⟩)), (24, .agg ⟨[.int .i64 (((parseO (((sa.take 60) ++ [10]) ++ (sb.take 60))).1.getD i zA).k), .int .i64 (((parseO (((sa.take 60) ++ [10]) ++ (sb.take 60))).1.getD i zA).a), .int .i64 (((parseO (((sa.take 60) ++ [10]) ++ (sb.take 60))).1.getD i zA).b), .int .i64 (((parseO (((sa.take 60) ++ [10]) ++ (sb.take 60))).1.getD i zA).n), S (((parseO (((sa.take 60) ++ [10]) ++ (sb.take 60))).1.getD i zA).s)]⟩), (28, .int .i64 ((parseO (sa.take 60)).1.length : Int)), (29, .int .i64 ((i : Int) - ((parseO (sa.take 60)).1.length : Int))), (30, .pointer (some ⟨b27, ((i : Int) - ((parseO (sa.take 60)).1.length : Int)).toNat * 5, none⟩)), (31, .agg ⟨[.int .i64 (((parseO (sb.take 60)).1.getD ((i : Int) - ((parseO (sa.take 60)).1.length : Int)).toNat zA).k), .int .i64 (((parseO (sb.take 60)).1.getD ((i : Int) - ((parseO (sa.take 60)).1.length : Int)).toNat zA).a), .int .i64 (((parseO (sb.take 60)).1.getD ((i : Int) - ((parseO (sa.take 60)).1.length : Int)).toNat zA).b), .int .i64 (((parseO (sb.take 60)).1.getD ((i : Int) - ((parseO (sa.take 60)).1.length : Int)).toNat zA).n), S (((parseO (sb.take 60)).1.getD ((i : Int) - ((parseO (sa.take 60)).1.length : Int)).toNat zA).s)]⟩), (32, .bool (!(decide (((parseO (((sa.take 60) ++ [10]) ++ (sb.take 60))).1.getD i zA) = ((parseO (sb.take 60)).1.getD ((i : Int) - ((parseO (sa.take 60)).1.length : Int)).toNat zA)))))] ?_
                  refine chain_fin rfl ?_ (fun a w hk hh => ?_)
                  · exact ⟨ob_lenOwn tabOK 2 rfl rfl rfl, ob_eq tabOK rfl (v_df c14), ob_lenOwn tabOK 2 rfl rfl rfl, ob_eq tabOK rfl (v_dt c26), ob_indexAddr tabOK (i * 5) rfl rfl rfl rfl (by omega) (by omega) (by show 0 + ((i : Int) : Int).toNat * 5 = i * 5; omega), ob_loadN tabOK 1 rfl rfl rfl rfl (acts_at (by omega)), ob_lenOwn tabOK 2 rfl rfl rfl, ob_eq tabOK rfl (eq_i64 (by omega)), ob_indexAddr tabOK (((i : Int) - ((parseO (sa.take 60)).1.length : Int)).toNat * 5) rfl rfl rfl rfl (by omega) (by omega) (by show 0 + ((i : Int) - ((parseO (sa.take 60)).1.length : Int) : Int).toNat * 5 = ((i : Int) - ((parseO (sa.take 60)).1.length : Int)).toNat * 5; omega), ob_loadN tabOK 0 rfl rfl rfl rfl (acts_at (by omega)), ob_conv (ob_neS tabOK eqOK rfl rfl rfl rfl) (act_ne ((parseO (((sa.take 60) ++ [10]) ++ (sb.take 60))).1.getD i zA) ((parseO (sb.take 60)).1.getD ((i : Int) - ((parseO (sa.take 60)).1.length : Int)).toNat zA)), trivial⟩
                  refine hK24 a w ?_; try clear hK24 K24
                  refine code_cond hk rfl (fun c30 => ?_) (fun c30 => ?_)
                  · replace c30 : ¬ (((parseO (((sa.take 60) ++ [10]) ++ (sb.take 60))).1.getD i zA) = ((parseO (sb.take 60)).1.getD ((i : Int) - ((parseO (sa.take 60)).1.length : Int)).toNat zA)) := (of_decide_eq_false (c_it c30))
                    exact absurd (by rw [hp1]; exact app_right (by omega) (by omega)) c30
                  · replace c30 : ((parseO (((sa.take 60) ++ [10]) ++ (sb.take 60))).1.getD i zA) = ((parseO (sb.take 60)).1.getD ((i : Int) - ((parseO (sa.take 60)).1.length : Int)).toNat zA) := (of_decide_eq_true (c_if c30))
                    refine wp_skip ?_
                    refine blk_nm ?_
                    refine hK22 a w ?_; try clear hK22 K22
                    refine reg_q tabOK hk hh [(0, .int .i64 ((i : Int) + 1))] [5, 6, 7, 8, 9, 10, 11, 74, 75] rfl ?_ (fun a hk => ?_)
                    · exact ⟨ob_eq tabOK rfl (eq_i64 (by omega)), trivial⟩
                    replace hh := own_again hcap24 (hh.at_ 1 rfl)
                    replace hh := own_again hcap28 (hh.at_ 1 rfl)
                    replace hh := hh.picks [2, 2, 0, 1, 0, 0] rfl
                    refine then_nm ?_
                    exact ⟨_, _, _, ⟨i + 1, rfl, rfl, (by omega), rfl⟩, (by simp only [id]; omega), hk.keep [5, 6, 7, 8, 9, 10, 11, 74, 75] rfl, hh⟩
                · exfalso; omega
            · replace c13 : ¬ ((i : Int) < ((parseO (((sa.take 60) ++ [10]) ++ (sb.take 60))).1.length : Int)) := (of_decide_eq_false c13)
              refine wp_exit ?_
              refine then_exit ?_
              refine then_exit ?_
              refine blk_out ?_
              refine hK18 a w ?_; try clear hK18 K18
              refine wp_seq_k fun K25 hK25 => ?_
              refine wp_seq_k fun K26 hK26 => ?_
              refine reg_q tabOK hk hh [(1, .int .i64 ((parseO (((sa.take 60) ++ [10]) ++ (sb.take 60))).2.length : Int))] [6, 8, 10, 11, 115, 116] rfl ?_ (fun a hk => ?_)
              · exact ⟨ob_lenOwn tabOK 5 rfl rfl rfl, trivial⟩
              refine hK26 a w ?_; try clear hK26 K26
              refine wp_block ?_
              replace hh := (hh.at_ 0 rfl).drop
              replace hh := (hh.at_ 1 rfl).drop
              replace hh := (hh.at_ 2 rfl).drop
              replace hk := hk.keep [6, 8, 10, 11, 115, 116] rfl
              refine code_loop (α := Nat) (fun (m : Nat) (E : Env) (L : List Assn) => ∃ (i : Nat), E = [(6, u4), (8, u6), (10, u8), (11, .int .i64 (n : Int)), (115, .int .i64 ((parseO (((sa.take 60) ++ [10]) ++ (sb.take 60))).2.length : Int)), (116, .int .i64 (i : Int))] ∧ L = [Own 3 1 u4 ((parseO (sa.take 60)).2.length) (intC (parseO (sa.take 60)).2), Own 3 1 u6 ((parseO (sb.take 60)).2.length) (intC (parseO (sb.take 60)).2), Own 3 1 u8 ((parseO (((sa.take 60) ++ [10]) ++ (sb.take 60))).2.length) (intC (parseO (((sa.take 60) ++ [10]) ++ (sb.take 60))).2)] ++ R ∧ (i ≤ (parseO ((sa.take 60) ++ [10] ++ (sb.take 60))).2.length) ∧ m = (parseO ((sa.take 60) ++ [10] ++ (sb.take 60))).2.length - i) id _ hk hh ⟨0, rfl, rfl, (by omega), rfl⟩ ?_
              clear hk hh
              rintro _ _ _ a w ⟨i, rfl, hL, hi, rfl⟩ hk hh; rw [hL] at hh; clear hL
              refine wp_seq_k fun K27 hK27 => ?_
              refine reg_q tabOK hk hh [] [6, 8, 10, 11, 115, 116, 117] rfl trivial (fun a hk => ?_)
              refine hK27 a w ?_; try clear hK27 K27
              refine wp_seq_k fun K28 hK28 => ?_
              refine code_cond hk rfl (fun c31 => ?_) (fun c31 => ?_)
              · replace c31 : (i : Int) < ((parseO (((sa.take 60) ++ [10]) ++ (sb.take 60))).2.length : Int) := (of_decide_eq_true c31)
                refine wp_skip ?_
                refine hK28 a w ?_; try clear hK28 K28
                refine wp_seq_k fun K29 hK29 => ?_
                refine wp_block ?_
                refine wp_seq_k fun K30 hK30 => ?_
                refine reg_q tabOK hk hh [] [6, 8, 10, 11, 14, 115, 116] rfl trivial (fun a hk => ?_)
                refine hK30 a w ?_; try clear hK30 K30
                refine wp_seq_k fun K31 hK31 => ?_
                by_cases c32 : (i : Int) < ((parseO (sa.take 60)).2.length : Int)
                · have hx := own_ne (hh.at_ 2 rfl) (by omega)
                  clear hh; obtain ⟨b33, cap34, sp35, hu, hcap34, hH⟩ := hx; subst hu; have hh := hH; clear hH
                  have hx := own_ne (hh.at_ 1 rfl) (by omega)
                  clear hh; obtain ⟨b36, cap37, sp38, hu, hcap37, hH⟩ := hx; subst hu; have hh := hH; clear hH
                  by_cases c39 : (parseO (((sa.take 60) ++ [10]) ++ (sb.take 60))).2.getD i 0 = (parseO (sa.take 60)).2.getD i 0
                  · by_cases c40 : (i : Int) ≥ ((parseO (sa.take 60)).2.length : Int)
                    · exfalso; omega
                    · refine reg_d tabOK (by kernel_rfl) hk hh [] [6, 8, 10, 11, 115, 116, 155] rfl 0 [(3, .bool true), (7, .pointer (some ⟨b33, i, none⟩)), (8, .int .i64 ((parseO (((sa.take 60) ++ [10]) ++ (sb.take 60))).2.getD i 0)), (11, .pointer (some ⟨b36, i, none⟩)), (12, .int .i64 ((parseO (sa.take 60)).2.getD i 0)), (13, .bool false), (19, .bool false)] ?_
                      refine chain_fin rfl ?_ (fun a w hk hh => ?_)
                      · exact ⟨ob_eq tabOK rfl (v_dt c32), ob_indexAddr tabOK (i) rfl rfl rfl rfl (by omega) (by omega) (by show 0 + ((i : Int) : Int).toNat * 1 = i; omega), ob_load tabOK 1 rfl rfl rfl rfl (ints_at (by omega)), ob_indexAddr tabOK (i) rfl rfl rfl rfl (by omega) (by omega) (by show 0 + ((i : Int) : Int).toNat * 1 = i; omega), ob_load tabOK 0 rfl rfl rfl rfl (ints_at (by omega)), ob_eq tabOK rfl (v_nf c39), ob_eq tabOK rfl (v_df c40), trivial⟩
                      refine hK31 a w ?_; try clear hK31 K31
                      refine code_cond hk rfl (fun h => by cases h) (fun _ => ?_)
                      refine wp_skip ?_
                      refine blk_nm ?_
                      refine hK29 a w ?_; try clear hK29 K29
                      refine reg_q tabOK hk hh [(0, .int .i64 ((i : Int) + 1))] [6, 8, 10, 11, 115, 116] rfl ?_ (fun a hk => ?_)
                      · exact ⟨ob_eq tabOK rfl (eq_i64 (by omega)), trivial⟩
                      replace hh := own_again hcap34 (hh.at_ 1 rfl)
                      replace hh := own_again hcap37 (hh.at_ 1 rfl)
                      replace hh := hh.picks [0, 1, 0] rfl
                      refine then_nm ?_
                      exact ⟨_, _, _, ⟨i + 1, rfl, rfl, (by omega), rfl⟩, (by simp only [id]; omega), hk.keep [6, 8, 10, 11, 115, 116] rfl, hh⟩
                  · exact absurd (by rw [hp2]; exact app_left (by omega)) c39
                · have hx := own_ne (hh.at_ 2 rfl) (by omega)
                  clear hh; obtain ⟨b41, cap42, sp43, hu, hcap42, hH⟩ := hx; subst hu; have hh := hH; clear hH
                  by_cases c44 : (i : Int) ≥ ((parseO (sa.take 60)).2.length : Int)
                  · have hx := own_ne (hh.at_ 2 rfl) (by omega)
                    clear hh; obtain ⟨b45, cap46, sp47, hu, hcap46, hH⟩ := hx; subst hu; have hh := hH; clear hH
                    have hr2 := getD_range hq1.2.2 ((i : Int) - ((parseO (sa.take 60)).2.length : Int)).toNat
                    refine reg_d tabOK (by kernel_rfl) hk hh [] [6, 8, 10, 11, 115, 116, 155] rfl 0 [(2, .int .i64 ((parseO (sa.take 60)).2.length : Int)), (3, .bool false), (18, .int .i64 ((parseO (sa.take 60)).2.length : Int)), (19, .bool true), (23, .pointer (some ⟨b41, i, none⟩)), (24, .int .i64 ((parseO (((sa.take 60) ++ [10]) ++ (sb.take 60))).2.getD i 0)), (28, .int .i64 ((parseO (sa.take 60)).2.length : Int)), (29, .int .i64 ((i : Int) - ((parseO (sa.take 60)).2.length : Int))), (30, .pointer (some ⟨b45, ((i : Int) - ((parseO (sa.take 60)).2.length : Int)).toNat, none⟩)), (31, .int .i64 ((parseO (sb.take 60)).2.getD (((i : Int) - ((parseO (sa.take 60)).2.length : Int)).toNat) 0)), (33, .int .i64 ((parseO (sb.take 60)).2.getD (((i : Int) - ((parseO (sa.take 60)).2.length : Int)).toNat) 0 + (n : Int)))] ?_
                    refine chain_fin rfl ?_ (fun a w hk hh => ?_)
                    · exact ⟨ob_lenOwn tabOK 2 rfl rfl rfl, ob_eq tabOK rfl (v_df c32), ob_lenOwn tabOK 2 rfl rfl rfl, ob_eq tabOK rfl (v_dt c44), ob_indexAddr tabOK (i) rfl rfl rfl rfl (by omega) (by omega) (by show 0 + ((i : Int) : Int).toNat * 1 = i; omega), ob_load tabOK 1 rfl rfl rfl rfl (ints_at (by omega)), ob_lenOwn tabOK 2 rfl rfl rfl, ob_eq tabOK rfl (eq_i64 (by omega)), ob_indexAddr tabOK (((i : Int) - ((parseO (sa.take 60)).2.length : Int)).toNat) rfl rfl rfl rfl (by omega) (by omega) (by show 0 + ((i : Int) - ((parseO (sa.take 60)).2.length : Int) : Int).toNat * 1 = ((i : Int) - ((parseO (sa.take 60)).2.length : Int)).toNat; omega), ob_load tabOK 0 rfl rfl rfl rfl (ints_at (by omega)), ob_eq tabOK rfl (eq_i64 (by omega)), trivial⟩
                    refine hK31 a w ?_; try clear hK31 K31
                    refine code_cond hk rfl (fun c48 => ?_) (fun c48 => ?_)
                    · replace c48 : ¬ ((parseO (((sa.take 60) ++ [10]) ++ (sb.take 60))).2.getD i 0 = (parseO (sb.take 60)).2.getD (((i : Int) - ((parseO (sa.take 60)).2.length : Int)).toNat) 0 + (n : Int)) := (c_nt c48)
                      exact absurd (by rw [hp2, app_right (j := ((i : Int) - ((parseO (sa.take 60)).2.length : Int)).toNat) (by omega) (by omega), map_add (by omega), hns]) c48
                    · replace c48 : (parseO (((sa.take 60) ++ [10]) ++ (sb.take 60))).2.getD i 0 = (parseO (sb.take 60)).2.getD (((i : Int) - ((parseO (sa.take 60)).2.length : Int)).toNat) 0 + (n : Int) := (c_nf c48)
                      refine wp_skip ?_
                      refine blk_nm ?_
                      refine hK29 a w ?_; try clear hK29 K29
                      refine reg_q tabOK hk hh [(0, .int .i64 ((i : Int) + 1))] [6, 8, 10, 11, 115, 116] rfl ?_ (fun a hk => ?_)
                      · exact ⟨ob_eq tabOK rfl (eq_i64 (by omega)), trivial⟩
                      replace hh := own_again hcap42 (hh.at_ 1 rfl)
                      replace hh := own_again hcap46 (hh.at_ 1 rfl)
                      replace hh := hh.picks [2, 0, 0] rfl
                      refine then_nm ?_
                      exact ⟨_, _, _, ⟨i + 1, rfl, rfl, (by omega), rfl⟩, (by simp only [id]; omega), hk.keep [6, 8, 10, 11, 115, 116] rfl, hh⟩
                  · exfalso; omega
              · replace c31 : ¬ ((i : Int) < ((parseO (((sa.take 60) ++ [10]) ++ (sb.take 60))).2.length : Int)) := (of_decide_eq_false c31)
                refine wp_exit ?_
                refine then_exit ?_
                refine then_exit ?_
                refine blk_out ?_
                refine hK25 a w ?_; try clear hK25 K25
                refine wp_seq_k fun K32 hK32 => ?_
                refine wp_region_lit ?_
                refine seq_eff hk hh rfl rfl (eff_call Tryz.func11 rfl rfl rfl rfl (fun w hh => known_spec (by exact (((hR.cons _).cons _).cons _)) hh)) (fun v L a w hp hk hh => ?_)
                obtain ⟨rfl, hL⟩ := hp; rw [hL] at hh; clear hL
                refine rest_q tabOK (i := 1) hk hh [] [4] rfl trivial (fun a hk => ?_)
                refine hK32 a w ?_; try clear hK32 K32
                refine wp_ret ?_
                refine fin_ret hk (show Tryz.f5.results = ⟨[.tmp 4]⟩ from rfl) (by exact (res_tmp hk rfl .nil)) ?_
                replace hh := (hh.at_ 0 rfl).drop
                replace hh := (hh.at_ 0 rfl).drop
                replace hh := (hh.at_ 0 rfl).drop
                exact ⟨_, _, rfl, ⟨rfl, rfl⟩, hh⟩
        · exfalso; omega
    · replace c2 : ¬ ((sb.length : Int) > 60) := (of_decide_eq_false c2)
      refine wp_skip ?_
      refine hK4 a w ?_; try clear hK4 K4
      refine wp_seq_k fun K33 hK33 => ?_
      have hX : ((sa.take 60)).length ≤ 60 := by first | omega | (rw [List.length_take]; omega)
      have hY : (sb).length ≤ 60 := by first | omega | (rw [List.length_take]; omega)
      have hp1 : (parseO ((sa.take 60) ++ [10] ++ sb)).1 = (parseO (sa.take 60)).1 ++ (parseO sb).1 := by rw [parse_both hX hY]
      have hp2 : (parseO ((sa.take 60) ++ [10] ++ sb)).2 = (parseO (sa.take 60)).2 ++ (parseO sb).2.map (· + ((spl 10 (sa.take 60)).length : Int)) := by rw [parse_both hX hY]
      have hn1 : (parseO ((sa.take 60) ++ [10] ++ sb)).1.length = (parseO (sa.take 60)).1.length + (parseO sb).1.length := by rw [hp1, List.length_append]
      have hn2 : (parseO ((sa.take 60) ++ [10] ++ sb)).2.length = (parseO (sa.take 60)).2.length + (parseO sb).2.length := by rw [hp2, List.length_append, List.length_map]
      have hq0 := parse_len (l := (sa.take 60))
      have hq1 := parse_len (l := sb)
      have hsx := spl_len (c := 10) (l := (sa.take 60))
      refine wp_region_lit ?_
      refine seq_q tabOK (i := 0) (stop := 1) hk hh [] rfl trivial (fun a hk => ?_)
      refine seq_eff hk hh rfl rfl (eff_call Tryz.func14 rfl rfl rfl rfl (fun w hh => parse_text (sa.take 60) (by omega) (by exact hR) hh)) (fun v L a w hp hk hh => ?_)
      obtain ⟨u49, u50, rfl, hL⟩ := hp; rw [hL] at hh; clear hL
      refine rest_q tabOK (i := 2) hk hh [] [0, 1, 5, 6] rfl trivial (fun a hk => ?_)
      refine hK33 a w ?_; try clear hK33 K33
      refine wp_seq_k fun K34 hK34 => ?_
      refine wp_region_lit ?_
      refine seq_q tabOK (i := 0) (stop := 1) hk hh [] rfl trivial (fun a hk => ?_)
      refine seq_eff hk hh rfl rfl (eff_call Tryz.func14 rfl rfl rfl rfl (fun w hh => parse_text sb (by omega) (by exact ((hR.cons _).cons _)) hh)) (fun v L a w hp hk hh => ?_)
      obtain ⟨u51, u52, rfl, hL⟩ := hp; rw [hL] at hh; clear hL
      refine rest_q tabOK (i := 2) hk hh [] [0, 1, 5, 6, 7, 8] rfl trivial (fun a hk => ?_)
      refine hK34 a w ?_; try clear hK34 K34
      refine wp_seq_k fun K35 hK35 => ?_
      refine wp_region_lit ?_
      refine seq_q tabOK (i := 0) (stop := 4) hk hh [(1, S ((sa.take 60) ++ [10])), (3, S (((sa.take 60) ++ [10]) ++ sb))] rfl ?_ (fun a hk => ?_)
      · exact ⟨ob_concat rfl rfl (by simp only [List.length_append, List.length_cons, List.length_nil]; omega), ob_concat rfl rfl (by simp only [List.length_append, List.length_cons, List.length_nil]; omega), trivial⟩
      refine seq_eff hk hh rfl rfl (eff_call Tryz.func14 rfl rfl rfl rfl (fun w hh => parse_text (((sa.take 60) ++ [10]) ++ sb) (by simp only [List.length_append, List.length_cons, List.length_nil]; omega) (by exact ((((hR.cons _).cons _).cons _).cons _)) hh)) (fun v L a w hp hk hh => ?_)
      obtain ⟨u53, u54, rfl, hL⟩ := hp; rw [hL] at hh; clear hL
      refine rest_q tabOK (i := 5) hk hh [] [0, 5, 6, 7, 8, 9, 10] rfl trivial (fun a hk => ?_)
      refine hK35 a w ?_; try clear hK35 K35
      refine wp_seq_k fun K36 hK36 => ?_
      refine reg_q tabOK hk hh [] [0, 5, 6, 7, 8, 9, 10, 11] rfl trivial (fun a hk => ?_)
      refine hK36 a w ?_; try clear hK36 K36
      refine wp_seq_k fun K37 hK37 => ?_
      refine wp_seq_k fun K38 hK38 => ?_
      refine reg_q tabOK hk hh [] [0, 5, 6, 7, 8, 9, 10, 11, 12] rfl trivial (fun a hk => ?_)
      refine hK38 a w ?_; try clear hK38 K38
      refine wp_block ?_
      replace hh := hh.picks [4, 4, 2, 2, 0, 0] rfl
      replace hk := hk.keep [0, 5, 6, 7, 8, 9, 10, 11, 12] rfl
      refine code_loop (α := Nat) (fun (m : Nat) (E : Env) (L : List Assn) => ∃ (i : Nat) (n : Nat), E = [(0, S (sa.take 60)), (5, u49), (6, u50), (7, u51), (8, u52), (9, u53), (10, u54), (11, .int .i64 (n : Int)), (12, .int .i64 (i : Int))] ∧ L = [Own 26 5 u49 ((parseO (sa.take 60)).1.length) (actC (parseO (sa.take 60)).1), Own 3 1 u50 ((parseO (sa.take 60)).2.length) (intC (parseO (sa.take 60)).2), Own 26 5 u51 ((parseO sb).1.length) (actC (parseO sb).1), Own 3 1 u52 ((parseO sb).2.length) (intC (parseO sb).2), Own 26 5 u53 ((parseO (((sa.take 60) ++ [10]) ++ sb)).1.length) (actC (parseO (((sa.take 60) ++ [10]) ++ sb)).1), Own 3 1 u54 ((parseO (((sa.take 60) ++ [10]) ++ sb)).2.length) (intC (parseO (((sa.take 60) ++ [10]) ++ sb)).2)] ++ R ∧ (i ≤ (sa.take 60).length) ∧ (n ≤ 1 + i) ∧ (n = 1 + ((sa.take 60).take i).count 10) ∧ m = (sa.take 60).length - i) id _ hk hh ⟨0, 1, rfl, rfl, (by omega), (by omega), (by simp), rfl⟩ ?_
      clear hk hh
      rintro _ _ _ a w ⟨i, n, rfl, hL, hi, hni, hcn, rfl⟩ hk hh; rw [hL] at hh; clear hL
      refine wp_seq_k fun K39 hK39 => ?_
      refine wp_seq_k fun K40 hK40 => ?_
      refine reg_q tabOK hk hh [] [0, 5, 6, 7, 8, 9, 10, 11, 12, 46] rfl trivial (fun a hk => ?_)
      refine hK40 a w ?_; try clear hK40 K40
      refine code_cond hk rfl (fun c55 => ?_) (fun c55 => ?_)
      · replace c55 : (i : Int) < ((sa.take 60).length : Int) := (of_decide_eq_true c55)
        refine wp_skip ?_
        refine hK39 a w ?_; try clear hK39 K39
        refine wp_seq_k fun K41 hK41 => ?_
        refine wp_block ?_
        refine wp_seq_k fun K42 hK42 => ?_
        refine reg_q tabOK hk hh [(2, .int .u8 (((sa.take 60).getD i 0).toNat : Int))] [0, 5, 6, 7, 8, 9, 10, 11, 12, 52] rfl ?_ (fun a hk => ?_)
        · exact ⟨ob_index tabOK rfl rfl rfl (by omega) (getD_at (by omega)), trivial⟩
        refine hK42 a w ?_; try clear hK42 K42
        refine code_cond hk rfl (fun c56 => ?_) (fun c56 => ?_)
        · replace c56 : (((sa.take 60).getD i 0).toNat : Int) = 10 := (c_et c56)
          refine reg_q tabOK hk hh [(1, .int .i64 ((n : Int) + 1))] [0, 5, 6, 7, 8, 9, 10, 11, 12] rfl ?_ (fun a hk => ?_)
          · exact ⟨ob_eq tabOK rfl (eq_i64 (by omega)), trivial⟩
          refine blk_nm ?_
          refine hK41 a w ?_; try clear hK41 K41
          refine reg_q tabOK hk hh [(1, .int .i64 ((i : Int) + 1))] [0, 5, 6, 7, 8, 9, 10, 11, 12] rfl ?_ (fun a hk => ?_)
          · exact ⟨ob_eq tabOK rfl (eq_i64 (by omega)), trivial⟩
          refine then_nm ?_
          exact ⟨_, _, _, ⟨i + 1, n + 1, rfl, rfl, (by omega), (by omega), (by have := count_hit (i := i) (by omega) c56; omega), rfl⟩, (by simp only [id]; omega), hk.keep [0, 5, 6, 7, 8, 9, 10, 11, 12] rfl, hh⟩
        · replace c56 : ¬ ((((sa.take 60).getD i 0).toNat : Int) = 10) := (c_ef c56)
          refine wp_skip ?_
          refine blk_nm ?_
          refine hK41 a w ?_; try clear hK41 K41
          refine reg_q tabOK hk hh [(1, .int .i64 ((i : Int) + 1))] [0, 5, 6, 7, 8, 9, 10, 11, 12] rfl ?_ (fun a hk => ?_)
          · exact ⟨ob_eq tabOK rfl (eq_i64 (by omega)), trivial⟩
          refine then_nm ?_
          exact ⟨_, _, _, ⟨i + 1, n, rfl, rfl, (by omega), (by omega), (by have := count_miss (i := i) (by omega) c56; omega), rfl⟩, (by simp only [id]; omega), hk.keep [0, 5, 6, 7, 8, 9, 10, 11, 12] rfl, hh⟩
      · replace c55 : ¬ ((i : Int) < ((sa.take 60).length : Int)) := (of_decide_eq_false c55)
        refine wp_exit ?_
        refine then_exit ?_
        refine then_exit ?_
        refine blk_out ?_
        refine hK37 a w ?_; try clear hK37 K37
        refine wp_seq_k fun K43 hK43 => ?_
        refine wp_seq_k fun K44 hK44 => ?_
        have hns : n = (spl 10 (sa.take 60)).length := by rw [hcn]; exact count_end (by omega)
        by_cases c57 : ((parseO (((sa.take 60) ++ [10]) ++ sb)).1.length : Int) = ((parseO (sa.take 60)).1.length : Int) + ((parseO sb).1.length : Int)
        · refine reg_q tabOK hk hh [(1, .int .i64 ((parseO (((sa.take 60) ++ [10]) ++ sb)).1.length : Int)), (3, .int .i64 ((parseO (sa.take 60)).1.length : Int)), (5, .int .i64 ((parseO sb).1.length : Int)), (6, .int .i64 (((parseO (sa.take 60)).1.length : Int) + ((parseO sb).1.length : Int))), (7, .bool false), (10, .int .i64 ((parseO (((sa.take 60) ++ [10]) ++ sb)).2.length : Int)), (12, .int .i64 ((parseO (sa.take 60)).2.length : Int)), (14, .int .i64 ((parseO sb).2.length : Int)), (15, .int .i64 (((parseO (sa.take 60)).2.length : Int) + ((parseO sb).2.length : Int)))] [5, 6, 7, 8, 9, 10, 11, 72] rfl ?_ (fun a hk => ?_)
          · exact ⟨ob_lenOwn tabOK 4 rfl rfl rfl, ob_lenOwn tabOK 0 rfl rfl rfl, ob_lenOwn tabOK 2 rfl rfl rfl, ob_eq tabOK rfl (eq_i64 (by omega)), ob_eq tabOK rfl (v_nf c57), ob_lenOwn tabOK 5 rfl rfl rfl, ob_lenOwn tabOK 1 rfl rfl rfl, ob_lenOwn tabOK 3 rfl rfl rfl, ob_eq tabOK rfl (eq_i64 (by omega)), trivial⟩
          refine hK44 a w ?_; try clear hK44 K44
          refine code_cond hk rfl (fun c58 => ?_) (fun c58 => ?_)
          · replace c58 : ¬ (((parseO (((sa.take 60) ++ [10]) ++ sb)).2.length : Int) = ((parseO (sa.take 60)).2.length : Int) + ((parseO sb).2.length : Int)) := (c_nt c58)
            exfalso; omega
          · replace c58 : ((parseO (((sa.take 60) ++ [10]) ++ sb)).2.length : Int) = ((parseO (sa.take 60)).2.length : Int) + ((parseO sb).2.length : Int) := (c_nf c58)
            refine wp_skip ?_
            refine hK43 a w ?_; try clear hK43 K43
            refine wp_seq_k fun K45 hK45 => ?_
            refine wp_seq_k fun K46 hK46 => ?_
            refine reg_q tabOK hk hh [(1, .int .i64 ((parseO (((sa.take 60) ++ [10]) ++ sb)).1.length : Int))] [5, 6, 7, 8, 9, 10, 11, 74, 75] rfl ?_ (fun a hk => ?_)
            · exact ⟨ob_lenOwn tabOK 4 rfl rfl rfl, trivial⟩
            refine hK46 a w ?_; try clear hK46 K46
            refine wp_block ?_
            replace hk := hk.keep [5, 6, 7, 8, 9, 10, 11, 74, 75] rfl
            refine code_loop (α := Nat) (fun (m : Nat) (E : Env) (L : List Assn) => ∃ (i : Nat), E = [(5, u49), (6, u50), (7, u51), (8, u52), (9, u53), (10, u54), (11, .int .i64 (n : Int)), (74, .int .i64 ((parseO (((sa.take 60) ++ [10]) ++ sb)).1.length : Int)), (75, .int .i64 (i : Int))] ∧ L = [Own 26 5 u49 ((parseO (sa.take 60)).1.length) (actC (parseO (sa.take 60)).1), Own 3 1 u50 ((parseO (sa.take 60)).2.length) (intC (parseO (sa.take 60)).2), Own 26 5 u51 ((parseO sb).1.length) (actC (parseO sb).1), Own 3 1 u52 ((parseO sb).2.length) (intC (parseO sb).2), Own 26 5 u53 ((parseO (((sa.take 60) ++ [10]) ++ sb)).1.length) (actC (parseO (((sa.take 60) ++ [10]) ++ sb)).1), Own 3 1 u54 ((parseO (((sa.take 60) ++ [10]) ++ sb)).2.length) (intC (parseO (((sa.take 60) ++ [10]) ++ sb)).2)] ++ R ∧ (i ≤ (parseO ((sa.take 60) ++ [10] ++ sb)).1.length) ∧ m = (parseO ((sa.take 60) ++ [10] ++ sb)).1.length - i) id _ hk hh ⟨0, rfl, rfl, (by omega), rfl⟩ ?_
            clear hk hh
            rintro _ _ _ a w ⟨i, rfl, hL, hi, rfl⟩ hk hh; rw [hL] at hh; clear hL
            refine wp_seq_k fun K47 hK47 => ?_
            refine reg_q tabOK hk hh [] [5, 6, 7, 8, 9, 10, 11, 74, 75, 76] rfl trivial (fun a hk => ?_)
            refine hK47 a w ?_; try clear hK47 K47
            refine wp_seq_k fun K48 hK48 => ?_
            refine code_cond hk rfl (fun c59 => ?_) (fun c59 => ?_)
            · replace c59 : (i : Int) < ((parseO (((sa.take 60) ++ [10]) ++ sb)).1.length : Int) := (of_decide_eq_true c59)
              refine wp_skip ?_
              refine hK48 a w ?_; try clear hK48 K48
              refine wp_seq_k fun K49 hK49 => ?_
              refine wp_block ?_
              refine wp_seq_k fun K50 hK50 => ?_
              refine reg_q tabOK hk hh [] [5, 6, 7, 8, 9, 10, 11, 13, 74, 75] rfl trivial (fun a hk => ?_)
              refine hK50 a w ?_; try clear hK50 K50
              refine wp_seq_k fun K51 hK51 => ?_
              by_cases c60 : (i : Int) < ((parseO (sa.take 60)).1.length : Int)
              · have hx := own_ne (hh.at_ 4 rfl) (by omega)
                clear hh; obtain ⟨b61, cap62, sp63, hu, hcap62, hH⟩ := hx; subst hu; have hh := hH; clear hH
                have hx := own_ne (hh.at_ 1 rfl) (by omega)
                clear hh; obtain ⟨b64, cap65, sp66, hu, hcap65, hH⟩ := hx; subst hu; have hh := hH; clear hH
                by_cases c67 : ((parseO (((sa.take 60) ++ [10]) ++ sb)).1.getD i zA) = ((parseO (sa.take 60)).1.getD i zA)
                · by_cases c68 : (i : Int) ≥ ((parseO (sa.take 60)).1.length : Int)
                  · exfalso; omega
                  · refine reg_d tabOK (by kernel_rfl) hk hh [] [5, 6, 7, 8, 9, 10, 11, 74, 75, 112] rfl 0 [(3, .bool true), (7, .pointer (some ⟨b61, i * 5, none⟩)), (8, .agg ⟨[.int .i64 (((parseO (((sa.take 60) ++ [10]) ++ sb)).1.getD i zA).k), .int .i64 (((parseO (((sa.take 60) ++ [10]) ++ sb)).1.getD i zA).a), .int .i64 (((parseO (((sa.take 60) ++ [10]) ++ sb)).1.getD i zA).b), .int .i64 (((parseO (((sa.take 60) ++ [10]) ++ sb)).1.getD i zA).n), S (((parseO (((sa.take 60) ++ [10]) ++ sb)).1.getD i zA).s)]⟩), (11, .pointer (some ⟨b64, i * 5, none⟩)), (12, .agg ⟨[.int .i64 (((parseO (sa.take 60)).1.getD i zA).k), .int .i64 (((parseO (sa.take 60)).1.getD i zA).a), .int .i64 (((parseO (sa.take 60)).1.getD i zA).b), .int .i64 (((parseO (sa.take 60)).1.getD i zA).n), S (((parseO (sa.take 60)).1.getD i zA).s)]⟩), (13, .bool false), (19, .bool false)] ?_
                    refine chain_fin rfl ?_ (fun a w hk hh => ?_)
                    · exact ⟨ob_eq tabOK rfl (v_dt c60), ob_indexAddr tabOK (i * 5) rfl rfl rfl rfl (by omega) (by omega) (by show 0 + ((i : Int) : Int).toNat * 5 = i * 5; omega), ob_loadN tabOK 1 rfl rfl rfl rfl (acts_at (by omega)), ob_indexAddr tabOK (i * 5) rfl rfl rfl rfl (by omega) (by omega) (by show 0 + ((i : Int) : Int).toNat * 5 = i * 5; omega), ob_loadN tabOK 0 rfl rfl rfl rfl (acts_at (by omega)), ob_conv (ob_conv (ob_neS tabOK eqOK rfl rfl rfl rfl) (act_ne ((parseO (((sa.take 60) ++ [10]) ++ sb)).1.getD i zA) ((parseO (sa.take 60)).1.getD i zA))) (v_not (v_dt c67)), ob_eq tabOK rfl (v_df c68), trivial⟩
                    refine hK51 a w ?_; try clear hK51 K51
                    refine code_cond hk rfl (fun h => by cases h) (fun _ => ?_)
                    refine wp_skip ?_
                    refine blk_nm ?_
                    refine hK49 a w ?_; try clear hK49 K49
                    refine reg_q tabOK hk hh [(0, .int .i64 ((i : Int) + 1))] [5, 6, 7, 8, 9, 10, 11, 74, 75] rfl ?_ (fun a hk => ?_)
                    · exact ⟨ob_eq tabOK rfl (eq_i64 (by omega)), trivial⟩
                    replace hh := own_again hcap62 (hh.at_ 1 rfl)
                    replace hh := own_again hcap65 (hh.at_ 1 rfl)
                    replace hh := hh.picks [0, 1, 1, 1, 0, 0] rfl
                    refine then_nm ?_
                    exact ⟨_, _, _, ⟨i + 1, rfl, rfl, (by omega), rfl⟩, (by simp only [id]; omega), hk.keep [5, 6, 7, 8, 9, 10, 11, 74, 75] rfl, hh⟩
                · exact absurd (by rw [hp1]; exact app_left (by omega)) c67
              · have hx := own_ne (hh.at_ 4 rfl) (by omega)
                clear hh; obtain ⟨b69, cap70, sp71, hu, hcap70, hH⟩ := hx; subst hu; have hh := hH; clear hH
                by_cases c72 : (i : Int) ≥ ((parseO (sa.take 60)).1.length : Int)
                · have hx := own_ne (hh.at_ 3 rfl) (by omega)
                  clear hh; obtain ⟨b73, cap74, sp75, hu, hcap74, hH⟩ := hx; subst hu; have hh := hH; clear hH
                  refine reg_d tabOK (by kernel_rfl) hk hh [] [5, 6, 7, 8, 9, 10, 11, 74, 75, 112] rfl 0 [(2, .int .i64 ((parseO (sa.take 60)).1.length : Int)), (3, .bool false), (18, .int .i64 ((parseO (sa.take 60)).1.length : Int)), (19, .bool true), (23, .pointer (some ⟨b69, i * 5, none⟩)), (24, .agg ⟨[.int .i64 (((parseO (((sa.take 60) ++ [10]) ++ sb)).1.getD i zA).k), .int .i64 (((parseO (((sa.take 60) ++ [10]) ++ sb)).1.getD i zA).a), .int .i64 (((parseO (((sa.take 60) ++ [10]) ++ sb)).1.getD i zA).b), .int .i64 (((parseO (((sa.take 60) ++ [10]) ++ sb)).1.getD i zA).n), S (((parseO (((sa.take 60) ++ [10]) ++ sb)).1.getD i zA).s)]⟩), (28, .int .i64 ((parseO (sa.take 60)).1.length : Int)), (29, .int .i64 ((i : Int) - ((parseO (sa.take 60)).1.length : Int))), (30, .pointer (some ⟨b73, ((i : Int) - ((parseO (sa.take 60)).1.length : Int)).toNat * 5, none⟩)), (31, .agg ⟨[.int .i64 (((parseO sb).1.getD ((i : Int) - ((parseO (sa.take 60)).1.length : Int)).toNat zA).k), .int .i64 (((parseO sb).1.getD ((i : Int) - ((parseO (sa.take 60)).1.length : Int)).toNat zA).a), .int .i64 (((parseO sb).1.getD ((i : Int) - ((parseO (sa.take 60)).1.length : Int)).toNat zA).b), .int .i64 (((parseO sb).1.getD ((i : Int) - ((parseO (sa.take 60)).1.length : Int)).toNat zA).n), S (((parseO sb).1.getD ((i : Int) - ((parseO (sa.take 60)).1.length : Int)).toNat zA).s)]⟩), (32, .bool (!(decide (((parseO (((sa.take 60) ++ [10]) ++ sb)).1.getD i zA) = ((parseO sb).1.getD ((i : Int) - ((parseO (sa.take 60)).1.length : Int)).toNat zA)))))] ?_
                  refine chain_fin rfl ?_ (fun a w hk hh => ?_)
                  · exact ⟨ob_lenOwn tabOK 2 rfl rfl rfl, ob_eq tabOK rfl (v_df c60), ob_lenOwn tabOK 2 rfl rfl rfl, ob_eq tabOK rfl (v_dt c72), ob_indexAddr tabOK (i * 5) rfl rfl rfl rfl (by omega) (by omega) (by show 0 + ((i : Int) : Int).toNat * 5 = i * 5; omega), ob_loadN tabOK 1 rfl rfl rfl rfl (acts_at (by omega)), ob_lenOwn tabOK 2 rfl rfl rfl, ob_eq tabOK rfl (eq_i64 (by omega)), ob_indexAddr tabOK (((i : Int) - ((parseO (sa.take 60)).1.length : Int)).toNat * 5) rfl rfl rfl rfl (by omega) (by omega) (by show 0 + ((i : Int) - ((parseO (sa.take 60)).1.length : Int) : Int).toNat * 5 = ((i : Int) - ((parseO (sa.take 60)).1.length : Int)).toNat * 5; omega), ob_loadN tabOK 0 rfl rfl rfl rfl (acts_at (by omega)), ob_conv (ob_neS tabOK eqOK rfl rfl rfl rfl) (act_ne ((parseO (((sa.take 60) ++ [10]) ++ sb)).1.getD i zA) ((parseO sb).1.getD ((i : Int) - ((parseO (sa.take 60)).1.length : Int)).toNat zA)), trivial⟩
                  refine hK51 a w ?_; try clear hK51 K51
                  refine code_cond hk rfl (fun c76 => ?_) (fun c76 => ?_)
                  · replace c76 : ¬ (((parseO (((sa.take 60) ++ [10]) ++ sb)).1.getD i zA) = ((parseO sb).1.getD ((i : Int) - ((parseO (sa.take 60)).1.length : Int)).toNat zA)) := (of_decide_eq_false (c_it c76))
                    exact absurd (by rw [hp1]; exact app_right (by omega) (by omega)) c76
                  · replace c76 : ((parseO (((sa.take 60) ++ [10]) ++ sb)).1.getD i zA) = ((parseO sb).1.getD ((i : Int) - ((parseO (sa.take 60)).1.length : Int)).toNat zA) := (of_decide_eq_true (c_if c76))
                    refine wp_skip ?_
                    refine blk_nm ?_
                    refine hK49 a w ?_; try clear hK49 K49
                    refine reg_q tabOK hk hh [(0, .int .i64 ((i : Int) + 1))] [5, 6, 7, 8, 9, 10, 11, 74, 75] rfl ?_ (fun a hk => ?_)
                    · exact ⟨ob_eq tabOK rfl (eq_i64 (by omega)), trivial⟩
                    replace hh := own_again hcap70 (hh.at_ 1 rfl)
                    replace hh := own_again hcap74 (hh.at_ 1 rfl)
                    replace hh := hh.picks [2, 2, 0, 1, 0, 0] rfl
                    refine then_nm ?_
                    exact ⟨_, _, _, ⟨i + 1, rfl, rfl, (by omega), rfl⟩, (by simp only [id]; omega), hk.keep [5, 6, 7, 8, 9, 10, 11, 74, 75] rfl, hh⟩
                · exfalso; omega
            · replace c59 : ¬ ((i : Int) < ((parseO (((sa.take 60) ++ [10]) ++ sb)).1.length : Int)) := (of_decide_eq_false c59)
              refine wp_exit ?_
              refine then_exit ?_
              refine then_exit ?_
              refine blk_out ?_
              refine hK45 a w ?_; try clear hK45 K45
              refine wp_seq_k fun K52 hK52 => ?_
              refine wp_seq_k fun K53 hK53 => ?_
              refine reg_q tabOK hk hh [(1, .int .i64 ((parseO (((sa.take 60) ++ [10]) ++ sb)).2.length : Int))] [6, 8, 10, 11, 115, 116] rfl ?_ (fun a hk => ?_)
              · exact ⟨ob_lenOwn tabOK 5 rfl rfl rfl, trivial⟩
              refine hK53 a w ?_; try clear hK53 K53
              refine wp_block ?_
              replace hh := (hh.at_ 0 rfl).drop
              replace hh := (hh.at_ 1 rfl).drop
              replace hh := (hh.at_ 2 rfl).drop
              replace hk := hk.keep [6, 8, 10, 11, 115, 116] rfl
              refine code_loop (α := Nat) (fun (m : Nat) (E : Env) (L : List Assn) => ∃ (i : Nat), E = [(6, u50), (8, u52), (10, u54), (11, .int .i64 (n : Int)), (115, .int .i64 ((parseO (((sa.take 60) ++ [10]) ++ sb)).2.length : Int)), (116, .int .i64 (i : Int))] ∧ L = [Own 3 1 u50 ((parseO (sa.take 60)).2.length) (intC (parseO (sa.take 60)).2), Own 3 1 u52 ((parseO sb).2.length) (intC (parseO sb).2), Own 3 1 u54 ((parseO (((sa.take 60) ++ [10]) ++ sb)).2.length) (intC (parseO (((sa.take 60) ++ [10]) ++ sb)).2)] ++ R ∧ (i ≤ (parseO ((sa.take 60) ++ [10] ++ sb)).2.length) ∧ m = (parseO ((sa.take 60) ++ [10] ++ sb)).2.length - i) id _ hk hh ⟨0, rfl, rfl, (by omega), rfl⟩ ?_
              clear hk hh
              rintro _ _ _ a w ⟨i, rfl, hL, hi, rfl⟩ hk hh; rw [hL] at hh; clear hL
              refine wp_seq_k fun K54 hK54 => ?_
              refine reg_q tabOK hk hh [] [6, 8, 10, 11, 115, 116, 117] rfl trivial (fun a hk => ?_)
              refine hK54 a w ?_; try clear hK54 K54
              refine wp_seq_k fun K55 hK55 => ?_
              refine code_cond hk rfl (fun c77 => ?_) (fun c77 => ?_)
              · replace c77 : (i : Int) < ((parseO (((sa.take 60) ++ [10]) ++ sb)).2.length : Int) := (of_decide_eq_true c77)
                refine wp_skip ?_
                refine hK55 a w ?_; try clear hK55 K55
                refine wp_seq_k fun K56 hK56 => ?_
                refine wp_block ?_
                refine wp_seq_k fun K57 hK57 => ?_
                refine reg_q tabOK hk hh [] [6, 8, 10, 11, 14, 115, 116] rfl trivial (fun a hk => ?_)
                refine hK57 a w ?_; try clear hK57 K57
                refine wp_seq_k fun K58 hK58 => ?_
                by_cases c78 : (i : Int) < ((parseO (sa.take 60)).2.length : Int)
                · have hx := own_ne (hh.at_ 2 rfl) (by omega)
                  clear hh; obtain ⟨b79, cap80, sp81, hu, hcap80, hH⟩ := hx; subst hu; have hh := hH; clear hH
                  have hx := own_ne (hh.at_ 1 rfl) (by omega)
                  clear hh; obtain ⟨b82, cap83, sp84, hu, hcap83, hH⟩ := hx; subst hu; have hh := hH; clear hH
                  by_cases c85 : (parseO (((sa.take 60) ++ [10]) ++ sb)).2.getD i 0 = (parseO (sa.take 60)).2.getD i 0
                  · by_cases c86 : (i : Int) ≥ ((parseO (sa.take 60)).2.length : Int)
                    · exfalso; omega
                    · refine reg_d tabOK (by kernel_rfl) hk hh [] [6, 8, 10, 11, 115, 116, 155] rfl 0 [(3, .bool true), (7, .pointer (some ⟨b79, i, none⟩)), (8, .int .i64 ((parseO (((sa.take 60) ++ [10]) ++ sb)).2.getD i 0)), (11, .pointer (some ⟨b82, i, none⟩)), (12, .int .i64 ((parseO (sa.take 60)).2.getD i 0)), (13, .bool false), (19, .bool false)] ?_
                      refine chain_fin rfl ?_ (fun a w hk hh => ?_)
                      · exact ⟨ob_eq tabOK rfl (v_dt c78), ob_indexAddr tabOK (i) rfl rfl rfl rfl (by omega) (by omega) (by show 0 + ((i : Int) : Int).toNat * 1 = i; omega), ob_load tabOK 1 rfl rfl rfl rfl (ints_at (by omega)), ob_indexAddr tabOK (i) rfl rfl rfl rfl (by omega) (by omega) (by show 0 + ((i : Int) : Int).toNat * 1 = i; omega), ob_load tabOK 0 rfl rfl rfl rfl (ints_at (by omega)), ob_eq tabOK rfl (v_nf c85), ob_eq tabOK rfl (v_df c86), trivial⟩
                      refine hK58 a w ?_; try clear hK58 K58
                      refine code_cond hk rfl (fun h => by cases h) (fun _ => ?_)
                      refine wp_skip ?_
                      refine blk_nm ?_
                      refine hK56 a w ?_; try clear hK56 K56
                      refine reg_q tabOK hk hh [(0, .int .i64 ((i : Int) + 1))] [6, 8, 10, 11, 115, 116] rfl ?_ (fun a hk => ?_)
                      · exact ⟨ob_eq tabOK rfl (eq_i64 (by omega)), trivial⟩
                      replace hh := own_again hcap80 (hh.at_ 1 rfl)
                      replace hh := own_again hcap83 (hh.at_ 1 rfl)
                      replace hh := hh.picks [0, 1, 0] rfl
                      refine then_nm ?_
                      exact ⟨_, _, _, ⟨i + 1, rfl, rfl, (by omega), rfl⟩, (by simp only [id]; omega), hk.keep [6, 8, 10, 11, 115, 116] rfl, hh⟩
                  · exact absurd (by rw [hp2]; exact app_left (by omega)) c85
                · have hx := own_ne (hh.at_ 2 rfl) (by omega)
                  clear hh; obtain ⟨b87, cap88, sp89, hu, hcap88, hH⟩ := hx; subst hu; have hh := hH; clear hH
                  by_cases c90 : (i : Int) ≥ ((parseO (sa.take 60)).2.length : Int)
                  · have hx := own_ne (hh.at_ 2 rfl) (by omega)
                    clear hh; obtain ⟨b91, cap92, sp93, hu, hcap92, hH⟩ := hx; subst hu; have hh := hH; clear hH
                    have hr2 := getD_range hq1.2.2 ((i : Int) - ((parseO (sa.take 60)).2.length : Int)).toNat
                    refine reg_d tabOK (by kernel_rfl) hk hh [] [6, 8, 10, 11, 115, 116, 155] rfl 0 [(2, .int .i64 ((parseO (sa.take 60)).2.length : Int)), (3, .bool false), (18, .int .i64 ((parseO (sa.take 60)).2.length : Int)), (19, .bool true), (23, .pointer (some ⟨b87, i, none⟩)), (24, .int .i64 ((parseO (((sa.take 60) ++ [10]) ++ sb)).2.getD i 0)), (28, .int .i64 ((parseO (sa.take 60)).2.length : Int)), (29, .int .i64 ((i : Int) - ((parseO (sa.take 60)).2.length : Int))), (30, .pointer (some ⟨b91, ((i : Int) - ((parseO (sa.take 60)).2.length : Int)).toNat, none⟩)), (31, .int .i64 ((parseO sb).2.getD (((i : Int) - ((parseO (sa.take 60)).2.length : Int)).toNat) 0)), (33, .int .i64 ((parseO sb).2.getD (((i : Int) - ((parseO (sa.take 60)).2.length : Int)).toNat) 0 + (n : Int)))] ?_
                    refine chain_fin rfl ?_ (fun a w hk hh => ?_)
                    · exact ⟨ob_lenOwn tabOK 2 rfl rfl rfl, ob_eq tabOK rfl (v_df c78), ob_lenOwn tabOK 2 rfl rfl rfl, ob_eq tabOK rfl (v_dt c90), ob_indexAddr tabOK (i) rfl rfl rfl rfl (by omega) (by omega) (by show 0 + ((i : Int) : Int).toNat * 1 = i; omega), ob_load tabOK 1 rfl rfl rfl rfl (ints_at (by omega)), ob_lenOwn tabOK 2 rfl rfl rfl, ob_eq tabOK rfl (eq_i64 (by omega)), ob_indexAddr tabOK (((i : Int) - ((parseO (sa.take 60)).2.length : Int)).toNat) rfl rfl rfl rfl (by omega) (by omega) (by show 0 + ((i : Int) - ((parseO (sa.take 60)).2.length : Int) : Int).toNat * 1 = ((i : Int) - ((parseO (sa.take 60)).2.length : Int)).toNat; omega), ob_load tabOK 0 rfl rfl rfl rfl (ints_at (by omega)), ob_eq tabOK rfl (eq_i64 (by omega)), trivial⟩
                    refine hK58 a w ?_; try clear hK58 K58
                    refine code_cond hk rfl (fun c94 => ?_) (fun c94 => ?_)
                    · replace c94 : ¬ ((parseO (((sa.take 60) ++ [10]) ++ sb)).2.getD i 0 = (parseO sb).2.getD (((i : Int) - ((parseO (sa.take 60)).2.length : Int)).toNat) 0 + (n : Int)) := (c_nt c94)
                      exact absurd (by rw [hp2, app_right (j := ((i : Int) - ((parseO (sa.take 60)).2.length : Int)).toNat) (by omega) (by omega), map_add (by omega), hns]) c94
                    · replace c94 : (parseO (((sa.take 60) ++ [10]) ++ sb)).2.getD i 0 = (parseO sb).2.getD (((i : Int) - ((parseO (sa.take 60)).2.length : Int)).toNat) 0 + (n : Int) := (c_nf c94)
                      refine wp_skip ?_
                      refine blk_nm ?_
                      refine hK56 a w ?_; try clear hK56 K56
                      refine reg_q tabOK hk hh [(0, .int .i64 ((i : Int) + 1))] [6, 8, 10, 11, 115, 116] rfl ?_ (fun a hk => ?_)
                      · exact ⟨ob_eq tabOK rfl (eq_i64 (by omega)), trivial⟩
                      replace hh := own_again hcap88 (hh.at_ 1 rfl)
                      replace hh := own_again hcap92 (hh.at_ 1 rfl)
                      replace hh := hh.picks [2, 0, 0] rfl
                      refine then_nm ?_
                      exact ⟨_, _, _, ⟨i + 1, rfl, rfl, (by omega), rfl⟩, (by simp only [id]; omega), hk.keep [6, 8, 10, 11, 115, 116] rfl, hh⟩
                  · exfalso; omega
              · replace c77 : ¬ ((i : Int) < ((parseO (((sa.take 60) ++ [10]) ++ sb)).2.length : Int)) := (of_decide_eq_false c77)
                refine wp_exit ?_
                refine then_exit ?_
                refine then_exit ?_
                refine blk_out ?_
                refine hK52 a w ?_; try clear hK52 K52
                refine wp_seq_k fun K59 hK59 => ?_
                refine wp_region_lit ?_
                refine seq_eff hk hh rfl rfl (eff_call Tryz.func11 rfl rfl rfl rfl (fun w hh => known_spec (by exact (((hR.cons _).cons _).cons _)) hh)) (fun v L a w hp hk hh => ?_)
                obtain ⟨rfl, hL⟩ := hp; rw [hL] at hh; clear hL
                refine rest_q tabOK (i := 1) hk hh [] [4] rfl trivial (fun a hk => ?_)
                refine hK59 a w ?_; try clear hK59 K59
                refine wp_ret ?_
                refine fin_ret hk (show Tryz.f5.results = ⟨[.tmp 4]⟩ from rfl) (by exact (res_tmp hk rfl .nil)) ?_
                replace hh := (hh.at_ 0 rfl).drop
                replace hh := (hh.at_ 0 rfl).drop
                replace hh := (hh.at_ 0 rfl).drop
                exact ⟨_, _, rfl, ⟨rfl, rfl⟩, hh⟩
        · exfalso; omega
  · replace c1 : ¬ ((sa.length : Int) > 60) := (of_decide_eq_false c1)
    refine wp_skip ?_
    refine hK2 a w ?_; try clear hK2 K2
    refine wp_seq_k fun K60 hK60 => ?_
    refine wp_seq_k fun K61 hK61 => ?_
    refine reg_q tabOK hk hh [] [0, 1, 22] rfl trivial (fun a hk => ?_)
    refine hK61 a w ?_; try clear hK61 K61
    refine code_cond hk rfl (fun c95 => ?_) (fun c95 => ?_)
    · replace c95 : (sb.length : Int) > 60 := (of_decide_eq_true c95)
      refine reg_q tabOK hk hh [(1, S (sb.take 60))] [0, 1] rfl ?_ (fun a hk => ?_)
      · exact ⟨ob_slice_str tabOK rfl rfl rfl rfl (by omega) (by omega) (by omega) (by simp), trivial⟩
      refine hK60 a w ?_; try clear hK60 K60
      refine wp_seq_k fun K62 hK62 => ?_
      have hX : (sa).length ≤ 60 := by first | omega | (rw [List.length_take]; omega)
      have hY : ((sb.take 60)).length ≤ 60 := by first | omega | (rw [List.length_take]; omega)
      have hp1 : (parseO (sa ++ [10] ++ (sb.take 60))).1 = (parseO sa).1 ++ (parseO (sb.take 60)).1 := by rw [parse_both hX hY]
      have hp2 : (parseO (sa ++ [10] ++ (sb.take 60))).2 = (parseO sa).2 ++ (parseO (sb.take 60)).2.map (· + ((spl 10 sa).length : Int)) := by rw [parse_both hX hY]
      have hn1 : (parseO (sa ++ [10] ++ (sb.take 60))).1.length = (parseO sa).1.length + (parseO (sb.take 60)).1.length := by rw [hp1, List.length_append]
      have hn2 : (parseO (sa ++ [10] ++ (sb.take 60))).2.length = (parseO sa).2.length + (parseO (sb.take 60)).2.length := by rw [hp2, List.length_append, List.length_map]
      have hq0 := parse_len (l := sa)
      have hq1 := parse_len (l := (sb.take 60))
      have hsx := spl_len (c := 10) (l := sa)
      refine wp_region_lit ?_
      refine seq_q tabOK (i := 0) (stop := 1) hk hh [] rfl trivial (fun a hk => ?_)
      refine seq_eff hk hh rfl rfl (eff_call Tryz.func14 rfl rfl rfl rfl (fun w hh => parse_text sa (by omega) (by exact hR) hh)) (fun v L a w hp hk hh => ?_)
      obtain ⟨u96, u97, rfl, hL⟩ := hp; rw [hL] at hh; clear hL
      refine rest_q tabOK (i := 2) hk hh [] [0, 1, 5, 6] rfl trivial (fun a hk => ?_)
      refine hK62 a w ?_; try clear hK62 K62
      refine wp_seq_k fun K63 hK63 => ?_
      refine wp_region_lit ?_
      refine seq_q tabOK (i := 0) (stop := 1) hk hh [] rfl trivial (fun a hk => ?_)
      refine seq_eff hk hh rfl rfl (eff_call Tryz.func14 rfl rfl rfl rfl (fun w hh => parse_text (sb.take 60) (by omega) (by exact ((hR.cons _).cons _)) hh)) (fun v L a w hp hk hh => ?_)
      obtain ⟨u98, u99, rfl, hL⟩ := hp; rw [hL] at hh; clear hL
      refine rest_q tabOK (i := 2) hk hh [] [0, 1, 5, 6, 7, 8] rfl trivial (fun a hk => ?_)
      refine hK63 a w ?_; try clear hK63 K63
      refine wp_seq_k fun K64 hK64 => ?_
      refine wp_region_lit ?_
      refine seq_q tabOK (i := 0) (stop := 4) hk hh [(1, S (sa ++ [10])), (3, S ((sa ++ [10]) ++ (sb.take 60)))] rfl ?_ (fun a hk => ?_)
      · exact ⟨ob_concat rfl rfl (by simp only [List.length_append, List.length_cons, List.length_nil]; omega), ob_concat rfl rfl (by simp only [List.length_append, List.length_cons, List.length_nil]; omega), trivial⟩
      refine seq_eff hk hh rfl rfl (eff_call Tryz.func14 rfl rfl rfl rfl (fun w hh => parse_text ((sa ++ [10]) ++ (sb.take 60)) (by simp only [List.length_append, List.length_cons, List.length_nil]; omega) (by exact ((((hR.cons _).cons _).cons _).cons _)) hh)) (fun v L a w hp hk hh => ?_)
      obtain ⟨u100, u101, rfl, hL⟩ := hp; rw [hL] at hh; clear hL
      refine rest_q tabOK (i := 5) hk hh [] [0, 5, 6, 7, 8, 9, 10] rfl trivial (fun a hk => ?_)
      refine hK64 a w ?_; try clear hK64 K64
      refine wp_seq_k fun K65 hK65 => ?_
      refine reg_q tabOK hk hh [] [0, 5, 6, 7, 8, 9, 10, 11] rfl trivial (fun a hk => ?_)
      refine hK65 a w ?_; try clear hK65 K65
      refine wp_seq_k fun K66 hK66 => ?_
      refine wp_seq_k fun K67 hK67 => ?_
      refine reg_q tabOK hk hh [] [0, 5, 6, 7, 8, 9, 10, 11, 12] rfl trivial (fun a hk => ?_)
      refine hK67 a w ?_; try clear hK67 K67
      refine wp_block ?_
      replace hh := hh.picks [4, 4, 2, 2, 0, 0] rfl
      replace hk := hk.keep [0, 5, 6, 7, 8, 9, 10, 11, 12] rfl
      refine code_loop (α := Nat) (fun (m : Nat) (E : Env) (L : List Assn) => ∃ (i : Nat) (n : Nat), E = [(0, S sa), (5, u96), (6, u97), (7, u98), (8, u99), (9, u100), (10, u101), (11, .int .i64 (n : Int)), (12, .int .i64 (i : Int))] ∧ L = [Own 26 5 u96 ((parseO sa).1.length) (actC (parseO sa).1), Own 3 1 u97 ((parseO sa).2.length) (intC (parseO sa).2), Own 26 5 u98 ((parseO (sb.take 60)).1.length) (actC (parseO (sb.take 60)).1), Own 3 1 u99 ((parseO (sb.take 60)).2.length) (intC (parseO (sb.take 60)).2), Own 26 5 u100 ((parseO ((sa ++ [10]) ++ (sb.take 60))).1.length) (actC (parseO ((sa ++ [10]) ++ (sb.take 60))).1), Own 3 1 u101 ((parseO ((sa ++ [10]) ++ (sb.take 60))).2.length) (intC (parseO ((sa ++ [10]) ++ (sb.take 60))).2)] ++ R ∧ (i ≤ sa.length) ∧ (n ≤ 1 + i) ∧ (n = 1 + (sa.take i).count 10) ∧ m = sa.length - i) id _ hk hh ⟨0, 1, rfl, rfl, (by omega), (by omega), (by simp), rfl⟩ ?_
      clear hk hh
      rintro _ _ _ a w ⟨i, n, rfl, hL, hi, hni, hcn, rfl⟩ hk hh; rw [hL] at hh; clear hL
      refine wp_seq_k fun K68 hK68 => ?_
      refine wp_seq_k fun K69 hK69 => ?_
      refine reg_q tabOK hk hh [] [0, 5, 6, 7, 8, 9, 10, 11, 12, 46] rfl trivial (fun a hk => ?_)
      refine hK69 a w ?_; try clear hK69 K69
      refine code_cond hk rfl (fun c102 => ?_) (fun c102 => ?_)
      · replace c102 : (i : Int) < (sa.length : Int) := (of_decide_eq_true c102)
        refine wp_skip ?_
        refine hK68 a w ?_; try clear hK68 K68
        refine wp_seq_k fun K70 hK70 => ?_
        refine wp_block ?_
        refine wp_seq_k fun K71 hK71 => ?_
        refine reg_q tabOK hk hh [(2, .int .u8 ((sa.getD i 0).toNat : Int))] [0, 5, 6, 7, 8, 9, 10, 11, 12, 52] rfl ?_ (fun a hk => ?_)
        · exact ⟨ob_index tabOK rfl rfl rfl (by omega) (getD_at (by omega)), trivial⟩
        refine hK71 a w ?_; try clear hK71 K71
        refine code_cond hk rfl (fun c103 => ?_) (fun c103 => ?_)
        · replace c103 : ((sa.getD i 0).toNat : Int) = 10 := (c_et c103)
          refine reg_q tabOK hk hh [(1, .int .i64 ((n : Int) + 1))] [0, 5, 6, 7, 8, 9, 10, 11, 12] rfl ?_ (fun a hk => ?_)
          · exact ⟨ob_eq tabOK rfl (eq_i64 (by omega)), trivial⟩
          refine blk_nm ?_
          refine hK70 a w ?_; try clear hK70 K70
          refine reg_q tabOK hk hh [(1, .int .i64 ((i : Int) + 1))] [0, 5, 6, 7, 8, 9, 10, 11, 12] rfl ?_ (fun a hk => ?_)
          · exact ⟨ob_eq tabOK rfl (eq_i64 (by omega)), trivial⟩
          refine then_nm ?_
          exact ⟨_, _, _, ⟨i + 1, n + 1, rfl, rfl, (by omega), (by omega), (by have := count_hit (i := i) (by omega) c103; omega), rfl⟩, (by simp only [id]; omega), hk.keep [0, 5, 6, 7, 8, 9, 10, 11, 12] rfl, hh⟩
        · replace c103 : ¬ (((sa.getD i 0).toNat : Int) = 10) := (c_ef c103)
          refine wp_skip ?_
          refine blk_nm ?_
          refine hK70 a w ?_; try clear hK70 K70
          refine reg_q tabOK hk hh [(1, .int .i64 ((i : Int) + 1))] [0, 5, 6, 7, 8, 9, 10, 11, 12] rfl ?_ (fun a hk => ?_)
          · exact ⟨ob_eq tabOK rfl (eq_i64 (by omega)), trivial⟩
          refine then_nm ?_
          exact ⟨_, _, _, ⟨i + 1, n, rfl, rfl, (by omega), (by omega), (by have := count_miss (i := i) (by omega) c103; omega), rfl⟩, (by simp only [id]; omega), hk.keep [0, 5, 6, 7, 8, 9, 10, 11, 12] rfl, hh⟩
      · replace c102 : ¬ ((i : Int) < (sa.length : Int)) := (of_decide_eq_false c102)
        refine wp_exit ?_
        refine then_exit ?_
        refine then_exit ?_
        refine blk_out ?_
        refine hK66 a w ?_; try clear hK66 K66
        refine wp_seq_k fun K72 hK72 => ?_
        refine wp_seq_k fun K73 hK73 => ?_
        have hns : n = (spl 10 sa).length := by rw [hcn]; exact count_end (by omega)
        by_cases c104 : ((parseO ((sa ++ [10]) ++ (sb.take 60))).1.length : Int) = ((parseO sa).1.length : Int) + ((parseO (sb.take 60)).1.length : Int)
        · refine reg_q tabOK hk hh [(1, .int .i64 ((parseO ((sa ++ [10]) ++ (sb.take 60))).1.length : Int)), (3, .int .i64 ((parseO sa).1.length : Int)), (5, .int .i64 ((parseO (sb.take 60)).1.length : Int)), (6, .int .i64 (((parseO sa).1.length : Int) + ((parseO (sb.take 60)).1.length : Int))), (7, .bool false), (10, .int .i64 ((parseO ((sa ++ [10]) ++ (sb.take 60))).2.length : Int)), (12, .int .i64 ((parseO sa).2.length : Int)), (14, .int .i64 ((parseO (sb.take 60)).2.length : Int)), (15, .int .i64 (((parseO sa).2.length : Int) + ((parseO (sb.take 60)).2.length : Int)))] [5, 6, 7, 8, 9, 10, 11, 72] rfl ?_ (fun a hk => ?_)
          · exact ⟨ob_lenOwn tabOK 4 rfl rfl rfl, ob_lenOwn tabOK 0 rfl rfl rfl, ob_lenOwn tabOK 2 rfl rfl rfl, ob_eq tabOK rfl (eq_i64 (by omega)), ob_eq tabOK rfl (v_nf c104), ob_lenOwn tabOK 5 rfl rfl rfl, ob_lenOwn tabOK 1 rfl rfl rfl, ob_lenOwn tabOK 3 rfl rfl rfl, ob_eq tabOK rfl (eq_i64 (by omega)), trivial⟩
          refine hK73 a w ?_; try clear hK73 K73
          refine code_cond hk rfl (fun c105 => ?_) (fun c105 => ?_)
          · replace c105 : ¬ (((parseO ((sa ++ [10]) ++ (sb.take 60))).2.length : Int) = ((parseO sa).2.length : Int) + ((parseO (sb.take 60)).2.length : Int)) := (c_nt c105)
            exfalso; omega
          · replace c105 : ((parseO ((sa ++ [10]) ++ (sb.take 60))).2.length : Int) = ((parseO sa).2.length : Int) + ((parseO (sb.take 60)).2.length : Int) := (c_nf c105)
            refine wp_skip ?_
            refine hK72 a w ?_; try clear hK72 K72
            refine wp_seq_k fun K74 hK74 => ?_
            refine wp_seq_k fun K75 hK75 => ?_
            refine reg_q tabOK hk hh [(1, .int .i64 ((parseO ((sa ++ [10]) ++ (sb.take 60))).1.length : Int))] [5, 6, 7, 8, 9, 10, 11, 74, 75] rfl ?_ (fun a hk => ?_)
            · exact ⟨ob_lenOwn tabOK 4 rfl rfl rfl, trivial⟩
            refine hK75 a w ?_; try clear hK75 K75
            refine wp_block ?_
            replace hk := hk.keep [5, 6, 7, 8, 9, 10, 11, 74, 75] rfl
            refine code_loop (α := Nat) (fun (m : Nat) (E : Env) (L : List Assn) => ∃ (i : Nat), E = [(5, u96), (6, u97), (7, u98), (8, u99), (9, u100), (10, u101), (11, .int .i64 (n : Int)), (74, .int .i64 ((parseO ((sa ++ [10]) ++ (sb.take 60))).1.length : Int)), (75, .int .i64 (i : Int))] ∧ L = [Own 26 5 u96 ((parseO sa).1.length) (actC (parseO sa).1), Own 3 1 u97 ((parseO sa).2.length) (intC (parseO sa).2), Own 26 5 u98 ((parseO (sb.take 60)).1.length) (actC (parseO (sb.take 60)).1), Own 3 1 u99 ((parseO (sb.take 60)).2.length) (intC (parseO (sb.take 60)).2), Own 26 5 u100 ((parseO ((sa ++ [10]) ++ (sb.take 60))).1.length) (actC (parseO ((sa ++ [10]) ++ (sb.take 60))).1), Own 3 1 u101 ((parseO ((sa ++ [10]) ++ (sb.take 60))).2.length) (intC (parseO ((sa ++ [10]) ++ (sb.take 60))).2)] ++ R ∧ (i ≤ (parseO (sa ++ [10] ++ (sb.take 60))).1.length) ∧ m = (parseO (sa ++ [10] ++ (sb.take 60))).1.length - i) id _ hk hh ⟨0, rfl, rfl, (by omega), rfl⟩ ?_
            clear hk hh
            rintro _ _ _ a w ⟨i, rfl, hL, hi, rfl⟩ hk hh; rw [hL] at hh; clear hL
            refine wp_seq_k fun K76 hK76 => ?_
            refine reg_q tabOK hk hh [] [5, 6, 7, 8, 9, 10, 11, 74, 75, 76] rfl trivial (fun a hk => ?_)
            refine hK76 a w ?_; try clear hK76 K76
            refine wp_seq_k fun K77 hK77 => ?_
            refine code_cond hk rfl (fun c106 => ?_) (fun c106 => ?_)
            · replace c106 : (i : Int) < ((parseO ((sa ++ [10]) ++ (sb.take 60))).1.length : Int) := (of_decide_eq_true c106)
              refine wp_skip ?_
              refine hK77 a w ?_; try clear hK77 K77
              refine wp_seq_k fun K78 hK78 => ?_
              refine wp_block ?_
              refine wp_seq_k fun K79 hK79 => ?_
              refine reg_q tabOK hk hh [] [5, 6, 7, 8, 9, 10, 11, 13, 74, 75] rfl trivial (fun a hk => ?_)
              refine hK79 a w ?_; try clear hK79 K79
              refine wp_seq_k fun K80 hK80 => ?_
              by_cases c107 : (i : Int) < ((parseO sa).1.length : Int)
              · have hx := own_ne (hh.at_ 4 rfl) (by omega)
                clear hh; obtain ⟨b108, cap109, sp110, hu, hcap109, hH⟩ := hx; subst hu; have hh := hH; clear hH
                have hx := own_ne (hh.at_ 1 rfl) (by omega)
                clear hh; obtain ⟨b111, cap112, sp113, hu, hcap112, hH⟩ := hx; subst hu; have hh := hH; clear hH
                by_cases c114 : ((parseO ((sa ++ [10]) ++ (sb.take 60))).1.getD i zA) = ((parseO sa).1.getD i zA)
                · by_cases c115 : (i : Int) ≥ ((parseO sa).1.length : Int)
                  · exfalso; omega
                  · refine reg_d tabOK (by kernel_rfl) hk hh [] [5, 6, 7, 8, 9, 10, 11, 74, 75, 112] rfl 0 [(3, .bool true), (7, .pointer (some ⟨b108, i * 5, none⟩)), (8, .agg ⟨[.int .i64 (((parseO ((sa ++ [10]) ++ (sb.take 60))).1.getD i zA).k), .int .i64 (((parseO ((sa ++ [10]) ++ (sb.take 60))).1.getD i zA).a), .int .i64 (((parseO ((sa ++ [10]) ++ (sb.take 60))).1.getD i zA).b), .int .i64 (((parseO ((sa ++ [10]) ++ (sb.take 60))).1.getD i zA).n), S (((parseO ((sa ++ [10]) ++ (sb.take 60))).1.getD i zA).s)]⟩), (11, .pointer (some ⟨b111, i * 5, none⟩)), (12, .agg ⟨[.int .i64 (((parseO sa).1.getD i zA).k), .int .i64 (((parseO sa).1.getD i zA).a), .int .i64 (((parseO sa).1.getD i zA).b), .int .i64 (((parseO sa).1.getD i zA).n), S (((parseO sa).1.getD i zA).s)]⟩), (13, .bool false), (19, .bool false)] ?_
                    refine chain_fin rfl ?_ (fun a w hk hh => ?_)
                    · exact ⟨ob_eq tabOK rfl (v_dt c107), ob_indexAddr tabOK (i * 5) rfl rfl rfl rfl (by omega) (by omega) (by show 0 + ((i : Int) : Int).toNat * 5 = i * 5; omega), ob_loadN tabOK 1 rfl rfl rfl rfl (acts_at (by omega)), ob_indexAddr tabOK (i * 5) rfl rfl rfl rfl (by omega) (by omega) (by show 0 + ((i : Int) : Int).toNat * 5 = i * 5; omega), ob_loadN tabOK 0 rfl rfl rfl rfl (acts_at (by omega)), ob_conv (ob_conv (ob_neS tabOK eqOK rfl rfl rfl rfl) (act_ne ((parseO ((sa ++ [10]) ++ (sb.take 60))).1.getD i zA) ((parseO sa).1.getD i zA))) (v_not (v_dt c114)), ob_eq tabOK rfl (v_df c115), trivial⟩
                    refine hK80 a w ?_; try clear hK80 K80
                    refine code_cond hk rfl (fun h => by cases h) (fun _ => ?_)
                    refine wp_skip ?_
                    refine blk_nm ?_
                    refine hK78 a w ?_; try clear hK78 K78
                    refine reg_q tabOK hk hh [(0, .int .i64 ((i : Int) + 1))] [5, 6, 7, 8, 9, 10, 11, 74, 75] rfl ?_ (fun a hk => ?_)
                    · exact ⟨ob_eq tabOK rfl (eq_i64 (by omega)), trivial⟩
                    replace hh := own_again hcap109 (hh.at_ 1 rfl)
                    replace hh := own_again hcap112 (hh.at_ 1 rfl)
                    replace hh := hh.picks [0, 1, 1, 1, 0, 0] rfl
                    refine then_nm ?_
                    exact ⟨_, _, _, ⟨i + 1, rfl, rfl, (by omega), rfl⟩, (by simp only [id]; omega), hk.keep [5, 6, 7, 8, 9, 10, 11, 74, 75] rfl, hh⟩
                · exact absurd (by rw [hp1]; exact app_left (by omega)) c114
              · have hx := own_ne (hh.at_ 4 rfl) (by omega)
                clear hh; obtain ⟨b116, cap117, sp118, hu, hcap117, hH⟩ := hx; subst hu; have hh := hH; clear hH
                by_cases c119 : (i : Int) ≥ ((parseO sa).1.length : Int)
                · have hx := own_ne (hh.at_ 3 rfl) (by omega)
                  clear hh; obtain ⟨b120, cap121, sp122, hu, hcap121, hH⟩ := hx; subst hu; have hh := hH; clear hH
                  refine reg_d tabOK (by kernel_rfl) hk hh [] [5, 6, 7, 8, 9, 10, 11, 74, 75, 112] rfl 0 [(2, .int .i64 ((parseO sa).1.length : Int)), (3, .bool false), (18, .int .i64 ((parseO sa).1.length : Int)), (19, .bool true), (23, .pointer (some ⟨b116, i * 5, none⟩)), (24, .agg ⟨[.int .i64 (((parseO ((sa ++ [10]) ++ (sb.take 60))).1.getD i zA).k), .int .i64 (((parseO ((sa ++ [10]) ++ (sb.take 60))).1.getD i zA).a), .int .i64 (((parseO ((sa ++ [10]) ++ (sb.take 60))).1.getD i zA).b), .int .i64 (((parseO ((sa ++ [10]) ++ (sb.take 60))).1.getD i zA).n), S (((parseO ((sa ++ [10]) ++ (sb.take 60))).1.getD i zA).s)]⟩), (28, .int .i64 ((parseO sa).1.length : Int)), (29, .int .i64 ((i : Int) - ((parseO sa).1.length : Int))), (30, .pointer (some ⟨b120, ((i : Int) - ((parseO sa).1.length : Int)).toNat * 5, none⟩)), (31, .agg ⟨[.int .i64 (((parseO (sb.take 60)).1.getD ((i : Int) - ((parseO sa).1.length : Int)).toNat zA).k), .int .i64 (((parseO (sb.take 60)).1.getD ((i : Int) - ((parseO sa).1.length : Int)).toNat zA).a), .int .i64 (((parseO (sb.take 60)).1.getD ((i : Int) - ((parseO sa).1.length : Int)).toNat zA).b), .int .i64 (((parseO (sb.take 60)).1.getD ((i : Int) - ((parseO sa).1.length : Int)).toNat zA).n), S (((parseO (sb.take 60)).1.getD ((i : Int) - ((parseO sa).1.length : Int)).toNat zA).s)]⟩), (32, .bool (!(decide (((parseO ((sa ++ [10]) ++ (sb.take 60))).1.getD i zA) = ((parseO (sb.take 60)).1.getD ((i : Int) - ((parseO sa).1.length : Int)).toNat zA)))))] ?_
                  refine chain_fin rfl ?_ (fun a w hk hh => ?_)
                  · exact ⟨ob_lenOwn tabOK 2 rfl rfl rfl, ob_eq tabOK rfl (v_df c107), ob_lenOwn tabOK 2 rfl rfl rfl, ob_eq tabOK rfl (v_dt c119), ob_indexAddr tabOK (i * 5) rfl rfl rfl rfl (by omega) (by omega) (by show 0 + ((i : Int) : Int).toNat * 5 = i * 5; omega), ob_loadN tabOK 1 rfl rfl rfl rfl (acts_at (by omega)), ob_lenOwn tabOK 2 rfl rfl rfl, ob_eq tabOK rfl (eq_i64 (by omega)), ob_indexAddr tabOK (((i : Int) - ((parseO sa).1.length : Int)).toNat * 5) rfl rfl rfl rfl (by omega) (by omega) (by show 0 + ((i : Int) - ((parseO sa).1.length : Int) : Int).toNat * 5 = ((i : Int) - ((parseO sa).1.length : Int)).toNat * 5; omega), ob_loadN tabOK 0 rfl rfl rfl rfl (acts_at (by omega)), ob_conv (ob_neS tabOK eqOK rfl rfl rfl rfl) (act_ne ((parseO ((sa ++ [10]) ++ (sb.take 60))).1.getD i zA) ((parseO (sb.take 60)).1.getD ((i : Int) - ((parseO sa).1.length : Int)).toNat zA)), trivial⟩
                  refine hK80 a w ?_; try clear hK80 K80
                  refine code_cond hk rfl (fun c123 => ?_) (fun c123 => ?_)
                  · replace c123 : ¬ (((parseO ((sa ++ [10]) ++ (sb.take 60))).1.getD i zA) = ((parseO (sb.take 60)).1.getD ((i : Int) - ((parseO sa).1.length : Int)).toNat zA)) := (of_decide_eq_false (c_it c123))
                    exact absurd (by rw [hp1]; exact app_right (by omega) (by omega)) c123
                  · replace c123 : ((parseO ((sa ++ [10]) ++ (sb.take 60))).1.getD i zA) = ((parseO (sb.take 60)).1.getD ((i : Int) - ((parseO sa).1.length : Int)).toNat zA) := (of_decide_eq_true (c_if c123))
                    refine wp_skip ?_
                    refine blk_nm ?_
                    refine hK78 a w ?_; try clear hK78 K78
                    refine reg_q tabOK hk hh [(0, .int .i64 ((i : Int) + 1))] [5, 6, 7, 8, 9, 10, 11, 74, 75] rfl ?_ (fun a hk => ?_)
                    · exact ⟨ob_eq tabOK rfl (eq_i64 (by omega)), trivial⟩
                    replace hh := own_again hcap117 (hh.at_ 1 rfl)
                    replace hh := own_again hcap121 (hh.at_ 1 rfl)
                    replace hh := hh.picks [2, 2, 0, 1, 0, 0] rfl
                    refine then_nm ?_
                    exact ⟨_, _, _, ⟨i + 1, rfl, rfl, (by omega), rfl⟩, (by simp only [id]; omega), hk.keep [5, 6, 7, 8, 9, 10, 11, 74, 75] rfl, hh⟩
                · exfalso; omega
            · replace c106 : ¬ ((i : Int) < ((parseO ((sa ++ [10]) ++ (sb.take 60))).1.length : Int)) := (of_decide_eq_false c106)
              refine wp_exit ?_
              refine then_exit ?_
              refine then_exit ?_
              refine blk_out ?_
              refine hK74 a w ?_; try clear hK74 K74
              refine wp_seq_k fun K81 hK81 => ?_
              refine wp_seq_k fun K82 hK82 => ?_
              refine reg_q tabOK hk hh [(1, .int .i64 ((parseO ((sa ++ [10]) ++ (sb.take 60))).2.length : Int))] [6, 8, 10, 11, 115, 116] rfl ?_ (fun a hk => ?_)
              · exact ⟨ob_lenOwn tabOK 5 rfl rfl rfl, trivial⟩
              refine hK82 a w ?_; try clear hK82 K82
              refine wp_block ?_
              replace hh := (hh.at_ 0 rfl).drop
              replace hh := (hh.at_ 1 rfl).drop
              replace hh := (hh.at_ 2 rfl).drop
              replace hk := hk.keep [6, 8, 10, 11, 115, 116] rfl
              refine code_loop (α := Nat) (fun (m : Nat) (E : Env) (L : List Assn) => ∃ (i : Nat), E = [(6, u97), (8, u99), (10, u101), (11, .int .i64 (n : Int)), (115, .int .i64 ((parseO ((sa ++ [10]) ++ (sb.take 60))).2.length : Int)), (116, .int .i64 (i : Int))] ∧ L = [Own 3 1 u97 ((parseO sa).2.length) (intC (parseO sa).2), Own 3 1 u99 ((parseO (sb.take 60)).2.length) (intC (parseO (sb.take 60)).2), Own 3 1 u101 ((parseO ((sa ++ [10]) ++ (sb.take 60))).2.length) (intC (parseO ((sa ++ [10]) ++ (sb.take 60))).2)] ++ R ∧ (i ≤ (parseO (sa ++ [10] ++ (sb.take 60))).2.length) ∧ m = (parseO (sa ++ [10] ++ (sb.take 60))).2.length - i) id _ hk hh ⟨0, rfl, rfl, (by omega), rfl⟩ ?_
              clear hk hh
              rintro _ _ _ a w ⟨i, rfl, hL, hi, rfl⟩ hk hh; rw [hL] at hh; clear hL
              refine wp_seq_k fun K83 hK83 => ?_
              refine reg_q tabOK hk hh [] [6, 8, 10, 11, 115, 116, 117] rfl trivial (fun a hk => ?_)
              refine hK83 a w ?_; try clear hK83 K83
              refine wp_seq_k fun K84 hK84 => ?_
              refine code_cond hk rfl (fun c124 => ?_) (fun c124 => ?_)
              · replace c124 : (i : Int) < ((parseO ((sa ++ [10]) ++ (sb.take 60))).2.length : Int) := (of_decide_eq_true c124)
                refine wp_skip ?_
                refine hK84 a w ?_; try clear hK84 K84
                refine wp_seq_k fun K85 hK85 => ?_
                refine wp_block ?_
                refine wp_seq_k fun K86 hK86 => ?_
                refine reg_q tabOK hk hh [] [6, 8, 10, 11, 14, 115, 116] rfl trivial (fun a hk => ?_)
                refine hK86 a w ?_; try clear hK86 K86
                refine wp_seq_k fun K87 hK87 => ?_
                by_cases c125 : (i : Int) < ((parseO sa).2.length : Int)
                · have hx := own_ne (hh.at_ 2 rfl) (by omega)
                  clear hh; obtain ⟨b126, cap127, sp128, hu, hcap127, hH⟩ := hx; subst hu; have hh := hH; clear hH
                  have hx := own_ne (hh.at_ 1 rfl) (by omega)
                  clear hh; obtain ⟨b129, cap130, sp131, hu, hcap130, hH⟩ := hx; subst hu; have hh := hH; clear hH
                  by_cases c132 : (parseO ((sa ++ [10]) ++ (sb.take 60))).2.getD i 0 = (parseO sa).2.getD i 0
                  · by_cases c133 : (i : Int) ≥ ((parseO sa).2.length : Int)
                    · exfalso; omega
                    · refine reg_d tabOK (by kernel_rfl) hk hh [] [6, 8, 10, 11, 115, 116, 155] rfl 0 [(3, .bool true), (7, .pointer (some ⟨b126, i, none⟩)), (8, .int .i64 ((parseO ((sa ++ [10]) ++ (sb.take 60))).2.getD i 0)), (11, .pointer (some ⟨b129, i, none⟩)), (12, .int .i64 ((parseO sa).2.getD i 0)), (13, .bool false), (19, .bool false)] ?_
                      refine chain_fin rfl ?_ (fun a w hk hh => ?_)
                      · exact ⟨ob_eq tabOK rfl (v_dt c125), ob_indexAddr tabOK (i) rfl rfl rfl rfl (by omega) (by omega) (by show 0 + ((i : Int) : Int).toNat * 1 = i; omega), ob_load tabOK 1 rfl rfl rfl rfl (ints_at (by omega)), ob_indexAddr tabOK (i) rfl rfl rfl rfl (by omega) (by omega) (by show 0 + ((i : Int) : Int).toNat * 1 = i; omega), ob_load tabOK 0 rfl rfl rfl rfl (ints_at (by omega)), ob_eq tabOK rfl (v_nf c132), ob_eq tabOK rfl (v_df c133), trivial⟩
                      refine hK87 a w ?_; try clear hK87 K87
                      refine code_cond hk rfl (fun h => by cases h) (fun _ => ?_)
                      refine wp_skip ?_
                      refine blk_nm ?_
                      refine hK85 a w ?_; try clear hK85 K85
                      refine reg_q tabOK hk hh [(0, .int .i64 ((i : Int) + 1))] [6, 8, 10, 11, 115, 116] rfl ?_ (fun a hk => ?_)
                      · exact ⟨ob_eq tabOK rfl (eq_i64 (by omega)), trivial⟩
                      replace hh := own_again hcap127 (hh.at_ 1 rfl)
                      replace hh := own_again hcap130 (hh.at_ 1 rfl)
                      replace hh := hh.picks [0, 1, 0] rfl
                      refine then_nm ?_
                      exact ⟨_, _, _, ⟨i + 1, rfl, rfl, (by omega), rfl⟩, (by simp only [id]; omega), hk.keep [6, 8, 10, 11, 115, 116] rfl, hh⟩
                  · exact absurd (by rw [hp2]; exact app_left (by omega)) c132
                · have hx := own_ne (hh.at_ 2 rfl) (by omega)
                  clear hh; obtain ⟨b134, cap135, sp136, hu, hcap135, hH⟩ := hx; subst hu; have hh := hH; clear hH
                  by_cases c137 : (i : Int) ≥ ((parseO sa).2.length : Int)
                  · have hx := own_ne (hh.at_ 2 rfl) (by omega)
                    clear hh; obtain ⟨b138, cap139, sp140, hu, hcap139, hH⟩ := hx; subst hu; have hh := hH; clear hH
                    have hr2 := getD_range hq1.2.2 ((i : Int) - ((parseO sa).2.length : Int)).toNat
                    refine reg_d tabOK (by kernel_rfl) hk hh [] [6, 8, 10, 11, 115, 116, 155] rfl 0 [(2, .int .i64 ((parseO sa).2.length : Int)), (3, .bool false), (18, .int .i64 ((parseO sa).2.length : Int)), (19, .bool true), (23, .pointer (some ⟨b134, i, none⟩)), (24, .int .i64 ((parseO ((sa ++ [10]) ++ (sb.take 60))).2.getD i 0)), (28, .int .i64 ((parseO sa).2.length : Int)), (29, .int .i64 ((i : Int) - ((parseO sa).2.length : Int))), (30, .pointer (some ⟨b138, ((i : Int) - ((parseO sa).2.length : Int)).toNat, none⟩)), (31, .int .i64 ((parseO (sb.take 60)).2.getD (((i : Int) - ((parseO sa).2.length : Int)).toNat) 0)), (33, .int .i64 ((parseO (sb.take 60)).2.getD (((i : Int) - ((parseO sa).2.length : Int)).toNat) 0 + (n : Int)))] ?_
                    refine chain_fin rfl ?_ (fun a w hk hh => ?_)
                    · exact ⟨ob_lenOwn tabOK 2 rfl rfl rfl, ob_eq tabOK rfl (v_df c125), ob_lenOwn tabOK 2 rfl rfl rfl, ob_eq tabOK rfl (v_dt c137), ob_indexAddr tabOK (i) rfl rfl rfl rfl (by omega) (by omega) (by show 0 + ((i : Int) : Int).toNat * 1 = i; omega), ob_load tabOK 1 rfl rfl rfl rfl (ints_at (by omega)), ob_lenOwn tabOK 2 rfl rfl rfl, ob_eq tabOK rfl (eq_i64 (by omega)), ob_indexAddr tabOK (((i : Int) - ((parseO sa).2.length : Int)).toNat) rfl rfl rfl rfl (by omega) (by omega) (by show 0 + ((i : Int) - ((parseO sa).2.length : Int) : Int).toNat * 1 = ((i : Int) - ((parseO sa).2.length : Int)).toNat; omega), ob_load tabOK 0 rfl rfl rfl rfl (ints_at (by omega)), ob_eq tabOK rfl (eq_i64 (by omega)), trivial⟩
                    refine hK87 a w ?_; try clear hK87 K87
                    refine code_cond hk rfl (fun c141 => ?_) (fun c141 => ?_)
                    · replace c141 : ¬ ((parseO ((sa ++ [10]) ++ (sb.take 60))).2.getD i 0 = (parseO (sb.take 60)).2.getD (((i : Int) - ((parseO sa).2.length : Int)).toNat) 0 + (n : Int)) := (c_nt c141)
                      exact absurd (by rw [hp2, app_right (j := ((i : Int) - ((parseO sa).2.length : Int)).toNat) (by omega) (by omega), map_add (by omega), hns]) c141
                    · replace c141 : (parseO ((sa ++ [10]) ++ (sb.take 60))).2.getD i 0 = (parseO (sb.take 60)).2.getD (((i : Int) - ((parseO sa).2.length : Int)).toNat) 0 + (n : Int) := (c_nf c141)
                      refine wp_skip ?_
                      refine blk_nm ?_
                      refine hK85 a w ?_; try clear hK85 K85
                      refine reg_q tabOK hk hh [(0, .int .i64 ((i : Int) + 1))] [6, 8, 10, 11, 115, 116] rfl ?_ (fun a hk => ?_)
                      · exact ⟨ob_eq tabOK rfl (eq_i64 (by omega)), trivial⟩
                      replace hh := own_again hcap135 (hh.at_ 1 rfl)
                      replace hh := own_again hcap139 (hh.at_ 1 rfl)
                      replace hh := hh.picks [2, 0, 0] rfl
                      refine then_nm ?_
                      exact ⟨_, _, _, ⟨i + 1, rfl, rfl, (by omega), rfl⟩, (by simp only [id]; omega), hk.keep [6, 8, 10, 11, 115, 116] rfl, hh⟩
                  · exfalso; omega
              · replace c124 : ¬ ((i : Int) < ((parseO ((sa ++ [10]) ++ (sb.take 60))).2.length : Int)) := (of_decide_eq_false c124)
                refine wp_exit ?_
                refine then_exit ?_
                refine then_exit ?_
                refine blk_out ?_
                refine hK81 a w ?_; try clear hK81 K81
                refine wp_seq_k fun K88 hK88 => ?_
                refine wp_region_lit ?_
                refine seq_eff hk hh rfl rfl (eff_call Tryz.func11 rfl rfl rfl rfl (fun w hh => known_spec (by exact (((hR.cons _).cons _).cons _)) hh)) (fun v L a w hp hk hh => ?_)
                obtain ⟨rfl, hL⟩ := hp; rw [hL] at hh; clear hL
                refine rest_q tabOK (i := 1) hk hh [] [4] rfl trivial (fun a hk => ?_)
                refine hK88 a w ?_; try clear hK88 K88
                refine wp_ret ?_
                refine fin_ret hk (show Tryz.f5.results = ⟨[.tmp 4]⟩ from rfl) (by exact (res_tmp hk rfl .nil)) ?_
                replace hh := (hh.at_ 0 rfl).drop
                replace hh := (hh.at_ 0 rfl).drop
                replace hh := (hh.at_ 0 rfl).drop
                exact ⟨_, _, rfl, ⟨rfl, rfl⟩, hh⟩
        · exfalso; omega
    · replace c95 : ¬ ((sb.length : Int) > 60) := (of_decide_eq_false c95)
      refine wp_skip ?_
      refine hK60 a w ?_; try clear hK60 K60
      refine wp_seq_k fun K89 hK89 => ?_
      have hX : (sa).length ≤ 60 := by first | omega | (rw [List.length_take]; omega)
      have hY : (sb).length ≤ 60 := by first | omega | (rw [List.length_take]; omega)
      have hp1 : (parseO (sa ++ [10] ++ sb)).1 = (parseO sa).1 ++ (parseO sb).1 := by rw [parse_both hX hY]
      have hp2 : (parseO (sa ++ [10] ++ sb)).2 = (parseO sa).2 ++ (parseO sb).2.map (· + ((spl 10 sa).length : Int)) := by rw [parse_both hX hY]
      have hn1 : (parseO (sa ++ [10] ++ sb)).1.length = (parseO sa).1.length + (parseO sb).1.length := by rw [hp1, List.length_append]
      have hn2 : (parseO (sa ++ [10] ++ sb)).2.length = (parseO sa).2.length + (parseO sb).2.length := by rw [hp2, List.length_append, List.length_map]
      have hq0 := parse_len (l := sa)
      have hq1 := parse_len (l := sb)
      have hsx := spl_len (c := 10) (l := sa)
      refine wp_region_lit ?_
      refine seq_q tabOK (i := 0) (stop := 1) hk hh [] rfl trivial (fun a hk => ?_)
      refine seq_eff hk hh rfl rfl (eff_call Tryz.func14 rfl rfl rfl rfl (fun w hh => parse_text sa (by omega) (by exact hR) hh)) (fun v L a w hp hk hh => ?_)
      obtain ⟨u142, u143, rfl, hL⟩ := hp; rw [hL] at hh; clear hL
      refine rest_q tabOK (i := 2) hk hh [] [0, 1, 5, 6] rfl trivial (fun a hk => ?_)
      refine hK89 a w ?_; try clear hK89 K89
      refine wp_seq_k fun K90 hK90 => ?_
      refine wp_region_lit ?_
      refine seq_q tabOK (i := 0) (stop := 1) hk hh [] rfl trivial (fun a hk => ?_)
      refine seq_eff hk hh rfl rfl (eff_call Tryz.func14 rfl rfl rfl rfl (fun w hh => parse_text sb (by omega) (by exact ((hR.cons _).cons _)) hh)) (fun v L a w hp hk hh => ?_)
      obtain ⟨u144, u145, rfl, hL⟩ := hp; rw [hL] at hh; clear hL
      refine rest_q tabOK (i := 2) hk hh [] [0, 1, 5, 6, 7, 8] rfl trivial (fun a hk => ?_)
      refine hK90 a w ?_; try clear hK90 K90
      refine wp_seq_k fun K91 hK91 => ?_
      refine wp_region_lit ?_
      refine seq_q tabOK (i := 0) (stop := 4) hk hh [(1, S (sa ++ [10])), (3, S ((sa ++ [10]) ++ sb))] rfl ?_ (fun a hk => ?_)
      · exact ⟨ob_concat rfl rfl (by simp only [List.length_append, List.length_cons, List.length_nil]; omega), ob_concat rfl rfl (by simp only [List.length_append, List.length_cons, List.length_nil]; omega), trivial⟩
      refine seq_eff hk hh rfl rfl (eff_call Tryz.func14 rfl rfl rfl rfl (fun w hh => parse_text ((sa ++ [10]) ++ sb) (by simp only [List.length_append, List.length_cons, List.length_nil]; omega) (by exact ((((hR.cons _).cons _).cons _).cons _)) hh)) (fun v L a w hp hk hh => ?_)
      obtain ⟨u146, u147, rfl, hL⟩ := hp; rw [hL] at hh; clear hL
      refine rest_q tabOK (i := 5) hk hh [] [0, 5, 6, 7, 8, 9, 10] rfl trivial (fun a hk => ?_)
      refine hK91 a w ?_; try clear hK91 K91
      refine wp_seq_k fun K92 hK92 => ?_
      refine reg_q tabOK hk hh [] [0, 5, 6, 7, 8, 9, 10, 11] rfl trivial (fun a hk => ?_)
      refine hK92 a w ?_; try clear hK92 K92
      refine wp_seq_k fun K93 hK93 => ?_
      refine wp_seq_k fun K94 hK94 => ?_
      refine reg_q tabOK hk hh [] [0, 5, 6, 7, 8, 9, 10, 11, 12] rfl trivial (fun a hk => ?_)
      refine hK94 a w ?_; try clear hK94 K94
      refine wp_block ?_
      replace hh := hh.picks [4, 4, 2, 2, 0, 0] rfl
      replace hk := hk.keep [0, 5, 6, 7, 8, 9, 10, 11, 12] rfl
      refine code_loop (α := Nat) (fun (m : Nat) (E : Env) (L : List Assn) => ∃ (i : Nat) (n : Nat), E = [(0, S sa), (5, u142), (6, u143), (7, u144), (8, u145), (9, u146), (10, u147), (11, .int .i64 (n : Int)), (12, .int .i64 (i : Int))] ∧ L = [Own 26 5 u142 ((parseO sa).1.length) (actC (parseO sa).1), Own 3 1 u143 ((parseO sa).2.length) (intC (parseO sa).2), Own 26 5 u144 ((parseO sb).1.length) (actC (parseO sb).1), Own 3 1 u145 ((parseO sb).2.length) (intC (parseO sb).2), Own 26 5 u146 ((parseO ((sa ++ [10]) ++ sb)).1.length) (actC (parseO ((sa ++ [10]) ++ sb)).1), Own 3 1 u147 ((parseO ((sa ++ [10]) ++ sb)).2.length) (intC (parseO ((sa ++ [10]) ++ sb)).2)] ++ R ∧ (i ≤ sa.length) ∧ (n ≤ 1 + i) ∧ (n = 1 + (sa.take i).count 10) ∧ m = sa.length - i) id _ hk hh ⟨0, 1, rfl, rfl, (by omega), (by omega), (by simp), rfl⟩ ?_
      clear hk hh
      rintro _ _ _ a w ⟨i, n, rfl, hL, hi, hni, hcn, rfl⟩ hk hh; rw [hL] at hh; clear hL
      refine wp_seq_k fun K95 hK95 => ?_
      refine wp_seq_k fun K96 hK96 => ?_
      refine reg_q tabOK hk hh [] [0, 5, 6, 7, 8, 9, 10, 11, 12, 46] rfl trivial (fun a hk => ?_)
      refine hK96 a w ?_; try clear hK96 K96
      refine code_cond hk rfl (fun c148 => ?_) (fun c148 => ?_)
      · replace c148 : (i : Int) < (sa.length : Int) := (of_decide_eq_true c148)
        refine wp_skip ?_
        refine hK95 a w ?_; try clear hK95 K95
        refine wp_seq_k fun K97 hK97 => ?_
        refine wp_block ?_
        refine wp_seq_k fun K98 hK98 => ?_
        refine reg_q tabOK hk hh [(2, .int .u8 ((sa.getD i 0).toNat : Int))] [0, 5, 6, 7, 8, 9, 10, 11, 12, 52] rfl ?_ (fun a hk => ?_)
        · exact ⟨ob_index tabOK rfl rfl rfl (by omega) (getD_at (by omega)), trivial⟩
        refine hK98 a w ?_; try clear hK98 K98
        refine code_cond hk rfl (fun c149 => ?_) (fun c149 => ?_)
        · replace c149 : ((sa.getD i 0).toNat : Int) = 10 := (c_et c149)
          refine reg_q tabOK hk hh [(1, .int .i64 ((n : Int) + 1))] [0, 5, 6, 7, 8, 9, 10, 11, 12] rfl ?_ (fun a hk => ?_)
          · exact ⟨ob_eq tabOK rfl (eq_i64 (by omega)), trivial⟩
          refine blk_nm ?_
          refine hK97 a w ?_; try clear hK97 K97
          refine reg_q tabOK hk hh [(1, .int .i64 ((i : Int) + 1))] [0, 5, 6, 7, 8, 9, 10, 11, 12] rfl ?_ (fun a hk => ?_)
          · exact ⟨ob_eq tabOK rfl (eq_i64 (by omega)), trivial⟩
          refine then_nm ?_
          exact ⟨_, _, _, ⟨i + 1, n + 1, rfl, rfl, (by omega), (by omega), (by have := count_hit (i := i) (by omega) c149; omega), rfl⟩, (by simp only [id]; omega), hk.keep [0, 5, 6, 7, 8, 9, 10, 11, 12] rfl, hh⟩
        · replace c149 : ¬ (((sa.getD i 0).toNat : Int) = 10) := (c_ef c149)
          refine wp_skip ?_
          refine blk_nm ?_
          refine hK97 a w ?_; try clear hK97 K97
          refine reg_q tabOK hk hh [(1, .int .i64 ((i : Int) + 1))] [0, 5, 6, 7, 8, 9, 10, 11, 12] rfl ?_ (fun a hk => ?_)
          · exact ⟨ob_eq tabOK rfl (eq_i64 (by omega)), trivial⟩
          refine then_nm ?_
          exact ⟨_, _, _, ⟨i + 1, n, rfl, rfl, (by omega), (by omega), (by have := count_miss (i := i) (by omega) c149; omega), rfl⟩, (by simp only [id]; omega), hk.keep [0, 5, 6, 7, 8, 9, 10, 11, 12] rfl, hh⟩
      · replace c148 : ¬ ((i : Int) < (sa.length : Int)) := (of_decide_eq_false c148)
        refine wp_exit ?_
        refine then_exit ?_
        refine then_exit ?_
        refine blk_out ?_
        refine hK93 a w ?_; try clear hK93 K93
        refine wp_seq_k fun K99 hK99 => ?_
        refine wp_seq_k fun K100 hK100 => ?_
        have hns : n = (spl 10 sa).length := by rw [hcn]; exact count_end (by omega)
        by_cases c150 : ((parseO ((sa ++ [10]) ++ sb)).1.length : Int) = ((parseO sa).1.length : Int) + ((parseO sb).1.length : Int)
        · refine reg_q tabOK hk hh [(1, .int .i64 ((parseO ((sa ++ [10]) ++ sb)).1.length : Int)), (3, .int .i64 ((parseO sa).1.length : Int)), (5, .int .i64 ((parseO sb).1.length : Int)), (6, .int .i64 (((parseO sa).1.length : Int) + ((parseO sb).1.length : Int))), (7, .bool false), (10, .int .i64 ((parseO ((sa ++ [10]) ++ sb)).2.length : Int)), (12, .int .i64 ((parseO sa).2.length : Int)), (14, .int .i64 ((parseO sb).2.length : Int)), (15, .int .i64 (((parseO sa).2.length : Int) + ((parseO sb).2.length : Int)))] [5, 6, 7, 8, 9, 10, 11, 72] rfl ?_ (fun a hk => ?_)
          · exact ⟨ob_lenOwn tabOK 4 rfl rfl rfl, ob_lenOwn tabOK 0 rfl rfl rfl, ob_lenOwn tabOK 2 rfl rfl rfl, ob_eq tabOK rfl (eq_i64 (by omega)), ob_eq tabOK rfl (v_nf c150), ob_lenOwn tabOK 5 rfl rfl rfl, ob_lenOwn tabOK 1 rfl rfl rfl, ob_lenOwn tabOK 3 rfl rfl rfl, ob_eq tabOK rfl (eq_i64 (by omega)), trivial⟩
          refine hK100 a w ?_; try clear hK100 K100
          refine code_cond hk rfl (fun c151 => ?_) (fun c151 => ?_)
          · replace c151 : ¬ (((parseO ((sa ++ [10]) ++ sb)).2.length : Int) = ((parseO sa).2.length : Int) + ((parseO sb).2.length : Int)) := (c_nt c151)
            exfalso; omega
          · replace c151 : ((parseO ((sa ++ [10]) ++ sb)).2.length : Int) = ((parseO sa).2.length : Int) + ((parseO sb).2.length : Int) := (c_nf c151)
            refine wp_skip ?_
            refine hK99 a w ?_; try clear hK99 K99
            refine wp_seq_k fun K101 hK101 => ?_
            refine wp_seq_k fun K102 hK102 => ?_
            refine reg_q tabOK hk hh [(1, .int .i64 ((parseO ((sa ++ [10]) ++ sb)).1.length : Int))] [5, 6, 7, 8, 9, 10, 11, 74, 75] rfl ?_ (fun a hk => ?_)
            · exact ⟨ob_lenOwn tabOK 4 rfl rfl rfl, trivial⟩
            refine hK102 a w ?_; try clear hK102 K102
            refine wp_block ?_
            replace hk := hk.keep [5, 6, 7, 8, 9, 10, 11, 74, 75] rfl
            refine code_loop (α := Nat) (fun (m : Nat) (E : Env) (L : List Assn) => ∃ (i : Nat), E = [(5, u142), (6, u143), (7, u144), (8, u145), (9, u146), (10, u147), (11, .int .i64 (n : Int)), (74, .int .i64 ((parseO ((sa ++ [10]) ++ sb)).1.length : Int)), (75, .int .i64 (i : Int))] ∧ L = [Own 26 5 u142 ((parseO sa).1.length) (actC (parseO sa).1), Own 3 1 u143 ((parseO sa).2.length) (intC (parseO sa).2), Own 26 5 u144 ((parseO sb).1.length) (actC (parseO sb).1), Own 3 1 u145 ((parseO sb).2.length) (intC (parseO sb).2), Own 26 5 u146 ((parseO ((sa ++ [10]) ++ sb)).1.length) (actC (parseO ((sa ++ [10]) ++ sb)).1), Own 3 1 u147 ((parseO ((sa ++ [10]) ++ sb)).2.length) (intC (parseO ((sa ++ [10]) ++ sb)).2)] ++ R ∧ (i ≤ (parseO (sa ++ [10] ++ sb)).1.length) ∧ m = (parseO (sa ++ [10] ++ sb)).1.length - i) id _ hk hh ⟨0, rfl, rfl, (by omega), rfl⟩ ?_
            clear hk hh
            rintro _ _ _ a w ⟨i, rfl, hL, hi, rfl⟩ hk hh; rw [hL] at hh; clear hL
            refine wp_seq_k fun K103 hK103 => ?_
            refine reg_q tabOK hk hh [] [5, 6, 7, 8, 9, 10, 11, 74, 75, 76] rfl trivial (fun a hk => ?_)
            refine hK103 a w ?_; try clear hK103 K103
            refine wp_seq_k fun K104 hK104 => ?_
            refine code_cond hk rfl (fun c152 => ?_) (fun c152 => ?_)
            · replace c152 : (i : Int) < ((parseO ((sa ++ [10]) ++ sb)).1.length : Int) := (of_decide_eq_true c152)
              refine wp_skip ?_
              refine hK104 a w ?_; try clear hK104 K104
              refine wp_seq_k fun K105 hK105 => ?_
              refine wp_block ?_
              refine wp_seq_k fun K106 hK106 => ?_
              refine reg_q tabOK hk hh [] [5, 6, 7, 8, 9, 10, 11, 13, 74, 75] rfl trivial (fun a hk => ?_)
              refine hK106 a w ?_; try clear hK106 K106
              refine wp_seq_k fun K107 hK107 => ?_
              by_cases c153 : (i : Int) < ((parseO sa).1.length : Int)
              · have hx := own_ne (hh.at_ 4 rfl) (by omega)
                clear hh; obtain ⟨b154, cap155, sp156, hu, hcap155, hH⟩ := hx; subst hu; have hh := hH; clear hH
                have hx := own_ne (hh.at_ 1 rfl) (by omega)
                clear hh; obtain ⟨b157, cap158, sp159, hu, hcap158, hH⟩ := hx; subst hu; have hh := hH; clear hH
                by_cases c160 : ((parseO ((sa ++ [10]) ++ sb)).1.getD i zA) = ((parseO sa).1.getD i zA)
                · by_cases c161 : (i : Int) ≥ ((parseO sa).1.length : Int)
                  · exfalso; omega
                  · refine reg_d tabOK (by kernel_rfl) hk hh [] [5, 6, 7, 8, 9, 10, 11, 74, 75, 112] rfl 0 [(3, .bool true), (7, .pointer (some ⟨b154, i * 5, none⟩)), (8, .agg ⟨[.int .i64 (((parseO ((sa ++ [10]) ++ sb)).1.getD i zA).k), .int .i64 (((parseO ((sa ++ [10]) ++ sb)).1.getD i zA).a), .int .i64 (((parseO ((sa ++ [10]) ++ sb)).1.getD i zA).b), .int .i64 (((parseO ((sa ++ [10]) ++ sb)).1.getD i zA).n), S (((parseO ((sa ++ [10]) ++ sb)).1.getD i zA).s)]⟩), (11, .pointer (some ⟨b157, i * 5, none⟩)), (12, .agg ⟨[.int .i64 (((parseO sa).1.getD i zA).k), .int .i64 (((parseO sa).1.getD i zA).a), .int .i64 (((parseO sa).1.getD i zA).b), .int .i64 (((parseO sa).1.getD i zA).n), S (((parseO sa).1.getD i zA).s)]⟩), (13, .bool false), (19, .bool false)] ?_
                    refine chain_fin rfl ?_ (fun a w hk hh => ?_)
                    · exact ⟨ob_eq tabOK rfl (v_dt c153), ob_indexAddr tabOK (i * 5) rfl rfl rfl rfl (by omega) (by omega) (by show 0 + ((i : Int) : Int).toNat * 5 = i * 5; omega), ob_loadN tabOK 1 rfl rfl rfl rfl (acts_at (by omega)), ob_indexAddr tabOK (i * 5) rfl rfl rfl rfl (by omega) (by omega) (by show 0 + ((i : Int) : Int).toNat * 5 = i * 5; omega), ob_loadN tabOK 0 rfl rfl rfl rfl (acts_at (by omega)), ob_conv (ob_conv (ob_neS tabOK eqOK rfl rfl rfl rfl) (act_ne ((parseO ((sa ++ [10]) ++ sb)).1.getD i zA) ((parseO sa).1.getD i zA))) (v_not (v_dt c160)), ob_eq tabOK rfl (v_df c161), trivial⟩
                    refine hK107 a w ?_; try clear hK107 K107
                    refine code_cond hk rfl (fun h => by cases h) (fun _ => ?_)
                    refine wp_skip ?_
                    refine blk_nm ?_
                    refine hK105 a w ?_; try clear hK105 K105
                    refine reg_q tabOK hk hh [(0, .int .i64 ((i : Int) + 1))] [5, 6, 7, 8, 9, 10, 11, 74, 75] rfl ?_ (fun a hk => ?_)
                    · exact ⟨ob_eq tabOK rfl (eq_i64 (by omega)), trivial⟩
                    replace hh := own_again hcap155 (hh.at_ 1 rfl)
                    replace hh := own_again hcap158 (hh.at_ 1 rfl)
                    replace hh := hh.picks [0, 1, 1, 1, 0, 0] rfl
                    refine then_nm ?_
                    exact ⟨_, _, _, ⟨i + 1, rfl, rfl, (by omega), rfl⟩, (by simp only [id]; omega), hk.keep [5, 6, 7, 8, 9, 10, 11, 74, 75] rfl, hh⟩
                · exact absurd (by rw [hp1]; exact app_left (by omega)) c160
              · have hx := own_ne (hh.at_ 4 rfl) (by omega)
                clear hh; obtain ⟨b162, cap163, sp164, hu, hcap163, hH⟩ := hx; subst hu; have hh := hH; clear hH
                by_cases c165 : (i : Int) ≥ ((parseO sa).1.length : Int)
                · have hx := own_ne (hh.at_ 3 rfl) (by omega)
                  clear hh; obtain ⟨b166, cap167, sp168, hu, hcap167, hH⟩ := hx; subst hu; have hh := hH; clear hH
                  refine reg_d tabOK (by kernel_rfl) hk hh [] [5, 6, 7, 8, 9, 10, 11, 74, 75, 112] rfl 0 [(2, .int .i64 ((parseO sa).1.length : Int)), (3, .bool false), (18, .int .i64 ((parseO sa).1.length : Int)), (19, .bool true), (23, .pointer (some ⟨b162, i * 5, none⟩)), (24, .agg ⟨[.int .i64 (((parseO ((sa ++ [10]) ++ sb)).1.getD i zA).k), .int .i64 (((parseO ((sa ++ [10]) ++ sb)).1.getD i zA).a), .int .i64 (((parseO ((sa ++ [10]) ++ sb)).1.getD i zA).b), .int .i64 (((parseO ((sa ++ [10]) ++ sb)).1.getD i zA).n), S (((parseO ((sa ++ [10]) ++ sb)).1.getD i zA).s)]⟩), (28, .int .i64 ((parseO sa).1.length : Int)), (29, .int .i64 ((i : Int) - ((parseO sa).1.length : Int))), (30, .pointer (some ⟨b166, ((i : Int) - ((parseO sa).1.length : Int)).toNat * 5, none⟩)), (31, .agg ⟨[.int .i64 (((parseO sb).1.getD ((i : Int) - ((parseO sa).1.length : Int)).toNat zA).k), .int .i64 (((parseO sb).1.getD ((i : Int) - ((parseO sa).1.length : Int)).toNat zA).a), .int .i64 (((parseO sb).1.getD ((i : Int) - ((parseO sa).1.length : Int)).toNat zA).b), .int .i64 (((parseO sb).1.getD ((i : Int) - ((parseO sa).1.length : Int)).toNat zA).n), S (((parseO sb).1.getD ((i : Int) - ((parseO sa).1.length : Int)).toNat zA).s)]⟩), (32, .bool (!(decide (((parseO ((sa ++ [10]) ++ sb)).1.getD i zA) = ((parseO sb).1.getD ((i : Int) - ((parseO sa).1.length : Int)).toNat zA)))))] ?_
                  refine chain_fin rfl ?_ (fun a w hk hh => ?_)
                  · exact ⟨ob_lenOwn tabOK 2 rfl rfl rfl, ob_eq tabOK rfl (v_df c153), ob_lenOwn tabOK 2 rfl rfl rfl, ob_eq tabOK rfl (v_dt c165), ob_indexAddr tabOK (i * 5) rfl rfl rfl rfl (by omega) (by omega) (by show 0 + ((i : Int) : Int).toNat * 5 = i * 5; omega), ob_loadN tabOK 1 rfl rfl rfl rfl (acts_at (by omega)), ob_lenOwn tabOK 2 rfl rfl rfl, ob_eq tabOK rfl (eq_i64 (by omega)), ob_indexAddr tabOK (((i : Int) - ((parseO sa).1.length : Int)).toNat * 5) rfl rfl rfl rfl (by omega) (by omega) (by show 0 + ((i : Int) - ((parseO sa).1.length : Int) : Int).toNat * 5 = ((i : Int) - ((parseO sa).1.length : Int)).toNat * 5; omega), ob_loadN tabOK 0 rfl rfl rfl rfl (acts_at (by omega)), ob_conv (ob_neS tabOK eqOK rfl rfl rfl rfl) (act_ne ((parseO ((sa ++ [10]) ++ sb)).1.getD i zA) ((parseO sb).1.getD ((i : Int) - ((parseO sa).1.length : Int)).toNat zA)), trivial⟩
                  refine hK107 a w ?_; try clear hK107 K107
                  refine code_cond hk rfl (fun c169 => ?_) (fun c169 => ?_)
                  · replace c169 : ¬ (((parseO ((sa ++ [10]) ++ sb)).1.getD i zA) = ((parseO sb).1.getD ((i : Int) - ((parseO sa).1.length : Int)).toNat zA)) := (of_decide_eq_false (c_it c169))
                    exact absurd (by rw [hp1]; exact app_right (by omega) (by omega)) c169
                  · replace c169 : ((parseO ((sa ++ [10]) ++ sb)).1.getD i zA) = ((parseO sb).1.getD ((i : Int) - ((parseO sa).1.length : Int)).toNat zA) := (of_decide_eq_true (c_if c169))
                    refine wp_skip ?_
                    refine blk_nm ?_
                    refine hK105 a w ?_; try clear hK105 K105
                    refine reg_q tabOK hk hh [(0, .int .i64 ((i : Int) + 1))] [5, 6, 7, 8, 9, 10, 11, 74, 75] rfl ?_ (fun a hk => ?_)
                    · exact ⟨ob_eq tabOK rfl (eq_i64 (by omega)), trivial⟩
                    replace hh := own_again hcap163 (hh.at_ 1 rfl)
                    replace hh := own_again hcap167 (hh.at_ 1 rfl)
                    replace hh := hh.picks [2, 2, 0, 1, 0, 0] rfl
                    refine then_nm ?_
                    exact ⟨_, _, _, ⟨i + 1, rfl, rfl, (by omega), rfl⟩, (by simp only [id]; omega), hk.keep [5, 6, 7, 8, 9, 10, 11, 74, 75] rfl, hh⟩
                · exfalso; omega
            · replace c152 : ¬ ((i : Int) < ((parseO ((sa ++ [10]) ++ sb)).1.length : Int)) := (of_decide_eq_false c152)
              refine wp_exit ?_
              refine then_exit ?_
              refine then_exit ?_
              refine blk_out ?_
              refine hK101 a w ?_; try clear hK101 K101
              refine wp_seq_k fun K108 hK108 => ?_
              refine wp_seq_k fun K109 hK109 => ?_
              refine reg_q tabOK hk hh [(1, .int .i64 ((parseO ((sa ++ [10]) ++ sb)).2.length : Int))] [6, 8, 10, 11, 115, 116] rfl ?_ (fun a hk => ?_)
              · exact ⟨ob_lenOwn tabOK 5 rfl rfl rfl, trivial⟩
              refine hK109 a w ?_; try clear hK109 K109
              refine wp_block ?_
              replace hh := (hh.at_ 0 rfl).drop
              replace hh := (hh.at_ 1 rfl).drop
              replace hh := (hh.at_ 2 rfl).drop
              replace hk := hk.keep [6, 8, 10, 11, 115, 116] rfl
              refine code_loop (α := Nat) (fun (m : Nat) (E : Env) (L : List Assn) => ∃ (i : Nat), E = [(6, u143), (8, u145), (10, u147), (11, .int .i64 (n : Int)), (115, .int .i64 ((parseO ((sa ++ [10]) ++ sb)).2.length : Int)), (116, .int .i64 (i : Int))] ∧ L = [Own 3 1 u143 ((parseO sa).2.length) (intC (parseO sa).2), Own 3 1 u145 ((parseO sb).2.length) (intC (parseO sb).2), Own 3 1 u147 ((parseO ((sa ++ [10]) ++ sb)).2.length) (intC (parseO ((sa ++ [10]) ++ sb)).2)] ++ R ∧ (i ≤ (parseO (sa ++ [10] ++ sb)).2.length) ∧ m = (parseO (sa ++ [10] ++ sb)).2.length - i) id _ hk hh ⟨0, rfl, rfl, (by omega), rfl⟩ ?_
              clear hk hh
              rintro _ _ _ a w ⟨i, rfl, hL, hi, rfl⟩ hk hh; rw [hL] at hh; clear hL
              refine wp_seq_k fun K110 hK110 => ?_
              refine reg_q tabOK hk hh [] [6, 8, 10, 11, 115, 116, 117] rfl trivial (fun a hk => ?_)
              refine hK110 a w ?_; try clear hK110 K110
              refine wp_seq_k fun K111 hK111 => ?_
              refine code_cond hk rfl (fun c170 => ?_) (fun c170 => ?_)
              · replace c170 : (i : Int) < ((parseO ((sa ++ [10]) ++ sb)).2.length : Int) := (of_decide_eq_true c170)
                refine wp_skip ?_
                refine hK111 a w ?_; try clear hK111 K111
                refine wp_seq_k fun K112 hK112 => ?_
                refine wp_block ?_
                refine wp_seq_k fun K113 hK113 => ?_
                refine reg_q tabOK hk hh [] [6, 8, 10, 11, 14, 115, 116] rfl trivial (fun a hk => ?_)
                refine hK113 a w ?_; try clear hK113 K113
                refine wp_seq_k fun K114 hK114 => ?_
                by_cases c171 : (i : Int) < ((parseO sa).2.length : Int)
                · have hx := own_ne (hh.at_ 2 rfl) (by omega)
                  clear hh; obtain ⟨b172, cap173, sp174, hu, hcap173, hH⟩ := hx; subst hu; have hh := hH; clear hH
                  have hx := own_ne (hh.at_ 1 rfl) (by omega)
                  clear hh; obtain ⟨b175, cap176, sp177, hu, hcap176, hH⟩ := hx; subst hu; have hh := hH; clear hH
                  by_cases c178 : (parseO ((sa ++ [10]) ++ sb)).2.getD i 0 = (parseO sa).2.getD i 0
                  · by_cases c179 : (i : Int) ≥ ((parseO sa).2.length : Int)
                    · exfalso; omega
                    · refine reg_d tabOK (by kernel_rfl) hk hh [] [6, 8, 10, 11, 115, 116, 155] rfl 0 [(3, .bool true), (7, .pointer (some ⟨b172, i, none⟩)), (8, .int .i64 ((parseO ((sa ++ [10]) ++ sb)).2.getD i 0)), (11, .pointer (some ⟨b175, i, none⟩)), (12, .int .i64 ((parseO sa).2.getD i 0)), (13, .bool false), (19, .bool false)] ?_
                      refine chain_fin rfl ?_ (fun a w hk hh => ?_)
                      · exact ⟨ob_eq tabOK rfl (v_dt c171), ob_indexAddr tabOK (i) rfl rfl rfl rfl (by omega) (by omega) (by show 0 + ((i : Int) : Int).toNat * 1 = i; omega), ob_load tabOK 1 rfl rfl rfl rfl (ints_at (by omega)), ob_indexAddr tabOK (i) rfl rfl rfl rfl (by omega) (by omega) (by show 0 + ((i : Int) : Int).toNat * 1 = i; omega), ob_load tabOK 0 rfl rfl rfl rfl (ints_at (by omega)), ob_eq tabOK rfl (v_nf c178), ob_eq tabOK rfl (v_df c179), trivial⟩
                      refine hK114 a w ?_; try clear hK114 K114
                      refine code_cond hk rfl (fun h => by cases h) (fun _ => ?_)
                      refine wp_skip ?_
                      refine blk_nm ?_
                      refine hK112 a w ?_; try clear hK112 K112
                      refine reg_q tabOK hk hh [(0, .int .i64 ((i : Int) + 1))] [6, 8, 10, 11, 115, 116] rfl ?_ (fun a hk => ?_)
                      · exact ⟨ob_eq tabOK rfl (eq_i64 (by omega)), trivial⟩
                      replace hh := own_again hcap173 (hh.at_ 1 rfl)
                      replace hh := own_again hcap176 (hh.at_ 1 rfl)
                      replace hh := hh.picks [0, 1, 0] rfl
                      refine then_nm ?_
                      exact ⟨_, _, _, ⟨i + 1, rfl, rfl, (by omega), rfl⟩, (by simp only [id]; omega), hk.keep [6, 8, 10, 11, 115, 116] rfl, hh⟩
                  · exact absurd (by rw [hp2]; exact app_left (by omega)) c178
                · have hx := own_ne (hh.at_ 2 rfl) (by omega)
                  clear hh; obtain ⟨b180, cap181, sp182, hu, hcap181, hH⟩ := hx; subst hu; have hh := hH; clear hH
                  by_cases c183 : (i : Int) ≥ ((parseO sa).2.length : Int)
                  · have hx := own_ne (hh.at_ 2 rfl) (by omega)
                    clear hh; obtain ⟨b184, cap185, sp186, hu, hcap185, hH⟩ := hx; subst hu; have hh := hH; clear hH
                    have hr2 := getD_range hq1.2.2 ((i : Int) - ((parseO sa).2.length : Int)).toNat
                    refine reg_d tabOK (by kernel_rfl) hk hh [] [6, 8, 10, 11, 115, 116, 155] rfl 0 [(2, .int .i64 ((parseO sa).2.length : Int)), (3, .bool false), (18, .int .i64 ((parseO sa).2.length : Int)), (19, .bool true), (23, .pointer (some ⟨b180, i, none⟩)), (24, .int .i64 ((parseO ((sa ++ [10]) ++ sb)).2.getD i 0)), (28, .int .i64 ((parseO sa).2.length : Int)), (29, .int .i64 ((i : Int) - ((parseO sa).2.length : Int))), (30, .pointer (some ⟨b184, ((i : Int) - ((parseO sa).2.length : Int)).toNat, none⟩)), (31, .int .i64 ((parseO sb).2.getD (((i : Int) - ((parseO sa).2.length : Int)).toNat) 0)), (33, .int .i64 ((parseO sb).2.getD (((i : Int) - ((parseO sa).2.length : Int)).toNat) 0 + (n : Int)))] ?_
                    refine chain_fin rfl ?_ (fun a w hk hh => ?_)
                    · exact ⟨ob_lenOwn tabOK 2 rfl rfl rfl, ob_eq tabOK rfl (v_df c171), ob_lenOwn tabOK 2 rfl rfl rfl, ob_eq tabOK rfl (v_dt c183), ob_indexAddr tabOK (i) rfl rfl rfl rfl (by omega) (by omega) (by show 0 + ((i : Int) : Int).toNat * 1 = i; omega), ob_load tabOK 1 rfl rfl rfl rfl (ints_at (by omega)), ob_lenOwn tabOK 2 rfl rfl rfl, ob_eq tabOK rfl (eq_i64 (by omega)), ob_indexAddr tabOK (((i : Int) - ((parseO sa).2.length : Int)).toNat) rfl rfl rfl rfl (by omega) (by omega) (by show 0 + ((i : Int) - ((parseO sa).2.length : Int) : Int).toNat * 1 = ((i : Int) - ((parseO sa).2.length : Int)).toNat; omega), ob_load tabOK 0 rfl rfl rfl rfl (ints_at (by omega)), ob_eq tabOK rfl (eq_i64 (by omega)), trivial⟩
                    refine hK114 a w ?_; try clear hK114 K114
                    refine code_cond hk rfl (fun c187 => ?_) (fun c187 => ?_)
                    · replace c187 : ¬ ((parseO ((sa ++ [10]) ++ sb)).2.getD i 0 = (parseO sb).2.getD (((i : Int) - ((parseO sa).2.length : Int)).toNat) 0 + (n : Int)) := (c_nt c187)
                      exact absurd (by rw [hp2, app_right (j := ((i : Int) - ((parseO sa).2.length : Int)).toNat) (by omega) (by omega), map_add (by omega), hns]) c187
                    · replace c187 : (parseO ((sa ++ [10]) ++ sb)).2.getD i 0 = (parseO sb).2.getD (((i : Int) - ((parseO sa).2.length : Int)).toNat) 0 + (n : Int) := (c_nf c187)
                      refine wp_skip ?_
                      refine blk_nm ?_
                      refine hK112 a w ?_; try clear hK112 K112
                      refine reg_q tabOK hk hh [(0, .int .i64 ((i : Int) + 1))] [6, 8, 10, 11, 115, 116] rfl ?_ (fun a hk => ?_)
                      · exact ⟨ob_eq tabOK rfl (eq_i64 (by omega)), trivial⟩
                      replace hh := own_again hcap181 (hh.at_ 1 rfl)
                      replace hh := own_again hcap185 (hh.at_ 1 rfl)
                      replace hh := hh.picks [2, 0, 0] rfl
                      refine then_nm ?_
                      exact ⟨_, _, _, ⟨i + 1, rfl, rfl, (by omega), rfl⟩, (by simp only [id]; omega), hk.keep [6, 8, 10, 11, 115, 116] rfl, hh⟩
                  · exfalso; omega
              · replace c170 : ¬ ((i : Int) < ((parseO ((sa ++ [10]) ++ sb)).2.length : Int)) := (of_decide_eq_false c170)
                refine wp_exit ?_
                refine then_exit ?_
                refine then_exit ?_
                refine blk_out ?_
                refine hK108 a w ?_; try clear hK108 K108
                refine wp_seq_k fun K115 hK115 => ?_
                refine wp_region_lit ?_
                refine seq_eff hk hh rfl rfl (eff_call Tryz.func11 rfl rfl rfl rfl (fun w hh => known_spec (by exact (((hR.cons _).cons _).cons _)) hh)) (fun v L a w hp hk hh => ?_)
                obtain ⟨rfl, hL⟩ := hp; rw [hL] at hh; clear hL
                refine rest_q tabOK (i := 1) hk hh [] [4] rfl trivial (fun a hk => ?_)
                refine hK115 a w ?_; try clear hK115 K115
                refine wp_ret ?_
                refine fin_ret hk (show Tryz.f5.results = ⟨[.tmp 4]⟩ from rfl) (by exact (res_tmp hk rfl .nil)) ?_
                replace hh := (hh.at_ 0 rfl).drop
                replace hh := (hh.at_ 0 rfl).drop
                replace hh := (hh.at_ 0 rfl).drop
                exact ⟨_, _, rfl, ⟨rfl, rfl⟩, hh⟩
        · exfalso; omega

end Go.Hop
