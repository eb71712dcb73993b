/- What is proved here: what a function of the text computes. Printed by program. -/
import Derived.Test.YtompaigbpfekhaaGreatDoorSn0
import Derived.Test.YtompaigbpfekhaaGreatDoorSn6
import Derived.Test.YtompaigbpfekhaaGreatDoorSn7
import Derived.Test.YtompaigbpfekhaaGreatDoorSn8
namespace Go.Hop
open Go.Proofs
set_option maxRecDepth 4000
set_option maxHeartbeats 4000000
theorem parses_spec (s : List UInt8) (hs : s.length ≤ 4000000000) {σ : Sg} {w : World} {R : List Assn} (hR : Lay R) (hh : Holds σ w (R)) :
    Calls Tryz.prog 10 ⟨[S s]⟩ w fun e w' => ∃ v L', e = .returned v ∧ (v = .bool true ∧ L' = R) ∧ Holds σ w' L' := by
  refine enter Tryz.func10 rfl Tryz.ntmps10 rfl fun a hk => ?_
  have hpl := spl_len (c := 10) (l := s)
  refine wp_seq_k fun K1 hK1 => ?_
  refine reg_q tabOK hk hh [] [0] rfl trivial (fun a hk => ?_)
  refine hK1 a w ?_; try clear hK1 K1
  refine wp_seq_k fun K2 hK2 => ?_
  refine wp_region_lit ?_
  refine seq_q tabOK (i := 0) (stop := 1) hk hh [] rfl trivial (fun a hk => ?_)
  refine seq_eff hk hh rfl rfl (eff_call Tryz.func14 rfl rfl rfl rfl (fun w hh => parse_text s (by omega) (by exact hR) hh)) (fun v L a w hp hk hh => ?_)
  obtain ⟨u1, u2, rfl, hL⟩ := hp; rw [hL] at hh; clear hL
  refine rest_q tabOK (i := 2) hk hh [] [0, 3, 4] rfl trivial (fun a hk => ?_)
  refine hK2 a w ?_; try clear hK2 K2
  refine wp_seq_k fun K3 hK3 => ?_
  refine reg_q tabOK hk hh [] [0, 3, 4, 5, 6, 7, 8, 9] rfl trivial (fun a hk => ?_)
  refine hK3 a w ?_; try clear hK3 K3
  refine wp_seq_k fun K4 hK4 => ?_
  refine wp_seq_k fun K5 hK5 => ?_
  refine reg_q tabOK hk hh [] [0, 3, 4, 5, 6, 7, 8, 9, 10] rfl trivial (fun a hk => ?_)
  refine hK5 a w ?_; try clear hK5 K5
  refine wp_block ?_
  replace hk := hk.keep [0, 3, 4, 5, 6, 7, 8, 9, 10] rfl
  refine code_loop (α := Nat) (fun (m : Nat) (E : Env) (L : List Assn) => ∃ (i : Nat) (p : Nat) (n : Nat) (k : Nat) (mb : Nat) (seen : Nat) (u1 : Value) (u2 : Value), E = [(0, S s), (3, u1), (4, u2), (5, .int .i64 (n : Int)), (6, .int .i64 (p : Int)), (7, .int .i64 (k : Int)), (8, .int .i64 (mb : Int)), (9, .int .i64 (seen : Int)), (10, .int .i64 (i : Int))] ∧ L = [Own 26 5 u1 ((parseO s).1.length) (actC (parseO s).1), Own 3 1 u2 ((parseO s).2.length) (intC (parseO s).2)] ++ R ∧ (i ≤ s.length + 1) ∧ (p ≤ i) ∧ (n ≤ i) ∧ (k ≤ n ∧ mb ≤ n) ∧ (seen ≤ 400) ∧ (ScanI s i p n) ∧ (ParI s n k mb seen) ∧ m = s.length + 1 - i) id _ hk hh ⟨0, 0, 0, 0, 0, 0, u1, u2, rfl, rfl, (by omega), (by omega), (by omega), (by omega), (by omega), .start, .start, rfl⟩ ?_
  clear hk hh
  rintro _ _ _ a w ⟨i, p, n, k, mb, seen, u1, u2, rfl, hL, hi, hp, hn, hkn, hsn, sv, pv, rfl⟩ hk hh; rw [hL] at hh; clear hL
  refine wp_seq_k fun K6 hK6 => ?_
  refine wp_seq_k fun K7 hK7 => ?_
  refine reg_q tabOK hk hh [] [0, 3, 4, 5, 6, 7, 8, 9, 10, 22] rfl trivial (fun a hk => ?_)
  refine hK7 a w ?_; try clear hK7 K7
  refine code_cond hk rfl (fun c3 => ?_) (fun c3 => ?_)
  · replace c3 : (i : Int) ≤ (s.length : Int) := (of_decide_eq_true c3)
    refine wp_skip ?_
    refine hK6 a w ?_; try clear hK6 K6
    refine wp_seq_k fun K8 hK8 => ?_
    refine wp_block ?_
    refine wp_seq_k fun K9 hK9 => ?_
    refine wp_seq_k fun K10 hK10 => ?_
    by_cases c4 : (i : Int) < (s.length : Int)
    · refine reg_q tabOK hk hh [(3, .bool true), (7, .int .u8 ((s.getD i 0).toNat : Int))] [0, 3, 4, 5, 6, 7, 8, 9, 10, 34] rfl ?_ (fun a hk => ?_)
      · exact ⟨ob_eq tabOK rfl (v_dt c4), ob_index tabOK rfl rfl rfl (by omega) (getD_at (by omega)), trivial⟩
      refine hK10 a w ?_; try clear hK10 K10
      refine code_cond hk rfl (fun c5 => ?_) (fun c5 => ?_)
      · replace c5 : ¬ (((s.getD i 0).toNat : Int) = 10) := (c_nt c5)
        refine wp_exit ?_
        refine then_exit ?_
        refine blk_out ?_
        refine hK8 a w ?_; try clear hK8 K8
        refine reg_q tabOK hk hh [(1, .int .i64 ((i : Int) + 1))] [0, 3, 4, 5, 6, 7, 8, 9, 10] rfl ?_ (fun a hk => ?_)
        · exact ⟨ob_eq tabOK rfl (eq_i64 (by omega)), trivial⟩
        refine then_nm ?_
        exact ⟨_, _, _, ⟨i + 1, p, n, k, mb, seen, u1, u2, rfl, rfl, (by omega), (by omega), (by omega), (by omega), (by omega), (sv.miss (by omega) (by omega) c5), pv, rfl⟩, (by simp only [id]; omega), hk.keep [0, 3, 4, 5, 6, 7, 8, 9, 10] rfl, hh⟩
      · replace c5 : ((s.getD i 0).toNat : Int) = 10 := (c_nf c5)
        refine wp_skip ?_
        refine hK9 a w ?_; try clear hK9 K9
        refine wp_seq_k fun K11 hK11 => ?_
        obtain ⟨hq1, hq2, hq3⟩ := sv.next (by omega) (fun _ => c5)
        have hxl : ((s.take i).drop p).length ≤ s.length := by rw [List.length_drop, List.length_take]; omega
        refine reg_q tabOK hk hh [(3, S ((s.take i).drop p))] [0, 3, 4, 5, 7, 8, 9, 10, 11] rfl ?_ (fun a hk => ?_)
        · exact ⟨ob_slice_str tabOK rfl rfl rfl rfl (by omega) (by omega) (by omega) (by simp), trivial⟩
        refine hK11 a w ?_; try clear hK11 K11
        refine wp_seq_k fun K12 hK12 => ?_
        refine reg_q tabOK hk hh [(1, .int .i64 ((i : Int) + 1))] [0, 3, 4, 5, 6, 7, 8, 9, 10, 11] rfl ?_ (fun a hk => ?_)
        · exact ⟨ob_eq tabOK rfl (eq_i64 (by omega)), trivial⟩
        refine hK12 a w ?_; try clear hK12 K12
        refine wp_seq_k fun K13 hK13 => ?_
        refine reg_q tabOK hk hh [(1, .int .i64 ((n : Int) + 1))] [0, 3, 4, 5, 6, 7, 8, 9, 10, 11] rfl ?_ (fun a hk => ?_)
        · exact ⟨ob_eq tabOK rfl (eq_i64 (by omega)), trivial⟩
        refine hK13 a w ?_; try clear hK13 K13
        refine wp_seq_k fun K14 hK14 => ?_
        refine wp_seq_k fun K15 hK15 => ?_
        by_cases c6 : (s.take i).drop p = []
        · refine reg_q tabOK hk hh [(1, .bool true)] [0, 3, 4, 5, 6, 7, 8, 9, 10, 11, 48] rfl ?_ (fun a hk => ?_)
          · exact ⟨ob_eq tabOK rfl (v_et c6), trivial⟩
          refine hK15 a w ?_; try clear hK15 K15
          refine code_cond hk rfl (fun _ => ?_) (fun h => by cases h)
          refine wp_exit ?_
          refine then_exit ?_
          refine blk_out ?_
          refine hK8 a w ?_; try clear hK8 K8
          refine reg_q tabOK hk hh [(1, .int .i64 ((i : Int) + 1))] [0, 3, 4, 5, 6, 7, 8, 9, 10] rfl ?_ (fun a hk => ?_)
          · exact ⟨ob_eq tabOK rfl (eq_i64 (by omega)), trivial⟩
          refine then_nm ?_
          exact ⟨_, _, _, ⟨i + 1, i + 1, n + 1, k, mb, seen, u1, u2, rfl, rfl, (by omega), (by omega), (by omega), (by omega), (by omega), hq1, (pv.empty hq2 hq3 c6), rfl⟩, (by simp only [id]; omega), hk.keep [0, 3, 4, 5, 6, 7, 8, 9, 10] rfl, hh⟩
        · refine reg_q tabOK hk hh [(1, .bool false)] [0, 3, 4, 5, 6, 7, 8, 9, 10, 11, 48] rfl ?_ (fun a hk => ?_)
          · exact ⟨ob_eq tabOK rfl (v_ef c6), trivial⟩
          refine hK15 a w ?_; try clear hK15 K15
          refine code_cond hk rfl (fun c7 => ?_) (fun c7 => ?_)
          · replace c7 : (seen : Int) ≥ 400 := (of_decide_eq_true c7)
            refine wp_exit ?_
            refine then_exit ?_
            refine blk_out ?_
            refine hK8 a w ?_; try clear hK8 K8
            refine reg_q tabOK hk hh [(1, .int .i64 ((i : Int) + 1))] [0, 3, 4, 5, 6, 7, 8, 9, 10] rfl ?_ (fun a hk => ?_)
            · exact ⟨ob_eq tabOK rfl (eq_i64 (by omega)), trivial⟩
            refine then_nm ?_
            exact ⟨_, _, _, ⟨i + 1, i + 1, n + 1, k, mb, seen, u1, u2, rfl, rfl, (by omega), (by omega), (by omega), (by omega), (by omega), hq1, (pv.full (by omega) c7), rfl⟩, (by simp only [id]; omega), hk.keep [0, 3, 4, 5, 6, 7, 8, 9, 10] rfl, hh⟩
          · replace c7 : ¬ ((seen : Int) ≥ 400) := (of_decide_eq_false c7)
            refine wp_skip ?_
            refine hK14 a w ?_; try clear hK14 K14
            refine wp_seq_k fun K16 hK16 => ?_
            refine reg_q tabOK hk hh [(1, .int .i64 ((seen : Int) + 1))] [0, 3, 4, 5, 6, 7, 8, 9, 10, 11] rfl ?_ (fun a hk => ?_)
            · exact ⟨ob_eq tabOK rfl (eq_i64 (by omega)), trivial⟩
            refine hK16 a w ?_; try clear hK16 K16
            refine wp_seq_k fun K17 hK17 => ?_
            refine wp_region_lit ?_
            refine seq_q tabOK (i := 0) (stop := 1) hk hh [] rfl trivial (fun a hk => ?_)
            refine seq_eff hk hh rfl rfl (eff_call Tryz.func16 rfl rfl rfl rfl (fun w hh => lline_spec ((s.take i).drop p) (by first | exact hs | exact hw0 _ | omega) σ w _ hh)) (fun v L a w hp hk hh => ?_)
            obtain ⟨x8, ok9, rfl, hL, hlx8, hzx8⟩ := hp; rw [hL] at hh; clear hL
            refine seq_q tabOK (i := 2) (stop := 5) hk hh [] rfl trivial (fun a hk => ?_)
            refine seq_eff hk hh rfl rfl (eff_alloc tabOK rfl) (fun v L a w hp hk hh => ?_)
            obtain ⟨b10, rfl, hL⟩ := hp; rw [hL] at hh; clear hL
            refine seq_eff hk hh rfl rfl (eff_store tabOK 0 rfl rfl rfl rfl rfl rfl rfl (by simp)) (fun v L a w hp hk hh => ?_)
            obtain ⟨rfl, hL⟩ := hp; rw [hL] at hh; clear hL
            refine rest_q tabOK (i := 7) hk hh [] [0, 3, 4, 5, 6, 7, 8, 9, 10, 12, 13] rfl trivial (fun a hk => ?_)
            refine hK17 a w ?_; try clear hK17 K17
            refine wp_seq_k fun K18 hK18 => ?_
            refine reg_q tabOK hk hh [] [0, 3, 4, 5, 6, 7, 8, 9, 10, 12, 56] rfl trivial (fun a hk => ?_)
            refine hK18 a w ?_; try clear hK18 K18
            refine code_cond hk rfl (fun c11 => ?_) (fun c11 => ?_)
            · replace c11 : ok9 = true := c11
              refine wp_seq_k fun K19 hK19 => ?_
              refine wp_seq_k fun K20 hK20 => ?_
              obtain ⟨hr1, hr2, hr3⟩ := pv.act hq2 hq3 c6 c7 (by rw [hlx8, if_pos c11])
              by_cases c12 : (k : Int) ≥ ((parseO s).1.length : Int)
              · exfalso; omega
              · have hx := own_ne (hh.at_ 1 rfl) (by omega)
                clear hh; obtain ⟨b13, cap14, sp15, hu, hcap14, hH⟩ := hx; subst hu; have hh := hH; clear hH
                refine reg_d tabOK (by kernel_rfl) hk hh [] [0, 3, 4, 5, 6, 7, 8, 9, 10, 68] rfl 0 [(3, .bool false), (7, .pointer (some ⟨b13, k * 5, none⟩)), (8, .agg ⟨[.int .i64 (((parseO s).1.getD k zA).k), .int .i64 (((parseO s).1.getD k zA).a), .int .i64 (((parseO s).1.getD k zA).b), .int .i64 (((parseO s).1.getD k zA).n), S (((parseO s).1.getD k zA).s)]⟩), (9, .agg ⟨[.int .i64 x8.k, .int .i64 x8.a, .int .i64 x8.b, .int .i64 x8.n, S x8.s]⟩), (10, .bool (!(decide (((parseO s).1.getD k zA) = x8))))] ?_
                refine chain_fin rfl ?_ (fun a w hk hh => ?_)
                · exact ⟨ob_eq tabOK rfl (v_df c12), ob_indexAddr tabOK (k * 5) rfl rfl rfl rfl (by omega) (by omega) (by show 0 + ((k : Int) : Int).toNat * 5 = k * 5; omega), ob_loadN tabOK 0 rfl rfl rfl rfl (acts_at (by omega)), ob_loadN tabOK 1 rfl rfl rfl rfl rfl, ob_conv (ob_neS tabOK eqOK rfl rfl rfl rfl) (act_ne ((parseO s).1.getD k zA) x8), trivial⟩
                refine hK20 a w ?_; try clear hK20 K20
                refine code_cond hk rfl (fun c16 => ?_) (fun c16 => ?_)
                · replace c16 : ¬ (((parseO s).1.getD k zA) = x8) := (of_decide_eq_false (c_it c16))
                  exact absurd hr2 c16
                · replace c16 : ((parseO s).1.getD k zA) = x8 := (of_decide_eq_true (c_if c16))
                  refine wp_skip ?_
                  refine hK19 a w ?_; try clear hK19 K19
                  refine reg_q tabOK hk hh [(1, .int .i64 ((k : Int) + 1))] [0, 3, 4, 5, 6, 7, 8, 9, 10] rfl ?_ (fun a hk => ?_)
                  · exact ⟨ob_eq tabOK rfl (eq_i64 (by omega)), trivial⟩
                  refine blk_nm ?_
                  refine hK8 a w ?_; try clear hK8 K8
                  refine reg_q tabOK hk hh [(1, .int .i64 ((i : Int) + 1))] [0, 3, 4, 5, 6, 7, 8, 9, 10] rfl ?_ (fun a hk => ?_)
                  · exact ⟨ob_eq tabOK rfl (eq_i64 (by omega)), trivial⟩
                  replace hh := own_again hcap14 (hh.at_ 0 rfl)
                  replace hh := (hh.at_ 1 rfl).drop
                  refine then_nm ?_
                  exact ⟨_, _, _, ⟨i + 1, i + 1, n + 1, k + 1, mb, seen + 1, (.slice (some ⟨b13, 0, none⟩) ((parseO s).1.length) cap14), u2, rfl, rfl, (by omega), (by omega), (by omega), (by omega), (by omega), hq1, hr3, rfl⟩, (by simp only [id]; omega), hk.keep [0, 3, 4, 5, 6, 7, 8, 9, 10] rfl, hh⟩
            · replace c11 : ¬ (ok9 = true) := (by simp [c11])
              refine wp_seq_k fun K21 hK21 => ?_
              refine wp_seq_k fun K22 hK22 => ?_
              obtain ⟨hr1, hr2, hr3⟩ := pv.none hq2 hq3 c6 c7 (by rw [hlx8, if_neg c11])
              by_cases c17 : (mb : Int) ≥ ((parseO s).2.length : Int)
              · exfalso; omega
              · have hx := own_ne (hh.at_ 2 rfl) (by omega)
                clear hh; obtain ⟨b18, cap19, sp20, hu, hcap19, hH⟩ := hx; subst hu; have hh := hH; clear hH
                refine reg_q tabOK hk hh [(3, .bool false), (7, .pointer (some ⟨b18, mb, none⟩)), (8, .int .i64 ((parseO s).2.getD mb 0))] [0, 3, 4, 5, 6, 7, 8, 9, 10, 82] rfl ?_ (fun a hk => ?_)
                · exact ⟨ob_eq tabOK rfl (v_df c17), ob_indexAddr tabOK (mb) rfl rfl rfl rfl (by omega) (by omega) (by show 0 + ((mb : Int) : Int).toNat * 1 = mb; omega), ob_load tabOK 0 rfl rfl rfl rfl (ints_at (by omega)), trivial⟩
                refine hK22 a w ?_; try clear hK22 K22
                refine code_cond hk rfl (fun c21 => ?_) (fun c21 => ?_)
                · replace c21 : ¬ ((parseO s).2.getD mb 0 = (n : Int) + 1) := (c_nt c21)
                  exact absurd (by omega) c21
                · replace c21 : (parseO s).2.getD mb 0 = (n : Int) + 1 := (c_nf c21)
                  refine wp_skip ?_
                  refine hK21 a w ?_; try clear hK21 K21
                  refine reg_q tabOK hk hh [(1, .int .i64 ((mb : Int) + 1))] [0, 3, 4, 5, 6, 7, 8, 9, 10] rfl ?_ (fun a hk => ?_)
                  · exact ⟨ob_eq tabOK rfl (eq_i64 (by omega)), trivial⟩
                  refine blk_nm ?_
                  refine hK8 a w ?_; try clear hK8 K8
                  refine reg_q tabOK hk hh [(1, .int .i64 ((i : Int) + 1))] [0, 3, 4, 5, 6, 7, 8, 9, 10] rfl ?_ (fun a hk => ?_)
                  · exact ⟨ob_eq tabOK rfl (eq_i64 (by omega)), trivial⟩
                  replace hh := own_again hcap19 (hh.at_ 0 rfl)
                  replace hh := (hh.at_ 1 rfl).drop
                  replace hh := hh.picks [1, 0] rfl
                  refine then_nm ?_
                  exact ⟨_, _, _, ⟨i + 1, i + 1, n + 1, k, mb + 1, seen + 1, u1, (.slice (some ⟨b18, 0, none⟩) ((parseO s).2.length) cap19), rfl, rfl, (by omega), (by omega), (by omega), (by omega), (by omega), hq1, hr3, rfl⟩, (by simp only [id]; omega), hk.keep [0, 3, 4, 5, 6, 7, 8, 9, 10] rfl, hh⟩
    · refine reg_q tabOK hk hh [(3, .bool false)] [0, 3, 4, 5, 6, 7, 8, 9, 10, 34] rfl ?_ (fun a hk => ?_)
      · exact ⟨ob_eq tabOK rfl (v_df c4), trivial⟩
      refine hK10 a w ?_; try clear hK10 K10
      refine code_cond hk rfl (fun h => by cases h) (fun _ => ?_)
      refine wp_skip ?_
      refine hK9 a w ?_; try clear hK9 K9
      refine wp_seq_k fun K23 hK23 => ?_
      obtain ⟨hq1, hq2, hq3⟩ := sv.next (by omega) (fun h => absurd h (by omega))
      have hxl : ((s.take i).drop p).length ≤ s.length := by rw [List.length_drop, List.length_take]; omega
      refine reg_q tabOK hk hh [(3, S ((s.take i).drop p))] [0, 3, 4, 5, 7, 8, 9, 10, 11] rfl ?_ (fun a hk => ?_)
      · exact ⟨ob_slice_str tabOK rfl rfl rfl rfl (by omega) (by omega) (by omega) (by simp), trivial⟩
      refine hK23 a w ?_; try clear hK23 K23
      refine wp_seq_k fun K24 hK24 => ?_
      refine reg_q tabOK hk hh [(1, .int .i64 ((i : Int) + 1))] [0, 3, 4, 5, 6, 7, 8, 9, 10, 11] rfl ?_ (fun a hk => ?_)
      · exact ⟨ob_eq tabOK rfl (eq_i64 (by omega)), trivial⟩
      refine hK24 a w ?_; try clear hK24 K24
      refine wp_seq_k fun K25 hK25 => ?_
      refine reg_q tabOK hk hh [(1, .int .i64 ((n : Int) + 1))] [0, 3, 4, 5, 6, 7, 8, 9, 10, 11] rfl ?_ (fun a hk => ?_)
      · exact ⟨ob_eq tabOK rfl (eq_i64 (by omega)), trivial⟩
      refine hK25 a w ?_; try clear hK25 K25
      refine wp_seq_k fun K26 hK26 => ?_
      refine wp_seq_k fun K27 hK27 => ?_
      by_cases c22 : (s.take i).drop p = []
      · refine reg_q tabOK hk hh [(1, .bool true)] [0, 3, 4, 5, 6, 7, 8, 9, 10, 11, 48] rfl ?_ (fun a hk => ?_)
        · exact ⟨ob_eq tabOK rfl (v_et c22), trivial⟩
        refine hK27 a w ?_; try clear hK27 K27
        refine code_cond hk rfl (fun _ => ?_) (fun h => by cases h)
        refine wp_exit ?_
        refine then_exit ?_
        refine blk_out ?_
        refine hK8 a w ?_; try clear hK8 K8
        refine reg_q tabOK hk hh [(1, .int .i64 ((i : Int) + 1))] [0, 3, 4, 5, 6, 7, 8, 9, 10] rfl ?_ (fun a hk => ?_)
        · exact ⟨ob_eq tabOK rfl (eq_i64 (by omega)), trivial⟩
        refine then_nm ?_
        exact ⟨_, _, _, ⟨i + 1, i + 1, n + 1, k, mb, seen, u1, u2, rfl, rfl, (by omega), (by omega), (by omega), (by omega), (by omega), hq1, (pv.empty hq2 hq3 c22), rfl⟩, (by simp only [id]; omega), hk.keep [0, 3, 4, 5, 6, 7, 8, 9, 10] rfl, hh⟩
      · refine reg_q tabOK hk hh [(1, .bool false)] [0, 3, 4, 5, 6, 7, 8, 9, 10, 11, 48] rfl ?_ (fun a hk => ?_)
        · exact ⟨ob_eq tabOK rfl (v_ef c22), trivial⟩
        refine hK27 a w ?_; try clear hK27 K27
        refine code_cond hk rfl (fun c23 => ?_) (fun c23 => ?_)
        · replace c23 : (seen : Int) ≥ 400 := (of_decide_eq_true c23)
          refine wp_exit ?_
          refine then_exit ?_
          refine blk_out ?_
          refine hK8 a w ?_; try clear hK8 K8
          refine reg_q tabOK hk hh [(1, .int .i64 ((i : Int) + 1))] [0, 3, 4, 5, 6, 7, 8, 9, 10] rfl ?_ (fun a hk => ?_)
          · exact ⟨ob_eq tabOK rfl (eq_i64 (by omega)), trivial⟩
          refine then_nm ?_
          exact ⟨_, _, _, ⟨i + 1, i + 1, n + 1, k, mb, seen, u1, u2, rfl, rfl, (by omega), (by omega), (by omega), (by omega), (by omega), hq1, (pv.full (by omega) c23), rfl⟩, (by simp only [id]; omega), hk.keep [0, 3, 4, 5, 6, 7, 8, 9, 10] rfl, hh⟩
        · replace c23 : ¬ ((seen : Int) ≥ 400) := (of_decide_eq_false c23)
          refine wp_skip ?_
          refine hK26 a w ?_; try clear hK26 K26
          refine wp_seq_k fun K28 hK28 => ?_
          refine reg_q tabOK hk hh [(1, .int .i64 ((seen : Int) + 1))] [0, 3, 4, 5, 6, 7, 8, 9, 10, 11] rfl ?_ (fun a hk => ?_)
          · exact ⟨ob_eq tabOK rfl (eq_i64 (by omega)), trivial⟩
          refine hK28 a w ?_; try clear hK28 K28
          refine wp_seq_k fun K29 hK29 => ?_
          refine wp_region_lit ?_
          refine seq_q tabOK (i := 0) (stop := 1) hk hh [] rfl trivial (fun a hk => ?_)
          refine seq_eff hk hh rfl rfl (eff_call Tryz.func16 rfl rfl rfl rfl (fun w hh => lline_spec ((s.take i).drop p) (by first | exact hs | exact hw0 _ | omega) σ w _ hh)) (fun v L a w hp hk hh => ?_)
          obtain ⟨x24, ok25, rfl, hL, hlx24, hzx24⟩ := hp; rw [hL] at hh; clear hL
          refine seq_q tabOK (i := 2) (stop := 5) hk hh [] rfl trivial (fun a hk => ?_)
          refine seq_eff hk hh rfl rfl (eff_alloc tabOK rfl) (fun v L a w hp hk hh => ?_)
          obtain ⟨b26, rfl, hL⟩ := hp; rw [hL] at hh; clear hL
          refine seq_eff hk hh rfl rfl (eff_store tabOK 0 rfl rfl rfl rfl rfl rfl rfl (by simp)) (fun v L a w hp hk hh => ?_)
          obtain ⟨rfl, hL⟩ := hp; rw [hL] at hh; clear hL
          refine rest_q tabOK (i := 7) hk hh [] [0, 3, 4, 5, 6, 7, 8, 9, 10, 12, 13] rfl trivial (fun a hk => ?_)
          refine hK29 a w ?_; try clear hK29 K29
          refine wp_seq_k fun K30 hK30 => ?_
          refine reg_q tabOK hk hh [] [0, 3, 4, 5, 6, 7, 8, 9, 10, 12, 56] rfl trivial (fun a hk => ?_)
          refine hK30 a w ?_; try clear hK30 K30
          refine code_cond hk rfl (fun c27 => ?_) (fun c27 => ?_)
          · replace c27 : ok25 = true := c27
            refine wp_seq_k fun K31 hK31 => ?_
            refine wp_seq_k fun K32 hK32 => ?_
            obtain ⟨hr1, hr2, hr3⟩ := pv.act hq2 hq3 c22 c23 (by rw [hlx24, if_pos c27])
            by_cases c28 : (k : Int) ≥ ((parseO s).1.length : Int)
            · exfalso; omega
            · have hx := own_ne (hh.at_ 1 rfl) (by omega)
              clear hh; obtain ⟨b29, cap30, sp31, hu, hcap30, hH⟩ := hx; subst hu; have hh := hH; clear hH
              refine reg_d tabOK (by kernel_rfl) hk hh [] [0, 3, 4, 5, 6, 7, 8, 9, 10, 68] rfl 0 [(3, .bool false), (7, .pointer (some ⟨b29, k * 5, none⟩)), (8, .agg ⟨[.int .i64 (((parseO s).1.getD k zA).k), .int .i64 (((parseO s).1.getD k zA).a), .int .i64 (((parseO s).1.getD k zA).b), .int .i64 (((parseO s).1.getD k zA).n), S (((parseO s).1.getD k zA).s)]⟩), (9, .agg ⟨[.int .i64 x24.k, .int .i64 x24.a, .int .i64 x24.b, .int .i64 x24.n, S x24.s]⟩), (10, .bool (!(decide (((parseO s).1.getD k zA) = x24))))] ?_
              refine chain_fin rfl ?_ (fun a w hk hh => ?_)
              · exact ⟨ob_eq tabOK rfl (v_df c28), ob_indexAddr tabOK (k * 5) rfl rfl rfl rfl (by omega) (by omega) (by show 0 + ((k : Int) : Int).toNat * 5 = k * 5; omega), ob_loadN tabOK 0 rfl rfl rfl rfl (acts_at (by omega)), ob_loadN tabOK 1 rfl rfl rfl rfl rfl, ob_conv (ob_neS tabOK eqOK rfl rfl rfl rfl) (act_ne ((parseO s).1.getD k zA) x24), trivial⟩
              refine hK32 a w ?_; try clear hK32 K32
              refine code_cond hk rfl (fun c32 => ?_) (fun c32 => ?_)
              · replace c32 : ¬ (((parseO s).1.getD k zA) = x24) := (of_decide_eq_false (c_it c32))
                exact absurd hr2 c32
              · replace c32 : ((parseO s).1.getD k zA) = x24 := (of_decide_eq_true (c_if c32))
                refine wp_skip ?_
                refine hK31 a w ?_; try clear hK31 K31
                refine reg_q tabOK hk hh [(1, .int .i64 ((k : Int) + 1))] [0, 3, 4, 5, 6, 7, 8, 9, 10] rfl ?_ (fun a hk => ?_)
                · exact ⟨ob_eq tabOK rfl (eq_i64 (by omega)), trivial⟩
                refine blk_nm ?_
                refine hK8 a w ?_; try clear hK8 K8
                refine reg_q tabOK hk hh [(1, .int .i64 ((i : Int) + 1))] [0, 3, 4, 5, 6, 7, 8, 9, 10] rfl ?_ (fun a hk => ?_)
                · exact ⟨ob_eq tabOK rfl (eq_i64 (by omega)), trivial⟩
                replace hh := own_again hcap30 (hh.at_ 0 rfl)
                replace hh := (hh.at_ 1 rfl).drop
                refine then_nm ?_
                exact ⟨_, _, _, ⟨i + 1, i + 1, n + 1, k + 1, mb, seen + 1, (.slice (some ⟨b29, 0, none⟩) ((parseO s).1.length) cap30), u2, rfl, rfl, (by omega), (by omega), (by omega), (by omega), (by omega), hq1, hr3, rfl⟩, (by simp only [id]; omega), hk.keep [0, 3, 4, 5, 6, 7, 8, 9, 10] rfl, hh⟩
          · replace c27 : ¬ (ok25 = true) := (by simp [c27])
            refine wp_seq_k fun K33 hK33 => ?_
            refine wp_seq_k fun K34 hK34 => ?_
            obtain ⟨hr1, hr2, hr3⟩ := pv.none hq2 hq3 c22 c23 (by rw [hlx24, if_neg c27])
            by_cases c33 : (mb : Int) ≥ ((parseO s).2.length : Int)
            · exfalso; omega
            · have hx := own_ne (hh.at_ 2 rfl) (by omega)
              clear hh; obtain ⟨b34, cap35, sp36, hu, hcap35, hH⟩ := hx; subst hu; have hh := hH; clear hH
              refine reg_q tabOK hk hh [(3, .bool false), (7, .pointer (some ⟨b34, mb, none⟩)), (8, .int .i64 ((parseO s).2.getD mb 0))] [0, 3, 4, 5, 6, 7, 8, 9, 10, 82] rfl ?_ (fun a hk => ?_)
              · exact ⟨ob_eq tabOK rfl (v_df c33), ob_indexAddr tabOK (mb) rfl rfl rfl rfl (by omega) (by omega) (by show 0 + ((mb : Int) : Int).toNat * 1 = mb; omega), ob_load tabOK 0 rfl rfl rfl rfl (ints_at (by omega)), trivial⟩
              refine hK34 a w ?_; try clear hK34 K34
              refine code_cond hk rfl (fun c37 => ?_) (fun c37 => ?_)
              · replace c37 : ¬ ((parseO s).2.getD mb 0 = (n : Int) + 1) := (c_nt c37)
                exact absurd (by omega) c37
              · replace c37 : (parseO s).2.getD mb 0 = (n : Int) + 1 := (c_nf c37)
                refine wp_skip ?_
                refine hK33 a w ?_; try clear hK33 K33
                refine reg_q tabOK hk hh [(1, .int .i64 ((mb : Int) + 1))] [0, 3, 4, 5, 6, 7, 8, 9, 10] rfl ?_ (fun a hk => ?_)
                · exact ⟨ob_eq tabOK rfl (eq_i64 (by omega)), trivial⟩
                refine blk_nm ?_
                refine hK8 a w ?_; try clear hK8 K8
                refine reg_q tabOK hk hh [(1, .int .i64 ((i : Int) + 1))] [0, 3, 4, 5, 6, 7, 8, 9, 10] rfl ?_ (fun a hk => ?_)
                · exact ⟨ob_eq tabOK rfl (eq_i64 (by omega)), trivial⟩
                replace hh := own_again hcap35 (hh.at_ 0 rfl)
                replace hh := (hh.at_ 1 rfl).drop
                replace hh := hh.picks [1, 0] rfl
                refine then_nm ?_
                exact ⟨_, _, _, ⟨i + 1, i + 1, n + 1, k, mb + 1, seen + 1, u1, (.slice (some ⟨b34, 0, none⟩) ((parseO s).2.length) cap35), rfl, rfl, (by omega), (by omega), (by omega), (by omega), (by omega), hq1, hr3, rfl⟩, (by simp only [id]; omega), hk.keep [0, 3, 4, 5, 6, 7, 8, 9, 10] rfl, hh⟩
  · replace c3 : ¬ ((i : Int) ≤ (s.length : Int)) := (of_decide_eq_false c3)
    refine wp_exit ?_
    refine then_exit ?_
    refine then_exit ?_
    refine blk_out ?_
    refine hK4 a w ?_; try clear hK4 K4
    refine wp_seq_k fun K35 hK35 => ?_
    obtain ⟨hf1, hf2⟩ := pv.fin (sv.fin (by omega))
    by_cases c38 : (k : Int) = ((parseO s).1.length : Int)
    · refine reg_q tabOK hk hh [(2, .int .i64 ((parseO s).1.length : Int)), (3, .bool true), (7, .int .i64 ((parseO s).2.length : Int))] [2] rfl ?_ (fun a hk => ?_)
      · exact ⟨ob_lenOwn tabOK 0 rfl rfl rfl, ob_eq tabOK rfl (v_et c38), ob_lenOwn tabOK 1 rfl rfl rfl, trivial⟩
      refine hK35 a w ?_; try clear hK35 K35
      refine wp_ret ?_
      refine fin_ret hk (show Tryz.f10.results = ⟨[.tmp 2]⟩ from rfl) (by exact (res_tmp hk rfl .nil)) ?_
      replace hh := (hh.at_ 0 rfl).drop
      replace hh := (hh.at_ 0 rfl).drop
      exact ⟨_, _, rfl, ⟨v_et (by omega), rfl⟩, hh⟩
    · exfalso; omega

end Go.Hop
/- What is proved here: what a function of the text computes. Printed by program. -/
namespace Go.Hop
open Go.Proofs
set_option maxRecDepth 4000
theorem same_spec (A B : List Int) (u : Value) (b2 c2 : Nat) (sp2 : List Value) (hA : A.length ≤ 1000000000) (hB : B.length ≤ 1000000000) (σ : Sg) (w : World) (R : List Assn) (hh : Holds σ w ([Own 3 1 u A.length (intC A), row b2 3 (intC B ++ sp2)] ++ R)) :
    Calls Tryz.prog 21 ⟨[u, .slice (some ⟨b2, 0, none⟩) B.length c2]⟩ w fun e w' => ∃ v L', e = .returned v ∧ (v = .bool (decide (A = B)) ∧ L' = Own 3 1 u A.length (intC A) :: row b2 3 (intC B ++ sp2) :: R) ∧ Holds σ w' L' := by
  refine enter Tryz.func21 rfl Tryz.ntmps21 rfl fun a hk => ?_
  refine wp_seq_k fun K1 hK1 => ?_
  refine reg_q tabOK hk hh [] [0, 1] rfl trivial (fun a hk => ?_)
  refine hK1 a w ?_; try clear hK1 K1
  refine wp_seq_k fun K2 hK2 => ?_
  refine wp_seq_k fun K3 hK3 => ?_
  refine reg_q tabOK hk hh [(1, .int .i64 (A.length : Int))] [0, 1, 10] rfl ?_ (fun a hk => ?_)
  · exact ⟨ob_lenOwn tabOK 0 rfl rfl rfl, trivial⟩
  refine hK3 a w ?_; try clear hK3 K3
  refine code_cond hk rfl (fun c1 => ?_) (fun c1 => ?_)
  · replace c1 : ¬ ((A.length : Int) = (B.length : Int)) := (c_nt c1)
    refine wp_seq_k fun K4 hK4 => ?_
    refine reg_q tabOK hk hh [] [0, 1, 4] rfl trivial (fun a hk => ?_)
    refine hK4 a w ?_; try clear hK4 K4
    refine wp_ret ?_
    refine then_ret ?_
    refine fin_ret hk (show Tryz.f21.results = ⟨[.tmp 4]⟩ from rfl) (by exact (res_tmp hk rfl .nil)) ?_
    refine ⟨_, _, rfl, ⟨?_, rfl⟩, hh⟩
    exact (v_df (fun h => c1 (by rw [h]))).symm
  · replace c1 : (A.length : Int) = (B.length : Int) := (c_nf c1)
    refine wp_skip ?_
    refine hK2 a w ?_; try clear hK2 K2
    refine wp_seq_k fun K5 hK5 => ?_
    refine wp_seq_k fun K6 hK6 => ?_
    refine reg_q tabOK hk hh [] [0, 1, 5] rfl trivial (fun a hk => ?_)
    refine hK6 a w ?_; try clear hK6 K6
    refine wp_block ?_
    replace hk := hk.keep [0, 1, 5] rfl
    refine code_loop (α := Nat) (fun (m : Nat) (E : Env) (L : List Assn) => ∃ (i : Nat), E = [(0, u), (1, .slice (some ⟨b2, 0, none⟩) B.length c2), (5, .int .i64 (i : Int))] ∧ L = [Own 3 1 u A.length (intC A), row b2 3 (intC B ++ sp2)] ++ R ∧ (i ≤ A.length) ∧ (∀ j, j < i → A.getD j 0 = B.getD j 0) ∧ m = A.length - i) id _ hk hh ⟨0, rfl, rfl, (by omega), (fun j hj => by omega), rfl⟩ ?_
    clear hk hh
    rintro _ _ _ a w ⟨i, rfl, hL, hi, inv, rfl⟩ hk hh; rw [hL] at hh; clear hL
    refine wp_seq_k fun K7 hK7 => ?_
    refine wp_seq_k fun K8 hK8 => ?_
    refine reg_q tabOK hk hh [(2, .int .i64 (A.length : Int))] [0, 1, 5, 14] rfl ?_ (fun a hk => ?_)
    · exact ⟨ob_lenOwn tabOK 0 rfl rfl rfl, trivial⟩
    refine hK8 a w ?_; try clear hK8 K8
    refine code_cond hk rfl (fun c2 => ?_) (fun c2 => ?_)
    · replace c2 : (i : Int) < (A.length : Int) := (of_decide_eq_true c2)
      refine wp_skip ?_
      refine hK7 a w ?_; try clear hK7 K7
      refine wp_seq_k fun K9 hK9 => ?_
      refine wp_block ?_
      refine wp_seq_k fun K10 hK10 => ?_
      have hx := own_ne (hh.at_ 0 rfl) (by omega)
      clear hh; obtain ⟨b3, cap4, sp5, hu, hcap4, hh⟩ := hx; subst hu
      refine reg_d tabOK (by kernel_rfl) hk hh [] [0, 1, 5, 25] rfl 0 [(2, .pointer (some ⟨b3, i, none⟩)), (3, .int .i64 (A.getD i 0)), (6, .pointer (some ⟨b2, i, none⟩)), (7, .int .i64 (B.getD i 0))] ?_
      refine chain_fin rfl ?_ (fun a w hk hh => ?_)
      · exact ⟨ob_indexAddr tabOK (i) rfl rfl rfl rfl (by omega) (by omega) (by show 0 + ((i : Int) : Int).toNat * 1 = i; omega), ob_load tabOK 0 rfl rfl rfl rfl (ints_at (by omega)), ob_indexAddr tabOK (i) rfl rfl rfl rfl (by omega) (by omega) (by show 0 + ((i : Int) : Int).toNat * 1 = i; omega), ob_load tabOK 1 rfl rfl rfl rfl (ints_at (by omega)), trivial⟩
      refine hK10 a w ?_; try clear hK10 K10
      refine code_cond hk rfl (fun c6 => ?_) (fun c6 => ?_)
      · replace c6 : ¬ (A.getD i 0 = B.getD i 0) := (c_nt c6)
        refine wp_seq_k fun K11 hK11 => ?_
        refine reg_q tabOK hk hh [] [0, 1, 4, 5] rfl trivial (fun a hk => ?_)
        refine hK11 a w ?_; try clear hK11 K11
        refine wp_ret ?_
        refine blk_ret ?_
        refine then_ret ?_
        refine then_ret ?_
        refine blk_ret ?_
        refine then_ret ?_
        refine fin_ret hk (show Tryz.f21.results = ⟨[.tmp 4]⟩ from rfl) (by exact (res_tmp hk rfl .nil)) ?_
        replace hh := own_again hcap4 (hh.at_ 0 rfl)
        refine ⟨_, _, rfl, ⟨?_, rfl⟩, hh⟩
        exact (v_df (fun h => c6 (by rw [h]))).symm
      · replace c6 : A.getD i 0 = B.getD i 0 := (c_nf c6)
        refine wp_skip ?_
        refine blk_nm ?_
        refine hK9 a w ?_; try clear hK9 K9
        refine reg_q tabOK hk hh [(1, .int .i64 ((i : Int) + 1))] [0, 1, 5] rfl ?_ (fun a hk => ?_)
        · exact ⟨ob_eq tabOK rfl (eq_i64 (by omega)), trivial⟩
        replace hh := own_again hcap4 (hh.at_ 0 rfl)
        refine then_nm ?_
        exact ⟨_, _, _, ⟨i + 1, rfl, rfl, (by omega), (fun j hj => (Nat.lt_succ_iff_lt_or_eq.1 hj).elim (fun h => inv j h) (fun h => by rw [h]; exact c6)), rfl⟩, (by simp only [id]; omega), hk.keep [0, 1, 5] rfl, hh⟩
    · replace c2 : ¬ ((i : Int) < (A.length : Int)) := (of_decide_eq_false c2)
      refine wp_exit ?_
      refine then_exit ?_
      refine then_exit ?_
      refine blk_out ?_
      refine hK5 a w ?_; try clear hK5 K5
      refine wp_seq_k fun K12 hK12 => ?_
      refine reg_q tabOK hk hh [] [4] rfl trivial (fun a hk => ?_)
      refine hK12 a w ?_; try clear hK12 K12
      refine wp_ret ?_
      refine fin_ret hk (show Tryz.f21.results = ⟨[.tmp 4]⟩ from rfl) (by exact (res_tmp hk rfl .nil)) ?_
      refine ⟨_, _, rfl, ⟨?_, rfl⟩, hh⟩
      exact (v_dt (list_ext0 (by omega) inv (by omega))).symm

end Go.Hop
/- What is proved here: what a function of the text computes. Printed by program. -/
namespace Go.Hop
open Go.Proofs
set_option maxRecDepth 4000
theorem run_nil (u : Value) (σ : Sg) (w : World) (R : List Assn) (hh : Holds σ w (R)) :
    Calls Tryz.prog 22 ⟨[.pointer none, u]⟩ w fun e w' => ∃ v L', e = .returned v ∧ (v = .slice none 0 0 ∧ L' = R) ∧ Holds σ w' L' := by
  refine enter Tryz.func22 rfl Tryz.ntmps22 rfl fun a hk => ?_
  refine wp_seq_k fun K1 hK1 => ?_
  refine reg_q tabOK hk hh [] [0, 1] rfl trivial (fun a hk => ?_)
  refine hK1 a w ?_; try clear hK1 K1
  refine wp_seq_k fun K2 hK2 => ?_
  refine reg_q tabOK hk hh [] [0, 1, 5] rfl trivial (fun a hk => ?_)
  refine hK2 a w ?_; try clear hK2 K2
  refine wp_seq_k fun K3 hK3 => ?_
  refine wp_seq_k fun K4 hK4 => ?_
  refine reg_q tabOK hk hh [] [0, 1, 5, 9] rfl trivial (fun a hk => ?_)
  refine hK4 a w ?_; try clear hK4 K4
  refine code_cond hk rfl (fun _ => ?_) (fun h => by cases h)
  refine wp_seq_k fun K5 hK5 => ?_
  refine reg_q tabOK hk hh [] [0, 1, 4, 5] rfl trivial (fun a hk => ?_)
  refine hK5 a w ?_; try clear hK5 K5
  refine wp_ret ?_
  refine then_ret ?_
  refine fin_ret hk (show Tryz.f22.results = ⟨[.tmp 4]⟩ from rfl) (by exact (res_tmp hk rfl .nil)) ?_
  exact ⟨_, _, rfl, ⟨rfl, rfl⟩, hh⟩

end Go.Hop
/- What is proved here: what a function of the text computes. Printed by program. -/
namespace Go.Hop
open Go.Proofs
set_option maxRecDepth 4000
theorem known_spec  {σ : Sg} {w : World} {R : List Assn} (hR : Lay R) (hh : Holds σ w (R)) :
    Calls Tryz.prog 11 ⟨[]⟩ w fun e w' => ∃ v L', e = .returned v ∧ (v = .bool true ∧ L' = R) ∧ Holds σ w' L' := by
  refine enter Tryz.func11 rfl Tryz.ntmps11 rfl fun a hk => ?_
  refine wp_seq_k fun K1 hK1 => ?_
  refine reg_q tabOK hk hh [] [] rfl trivial (fun a hk => ?_)
  refine hK1 a w ?_; try clear hK1 K1
  refine wp_seq_k fun K2 hK2 => ?_
  refine wp_region_lit ?_
  refine seq_eff hk hh rfl rfl (eff_call Tryz.func15 rfl rfl rfl rfl (fun w hh => line_spec [108, 101, 97, 100, 32, 48] (by decide) (by exact hR) hh)) (fun v L a w hp hk hh => ?_)
  obtain ⟨x, ok, rfl, hL, hl, hz⟩ := hp; rw [hL] at hh; clear hL
  obtain ⟨rfl, rfl⟩ := line_known hl line_lead0
  clear hl hz
  refine seq_q tabOK (i := 1) (stop := 4) hk hh [] rfl trivial (fun a hk => ?_)
  refine seq_eff hk hh rfl rfl (eff_alloc tabOK rfl) (fun v L a w hp hk hh => ?_)
  obtain ⟨b1, rfl, hL⟩ := hp; rw [hL] at hh; clear hL
  refine seq_eff hk hh rfl rfl (eff_store tabOK 0 rfl rfl rfl rfl rfl rfl rfl (by simp)) (fun v L a w hp hk hh => ?_)
  obtain ⟨rfl, hL⟩ := hp; rw [hL] at hh; clear hL
  refine rest_q tabOK (i := 6) hk hh [] [1, 2] rfl trivial (fun a hk => ?_)
  refine hK2 a w ?_; try clear hK2 K2
  refine wp_seq_k fun K3 hK3 => ?_
  refine wp_region_lit ?_
  refine seq_eff hk hh rfl rfl (eff_call Tryz.func15 rfl rfl rfl rfl (fun w hh => line_spec [108, 101, 97, 100] (by decide) (by exact (hR.cons _)) hh)) (fun v L a w hp hk hh => ?_)
  obtain ⟨x, ok, rfl, hL, hl, hz⟩ := hp; rw [hL] at hh; clear hL
  obtain ⟨rfl, rfl⟩ := line_unknown hl hz line_lead
  clear hl hz
  refine seq_q tabOK (i := 1) (stop := 4) hk hh [] rfl trivial (fun a hk => ?_)
  refine seq_eff hk hh rfl rfl (eff_alloc tabOK rfl) (fun v L a w hp hk hh => ?_)
  obtain ⟨b2, rfl, hL⟩ := hp; rw [hL] at hh; clear hL
  refine seq_eff hk hh rfl rfl (eff_store tabOK 0 rfl rfl rfl rfl rfl rfl rfl (by simp)) (fun v L a w hp hk hh => ?_)
  obtain ⟨rfl, hL⟩ := hp; rw [hL] at hh; clear hL
  refine rest_q tabOK (i := 6) hk hh [] [1, 2, 4] rfl trivial (fun a hk => ?_)
  refine hK3 a w ?_; try clear hK3 K3
  refine wp_seq_k fun K4 hK4 => ?_
  refine wp_region_lit ?_
  refine seq_eff hk hh rfl rfl (eff_call Tryz.func14 rfl rfl rfl rfl (fun w hh => parse_text knownT (by decide) (by exact ((hR.cons _).cons _)) hh)) (fun v L a w hp hk hh => ?_)
  obtain ⟨u1, u2, rfl, hL⟩ := hp; rw [hL, parse_known] at hh; clear hL
  change Holds σ w (Own 26 5 u1 2 (actC [ingA, tikA]) :: Own 3 1 u2 [(3 : Int)].length (intC [3]) :: _) at hh
  have hx := own_ne (hh.at_ 0 rfl) (by omega)
  clear hh; obtain ⟨b3, cap4, sp5, hu, hcap4, hh⟩ := hx; subst hu
  refine rest_q tabOK (i := 1) hk hh [] [1, 2, 4, 5, 6] rfl trivial (fun a hk => ?_)
  refine hK4 a w ?_; try clear hK4 K4
  refine wp_seq_k fun K5 hK5 => ?_
  refine wp_region_lit ?_
  refine seq_q tabOK (i := 0) (stop := 31) hk hh [(2, .agg ⟨[.int .i64 8, .int .i64 0, .int .i64 0, .int .i64 0, S []]⟩), (4, .bool true), (17, .pointer (some ⟨b3, 0, none⟩)), (19, S [97, 61, 49]), (20, .bool true), (24, .pointer (some ⟨b3, 0, none⟩)), (26, .int .i64 5)] rfl ?_ (fun a hk => ?_)
  · exact ⟨ob_loadN tabOK 3 rfl rfl rfl rfl rfl, ob_conv (ob_eqS tabOK eqOK rfl rfl rfl rfl) ((act_eq (⟨8, 0, 0, 0, []⟩ : ActL) (⟨8, 0, 0, 0, []⟩ : ActL)).trans (v_dt rfl)), ob_indexAddr tabOK (0) rfl rfl rfl rfl (by omega) (by omega) (by show 0 + (0 : Int).toNat * 5 = 0; omega), ob_load tabOK 0 rfl rfl rfl rfl rfl, ob_eq tabOK rfl (v_et rfl), ob_indexAddr tabOK (0) rfl rfl rfl rfl (by omega) (by omega) (by show 0 + (0 : Int).toNat * 5 = 0; omega), ob_load tabOK 0 rfl rfl rfl rfl rfl, trivial⟩
  refine seq_eff hk hh rfl rfl (eff_lit tabOK rfl rfl rfl (by decide) rfl) (fun v L a w hp hk hh => ?_)
  obtain ⟨b6, rfl, hL⟩ := hp; rw [hL] at hh; clear hL
  refine seq_eff hk hh rfl rfl (eff_call Tryz.func21 rfl rfl rfl rfl (fun w hh => same_spec [3] [3] u2 b6 1 [] (by decide) (by decide) σ w _ (hh.picks [2, 0] rfl))) (fun v L a w hp hk hh => ?_)
  obtain ⟨hv, hL⟩ := hp; rw [hL] at hh; clear hL; have hv2 := hv.trans (v_dt rfl); clear hv; subst hv2
  refine seq_q tabOK (i := 33) (stop := 36) hk hh [] rfl trivial (fun a hk => ?_)
  refine seq_eff hk hh rfl rfl (eff_call Tryz.func8 rfl rfl rfl rfl (fun w hh => text_spec ⟨0, 0, 0, 0, []⟩ zero_ok (by exact (((((hR.cons _).cons _).cons _).cons _).cons _)) hh)) (fun v L a w hp hk hh => ?_)
  obtain ⟨hv, hL⟩ := hp; rw [hL] at hh; clear hL; rw [text_zero] at hv; subst hv
  refine seq_q tabOK (i := 37) (stop := 43) hk hh [(37, .bool true), (41, .pointer (some ⟨b3, 0, none⟩)), (42, .agg ⟨[.int .i64 9, .int .i64 1, .int .i64 0, .int .i64 5, S [97, 61, 49]]⟩)] rfl ?_ (fun a hk => ?_)
  · exact ⟨ob_eq tabOK rfl (v_et rfl), ob_indexAddr tabOK (0) rfl rfl rfl rfl (by omega) (by omega) (by show 0 + (0 : Int).toNat * 5 = 0; omega), ob_loadN tabOK 2 rfl rfl rfl rfl rfl, trivial⟩
  refine seq_eff hk hh rfl rfl (eff_call Tryz.func8 rfl rfl rfl rfl (fun w hh => text_spec ingA ing_ok (by exact (((((hR.cons _).cons _).cons _).cons _).cons _)) hh)) (fun v L a w hp hk hh => ?_)
  obtain ⟨hv, hL⟩ := hp; rw [hL] at hh; clear hL; rw [text_ing] at hv; subst hv
  refine seq_q tabOK (i := 44) (stop := 48) hk hh [(44, .bool true)] rfl ?_ (fun a hk => ?_)
  · exact ⟨ob_eq tabOK rfl (v_et rfl), trivial⟩
  refine seq_eff hk hh rfl rfl (eff_call Tryz.func22 rfl rfl rfl rfl (fun w hh => run_nil _ σ w _ hh)) (fun v L a w hp hk hh => ?_)
  obtain ⟨rfl, hL⟩ := hp; rw [hL] at hh; clear hL
  refine rest_q tabOK (i := 49) hk hh [] [0] rfl trivial (fun a hk => ?_)
  refine hK5 a w ?_; try clear hK5 K5
  refine wp_ret ?_
  refine fin_ret hk (show Tryz.f11.results = ⟨[.tmp 0]⟩ from rfl) (by exact (res_tmp hk rfl .nil)) ?_
  replace hh := (hh.at_ 0 rfl).drop
  replace hh := (hh.at_ 0 rfl).drop
  replace hh := (hh.at_ 0 rfl).drop
  replace hh := (hh.at_ 0 rfl).drop
  replace hh := (hh.at_ 0 rfl).drop
  exact ⟨_, _, rfl, ⟨rfl, rfl⟩, hh⟩

end Go.Hop
/- What is proved here: what a function of the text computes. Printed by program. -/
namespace Go.Hop
open Go.Proofs
set_option maxRecDepth 4000
set_option maxHeartbeats 4000000
theorem numbers_spec  {σ : Sg} {w : World} {R : List Assn} (hR : Lay R) (hh : Holds σ w (R)) :
    Calls Tryz.prog 3 ⟨[]⟩ w fun e w' => ∃ v L', e = .returned v ∧ (v = .bool true ∧ L' = R) ∧ Holds σ w' L' := by
  refine enter Tryz.func3 rfl Tryz.ntmps3 rfl fun a hk => ?_
  refine wp_seq_k fun K1 hK1 => ?_
  refine reg_q tabOK hk hh [] [] rfl trivial (fun a hk => ?_)
  refine hK1 a w ?_; try clear hK1 K1
  refine wp_seq_k fun K2 hK2 => ?_
  refine wp_seq_k fun K3 hK3 => ?_
  refine wp_region_lit ?_
  refine seq_eff hk hh rfl rfl (eff_lit tabOK rfl rfl rfl (by decide) rfl) (fun v L a w hp hk hh => ?_)
  obtain ⟨b1, rfl, hL⟩ := hp; rw [hL] at hh; clear hL
  refine rest_q tabOK (i := 1) hk hh [] [12, 13, 14] rfl trivial (fun a hk => ?_)
  refine hK3 a w ?_; try clear hK3 K3
  refine wp_block ?_
  replace hk := hk.keep [12, 13, 14] rfl
  refine code_loop (α := Nat) (fun (m : Nat) (E : Env) (L : List Assn) => ∃ (i : Nat), E = [(12, .slice (some ⟨b1, 0, none⟩) 15 15), (13, .int .i64 15), (14, .int .i64 (i : Int))] ∧ L = [row b1 9 (numA.map S)] ++ R ∧ (i ≤ 15) ∧ m = 15 - i) id _ hk hh ⟨0, rfl, rfl, (by omega), rfl⟩ ?_
  clear hk hh
  rintro _ _ _ a w ⟨i, rfl, hL, hi, rfl⟩ hk hh; rw [hL] at hh; clear hL
  refine wp_seq_k fun K4 hK4 => ?_
  refine reg_q tabOK hk hh [] [12, 13, 14, 15] rfl trivial (fun a hk => ?_)
  refine hK4 a w ?_; try clear hK4 K4
  refine wp_seq_k fun K5 hK5 => ?_
  refine code_cond hk rfl (fun c2 => ?_) (fun c2 => ?_)
  · replace c2 : (i : Int) < 15 := (of_decide_eq_true c2)
    refine wp_skip ?_
    refine hK5 a w ?_; try clear hK5 K5
    refine wp_seq_k fun K6 hK6 => ?_
    refine wp_block ?_
    refine wp_seq_k fun K7 hK7 => ?_
    refine reg_q tabOK hk hh [(0, .pointer (some ⟨b1, i, none⟩)), (1, S (numA.getD i []))] [2, 12, 13, 14] rfl ?_ (fun a hk => ?_)
    · exact ⟨ob_indexAddr tabOK (i) rfl rfl rfl rfl (by omega) (by omega) (by show 0 + ((i : Int) : Int).toNat * 1 = i; omega), ob_load tabOK 0 rfl rfl rfl rfl (map_S_at (by have := numA_n; omega)), trivial⟩
    refine hK7 a w ?_; try clear hK7 K7
    refine wp_seq_k fun K8 hK8 => ?_
    refine wp_region_lit ?_
    refine seq_eff hk hh rfl rfl (eff_lit tabOK rfl rfl rfl (by decide) rfl) (fun v L a w hp hk hh => ?_)
    obtain ⟨b3, rfl, hL⟩ := hp; rw [hL] at hh; clear hL
    refine rest_q tabOK (i := 1) hk hh [] [2, 12, 13, 14, 18, 19, 20] rfl trivial (fun a hk => ?_)
    refine hK8 a w ?_; try clear hK8 K8
    refine wp_block ?_
    replace hk := hk.keep [2, 12, 13, 14, 18, 19, 20] rfl
    refine code_loop (α := Nat) (fun (m : Nat) (E : Env) (L : List Assn) => ∃ (j : Nat), E = [(2, S (numA.getD i [])), (12, .slice (some ⟨b1, 0, none⟩) 15 15), (13, .int .i64 15), (14, .int .i64 (i : Int)), (18, .slice (some ⟨b3, 0, none⟩) 21 21), (19, .int .i64 21), (20, .int .i64 (j : Int))] ∧ L = [row b3 9 (numB.map S), row b1 9 (numA.map S)] ++ R ∧ (j ≤ 21) ∧ m = 21 - j) id _ hk hh ⟨0, rfl, rfl, (by omega), rfl⟩ ?_
    clear hk hh
    rintro _ _ _ a w ⟨j, rfl, hL, hj, rfl⟩ hk hh; rw [hL] at hh; clear hL
    refine wp_seq_k fun K9 hK9 => ?_
    refine reg_q tabOK hk hh [] [2, 12, 13, 14, 18, 19, 20, 21] rfl trivial (fun a hk => ?_)
    refine hK9 a w ?_; try clear hK9 K9
    refine wp_seq_k fun K10 hK10 => ?_
    refine code_cond hk rfl (fun c4 => ?_) (fun c4 => ?_)
    · replace c4 : (j : Int) < 21 := (of_decide_eq_true c4)
      refine wp_skip ?_
      refine hK10 a w ?_; try clear hK10 K10
      refine wp_seq_k fun K11 hK11 => ?_
      refine wp_block ?_
      refine wp_seq_k fun K12 hK12 => ?_
      refine reg_q tabOK hk hh [(0, .pointer (some ⟨b3, j, none⟩)), (1, S (numB.getD j []))] [2, 4, 12, 13, 14, 18, 19, 20] rfl ?_ (fun a hk => ?_)
      · exact ⟨ob_indexAddr tabOK (j) rfl rfl rfl rfl (by omega) (by omega) (by show 0 + ((j : Int) : Int).toNat * 1 = j; omega), ob_load tabOK 0 rfl rfl rfl rfl (map_S_at (by have := numB_n; omega)), trivial⟩
      refine hK12 a w ?_; try clear hK12 K12
      refine wp_seq_k fun K13 hK13 => ?_
      have hA := numA_len i
      have hB := numB_len j
      refine wp_region_lit ?_
      refine seq_q tabOK (i := 0) (stop := 3) hk hh [(2, S ((numA.getD i []) ++ (numB.getD j [])))] rfl ?_ (fun a hk => ?_)
      · exact ⟨ob_concat rfl rfl (by first | omega | (simp only [List.length_append, List.length_cons, List.length_nil]; omega)), trivial⟩
      refine seq_eff hk hh rfl rfl (eff_call Tryz.func6 rfl rfl rfl rfl (fun w hh => lines_spec ((numA.getD i []) ++ (numB.getD j [])) (by first | omega | (simp only [List.length_append, List.length_cons, List.length_nil]; omega)) (by exact ((hR.cons _).cons _)) hh)) (fun v L a w hp hk hh => ?_)
      obtain ⟨rfl, hL⟩ := hp; rw [hL] at hh; clear hL
      refine rest_q tabOK (i := 4) hk hh [] [2, 12, 13, 14, 18, 19, 20, 28] rfl trivial (fun a hk => ?_)
      refine hK13 a w ?_; try clear hK13 K13
      refine code_cond hk rfl (fun h => by cases h) (fun _ => ?_)
      refine wp_skip ?_
      refine blk_nm ?_
      refine hK11 a w ?_; try clear hK11 K11
      refine reg_q tabOK hk hh [(0, .int .i64 ((j : Int) + 1))] [2, 12, 13, 14, 18, 19, 20] rfl ?_ (fun a hk => ?_)
      · exact ⟨ob_eq tabOK rfl (eq_i64 (by omega)), trivial⟩
      refine then_nm ?_
      exact ⟨_, _, _, ⟨j + 1, rfl, rfl, (by omega), rfl⟩, (by simp only [id]; omega), hk.keep [2, 12, 13, 14, 18, 19, 20] rfl, hh⟩
    · replace c4 : ¬ ((j : Int) < 21) := (of_decide_eq_false c4)
      refine wp_exit ?_
      refine then_exit ?_
      refine then_exit ?_
      refine blk_out ?_
      refine blk_nm ?_
      refine hK6 a w ?_; try clear hK6 K6
      refine reg_q tabOK hk hh [(0, .int .i64 ((i : Int) + 1))] [12, 13, 14] rfl ?_ (fun a hk => ?_)
      · exact ⟨ob_eq tabOK rfl (eq_i64 (by omega)), trivial⟩
      replace hh := (hh.at_ 0 rfl).drop
      refine then_nm ?_
      exact ⟨_, _, _, ⟨i + 1, rfl, rfl, (by omega), rfl⟩, (by simp only [id]; omega), hk.keep [12, 13, 14] rfl, hh⟩
  · replace c2 : ¬ ((i : Int) < 15) := (of_decide_eq_false c2)
    refine wp_exit ?_
    refine then_exit ?_
    refine then_exit ?_
    refine blk_out ?_
    refine hK2 a w ?_; try clear hK2 K2
    refine wp_seq_k fun K14 hK14 => ?_
    refine reg_q tabOK hk hh [] [5] rfl trivial (fun a hk => ?_)
    refine hK14 a w ?_; try clear hK14 K14
    refine wp_seq_k fun K15 hK15 => ?_
    refine wp_seq_k fun K16 hK16 => ?_
    refine reg_q tabOK hk hh [] [5, 6] rfl trivial (fun a hk => ?_)
    refine hK16 a w ?_; try clear hK16 K16
    refine wp_block ?_
    replace hh := (hh.at_ 0 rfl).drop
    replace hk := hk.keep [5, 6] rfl
    refine code_loop (α := Nat) (fun (m : Nat) (E : Env) (L : List Assn) => ∃ (i : Nat) (s : List UInt8), E = [(5, S s), (6, .int .i64 (i : Int))] ∧ L = R ∧ (i ≤ 405) ∧ (s.length ≤ 40 * i) ∧ m = 405 - i) id _ hk hh ⟨0, [], rfl, rfl, (by omega), (by simp), rfl⟩ ?_
    clear hk hh
    rintro _ _ _ a w ⟨i, s, rfl, hL, hi, hs, rfl⟩ hk hh; rw [hL] at hh; clear hL
    refine wp_seq_k fun K17 hK17 => ?_
    refine wp_seq_k fun K18 hK18 => ?_
    refine reg_q tabOK hk hh [] [5, 6, 32] rfl trivial (fun a hk => ?_)
    refine hK18 a w ?_; try clear hK18 K18
    refine code_cond hk rfl (fun c5 => ?_) (fun c5 => ?_)
    · replace c5 : (i : Int) < 405 := (of_decide_eq_true c5)
      refine wp_skip ?_
      refine hK17 a w ?_; try clear hK17 K17
      refine wp_seq_k fun K19 hK19 => ?_
      refine wp_block ?_
      refine wp_seq_k fun K20 hK20 => ?_
      have hit := itoa_len (n := (i : Int)) (by unfold I64; omega)
      refine wp_region_lit ?_
      refine seq_q tabOK (i := 0) (stop := 2) hk hh [] rfl trivial (fun a hk => ?_)
      refine seq_eff hk hh rfl rfl (eff_call Tryz.func7 rfl rfl rfl rfl (fun w hh => number_spec (i : Int) (by first | assumption | (unfold I64; omega)) σ w _ hh)) (fun v L a w hp hk hh => ?_)
      obtain ⟨rfl, hL⟩ := hp; rw [hL] at hh; clear hL
      refine rest_q tabOK (i := 3) hk hh [(3, S ([100, 114, 111, 112, 32] ++ (Lib.itoa (i : Int)))), (4, S (([100, 114, 111, 112, 32] ++ (Lib.itoa (i : Int))) ++ [10])), (5, S (s ++ (([100, 114, 111, 112, 32] ++ (Lib.itoa (i : Int))) ++ [10])))] [5, 6] rfl ?_ (fun a hk => ?_)
      · exact ⟨ob_concat rfl rfl (by first | omega | (simp only [List.length_append, List.length_cons, List.length_nil]; omega)), ob_concat rfl rfl (by first | omega | (simp only [List.length_append, List.length_cons, List.length_nil]; omega)), ob_concat rfl rfl (by first | omega | (simp only [List.length_append, List.length_cons, List.length_nil]; omega)), trivial⟩
      refine hK20 a w ?_; try clear hK20 K20
      refine wp_seq_k fun K21 hK21 => ?_
      have hm6 := tmod_rng (i : Int) (d := 100) (by first | omega | (split <;> omega))
      have hm7 := tmod_rng (i : Int) (d := 100) (by first | omega | (split <;> omega))
      refine reg_q tabOK hk hh [(1, .int .i64 ((i : Int).tmod 100))] [5, 6, 43] rfl ?_ (fun a hk => ?_)
      · exact ⟨ob_rem rfl rfl (by first | omega | (split <;> omega)), trivial⟩
      refine hK21 a w ?_; try clear hK21 K21
      refine code_cond hk rfl (fun c8 => ?_) (fun c8 => ?_)
      · replace c8 : (i : Int).tmod 100 = 7 := (c_et c8)
        refine reg_q tabOK hk hh [(1, S ((s ++ (([100, 114, 111, 112, 32] ++ (Lib.itoa (i : Int))) ++ [10])) ++ [10, 110, 111, 10]))] [5, 6] rfl ?_ (fun a hk => ?_)
        · exact ⟨ob_concat rfl rfl (by first | omega | (simp only [List.length_append, List.length_cons, List.length_nil]; omega)), trivial⟩
        refine blk_nm ?_
        refine hK19 a w ?_; try clear hK19 K19
        refine reg_q tabOK hk hh [(1, .int .i64 ((i : Int) + 1))] [5, 6] rfl ?_ (fun a hk => ?_)
        · exact ⟨ob_eq tabOK rfl (eq_i64 (by omega)), trivial⟩
        refine then_nm ?_
        exact ⟨_, _, _, ⟨i + 1, (s ++ (([100, 114, 111, 112, 32] ++ (Lib.itoa (i : Int))) ++ [10])) ++ [10, 110, 111, 10], rfl, rfl, (by omega), (by first | omega | (simp only [List.length_append, List.length_cons, List.length_nil]; omega)), rfl⟩, (by simp only [id]; omega), hk.keep [5, 6] rfl, hh⟩
      · replace c8 : ¬ ((i : Int).tmod 100 = 7) := (c_ef c8)
        refine wp_skip ?_
        refine blk_nm ?_
        refine hK19 a w ?_; try clear hK19 K19
        refine reg_q tabOK hk hh [(1, .int .i64 ((i : Int) + 1))] [5, 6] rfl ?_ (fun a hk => ?_)
        · exact ⟨ob_eq tabOK rfl (eq_i64 (by omega)), trivial⟩
        refine then_nm ?_
        exact ⟨_, _, _, ⟨i + 1, s ++ (([100, 114, 111, 112, 32] ++ (Lib.itoa (i : Int))) ++ [10]), rfl, rfl, (by omega), (by first | omega | (simp only [List.length_append, List.length_cons, List.length_nil]; omega)), rfl⟩, (by simp only [id]; omega), hk.keep [5, 6] rfl, hh⟩
    · replace c5 : ¬ ((i : Int) < 405) := (of_decide_eq_false c5)
      refine wp_exit ?_
      refine then_exit ?_
      refine then_exit ?_
      refine blk_out ?_
      refine hK15 a w ?_; try clear hK15 K15
      refine wp_seq_k fun K22 hK22 => ?_
      refine wp_seq_k fun K23 hK23 => ?_
      refine reg_q tabOK hk hh [] [5, 7] rfl trivial (fun a hk => ?_)
      refine hK23 a w ?_; try clear hK23 K23
      refine wp_block ?_
      replace hk := hk.keep [5, 7] rfl
      refine code_loop (α := Nat) (fun (m : Nat) (E : Env) (L : List Assn) => ∃ (k : Int), E = [(5, S s), (7, .int .i64 k)] ∧ L = R ∧ (-1 ≤ k ∧ k ≤ 16) ∧ m = (16 - k).toNat) id _ hk hh ⟨(-1), rfl, rfl, (by omega), rfl⟩ ?_
      clear hk hh
      rintro _ _ _ a w ⟨k, rfl, hL, hk0, rfl⟩ hk hh; rw [hL] at hh; clear hL
      refine wp_seq_k fun K24 hK24 => ?_
      refine wp_seq_k fun K25 hK25 => ?_
      refine reg_q tabOK hk hh [] [5, 7, 47] rfl trivial (fun a hk => ?_)
      refine hK25 a w ?_; try clear hK25 K25
      refine code_cond hk rfl (fun c9 => ?_) (fun c9 => ?_)
      · replace c9 : k < 16 := (of_decide_eq_true c9)
        refine wp_skip ?_
        refine hK24 a w ?_; try clear hK24 K24
        refine wp_seq_k fun K26 hK26 => ?_
        refine wp_block ?_
        refine wp_seq_k fun K27 hK27 => ?_
        refine wp_region_lit ?_
        refine seq_eff hk hh rfl rfl (eff_lit tabOK rfl rfl rfl (by decide) rfl) (fun v L a w hp hk hh => ?_)
        obtain ⟨b10, rfl, hL⟩ := hp; rw [hL] at hh; clear hL
        refine rest_q tabOK (i := 1) hk hh [] [5, 7, 50, 51, 52] rfl trivial (fun a hk => ?_)
        refine hK27 a w ?_; try clear hK27 K27
        refine wp_block ?_
        replace hk := hk.keep [5, 7, 50, 51, 52] rfl
        refine code_loop (α := Nat) (fun (m : Nat) (E : Env) (L : List Assn) => ∃ (j : Nat), E = [(5, S s), (7, .int .i64 k), (50, .slice (some ⟨b10, 0, none⟩) 4 4), (51, .int .i64 4), (52, .int .i64 (j : Int))] ∧ L = [row b10 9 (numC.map S)] ++ R ∧ (j ≤ 4) ∧ m = 4 - j) id _ hk hh ⟨0, rfl, rfl, (by omega), rfl⟩ ?_
        clear hk hh
        rintro _ _ _ a w ⟨j, rfl, hL, hj, rfl⟩ hk hh; rw [hL] at hh; clear hL
        refine wp_seq_k fun K28 hK28 => ?_
        refine reg_q tabOK hk hh [] [5, 7, 50, 51, 52, 53] rfl trivial (fun a hk => ?_)
        refine hK28 a w ?_; try clear hK28 K28
        refine wp_seq_k fun K29 hK29 => ?_
        refine code_cond hk rfl (fun c11 => ?_) (fun c11 => ?_)
        · replace c11 : (j : Int) < 4 := (of_decide_eq_true c11)
          refine wp_skip ?_
          refine hK29 a w ?_; try clear hK29 K29
          refine wp_seq_k fun K30 hK30 => ?_
          refine wp_block ?_
          refine wp_seq_k fun K31 hK31 => ?_
          refine reg_q tabOK hk hh [(0, .pointer (some ⟨b10, j, none⟩)), (1, S (numC.getD j []))] [5, 7, 9, 50, 51, 52] rfl ?_ (fun a hk => ?_)
          · exact ⟨ob_indexAddr tabOK (j) rfl rfl rfl rfl (by omega) (by omega) (by show 0 + ((j : Int) : Int).toNat * 1 = j; omega), ob_load tabOK 0 rfl rfl rfl rfl (map_S_at (by have := numC_n; omega)), trivial⟩
          refine hK31 a w ?_; try clear hK31 K31
          refine wp_seq_k fun K32 hK32 => ?_
          refine reg_q tabOK hk hh [] [5, 7, 9, 10, 50, 51, 52] rfl trivial (fun a hk => ?_)
          refine hK32 a w ?_; try clear hK32 K32
          refine wp_block ?_
          replace hk := hk.keep [5, 7, 9, 10, 50, 51, 52] rfl
          refine code_loop (α := Nat) (fun (m : Nat) (E : Env) (L : List Assn) => ∃ (n : Int), E = [(5, S s), (7, .int .i64 k), (9, S (numC.getD j [])), (10, .int .i64 n), (50, .slice (some ⟨b10, 0, none⟩) 4 4), (51, .int .i64 4), (52, .int .i64 (j : Int))] ∧ L = [row b10 9 (numC.map S)] ++ R ∧ (-1 ≤ n ∧ n ≤ 2) ∧ m = (2 - n).toNat) id _ hk hh ⟨(-1), rfl, rfl, (by omega), rfl⟩ ?_
          clear hk hh
          rintro _ _ _ a w ⟨n, rfl, hL, hn0, rfl⟩ hk hh; rw [hL] at hh; clear hL
          refine wp_seq_k fun K33 hK33 => ?_
          refine wp_seq_k fun K34 hK34 => ?_
          refine reg_q tabOK hk hh [] [5, 7, 9, 10, 50, 51, 52, 57] rfl trivial (fun a hk => ?_)
          refine hK34 a w ?_; try clear hK34 K34
          refine code_cond hk rfl (fun c12 => ?_) (fun c12 => ?_)
          · replace c12 : n < 2 := (of_decide_eq_true c12)
            refine wp_skip ?_
            refine hK33 a w ?_; try clear hK33 K33
            refine wp_seq_k fun K35 hK35 => ?_
            refine wp_block ?_
            refine wp_seq_k fun K36 hK36 => ?_
            refine wp_region_lit ?_
            refine seq_q tabOK (i := 0) (stop := 6) hk hh [(3, .int .i64 (n * 7))] rfl ?_ (fun a hk => ?_)
            · exact ⟨ob_eq tabOK rfl (eq_i64 (by omega)), trivial⟩
            refine seq_eff hk hh rfl rfl (eff_alloc tabOK rfl) (fun v L a w hp hk hh => ?_)
            obtain ⟨b13, rfl, hL⟩ := hp; rw [hL] at hh; clear hL
            refine seq_eff hk hh rfl rfl (eff_store tabOK 0 rfl rfl rfl rfl rfl rfl rfl (by simp)) (fun v L a w hp hk hh => ?_)
            obtain ⟨rfl, hL⟩ := hp; rw [hL] at hh; clear hL
            refine rest_q tabOK (i := 8) hk hh [] [5, 7, 9, 10, 11, 50, 51, 52] rfl trivial (fun a hk => ?_)
            refine hK36 a w ?_; try clear hK36 K36
            refine wp_seq_k fun K37 hK37 => ?_
            have hC := numC_len j
            refine reg_d tabOK (by kernel_rfl) hk hh [1, 3, 9, 13] [5, 7, 9, 10, 50, 51, 52, 81] rfl 4 [(0, .agg ⟨[.int .i64 k, .int .i64 n, .int .i64 0, .int .i64 (n * 7), S (numC.getD j [])]⟩), (2, .agg ⟨[.int .i64 k, .int .i64 n, .int .i64 0, .int .i64 (n * 7), S (numC.getD j [])]⟩)] ?_
            refine chain_one rfl ?_ rfl (eff_call Tryz.func8 rfl rfl rfl rfl (fun w hh => text_spec (⟨k, n, 0, n * 7, numC.getD j []⟩ : ActL) (ok_mk (by unfold I64; omega) (by unfold I64; omega) (by unfold I64; omega) (by first | omega | simp)) (by exact ((hR.cons _).cons _)) hh)) (fun v L hp => ?_)
            · exact ⟨ob_loadN tabOK 0 rfl rfl rfl rfl rfl, ob_loadN tabOK 0 rfl rfl rfl rfl rfl, trivial⟩
            obtain ⟨rfl, hL⟩ := hp; subst hL
            refine ⟨[], rfl, ?_⟩
            refine chain_one rfl ?_ rfl (eff_call Tryz.func9 rfl rfl rfl rfl (fun w hh => ltext_spec (⟨k, n, 0, n * 7, numC.getD j []⟩ : ActL) (ok_mk (by unfold I64; omega) (by unfold I64; omega) (by unfold I64; omega) (by first | omega | simp)) σ w _ hh)) (fun v L hp => ?_)
            · exact ⟨ob_loadN tabOK 0 rfl rfl rfl rfl rfl, trivial⟩
            obtain ⟨rfl, hL⟩ := hp; subst hL
            refine ⟨[(4, .bool false)], rfl, ?_⟩
            refine chain_one rfl ?_ rfl (eff_call Tryz.func8 rfl rfl rfl rfl (fun w hh => text_spec (⟨k, 0, n, 0, []⟩ : ActL) (ok_mk (by unfold I64; omega) (by unfold I64; omega) (by unfold I64; omega) (by first | omega | simp)) (by exact ((hR.cons _).cons _)) hh)) (fun v L hp => ?_)
            · exact ⟨ob_eq tabOK rfl (v_not (v_et rfl)), trivial⟩
            obtain ⟨rfl, hL⟩ := hp; subst hL
            refine ⟨[], rfl, ?_⟩
            refine chain_one rfl trivial rfl (eff_call Tryz.func9 rfl rfl rfl rfl (fun w hh => ltext_spec (⟨k, 0, n, 0, []⟩ : ActL) (ok_mk (by unfold I64; omega) (by unfold I64; omega) (by unfold I64; omega) (by first | omega | simp)) σ w _ hh)) (fun v L hp => ?_)
            obtain ⟨rfl, hL⟩ := hp; subst hL
            refine ⟨[(14, .bool false)], rfl, ?_⟩
            refine chain_fin rfl ?_ (fun a w hk hh => ?_)
            · exact ⟨ob_eq tabOK rfl (v_not (v_et rfl)), trivial⟩
            refine hK37 a w ?_; try clear hK37 K37
            refine code_cond hk rfl (fun h => by cases h) (fun _ => ?_)
            refine wp_skip ?_
            refine blk_nm ?_
            refine hK35 a w ?_; try clear hK35 K35
            refine reg_q tabOK hk hh [(1, .int .i64 (n + 1))] [5, 7, 9, 10, 50, 51, 52] rfl ?_ (fun a hk => ?_)
            · exact ⟨ob_eq tabOK rfl (eq_i64 (by omega)), trivial⟩
            replace hh := (hh.at_ 0 rfl).drop
            refine then_nm ?_
            exact ⟨_, _, _, ⟨n + 1, rfl, rfl, (by omega), rfl⟩, (by simp only [id]; omega), hk.keep [5, 7, 9, 10, 50, 51, 52] rfl, hh⟩
          · replace c12 : ¬ (n < 2) := (of_decide_eq_false c12)
            refine wp_exit ?_
            refine then_exit ?_
            refine then_exit ?_
            refine blk_out ?_
            refine blk_nm ?_
            refine hK30 a w ?_; try clear hK30 K30
            refine reg_q tabOK hk hh [(0, .int .i64 ((j : Int) + 1))] [5, 7, 50, 51, 52] rfl ?_ (fun a hk => ?_)
            · exact ⟨ob_eq tabOK rfl (eq_i64 (by omega)), trivial⟩
            refine then_nm ?_
            exact ⟨_, _, _, ⟨j + 1, rfl, rfl, (by omega), rfl⟩, (by simp only [id]; omega), hk.keep [5, 7, 50, 51, 52] rfl, hh⟩
        · replace c11 : ¬ ((j : Int) < 4) := (of_decide_eq_false c11)
          refine wp_exit ?_
          refine then_exit ?_
          refine then_exit ?_
          refine blk_out ?_
          refine blk_nm ?_
          refine hK26 a w ?_; try clear hK26 K26
          refine reg_q tabOK hk hh [(1, .int .i64 (k + 1))] [5, 7] rfl ?_ (fun a hk => ?_)
          · exact ⟨ob_eq tabOK rfl (eq_i64 (by omega)), trivial⟩
          replace hh := (hh.at_ 0 rfl).drop
          refine then_nm ?_
          exact ⟨_, _, _, ⟨k + 1, rfl, rfl, (by omega), rfl⟩, (by simp only [id]; omega), hk.keep [5, 7] rfl, hh⟩
      · replace c9 : ¬ (k < 16) := (of_decide_eq_false c9)
        refine wp_exit ?_
        refine then_exit ?_
        refine then_exit ?_
        refine blk_out ?_
        refine hK22 a w ?_; try clear hK22 K22
        refine wp_seq_k fun K38 hK38 => ?_
        refine wp_region_lit ?_
        refine seq_q tabOK (i := 0) (stop := 1) hk hh [] rfl trivial (fun a hk => ?_)
        refine seq_eff hk hh rfl rfl (eff_call Tryz.func10 rfl rfl rfl rfl (fun w hh => parses_spec s (by first | omega | (simp only [List.length_append, List.length_cons, List.length_nil]; omega)) (by exact hR) hh)) (fun v L a w hp hk hh => ?_)
        obtain ⟨rfl, hL⟩ := hp; rw [hL] at hh; clear hL
        refine seq_q tabOK (i := 2) (stop := 3) hk hh [] rfl trivial (fun a hk => ?_)
        refine seq_eff hk hh rfl rfl (eff_call Tryz.func10 rfl rfl rfl rfl (fun w hh => parses_spec [] (by first | omega | (simp only [List.length_append, List.length_cons, List.length_nil]; omega)) (by exact hR) hh)) (fun v L a w hp hk hh => ?_)
        obtain ⟨rfl, hL⟩ := hp; rw [hL] at hh; clear hL
        refine seq_q tabOK (i := 4) (stop := 6) hk hh [] rfl trivial (fun a hk => ?_)
        refine seq_eff hk hh rfl rfl (eff_call Tryz.func10 rfl rfl rfl rfl (fun w hh => parses_spec [10, 10] (by first | omega | (simp only [List.length_append, List.length_cons, List.length_nil]; omega)) (by exact hR) hh)) (fun v L a w hp hk hh => ?_)
        obtain ⟨rfl, hL⟩ := hp; rw [hL] at hh; clear hL
        refine seq_q tabOK (i := 7) (stop := 9) hk hh [] rfl trivial (fun a hk => ?_)
        refine seq_eff hk hh rfl rfl (eff_call Tryz.func10 rfl rfl rfl rfl (fun w hh => parses_spec [97, 10, 98] (by first | omega | (simp only [List.length_append, List.length_cons, List.length_nil]; omega)) (by exact hR) hh)) (fun v L a w hp hk hh => ?_)
        obtain ⟨rfl, hL⟩ := hp; rw [hL] at hh; clear hL
        refine seq_q tabOK (i := 10) (stop := 12) hk hh [] rfl trivial (fun a hk => ?_)
        refine seq_eff hk hh rfl rfl (eff_call Tryz.func10 rfl rfl rfl rfl (fun w hh => parses_spec [116, 105, 99, 107, 32, 48, 32, 49, 10] (by first | omega | (simp only [List.length_append, List.length_cons, List.length_nil]; omega)) (by exact hR) hh)) (fun v L a w hp hk hh => ?_)
        obtain ⟨rfl, hL⟩ := hp; rw [hL] at hh; clear hL
        refine seq_q tabOK (i := 13) (stop := 15) hk hh [] rfl trivial (fun a hk => ?_)
        refine seq_eff hk hh rfl rfl (eff_call Tryz.func11 rfl rfl rfl rfl (fun w hh => known_spec (by exact hR) hh)) (fun v L a w hp hk hh => ?_)
        obtain ⟨rfl, hL⟩ := hp; rw [hL] at hh; clear hL
        refine rest_q tabOK (i := 16) hk hh [] [0] rfl trivial (fun a hk => ?_)
        refine hK38 a w ?_; try clear hK38 K38
        refine wp_ret ?_
        refine fin_ret hk (show Tryz.f3.results = ⟨[.tmp 0]⟩ from rfl) (by exact (res_tmp hk rfl .nil)) ?_
        exact ⟨_, _, rfl, ⟨rfl, rfl⟩, hh⟩

end Go.Hop
