/- What is proved here: what a function of the text computes. Printed by program. -/
import Derived.Test.YtompaigbpfekhaaGreatDoorSt7
import Derived.Test.YtompaigbpfekhaaGreatDoorSt8
import Derived.Test.YtompaigbpfekhaaGreatDoorSt9
namespace Go.Hop
open Go.Proofs
set_option maxRecDepth 4000
set_option maxHeartbeats 4000000
theorem tells_spec (s0 : List UInt8) (a1 a2 : Option Addr) (k1 k2 : Nat) (l : List DrawL) (q : List ActL) (at0 : Int) (hs0 : s0.length ≤ 1000000000) (hl0 : l.length ≤ 9223372036854775807) (hq0 : q.length ≤ 9223372036854775807) (hq : ∀ i, i < q.length → ActOK (q.getD i zA)) {σ : Sg} {w : World} {R : List Assn} (hR : Lay R) (hh : Holds σ w ([dat [.slice a1 l.length k1] [.sl (l.map DrawL.ds)], dat [.slice a2 q.length k2] [.sl (q.map ActL.ds)]] ++ R)) :
    Calls Tryz.prog 4 ⟨[S s0, .slice a1 l.length k1, .int .i64 at0, .slice a2 q.length k2]⟩ w fun e w' => ∃ v L', e = .returned v ∧ (v = .bool true ∧ L' = R) ∧ Holds σ w' L' := by
  refine enter Tryz.func4 rfl Tryz.ntmps4 rfl fun a hk => ?_
  refine wp_seq_k fun K1 hK1 => ?_
  refine reg_q tabOK hk hh [] [0, 1, 2, 3] rfl trivial (fun a hk => ?_)
  refine hK1 a w ?_; try clear hK1 K1
  refine wp_seq_k fun K2 hK2 => ?_
  refine wp_seq_k fun K3 hK3 => ?_
  refine reg_q tabOK hk hh [] [0, 1, 2, 3, 16] rfl trivial (fun a hk => ?_)
  refine hK3 a w ?_; try clear hK3 K3
  refine code_cond hk rfl (fun c1 => ?_) (fun c1 => ?_)
  · replace c1 : (s0.length : Int) > 80 := (of_decide_eq_true c1)
    refine reg_q tabOK hk hh [(1, S (s0.take 80))] [0, 1, 2, 3] rfl ?_ (fun a hk => ?_)
    · exact ⟨ob_slice_str tabOK rfl rfl rfl rfl (by omega) (by omega) (by omega) (by simp), trivial⟩
    refine hK2 a w ?_; try clear hK2 K2
    refine wp_seq_k fun K4 hK4 => ?_
    refine reg_q tabOK hk hh [] [0, 1, 2, 3, 9] rfl trivial (fun a hk => ?_)
    refine hK4 a w ?_; try clear hK4 K4
    refine wp_seq_k fun K5 hK5 => ?_
    refine wp_seq_k fun K6 hK6 => ?_
    refine reg_q tabOK hk hh [] [0, 1, 2, 3, 9, 10] rfl trivial (fun a hk => ?_)
    refine hK6 a w ?_; try clear hK6 K6
    refine wp_block ?_
    replace hk := hk.keep [0, 1, 2, 3, 9, 10] rfl
    refine code_loop (α := Nat) (fun (m : Nat) (E : Env) (L : List Assn) => ∃ (i : Nat) (s : List UInt8), E = [(0, S (s0.take 80)), (1, .slice a1 l.length k1), (2, .int .i64 at0), (3, .slice a2 q.length k2), (9, S s), (10, .int .i64 (i : Int))] ∧ L = [dat [.slice a1 l.length k1] [.sl (l.map DrawL.ds)], dat [.slice a2 q.length k2] [.sl (q.map ActL.ds)]] ++ R ∧ (i ≤ l.length) ∧ (s.length ≤ 85 * i ∧ i ≤ 10) ∧ m = l.length - i) id _ hk hh ⟨0, [], rfl, rfl, (by omega), (by simp), rfl⟩ ?_
    clear hk hh
    rintro _ _ _ a w ⟨i, s, rfl, hL, hi, hs, rfl⟩ hk hh; rw [hL] at hh; clear hL
    refine wp_seq_k fun K7 hK7 => ?_
    refine wp_seq_k fun K8 hK8 => ?_
    by_cases c2 : (i : Int) < (l.length : Int)
    · refine reg_q tabOK hk hh [(3, .bool true)] [0, 1, 2, 3, 9, 10, 26] rfl ?_ (fun a hk => ?_)
      · exact ⟨ob_eq tabOK rfl (v_dt c2), trivial⟩
      refine hK8 a w ?_; try clear hK8 K8
      refine code_cond hk rfl (fun c3 => ?_) (fun c3 => ?_)
      · replace c3 : (i : Int) < 10 := (of_decide_eq_true c3)
        refine wp_skip ?_
        refine hK7 a w ?_; try clear hK7 K7
        refine wp_seq_k fun K9 hK9 => ?_
        refine wp_block ?_
        refine wp_seq_k fun K10 hK10 => ?_
        obtain ⟨b4, o5, T6, rw7, lo8, hi9, ha, hc10, hH⟩ := dat_rows (k := 4) (f := DrawL.cs) zD draw_pf (fun _ => rfl) (fun _ => rfl) (by omega) (hh.at_ 0 rfl)
        clear hh; subst ha; have hh := hH; clear hH
        refine wp_region_lit ?_
        refine seq_q tabOK (i := 0) (stop := 4) hk hh [(2, .pointer (some ⟨b4, o5 + i * 4, none⟩)), (3, .agg ⟨[.int .i64 ((l.getD i zD).k), .int .i64 ((l.getD i zD).a), .int .i64 ((l.getD i zD).b), .int .i64 ((l.getD i zD).n)]⟩)] rfl ?_ (fun a hk => ?_)
        · exact ⟨ob_indexAddr tabOK (o5 + i * 4) rfl rfl rfl rfl (by omega) (by omega) (by show o5 + ((i : Int) : Int).toNat * 4 = o5 + i * 4; omega), ob_loadN tabOK 0 rfl rfl rfl rfl (hc10 _ (by omega)), trivial⟩
        refine seq_eff hk hh rfl rfl (eff_call Tryz.func12 rfl rfl rfl rfl (fun w hh => act_spec (l.getD i zD) 3 5 9 (by omega) (by omega) (by omega) σ w _ hh)) (fun v L a w hp hk hh => ?_)
        obtain ⟨rfl, hL⟩ := hp; rw [hL] at hh; clear hL
        refine seq_eff hk hh rfl rfl (eff_alloc tabOK rfl) (fun v L a w hp hk hh => ?_)
        obtain ⟨b11, rfl, hL⟩ := hp; rw [hL] at hh; clear hL
        refine seq_eff hk hh rfl rfl (eff_store tabOK 0 rfl rfl rfl rfl rfl rfl rfl (by simp)) (fun v L a w hp hk hh => ?_)
        obtain ⟨rfl, hL⟩ := hp; rw [hL] at hh; clear hL
        refine rest_q tabOK (i := 7) hk hh [] [0, 1, 2, 3, 9, 10, 11] rfl trivial (fun a hk => ?_)
        refine hK10 a w ?_; try clear hK10 K10
        refine wp_seq_k fun K11 hK11 => ?_
        refine wp_seq_k fun K12 hK12 => ?_
        have htl := drawn_len (l.getD i zD)
        refine reg_d tabOK (by kernel_rfl) hk hh [1, 3] [0, 1, 2, 3, 9, 10, 11, 38] rfl 2 [(0, .agg ⟨[.int .i64 ((actO (l.getD i zD) 3 5 9).k), .int .i64 ((actO (l.getD i zD) 3 5 9).a), .int .i64 ((actO (l.getD i zD) 3 5 9).b), .int .i64 ((actO (l.getD i zD) 3 5 9).n), S ((actO (l.getD i zD) 3 5 9).s)]⟩), (2, .agg ⟨[.int .i64 ((actO (l.getD i zD) 3 5 9).k), .int .i64 ((actO (l.getD i zD) 3 5 9).a), .int .i64 ((actO (l.getD i zD) 3 5 9).b), .int .i64 ((actO (l.getD i zD) 3 5 9).n), S ((actO (l.getD i zD) 3 5 9).s)]⟩)] ?_
        refine chain_one rfl ?_ rfl (eff_call Tryz.func8 rfl rfl rfl rfl (fun w hh => text_spec (actO (l.getD i zD) 3 5 9) (actO_ok (by omega) (by omega) (by omega)) (by exact ((((hR.cons _).cons _).cons _).cons _)) hh)) (fun v L hp => ?_)
        · exact ⟨ob_loadN tabOK 0 rfl rfl rfl rfl rfl, ob_loadN tabOK 0 rfl rfl rfl rfl rfl, trivial⟩
        obtain ⟨rfl, hL⟩ := hp; subst hL
        refine ⟨[], rfl, ?_⟩
        refine chain_one rfl ?_ rfl (eff_call Tryz.func9 rfl rfl rfl rfl (fun w hh => ltext_spec (actO (l.getD i zD) 3 5 9) (actO_ok (by omega) (by omega) (by omega)) σ w _ hh)) (fun v L hp => ?_)
        · exact ⟨ob_loadN tabOK 0 rfl rfl rfl rfl rfl, trivial⟩
        obtain ⟨rfl, hL⟩ := hp; subst hL
        refine ⟨[(4, .bool false)], rfl, ?_⟩
        refine chain_fin rfl ?_ (fun a w hk hh => ?_)
        · exact ⟨ob_eq tabOK rfl (v_not (v_et rfl)), trivial⟩
        refine hK12 a w ?_; try clear hK12 K12
        refine code_cond hk rfl (fun h => by cases h) (fun _ => ?_)
        refine wp_skip ?_
        refine hK11 a w ?_; try clear hK11 K11
        refine wp_region_lit ?_
        refine seq_q tabOK (i := 0) (stop := 2) hk hh [(1, .agg ⟨[.int .i64 ((actO (l.getD i zD) 3 5 9).k), .int .i64 ((actO (l.getD i zD) 3 5 9).a), .int .i64 ((actO (l.getD i zD) 3 5 9).b), .int .i64 ((actO (l.getD i zD) 3 5 9).n), S ((actO (l.getD i zD) 3 5 9).s)]⟩)] rfl ?_ (fun a hk => ?_)
        · exact ⟨ob_loadN tabOK 0 rfl rfl rfl rfl rfl, trivial⟩
        refine seq_eff hk hh rfl rfl (eff_call Tryz.func9 rfl rfl rfl rfl (fun w hh => ltext_spec (actO (l.getD i zD) 3 5 9) (actO_ok (by omega) (by omega) (by omega)) σ w _ hh)) (fun v L a w hp hk hh => ?_)
        obtain ⟨rfl, hL⟩ := hp; rw [hL] at hh; clear hL
        refine rest_q tabOK (i := 3) hk hh [(3, S ((textO (actO (l.getD i zD) 3 5 9)) ++ [10])), (4, S (s ++ ((textO (actO (l.getD i zD) 3 5 9)) ++ [10])))] [0, 1, 2, 3, 9, 10] rfl ?_ (fun a hk => ?_)
        · exact ⟨ob_concat rfl rfl (by first | omega | (simp only [List.length_append, List.length_cons, List.length_nil]; omega)), ob_concat rfl rfl (by first | omega | (simp only [List.length_append, List.length_cons, List.length_nil]; omega)), trivial⟩
        refine blk_nm ?_
        refine hK9 a w ?_; try clear hK9 K9
        refine reg_q tabOK hk hh [(1, .int .i64 ((i : Int) + 1))] [0, 1, 2, 3, 9, 10] rfl ?_ (fun a hk => ?_)
        · exact ⟨ob_eq tabOK rfl (eq_i64 (by omega)), trivial⟩
        have htl := drawn_len (l.getD i zD)
        replace hh := (hh.at_ 0 rfl).drop
        replace hh := (hh.at_ 0 rfl).drop
        refine then_nm ?_
        exact ⟨_, _, _, ⟨i + 1, s ++ ((textO (actO (l.getD i zD) 3 5 9)) ++ [10]), rfl, rfl, (by omega), (by simp only [List.length_append, List.length_cons, List.length_nil]; omega), rfl⟩, (by simp only [id]; omega), hk.keep [0, 1, 2, 3, 9, 10] rfl, hh⟩
      · replace c3 : ¬ ((i : Int) < 10) := (of_decide_eq_false c3)
        refine wp_exit ?_
        refine then_exit ?_
        refine then_exit ?_
        refine blk_out ?_
        refine hK5 a w ?_; try clear hK5 K5
        refine wp_seq_k fun K13 hK13 => ?_
        refine wp_seq_k fun K14 hK14 => ?_
        refine reg_q tabOK hk hh [] [0, 2, 3, 9, 12] rfl trivial (fun a hk => ?_)
        refine hK14 a w ?_; try clear hK14 K14
        refine wp_block ?_
        replace hh := (hh.at_ 0 rfl).drop
        replace hk := hk.keep [0, 2, 3, 9, 12] rfl
        refine code_loop (α := Nat) (fun (m : Nat) (E : Env) (L : List Assn) => ∃ (i : Nat), E = [(0, S (s0.take 80)), (2, .int .i64 at0), (3, .slice a2 q.length k2), (9, S s), (12, .int .i64 (i : Int))] ∧ L = [dat [.slice a2 q.length k2] [.sl (q.map ActL.ds)]] ++ R ∧ (i ≤ q.length) ∧ m = q.length - i) id _ hk hh ⟨0, rfl, rfl, (by omega), rfl⟩ ?_
        clear hk hh
        rintro _ _ _ a w ⟨i, rfl, hL, hj, rfl⟩ hk hh; rw [hL] at hh; clear hL
        refine wp_seq_k fun K15 hK15 => ?_
        refine wp_seq_k fun K16 hK16 => ?_
        by_cases c12 : (i : Int) < (q.length : Int)
        · refine reg_q tabOK hk hh [(3, .bool true)] [0, 2, 3, 9, 12, 51] rfl ?_ (fun a hk => ?_)
          · exact ⟨ob_eq tabOK rfl (v_dt c12), trivial⟩
          refine hK16 a w ?_; try clear hK16 K16
          refine code_cond hk rfl (fun c13 => ?_) (fun c13 => ?_)
          · replace c13 : (i : Int) < 20 := (of_decide_eq_true c13)
            refine wp_skip ?_
            refine hK15 a w ?_; try clear hK15 K15
            refine wp_seq_k fun K17 hK17 => ?_
            refine wp_block ?_
            refine wp_seq_k fun K18 hK18 => ?_
            obtain ⟨b14, o15, T16, rw17, lo18, hi19, ha, hc20, hH⟩ := dat_rows (k := 5) (f := ActL.cs) zA acts_pf (fun _ => rfl) (fun _ => rfl) (by omega) (hh.at_ 0 rfl)
            clear hh; subst ha; have hh := hH; clear hH
            refine reg_d tabOK (by kernel_rfl) hk hh [4, 9] [0, 2, 3, 9, 12, 64] rfl 2 [(2, .pointer (some ⟨b14, o15 + i * 5, none⟩)), (3, .agg ⟨[.int .i64 ((q.getD i zA).k), .int .i64 ((q.getD i zA).a), .int .i64 ((q.getD i zA).b), .int .i64 ((q.getD i zA).n), S ((q.getD i zA).s)]⟩), (7, .pointer (some ⟨b14, o15 + i * 5, none⟩)), (8, .agg ⟨[.int .i64 ((q.getD i zA).k), .int .i64 ((q.getD i zA).a), .int .i64 ((q.getD i zA).b), .int .i64 ((q.getD i zA).n), S ((q.getD i zA).s)]⟩)] ?_
            refine chain_one rfl ?_ rfl (eff_call Tryz.func8 rfl rfl rfl rfl (fun w hh => text_spec (q.getD i zA) (hq _ (by omega)) (by exact ((hR.cons _).cons _)) hh)) (fun v L hp => ?_)
            · exact ⟨ob_indexAddr tabOK (o15 + i * 5) rfl rfl rfl rfl (by omega) (by omega) (by show o15 + ((i : Int) : Int).toNat * 5 = o15 + i * 5; omega), ob_loadN tabOK 0 rfl rfl rfl rfl (hc20 _ (by omega)), ob_indexAddr tabOK (o15 + i * 5) rfl rfl rfl rfl (by omega) (by omega) (by show o15 + ((i : Int) : Int).toNat * 5 = o15 + i * 5; omega), ob_loadN tabOK 0 rfl rfl rfl rfl (hc20 _ (by omega)), trivial⟩
            obtain ⟨rfl, hL⟩ := hp; subst hL
            refine ⟨[], rfl, ?_⟩
            refine chain_one rfl ?_ rfl (eff_call Tryz.func9 rfl rfl rfl rfl (fun w hh => ltext_spec (q.getD i zA) (hq _ (by omega)) σ w _ hh)) (fun v L hp => ?_)
            · exact ⟨ob_indexAddr tabOK (o15 + i * 5) rfl rfl rfl rfl (by omega) (by omega) (by show o15 + ((i : Int) : Int).toNat * 5 = o15 + i * 5; omega), ob_loadN tabOK 0 rfl rfl rfl rfl (hc20 _ (by omega)), trivial⟩
            obtain ⟨rfl, hL⟩ := hp; subst hL
            refine ⟨[(10, .bool false)], rfl, ?_⟩
            refine chain_fin rfl ?_ (fun a w hk hh => ?_)
            · exact ⟨ob_eq tabOK rfl (v_not (v_et rfl)), trivial⟩
            refine hK18 a w ?_; try clear hK18 K18
            refine code_cond hk rfl (fun h => by cases h) (fun _ => ?_)
            refine wp_skip ?_
            refine blk_nm ?_
            refine hK17 a w ?_; try clear hK17 K17
            refine reg_q tabOK hk hh [(1, .int .i64 ((i : Int) + 1))] [0, 2, 3, 9, 12] rfl ?_ (fun a hk => ?_)
            · exact ⟨ob_eq tabOK rfl (eq_i64 (by omega)), trivial⟩
            replace hh := (hh.at_ 0 rfl).drop
            refine then_nm ?_
            exact ⟨_, _, _, ⟨i + 1, rfl, rfl, (by omega), rfl⟩, (by simp only [id]; omega), hk.keep [0, 2, 3, 9, 12] rfl, hh⟩
          · replace c13 : ¬ ((i : Int) < 20) := (of_decide_eq_false c13)
            refine wp_exit ?_
            refine then_exit ?_
            refine then_exit ?_
            refine blk_out ?_
            refine hK13 a w ?_; try clear hK13 K13
            refine wp_seq_k fun K19 hK19 => ?_
            refine wp_region_lit ?_
            refine seq_q tabOK (i := 0) (stop := 3) hk hh [] rfl trivial (fun a hk => ?_)
            refine seq_eff hk hh rfl rfl (eff_call Tryz.func13 rfl rfl rfl rfl (fun w hh => within_spec at0 0 (s.length : Int) (by first | omega | (split <;> omega)) (by first | omega | (split <;> omega)) (by first | omega | (split <;> omega)) σ w _ hh)) (fun v L a w hp hk hh => ?_)
            obtain ⟨rfl, hL⟩ := hp; rw [hL] at hh; clear hL
            have hw21 := within_rng (n := at0) (lo := 0) (hi := (s.length : Int)) (by first | omega | (unfold maxI; split <;> omega))
            refine rest_q tabOK (i := 4) hk hh [] [0, 9, 13] rfl trivial (fun a hk => ?_)
            refine hK19 a w ?_; try clear hK19 K19
            refine wp_seq_k fun K20 hK20 => ?_
            have hz0 : ((s0.take 80)).length ≤ 80 := by first | omega | (rw [List.length_take]; omega)
            have hz1 : (s.take ((withinI at0 0 (s.length : Int)).toNat)).length ≤ s.length := by rw [List.length_take]; omega
            have hz2 : (s.drop ((withinI at0 0 (s.length : Int)).toNat)).length ≤ s.length := by rw [List.length_drop]; omega
            refine reg_d tabOK (by kernel_rfl) hk hh [1, 4, 8, 20, 25, 30, 33] [8] rfl 7 [] ?_
            refine chain_one rfl trivial rfl (eff_call Tryz.func6 rfl rfl rfl rfl (fun w hh => lines_spec (s0.take 80) (by first | omega | (simp only [List.length_append, List.length_cons, List.length_nil]; omega)) (by exact (hR.cons _)) hh)) (fun v L hp => ?_)
            obtain ⟨rfl, hL⟩ := hp; subst hL
            refine ⟨[], rfl, ?_⟩
            refine chain_one rfl trivial rfl (eff_call Tryz.func10 rfl rfl rfl rfl (fun w hh => parses_spec (s0.take 80) (by first | omega | (simp only [List.length_append, List.length_cons, List.length_nil]; omega)) (by exact (hR.cons _)) hh)) (fun v L hp => ?_)
            obtain ⟨rfl, hL⟩ := hp; subst hL
            refine ⟨[], rfl, ?_⟩
            refine chain_one rfl trivial rfl (eff_call Tryz.func10 rfl rfl rfl rfl (fun w hh => parses_spec s (by first | omega | (simp only [List.length_append, List.length_cons, List.length_nil]; omega)) (by exact (hR.cons _)) hh)) (fun v L hp => ?_)
            obtain ⟨rfl, hL⟩ := hp; subst hL
            refine ⟨[(13, S (s.take ((withinI at0 0 (s.length : Int)).toNat))), (15, S ((s.take ((withinI at0 0 (s.length : Int)).toNat)) ++ (s0.take 80))), (18, S (s.drop ((withinI at0 0 (s.length : Int)).toNat))), (19, S (((s.take ((withinI at0 0 (s.length : Int)).toNat)) ++ (s0.take 80)) ++ (s.drop ((withinI at0 0 (s.length : Int)).toNat))))], rfl, ?_⟩
            refine chain_one rfl ?_ rfl (eff_call Tryz.func10 rfl rfl rfl rfl (fun w hh => parses_spec (((s.take ((withinI at0 0 (s.length : Int)).toNat)) ++ (s0.take 80)) ++ (s.drop ((withinI at0 0 (s.length : Int)).toNat))) (by first | omega | (simp only [List.length_append, List.length_cons, List.length_nil]; omega)) (by exact (hR.cons _)) hh)) (fun v L hp => ?_)
            · exact ⟨ob_slice_str tabOK rfl rfl rfl rfl (by omega) (by omega) (by omega) (by simp), ob_concat rfl rfl (by first | omega | (simp only [List.length_append, List.length_cons, List.length_nil]; omega)), ob_slice_str tabOK rfl rfl rfl rfl (by omega) (by omega) (by omega) (by simp), ob_concat rfl rfl (by first | omega | (simp only [List.length_append, List.length_cons, List.length_nil]; omega)), trivial⟩
            obtain ⟨rfl, hL⟩ := hp; subst hL
            refine ⟨[(24, S ([116, 105, 99, 107, 32] ++ (s0.take 80)))], rfl, ?_⟩
            refine chain_one rfl ?_ rfl (eff_call Tryz.func6 rfl rfl rfl rfl (fun w hh => lines_spec ([116, 105, 99, 107, 32] ++ (s0.take 80)) (by first | omega | (simp only [List.length_append, List.length_cons, List.length_nil]; omega)) (by exact (hR.cons _)) hh)) (fun v L hp => ?_)
            · exact ⟨ob_concat rfl rfl (by first | omega | (simp only [List.length_append, List.length_cons, List.length_nil]; omega)), trivial⟩
            obtain ⟨rfl, hL⟩ := hp; subst hL
            refine ⟨[(29, S ([105, 110, 103, 101, 115, 116, 32, 49, 32] ++ (s0.take 80)))], rfl, ?_⟩
            refine chain_one rfl ?_ rfl (eff_call Tryz.func6 rfl rfl rfl rfl (fun w hh => lines_spec ([105, 110, 103, 101, 115, 116, 32, 49, 32] ++ (s0.take 80)) (by first | omega | (simp only [List.length_append, List.length_cons, List.length_nil]; omega)) (by exact (hR.cons _)) hh)) (fun v L hp => ?_)
            · exact ⟨ob_concat rfl rfl (by first | omega | (simp only [List.length_append, List.length_cons, List.length_nil]; omega)), trivial⟩
            obtain ⟨rfl, hL⟩ := hp; subst hL
            refine ⟨[], rfl, ?_⟩
            refine chain_one rfl trivial rfl (eff_call Tryz.func11 rfl rfl rfl rfl (fun w hh => known_spec (by exact (hR.cons _)) hh)) (fun v L hp => ?_)
            obtain ⟨rfl, hL⟩ := hp; subst hL
            refine ⟨[], rfl, ?_⟩
            refine chain_fin rfl trivial (fun a w hk hh => ?_)
            refine hK20 a w ?_; try clear hK20 K20
            refine wp_ret ?_
            refine fin_ret hk (show Tryz.f4.results = ⟨[.tmp 8]⟩ from rfl) (by exact (res_tmp hk rfl .nil)) ?_
            replace hh := (hh.at_ 0 rfl).drop
            exact ⟨_, _, rfl, ⟨rfl, rfl⟩, hh⟩
        · refine reg_q tabOK hk hh [(3, .bool false)] [0, 2, 3, 9, 12, 51] rfl ?_ (fun a hk => ?_)
          · exact ⟨ob_eq tabOK rfl (v_df c12), trivial⟩
          refine hK16 a w ?_; try clear hK16 K16
          refine code_cond hk rfl (fun h => by cases h) (fun _ => ?_)
          refine wp_exit ?_
          refine then_exit ?_
          refine then_exit ?_
          refine blk_out ?_
          refine hK13 a w ?_; try clear hK13 K13
          refine wp_seq_k fun K21 hK21 => ?_
          refine wp_region_lit ?_
          refine seq_q tabOK (i := 0) (stop := 3) hk hh [] rfl trivial (fun a hk => ?_)
          refine seq_eff hk hh rfl rfl (eff_call Tryz.func13 rfl rfl rfl rfl (fun w hh => within_spec at0 0 (s.length : Int) (by first | omega | (split <;> omega)) (by first | omega | (split <;> omega)) (by first | omega | (split <;> omega)) σ w _ hh)) (fun v L a w hp hk hh => ?_)
          obtain ⟨rfl, hL⟩ := hp; rw [hL] at hh; clear hL
          have hw22 := within_rng (n := at0) (lo := 0) (hi := (s.length : Int)) (by first | omega | (unfold maxI; split <;> omega))
          refine rest_q tabOK (i := 4) hk hh [] [0, 9, 13] rfl trivial (fun a hk => ?_)
          refine hK21 a w ?_; try clear hK21 K21
          refine wp_seq_k fun K22 hK22 => ?_
          have hz0 : ((s0.take 80)).length ≤ 80 := by first | omega | (rw [List.length_take]; omega)
          have hz1 : (s.take ((withinI at0 0 (s.length : Int)).toNat)).length ≤ s.length := by rw [List.length_take]; omega
          have hz2 : (s.drop ((withinI at0 0 (s.length : Int)).toNat)).length ≤ s.length := by rw [List.length_drop]; omega
          refine reg_d tabOK (by kernel_rfl) hk hh [1, 4, 8, 20, 25, 30, 33] [8] rfl 7 [] ?_
          refine chain_one rfl trivial rfl (eff_call Tryz.func6 rfl rfl rfl rfl (fun w hh => lines_spec (s0.take 80) (by first | omega | (simp only [List.length_append, List.length_cons, List.length_nil]; omega)) (by exact (hR.cons _)) hh)) (fun v L hp => ?_)
          obtain ⟨rfl, hL⟩ := hp; subst hL
          refine ⟨[], rfl, ?_⟩
          refine chain_one rfl trivial rfl (eff_call Tryz.func10 rfl rfl rfl rfl (fun w hh => parses_spec (s0.take 80) (by first | omega | (simp only [List.length_append, List.length_cons, List.length_nil]; omega)) (by exact (hR.cons _)) hh)) (fun v L hp => ?_)
          obtain ⟨rfl, hL⟩ := hp; subst hL
          refine ⟨[], rfl, ?_⟩
          refine chain_one rfl trivial rfl (eff_call Tryz.func10 rfl rfl rfl rfl (fun w hh => parses_spec s (by first | omega | (simp only [List.length_append, List.length_cons, List.length_nil]; omega)) (by exact (hR.cons _)) hh)) (fun v L hp => ?_)
          obtain ⟨rfl, hL⟩ := hp; subst hL
          refine ⟨[(13, S (s.take ((withinI at0 0 (s.length : Int)).toNat))), (15, S ((s.take ((withinI at0 0 (s.length : Int)).toNat)) ++ (s0.take 80))), (18, S (s.drop ((withinI at0 0 (s.length : Int)).toNat))), (19, S (((s.take ((withinI at0 0 (s.length : Int)).toNat)) ++ (s0.take 80)) ++ (s.drop ((withinI at0 0 (s.length : Int)).toNat))))], rfl, ?_⟩
          refine chain_one rfl ?_ rfl (eff_call Tryz.func10 rfl rfl rfl rfl (fun w hh => parses_spec (((s.take ((withinI at0 0 (s.length : Int)).toNat)) ++ (s0.take 80)) ++ (s.drop ((withinI at0 0 (s.length : Int)).toNat))) (by first | omega | (simp only [List.length_append, List.length_cons, List.length_nil]; omega)) (by exact (hR.cons _)) hh)) (fun v L hp => ?_)
          · exact ⟨ob_slice_str tabOK rfl rfl rfl rfl (by omega) (by omega) (by omega) (by simp), ob_concat rfl rfl (by first | omega | (simp only [List.length_append, List.length_cons, List.length_nil]; omega)), ob_slice_str tabOK rfl rfl rfl rfl (by omega) (by omega) (by omega) (by simp), ob_concat rfl rfl (by first | omega | (simp only [List.length_append, List.length_cons, List.length_nil]; omega)), trivial⟩
          obtain ⟨rfl, hL⟩ := hp; subst hL
          refine ⟨[(24, S ([116, 105, 99, 107, 32] ++ (s0.take 80)))], rfl, ?_⟩
          refine chain_one rfl ?_ rfl (eff_call Tryz.func6 rfl rfl rfl rfl (fun w hh => lines_spec ([116, 105, 99, 107, 32] ++ (s0.take 80)) (by first | omega | (simp only [List.length_append, List.length_cons, List.length_nil]; omega)) (by exact (hR.cons _)) hh)) (fun v L hp => ?_)
          · exact ⟨ob_concat rfl rfl (by first | omega | (simp only [List.length_append, List.length_cons, List.length_nil]; omega)), trivial⟩
          obtain ⟨rfl, hL⟩ := hp; subst hL
          refine ⟨[(29, S ([105, 110, 103, 101, 115, 116, 32, 49, 32] ++ (s0.take 80)))], rfl, ?_⟩
          refine chain_one rfl ?_ rfl (eff_call Tryz.func6 rfl rfl rfl rfl (fun w hh => lines_spec ([105, 110, 103, 101, 115, 116, 32, 49, 32] ++ (s0.take 80)) (by first | omega | (simp only [List.length_append, List.length_cons, List.length_nil]; omega)) (by exact (hR.cons _)) hh)) (fun v L hp => ?_)
          · exact ⟨ob_concat rfl rfl (by first | omega | (simp only [List.length_append, List.length_cons, List.length_nil]; omega)), trivial⟩
          obtain ⟨rfl, hL⟩ := hp; subst hL
          refine ⟨[], rfl, ?_⟩
          refine chain_one rfl trivial rfl (eff_call Tryz.func11 rfl rfl rfl rfl (fun w hh => known_spec (by exact (hR.cons _)) hh)) (fun v L hp => ?_)
          obtain ⟨rfl, hL⟩ := hp; subst hL
          refine ⟨[], rfl, ?_⟩
          refine chain_fin rfl trivial (fun a w hk hh => ?_)
          refine hK22 a w ?_; try clear hK22 K22
          refine wp_ret ?_
          refine fin_ret hk (show Tryz.f4.results = ⟨[.tmp 8]⟩ from rfl) (by exact (res_tmp hk rfl .nil)) ?_
          replace hh := (hh.at_ 0 rfl).drop
          exact ⟨_, _, rfl, ⟨rfl, rfl⟩, hh⟩
    · refine reg_q tabOK hk hh [(3, .bool false)] [0, 1, 2, 3, 9, 10, 26] rfl ?_ (fun a hk => ?_)
      · exact ⟨ob_eq tabOK rfl (v_df c2), trivial⟩
      refine hK8 a w ?_; try clear hK8 K8
      refine code_cond hk rfl (fun h => by cases h) (fun _ => ?_)
      refine wp_exit ?_
      refine then_exit ?_
      refine then_exit ?_
      refine blk_out ?_
      refine hK5 a w ?_; try clear hK5 K5
      refine wp_seq_k fun K23 hK23 => ?_
      refine wp_seq_k fun K24 hK24 => ?_
      refine reg_q tabOK hk hh [] [0, 2, 3, 9, 12] rfl trivial (fun a hk => ?_)
      refine hK24 a w ?_; try clear hK24 K24
      refine wp_block ?_
      replace hh := (hh.at_ 0 rfl).drop
      replace hk := hk.keep [0, 2, 3, 9, 12] rfl
      refine code_loop (α := Nat) (fun (m : Nat) (E : Env) (L : List Assn) => ∃ (i : Nat), E = [(0, S (s0.take 80)), (2, .int .i64 at0), (3, .slice a2 q.length k2), (9, S s), (12, .int .i64 (i : Int))] ∧ L = [dat [.slice a2 q.length k2] [.sl (q.map ActL.ds)]] ++ R ∧ (i ≤ q.length) ∧ m = q.length - i) id _ hk hh ⟨0, rfl, rfl, (by omega), rfl⟩ ?_
      clear hk hh
      rintro _ _ _ a w ⟨i, rfl, hL, hj, rfl⟩ hk hh; rw [hL] at hh; clear hL
      refine wp_seq_k fun K25 hK25 => ?_
      refine wp_seq_k fun K26 hK26 => ?_
      by_cases c23 : (i : Int) < (q.length : Int)
      · refine reg_q tabOK hk hh [(3, .bool true)] [0, 2, 3, 9, 12, 51] rfl ?_ (fun a hk => ?_)
        · exact ⟨ob_eq tabOK rfl (v_dt c23), trivial⟩
        refine hK26 a w ?_; try clear hK26 K26
        refine code_cond hk rfl (fun c24 => ?_) (fun c24 => ?_)
        · replace c24 : (i : Int) < 20 := (of_decide_eq_true c24)
          refine wp_skip ?_
          refine hK25 a w ?_; try clear hK25 K25
          refine wp_seq_k fun K27 hK27 => ?_
          refine wp_block ?_
          refine wp_seq_k fun K28 hK28 => ?_
          obtain ⟨b25, o26, T27, rw28, lo29, hi30, ha, hc31, hH⟩ := dat_rows (k := 5) (f := ActL.cs) zA acts_pf (fun _ => rfl) (fun _ => rfl) (by omega) (hh.at_ 0 rfl)
          clear hh; subst ha; have hh := hH; clear hH
          refine reg_d tabOK (by kernel_rfl) hk hh [4, 9] [0, 2, 3, 9, 12, 64] rfl 2 [(2, .pointer (some ⟨b25, o26 + i * 5, none⟩)), (3, .agg ⟨[.int .i64 ((q.getD i zA).k), .int .i64 ((q.getD i zA).a), .int .i64 ((q.getD i zA).b), .int .i64 ((q.getD i zA).n), S ((q.getD i zA).s)]⟩), (7, .pointer (some ⟨b25, o26 + i * 5, none⟩)), (8, .agg ⟨[.int .i64 ((q.getD i zA).k), .int .i64 ((q.getD i zA).a), .int .i64 ((q.getD i zA).b), .int .i64 ((q.getD i zA).n), S ((q.getD i zA).s)]⟩)] ?_
          refine chain_one rfl ?_ rfl (eff_call Tryz.func8 rfl rfl rfl rfl (fun w hh => text_spec (q.getD i zA) (hq _ (by omega)) (by exact ((hR.cons _).cons _)) hh)) (fun v L hp => ?_)
          · exact ⟨ob_indexAddr tabOK (o26 + i * 5) rfl rfl rfl rfl (by omega) (by omega) (by show o26 + ((i : Int) : Int).toNat * 5 = o26 + i * 5; omega), ob_loadN tabOK 0 rfl rfl rfl rfl (hc31 _ (by omega)), ob_indexAddr tabOK (o26 + i * 5) rfl rfl rfl rfl (by omega) (by omega) (by show o26 + ((i : Int) : Int).toNat * 5 = o26 + i * 5; omega), ob_loadN tabOK 0 rfl rfl rfl rfl (hc31 _ (by omega)), trivial⟩
          obtain ⟨rfl, hL⟩ := hp; subst hL
          refine ⟨[], rfl, ?_⟩
          refine chain_one rfl ?_ rfl (eff_call Tryz.func9 rfl rfl rfl rfl (fun w hh => ltext_spec (q.getD i zA) (hq _ (by omega)) σ w _ hh)) (fun v L hp => ?_)
          · exact ⟨ob_indexAddr tabOK (o26 + i * 5) rfl rfl rfl rfl (by omega) (by omega) (by show o26 + ((i : Int) : Int).toNat * 5 = o26 + i * 5; omega), ob_loadN tabOK 0 rfl rfl rfl rfl (hc31 _ (by omega)), trivial⟩
          obtain ⟨rfl, hL⟩ := hp; subst hL
          refine ⟨[(10, .bool false)], rfl, ?_⟩
          refine chain_fin rfl ?_ (fun a w hk hh => ?_)
          · exact ⟨ob_eq tabOK rfl (v_not (v_et rfl)), trivial⟩
          refine hK28 a w ?_; try clear hK28 K28
          refine code_cond hk rfl (fun h => by cases h) (fun _ => ?_)
          refine wp_skip ?_
          refine blk_nm ?_
          refine hK27 a w ?_; try clear hK27 K27
          refine reg_q tabOK hk hh [(1, .int .i64 ((i : Int) + 1))] [0, 2, 3, 9, 12] rfl ?_ (fun a hk => ?_)
          · exact ⟨ob_eq tabOK rfl (eq_i64 (by omega)), trivial⟩
          replace hh := (hh.at_ 0 rfl).drop
          refine then_nm ?_
          exact ⟨_, _, _, ⟨i + 1, rfl, rfl, (by omega), rfl⟩, (by simp only [id]; omega), hk.keep [0, 2, 3, 9, 12] rfl, hh⟩
        · replace c24 : ¬ ((i : Int) < 20) := (of_decide_eq_false c24)
          refine wp_exit ?_
          refine then_exit ?_
          refine then_exit ?_
          refine blk_out ?_
          refine hK23 a w ?_; try clear hK23 K23
          refine wp_seq_k fun K29 hK29 => ?_
          refine wp_region_lit ?_
          refine seq_q tabOK (i := 0) (stop := 3) hk hh [] rfl trivial (fun a hk => ?_)
          refine seq_eff hk hh rfl rfl (eff_call Tryz.func13 rfl rfl rfl rfl (fun w hh => within_spec at0 0 (s.length : Int) (by first | omega | (split <;> omega)) (by first | omega | (split <;> omega)) (by first | omega | (split <;> omega)) σ w _ hh)) (fun v L a w hp hk hh => ?_)
          obtain ⟨rfl, hL⟩ := hp; rw [hL] at hh; clear hL
          have hw32 := within_rng (n := at0) (lo := 0) (hi := (s.length : Int)) (by first | omega | (unfold maxI; split <;> omega))
          refine rest_q tabOK (i := 4) hk hh [] [0, 9, 13] rfl trivial (fun a hk => ?_)
          refine hK29 a w ?_; try clear hK29 K29
          refine wp_seq_k fun K30 hK30 => ?_
          have hz0 : ((s0.take 80)).length ≤ 80 := by first | omega | (rw [List.length_take]; omega)
          have hz1 : (s.take ((withinI at0 0 (s.length : Int)).toNat)).length ≤ s.length := by rw [List.length_take]; omega
          have hz2 : (s.drop ((withinI at0 0 (s.length : Int)).toNat)).length ≤ s.length := by rw [List.length_drop]; omega
          refine reg_d tabOK (by kernel_rfl) hk hh [1, 4, 8, 20, 25, 30, 33] [8] rfl 7 [] ?_
          refine chain_one rfl trivial rfl (eff_call Tryz.func6 rfl rfl rfl rfl (fun w hh => lines_spec (s0.take 80) (by first | omega | (simp only [List.length_append, List.length_cons, List.length_nil]; omega)) (by exact (hR.cons _)) hh)) (fun v L hp => ?_)
          obtain ⟨rfl, hL⟩ := hp; subst hL
          refine ⟨[], rfl, ?_⟩
          refine chain_one rfl trivial rfl (eff_call Tryz.func10 rfl rfl rfl rfl (fun w hh => parses_spec (s0.take 80) (by first | omega | (simp only [List.length_append, List.length_cons, List.length_nil]; omega)) (by exact (hR.cons _)) hh)) (fun v L hp => ?_)
          obtain ⟨rfl, hL⟩ := hp; subst hL
          refine ⟨[], rfl, ?_⟩
          refine chain_one rfl trivial rfl (eff_call Tryz.func10 rfl rfl rfl rfl (fun w hh => parses_spec s (by first | omega | (simp only [List.length_append, List.length_cons, List.length_nil]; omega)) (by exact (hR.cons _)) hh)) (fun v L hp => ?_)
          obtain ⟨rfl, hL⟩ := hp; subst hL
          refine ⟨[(13, S (s.take ((withinI at0 0 (s.length : Int)).toNat))), (15, S ((s.take ((withinI at0 0 (s.length : Int)).toNat)) ++ (s0.take 80))), (18, S (s.drop ((withinI at0 0 (s.length : Int)).toNat))), (19, S (((s.take ((withinI at0 0 (s.length : Int)).toNat)) ++ (s0.take 80)) ++ (s.drop ((withinI at0 0 (s.length : Int)).toNat))))], rfl, ?_⟩
          refine chain_one rfl ?_ rfl (eff_call Tryz.func10 rfl rfl rfl rfl (fun w hh => parses_spec (((s.take ((withinI at0 0 (s.length : Int)).toNat)) ++ (s0.take 80)) ++ (s.drop ((withinI at0 0 (s.length : Int)).toNat))) (by first | omega | (simp only [List.length_append, List.length_cons, List.length_nil]; omega)) (by exact (hR.cons _)) hh)) (fun v L hp => ?_)
          · exact ⟨ob_slice_str tabOK rfl rfl rfl rfl (by omega) (by omega) (by omega) (by simp), ob_concat rfl rfl (by first | omega | (simp only [List.length_append, List.length_cons, List.length_nil]; omega)), ob_slice_str tabOK rfl rfl rfl rfl (by omega) (by omega) (by omega) (by simp), ob_concat rfl rfl (by first | omega | (simp only [List.length_append, List.length_cons, List.length_nil]; omega)), trivial⟩
          obtain ⟨rfl, hL⟩ := hp; subst hL
          refine ⟨[(24, S ([116, 105, 99, 107, 32] ++ (s0.take 80)))], rfl, ?_⟩
          refine chain_one rfl ?_ rfl (eff_call Tryz.func6 rfl rfl rfl rfl (fun w hh => lines_spec ([116, 105, 99, 107, 32] ++ (s0.take 80)) (by first | omega | (simp only [List.length_append, List.length_cons, List.length_nil]; omega)) (by exact (hR.cons _)) hh)) (fun v L hp => ?_)
          · exact ⟨ob_concat rfl rfl (by first | omega | (simp only [List.length_append, List.length_cons, List.length_nil]; omega)), trivial⟩
          obtain ⟨rfl, hL⟩ := hp; subst hL
          refine ⟨[(29, S ([105, 110, 103, 101, 115, 116, 32, 49, 32] ++ (s0.take 80)))], rfl, ?_⟩
          refine chain_one rfl ?_ rfl (eff_call Tryz.func6 rfl rfl rfl rfl (fun w hh => lines_spec ([105, 110, 103, 101, 115, 116, 32, 49, 32] ++ (s0.take 80)) (by first | omega | (simp only [List.length_append, List.length_cons, List.length_nil]; omega)) (by exact (hR.cons _)) hh)) (fun v L hp => ?_)
          · exact ⟨ob_concat rfl rfl (by first | omega | (simp only [List.length_append, List.length_cons, List.length_nil]; omega)), trivial⟩
          obtain ⟨rfl, hL⟩ := hp; subst hL
          refine ⟨[], rfl, ?_⟩
          refine chain_one rfl trivial rfl (eff_call Tryz.func11 rfl rfl rfl rfl (fun w hh => known_spec (by exact (hR.cons _)) hh)) (fun v L hp => ?_)
          obtain ⟨rfl, hL⟩ := hp; subst hL
          refine ⟨[], rfl, ?_⟩
          refine chain_fin rfl trivial (fun a w hk hh => ?_)
          refine hK30 a w ?_; try clear hK30 K30
          refine wp_ret ?_
          refine fin_ret hk (show Tryz.f4.results = ⟨[.tmp 8]⟩ from rfl) (by exact (res_tmp hk rfl .nil)) ?_
          replace hh := (hh.at_ 0 rfl).drop
          exact ⟨_, _, rfl, ⟨rfl, rfl⟩, hh⟩
      · refine reg_q tabOK hk hh [(3, .bool false)] [0, 2, 3, 9, 12, 51] rfl ?_ (fun a hk => ?_)
        · exact ⟨ob_eq tabOK rfl (v_df c23), trivial⟩
        refine hK26 a w ?_; try clear hK26 K26
        refine code_cond hk rfl (fun h => by cases h) (fun _ => ?_)
        refine wp_exit ?_
        refine then_exit ?_
        refine then_exit ?_
        refine blk_out ?_
        refine hK23 a w ?_; try clear hK23 K23
        refine wp_seq_k fun K31 hK31 => ?_
        refine wp_region_lit ?_
        refine seq_q tabOK (i := 0) (stop := 3) hk hh [] rfl trivial (fun a hk => ?_)
        refine seq_eff hk hh rfl rfl (eff_call Tryz.func13 rfl rfl rfl rfl (fun w hh => within_spec at0 0 (s.length : Int) (by first | omega | (split <;> omega)) (by first | omega | (split <;> omega)) (by first | omega | (split <;> omega)) σ w _ hh)) (fun v L a w hp hk hh => ?_)
        obtain ⟨rfl, hL⟩ := hp; rw [hL] at hh; clear hL
        have hw33 := within_rng (n := at0) (lo := 0) (hi := (s.length : Int)) (by first | omega | (unfold maxI; split <;> omega))
        refine rest_q tabOK (i := 4) hk hh [] [0, 9, 13] rfl trivial (fun a hk => ?_)
        refine hK31 a w ?_; try clear hK31 K31
        refine wp_seq_k fun K32 hK32 => ?_
        have hz0 : ((s0.take 80)).length ≤ 80 := by first | omega | (rw [List.length_take]; omega)
        have hz1 : (s.take ((withinI at0 0 (s.length : Int)).toNat)).length ≤ s.length := by rw [List.length_take]; omega
        have hz2 : (s.drop ((withinI at0 0 (s.length : Int)).toNat)).length ≤ s.length := by rw [List.length_drop]; omega
        refine reg_d tabOK (by kernel_rfl) hk hh [1, 4, 8, 20, 25, 30, 33] [8] rfl 7 [] ?_
        refine chain_one rfl trivial rfl (eff_call Tryz.func6 rfl rfl rfl rfl (fun w hh => lines_spec (s0.take 80) (by first | omega | (simp only [List.length_append, List.length_cons, List.length_nil]; omega)) (by exact (hR.cons _)) hh)) (fun v L hp => ?_)
        obtain ⟨rfl, hL⟩ := hp; subst hL
        refine ⟨[], rfl, ?_⟩
        refine chain_one rfl trivial rfl (eff_call Tryz.func10 rfl rfl rfl rfl (fun w hh => parses_spec (s0.take 80) (by first | omega | (simp only [List.length_append, List.length_cons, List.length_nil]; omega)) (by exact (hR.cons _)) hh)) (fun v L hp => ?_)
        obtain ⟨rfl, hL⟩ := hp; subst hL
        refine ⟨[], rfl, ?_⟩
        refine chain_one rfl trivial rfl (eff_call Tryz.func10 rfl rfl rfl rfl (fun w hh => parses_spec s (by first | omega | (simp only [List.length_append, List.length_cons, List.length_nil]; omega)) (by exact (hR.cons _)) hh)) (fun v L hp => ?_)
        obtain ⟨rfl, hL⟩ := hp; subst hL
        refine ⟨[(13, S (s.take ((withinI at0 0 (s.length : Int)).toNat))), (15, S ((s.take ((withinI at0 0 (s.length : Int)).toNat)) ++ (s0.take 80))), (18, S (s.drop ((withinI at0 0 (s.length : Int)).toNat))), (19, S (((s.take ((withinI at0 0 (s.length : Int)).toNat)) ++ (s0.take 80)) ++ (s.drop ((withinI at0 0 (s.length : Int)).toNat))))], rfl, ?_⟩
        refine chain_one rfl ?_ rfl (eff_call Tryz.func10 rfl rfl rfl rfl (fun w hh => parses_spec (((s.take ((withinI at0 0 (s.length : Int)).toNat)) ++ (s0.take 80)) ++ (s.drop ((withinI at0 0 (s.length : Int)).toNat))) (by first | omega | (simp only [List.length_append, List.length_cons, List.length_nil]; omega)) (by exact (hR.cons _)) hh)) (fun v L hp => ?_)
        · exact ⟨ob_slice_str tabOK rfl rfl rfl rfl (by omega) (by omega) (by omega) (by simp), ob_concat rfl rfl (by first | omega | (simp only [List.length_append, List.length_cons, List.length_nil]; omega)), ob_slice_str tabOK rfl rfl rfl rfl (by omega) (by omega) (by omega) (by simp), ob_concat rfl rfl (by first | omega | (simp only [List.length_append, List.length_cons, List.length_nil]; omega)), trivial⟩
        obtain ⟨rfl, hL⟩ := hp; subst hL
        refine ⟨[(24, S ([116, 105, 99, 107, 32] ++ (s0.take 80)))], rfl, ?_⟩
        refine chain_one rfl ?_ rfl (eff_call Tryz.func6 rfl rfl rfl rfl (fun w hh => lines_spec ([116, 105, 99, 107, 32] ++ (s0.take 80)) (by first | omega | (simp only [List.length_append, List.length_cons, List.length_nil]; omega)) (by exact (hR.cons _)) hh)) (fun v L hp => ?_)
        · exact ⟨ob_concat rfl rfl (by first | omega | (simp only [List.length_append, List.length_cons, List.length_nil]; omega)), trivial⟩
        obtain ⟨rfl, hL⟩ := hp; subst hL
        refine ⟨[(29, S ([105, 110, 103, 101, 115, 116, 32, 49, 32] ++ (s0.take 80)))], rfl, ?_⟩
        refine chain_one rfl ?_ rfl (eff_call Tryz.func6 rfl rfl rfl rfl (fun w hh => lines_spec ([105, 110, 103, 101, 115, 116, 32, 49, 32] ++ (s0.take 80)) (by first | omega | (simp only [List.length_append, List.length_cons, List.length_nil]; omega)) (by exact (hR.cons _)) hh)) (fun v L hp => ?_)
        · exact ⟨ob_concat rfl rfl (by first | omega | (simp only [List.length_append, List.length_cons, List.length_nil]; omega)), trivial⟩
        obtain ⟨rfl, hL⟩ := hp; subst hL
        refine ⟨[], rfl, ?_⟩
        refine chain_one rfl trivial rfl (eff_call Tryz.func11 rfl rfl rfl rfl (fun w hh => known_spec (by exact (hR.cons _)) hh)) (fun v L hp => ?_)
        obtain ⟨rfl, hL⟩ := hp; subst hL
        refine ⟨[], rfl, ?_⟩
        refine chain_fin rfl trivial (fun a w hk hh => ?_)
        refine hK32 a w ?_; try clear hK32 K32
        refine wp_ret ?_
        refine fin_ret hk (show Tryz.f4.results = ⟨[.tmp 8]⟩ from rfl) (by exact (res_tmp hk rfl .nil)) ?_
        replace hh := (hh.at_ 0 rfl).drop
        exact ⟨_, _, rfl, ⟨rfl, rfl⟩, hh⟩
  · replace c1 : ¬ ((s0.length : Int) > 80) := (of_decide_eq_false c1)
    refine wp_skip ?_
    refine hK2 a w ?_; try clear hK2 K2
    refine wp_seq_k fun K33 hK33 => ?_
    refine reg_q tabOK hk hh [] [0, 1, 2, 3, 9] rfl trivial (fun a hk => ?_)
    refine hK33 a w ?_; try clear hK33 K33
    refine wp_seq_k fun K34 hK34 => ?_
    refine wp_seq_k fun K35 hK35 => ?_
    refine reg_q tabOK hk hh [] [0, 1, 2, 3, 9, 10] rfl trivial (fun a hk => ?_)
    refine hK35 a w ?_; try clear hK35 K35
    refine wp_block ?_
    replace hk := hk.keep [0, 1, 2, 3, 9, 10] rfl
    refine code_loop (α := Nat) (fun (m : Nat) (E : Env) (L : List Assn) => ∃ (i : Nat) (s : List UInt8), E = [(0, S s0), (1, .slice a1 l.length k1), (2, .int .i64 at0), (3, .slice a2 q.length k2), (9, S s), (10, .int .i64 (i : Int))] ∧ L = [dat [.slice a1 l.length k1] [.sl (l.map DrawL.ds)], dat [.slice a2 q.length k2] [.sl (q.map ActL.ds)]] ++ R ∧ (i ≤ l.length) ∧ (s.length ≤ 85 * i ∧ i ≤ 10) ∧ m = l.length - i) id _ hk hh ⟨0, [], rfl, rfl, (by omega), (by simp), rfl⟩ ?_
    clear hk hh
    rintro _ _ _ a w ⟨i, s, rfl, hL, hi, hs, rfl⟩ hk hh; rw [hL] at hh; clear hL
    refine wp_seq_k fun K36 hK36 => ?_
    refine wp_seq_k fun K37 hK37 => ?_
    by_cases c34 : (i : Int) < (l.length : Int)
    · refine reg_q tabOK hk hh [(3, .bool true)] [0, 1, 2, 3, 9, 10, 26] rfl ?_ (fun a hk => ?_)
      · exact ⟨ob_eq tabOK rfl (v_dt c34), trivial⟩
      refine hK37 a w ?_; try clear hK37 K37
      refine code_cond hk rfl (fun c35 => ?_) (fun c35 => ?_)
      · replace c35 : (i : Int) < 10 := (of_decide_eq_true c35)
        refine wp_skip ?_
        refine hK36 a w ?_; try clear hK36 K36
        refine wp_seq_k fun K38 hK38 => ?_
        refine wp_block ?_
        refine wp_seq_k fun K39 hK39 => ?_
        obtain ⟨b36, o37, T38, rw39, lo40, hi41, ha, hc42, hH⟩ := dat_rows (k := 4) (f := DrawL.cs) zD draw_pf (fun _ => rfl) (fun _ => rfl) (by omega) (hh.at_ 0 rfl)
        clear hh; subst ha; have hh := hH; clear hH
        refine wp_region_lit ?_
        refine seq_q tabOK (i := 0) (stop := 4) hk hh [(2, .pointer (some ⟨b36, o37 + i * 4, none⟩)), (3, .agg ⟨[.int .i64 ((l.getD i zD).k), .int .i64 ((l.getD i zD).a), .int .i64 ((l.getD i zD).b), .int .i64 ((l.getD i zD).n)]⟩)] rfl ?_ (fun a hk => ?_)
        · exact ⟨ob_indexAddr tabOK (o37 + i * 4) rfl rfl rfl rfl (by omega) (by omega) (by show o37 + ((i : Int) : Int).toNat * 4 = o37 + i * 4; omega), ob_loadN tabOK 0 rfl rfl rfl rfl (hc42 _ (by omega)), trivial⟩
        refine seq_eff hk hh rfl rfl (eff_call Tryz.func12 rfl rfl rfl rfl (fun w hh => act_spec (l.getD i zD) 3 5 9 (by omega) (by omega) (by omega) σ w _ hh)) (fun v L a w hp hk hh => ?_)
        obtain ⟨rfl, hL⟩ := hp; rw [hL] at hh; clear hL
        refine seq_eff hk hh rfl rfl (eff_alloc tabOK rfl) (fun v L a w hp hk hh => ?_)
        obtain ⟨b43, rfl, hL⟩ := hp; rw [hL] at hh; clear hL
        refine seq_eff hk hh rfl rfl (eff_store tabOK 0 rfl rfl rfl rfl rfl rfl rfl (by simp)) (fun v L a w hp hk hh => ?_)
        obtain ⟨rfl, hL⟩ := hp; rw [hL] at hh; clear hL
        refine rest_q tabOK (i := 7) hk hh [] [0, 1, 2, 3, 9, 10, 11] rfl trivial (fun a hk => ?_)
        refine hK39 a w ?_; try clear hK39 K39
        refine wp_seq_k fun K40 hK40 => ?_
        refine wp_seq_k fun K41 hK41 => ?_
        have htl := drawn_len (l.getD i zD)
        refine reg_d tabOK (by kernel_rfl) hk hh [1, 3] [0, 1, 2, 3, 9, 10, 11, 38] rfl 2 [(0, .agg ⟨[.int .i64 ((actO (l.getD i zD) 3 5 9).k), .int .i64 ((actO (l.getD i zD) 3 5 9).a), .int .i64 ((actO (l.getD i zD) 3 5 9).b), .int .i64 ((actO (l.getD i zD) 3 5 9).n), S ((actO (l.getD i zD) 3 5 9).s)]⟩), (2, .agg ⟨[.int .i64 ((actO (l.getD i zD) 3 5 9).k), .int .i64 ((actO (l.getD i zD) 3 5 9).a), .int .i64 ((actO (l.getD i zD) 3 5 9).b), .int .i64 ((actO (l.getD i zD) 3 5 9).n), S ((actO (l.getD i zD) 3 5 9).s)]⟩)] ?_
        refine chain_one rfl ?_ rfl (eff_call Tryz.func8 rfl rfl rfl rfl (fun w hh => text_spec (actO (l.getD i zD) 3 5 9) (actO_ok (by omega) (by omega) (by omega)) (by exact ((((hR.cons _).cons _).cons _).cons _)) hh)) (fun v L hp => ?_)
        · exact ⟨ob_loadN tabOK 0 rfl rfl rfl rfl rfl, ob_loadN tabOK 0 rfl rfl rfl rfl rfl, trivial⟩
        obtain ⟨rfl, hL⟩ := hp; subst hL
        refine ⟨[], rfl, ?_⟩
        refine chain_one rfl ?_ rfl (eff_call Tryz.func9 rfl rfl rfl rfl (fun w hh => ltext_spec (actO (l.getD i zD) 3 5 9) (actO_ok (by omega) (by omega) (by omega)) σ w _ hh)) (fun v L hp => ?_)
        · exact ⟨ob_loadN tabOK 0 rfl rfl rfl rfl rfl, trivial⟩
        obtain ⟨rfl, hL⟩ := hp; subst hL
        refine ⟨[(4, .bool false)], rfl, ?_⟩
        refine chain_fin rfl ?_ (fun a w hk hh => ?_)
        · exact ⟨ob_eq tabOK rfl (v_not (v_et rfl)), trivial⟩
        refine hK41 a w ?_; try clear hK41 K41
        refine code_cond hk rfl (fun h => by cases h) (fun _ => ?_)
        refine wp_skip ?_
        refine hK40 a w ?_; try clear hK40 K40
        refine wp_region_lit ?_
        refine seq_q tabOK (i := 0) (stop := 2) hk hh [(1, .agg ⟨[.int .i64 ((actO (l.getD i zD) 3 5 9).k), .int .i64 ((actO (l.getD i zD) 3 5 9).a), .int .i64 ((actO (l.getD i zD) 3 5 9).b), .int .i64 ((actO (l.getD i zD) 3 5 9).n), S ((actO (l.getD i zD) 3 5 9).s)]⟩)] rfl ?_ (fun a hk => ?_)
        · exact ⟨ob_loadN tabOK 0 rfl rfl rfl rfl rfl, trivial⟩
        refine seq_eff hk hh rfl rfl (eff_call Tryz.func9 rfl rfl rfl rfl (fun w hh => ltext_spec (actO (l.getD i zD) 3 5 9) (actO_ok (by omega) (by omega) (by omega)) σ w _ hh)) (fun v L a w hp hk hh => ?_)
        obtain ⟨rfl, hL⟩ := hp; rw [hL] at hh; clear hL
        refine rest_q tabOK (i := 3) hk hh [(3, S ((textO (actO (l.getD i zD) 3 5 9)) ++ [10])), (4, S (s ++ ((textO (actO (l.getD i zD) 3 5 9)) ++ [10])))] [0, 1, 2, 3, 9, 10] rfl ?_ (fun a hk => ?_)
        · exact ⟨ob_concat rfl rfl (by first | omega | (simp only [List.length_append, List.length_cons, List.length_nil]; omega)), ob_concat rfl rfl (by first | omega | (simp only [List.length_append, List.length_cons, List.length_nil]; omega)), trivial⟩
        refine blk_nm ?_
        refine hK38 a w ?_; try clear hK38 K38
        refine reg_q tabOK hk hh [(1, .int .i64 ((i : Int) + 1))] [0, 1, 2, 3, 9, 10] rfl ?_ (fun a hk => ?_)
        · exact ⟨ob_eq tabOK rfl (eq_i64 (by omega)), trivial⟩
        have htl := drawn_len (l.getD i zD)
        replace hh := (hh.at_ 0 rfl).drop
        replace hh := (hh.at_ 0 rfl).drop
        refine then_nm ?_
        exact ⟨_, _, _, ⟨i + 1, s ++ ((textO (actO (l.getD i zD) 3 5 9)) ++ [10]), rfl, rfl, (by omega), (by simp only [List.length_append, List.length_cons, List.length_nil]; omega), rfl⟩, (by simp only [id]; omega), hk.keep [0, 1, 2, 3, 9, 10] rfl, hh⟩
      · replace c35 : ¬ ((i : Int) < 10) := (of_decide_eq_false c35)
        refine wp_exit ?_
        refine then_exit ?_
        refine then_exit ?_
        refine blk_out ?_
        refine hK34 a w ?_; try clear hK34 K34
        refine wp_seq_k fun K42 hK42 => ?_
        refine wp_seq_k fun K43 hK43 => ?_
        refine reg_q tabOK hk hh [] [0, 2, 3, 9, 12] rfl trivial (fun a hk => ?_)
        refine hK43 a w ?_; try clear hK43 K43
        refine wp_block ?_
        replace hh := (hh.at_ 0 rfl).drop
        replace hk := hk.keep [0, 2, 3, 9, 12] rfl
        refine code_loop (α := Nat) (fun (m : Nat) (E : Env) (L : List Assn) => ∃ (i : Nat), E = [(0, S s0), (2, .int .i64 at0), (3, .slice a2 q.length k2), (9, S s), (12, .int .i64 (i : Int))] ∧ L = [dat [.slice a2 q.length k2] [.sl (q.map ActL.ds)]] ++ R ∧ (i ≤ q.length) ∧ m = q.length - i) id _ hk hh ⟨0, rfl, rfl, (by omega), rfl⟩ ?_
        clear hk hh
        rintro _ _ _ a w ⟨i, rfl, hL, hj, rfl⟩ hk hh; rw [hL] at hh; clear hL
        refine wp_seq_k fun K44 hK44 => ?_
        refine wp_seq_k fun K45 hK45 => ?_
        by_cases c44 : (i : Int) < (q.length : Int)
        · refine reg_q tabOK hk hh [(3, .bool true)] [0, 2, 3, 9, 12, 51] rfl ?_ (fun a hk => ?_)
          · exact ⟨ob_eq tabOK rfl (v_dt c44), trivial⟩
          refine hK45 a w ?_; try clear hK45 K45
          refine code_cond hk rfl (fun c45 => ?_) (fun c45 => ?_)
          · replace c45 : (i : Int) < 20 := (of_decide_eq_true c45)
            refine wp_skip ?_
            refine hK44 a w ?_; try clear hK44 K44
            refine wp_seq_k fun K46 hK46 => ?_
            refine wp_block ?_
            refine wp_seq_k fun K47 hK47 => ?_
            obtain ⟨b46, o47, T48, rw49, lo50, hi51, ha, hc52, hH⟩ := dat_rows (k := 5) (f := ActL.cs) zA acts_pf (fun _ => rfl) (fun _ => rfl) (by omega) (hh.at_ 0 rfl)
            clear hh; subst ha; have hh := hH; clear hH
            refine reg_d tabOK (by kernel_rfl) hk hh [4, 9] [0, 2, 3, 9, 12, 64] rfl 2 [(2, .pointer (some ⟨b46, o47 + i * 5, none⟩)), (3, .agg ⟨[.int .i64 ((q.getD i zA).k), .int .i64 ((q.getD i zA).a), .int .i64 ((q.getD i zA).b), .int .i64 ((q.getD i zA).n), S ((q.getD i zA).s)]⟩), (7, .pointer (some ⟨b46, o47 + i * 5, none⟩)), (8, .agg ⟨[.int .i64 ((q.getD i zA).k), .int .i64 ((q.getD i zA).a), .int .i64 ((q.getD i zA).b), .int .i64 ((q.getD i zA).n), S ((q.getD i zA).s)]⟩)] ?_
            refine chain_one rfl ?_ rfl (eff_call Tryz.func8 rfl rfl rfl rfl (fun w hh => text_spec (q.getD i zA) (hq _ (by omega)) (by exact ((hR.cons _).cons _)) hh)) (fun v L hp => ?_)
            · exact ⟨ob_indexAddr tabOK (o47 + i * 5) rfl rfl rfl rfl (by omega) (by omega) (by show o47 + ((i : Int) : Int).toNat * 5 = o47 + i * 5; omega), ob_loadN tabOK 0 rfl rfl rfl rfl (hc52 _ (by omega)), ob_indexAddr tabOK (o47 + i * 5) rfl rfl rfl rfl (by omega) (by omega) (by show o47 + ((i : Int) : Int).toNat * 5 = o47 + i * 5; omega), ob_loadN tabOK 0 rfl rfl rfl rfl (hc52 _ (by omega)), trivial⟩
            obtain ⟨rfl, hL⟩ := hp; subst hL
            refine ⟨[], rfl, ?_⟩
            refine chain_one rfl ?_ rfl (eff_call Tryz.func9 rfl rfl rfl rfl (fun w hh => ltext_spec (q.getD i zA) (hq _ (by omega)) σ w _ hh)) (fun v L hp => ?_)
            · exact ⟨ob_indexAddr tabOK (o47 + i * 5) rfl rfl rfl rfl (by omega) (by omega) (by show o47 + ((i : Int) : Int).toNat * 5 = o47 + i * 5; omega), ob_loadN tabOK 0 rfl rfl rfl rfl (hc52 _ (by omega)), trivial⟩
            obtain ⟨rfl, hL⟩ := hp; subst hL
            refine ⟨[(10, .bool false)], rfl, ?_⟩
            refine chain_fin rfl ?_ (fun a w hk hh => ?_)
            · exact ⟨ob_eq tabOK rfl (v_not (v_et rfl)), trivial⟩
            refine hK47 a w ?_; try clear hK47 K47
            refine code_cond hk rfl (fun h => by cases h) (fun _ => ?_)
            refine wp_skip ?_
            refine blk_nm ?_
            refine hK46 a w ?_; try clear hK46 K46
            refine reg_q tabOK hk hh [(1, .int .i64 ((i : Int) + 1))] [0, 2, 3, 9, 12] rfl ?_ (fun a hk => ?_)
            · exact ⟨ob_eq tabOK rfl (eq_i64 (by omega)), trivial⟩
            replace hh := (hh.at_ 0 rfl).drop
            refine then_nm ?_
            exact ⟨_, _, _, ⟨i + 1, rfl, rfl, (by omega), rfl⟩, (by simp only [id]; omega), hk.keep [0, 2, 3, 9, 12] rfl, hh⟩
          · replace c45 : ¬ ((i : Int) < 20) := (of_decide_eq_false c45)
            refine wp_exit ?_
            refine then_exit ?_
            refine then_exit ?_
            refine blk_out ?_
            refine hK42 a w ?_; try clear hK42 K42
            refine wp_seq_k fun K48 hK48 => ?_
            refine wp_region_lit ?_
            refine seq_q tabOK (i := 0) (stop := 3) hk hh [] rfl trivial (fun a hk => ?_)
            refine seq_eff hk hh rfl rfl (eff_call Tryz.func13 rfl rfl rfl rfl (fun w hh => within_spec at0 0 (s.length : Int) (by first | omega | (split <;> omega)) (by first | omega | (split <;> omega)) (by first | omega | (split <;> omega)) σ w _ hh)) (fun v L a w hp hk hh => ?_)
            obtain ⟨rfl, hL⟩ := hp; rw [hL] at hh; clear hL
            have hw53 := within_rng (n := at0) (lo := 0) (hi := (s.length : Int)) (by first | omega | (unfold maxI; split <;> omega))
            refine rest_q tabOK (i := 4) hk hh [] [0, 9, 13] rfl trivial (fun a hk => ?_)
            refine hK48 a w ?_; try clear hK48 K48
            refine wp_seq_k fun K49 hK49 => ?_
            have hz0 : (s0).length ≤ 80 := by first | omega | (rw [List.length_take]; omega)
            have hz1 : (s.take ((withinI at0 0 (s.length : Int)).toNat)).length ≤ s.length := by rw [List.length_take]; omega
            have hz2 : (s.drop ((withinI at0 0 (s.length : Int)).toNat)).length ≤ s.length := by rw [List.length_drop]; omega
            refine reg_d tabOK (by kernel_rfl) hk hh [1, 4, 8, 20, 25, 30, 33] [8] rfl 7 [] ?_
            refine chain_one rfl trivial rfl (eff_call Tryz.func6 rfl rfl rfl rfl (fun w hh => lines_spec s0 (by first | omega | (simp only [List.length_append, List.length_cons, List.length_nil]; omega)) (by exact (hR.cons _)) hh)) (fun v L hp => ?_)
            obtain ⟨rfl, hL⟩ := hp; subst hL
            refine ⟨[], rfl, ?_⟩
            refine chain_one rfl trivial rfl (eff_call Tryz.func10 rfl rfl rfl rfl (fun w hh => parses_spec s0 (by first | omega | (simp only [List.length_append, List.length_cons, List.length_nil]; omega)) (by exact (hR.cons _)) hh)) (fun v L hp => ?_)
            obtain ⟨rfl, hL⟩ := hp; subst hL
            refine ⟨[], rfl, ?_⟩
            refine chain_one rfl trivial rfl (eff_call Tryz.func10 rfl rfl rfl rfl (fun w hh => parses_spec s (by first | omega | (simp only [List.length_append, List.length_cons, List.length_nil]; omega)) (by exact (hR.cons _)) hh)) (fun v L hp => ?_)
            obtain ⟨rfl, hL⟩ := hp; subst hL
            refine ⟨[(13, S (s.take ((withinI at0 0 (s.length : Int)).toNat))), (15, S ((s.take ((withinI at0 0 (s.length : Int)).toNat)) ++ s0)), (18, S (s.drop ((withinI at0 0 (s.length : Int)).toNat))), (19, S (((s.take ((withinI at0 0 (s.length : Int)).toNat)) ++ s0) ++ (s.drop ((withinI at0 0 (s.length : Int)).toNat))))], rfl, ?_⟩
            refine chain_one rfl ?_ rfl (eff_call Tryz.func10 rfl rfl rfl rfl (fun w hh => parses_spec (((s.take ((withinI at0 0 (s.length : Int)).toNat)) ++ s0) ++ (s.drop ((withinI at0 0 (s.length : Int)).toNat))) (by first | omega | (simp only [List.length_append, List.length_cons, List.length_nil]; omega)) (by exact (hR.cons _)) hh)) (fun v L hp => ?_)
            · exact ⟨ob_slice_str tabOK rfl rfl rfl rfl (by omega) (by omega) (by omega) (by simp), ob_concat rfl rfl (by first | omega | (simp only [List.length_append, List.length_cons, List.length_nil]; omega)), ob_slice_str tabOK rfl rfl rfl rfl (by omega) (by omega) (by omega) (by simp), ob_concat rfl rfl (by first | omega | (simp only [List.length_append, List.length_cons, List.length_nil]; omega)), trivial⟩
            obtain ⟨rfl, hL⟩ := hp; subst hL
            refine ⟨[(24, S ([116, 105, 99, 107, 32] ++ s0))], rfl, ?_⟩
            refine chain_one rfl ?_ rfl (eff_call Tryz.func6 rfl rfl rfl rfl (fun w hh => lines_spec ([116, 105, 99, 107, 32] ++ s0) (by first | omega | (simp only [List.length_append, List.length_cons, List.length_nil]; omega)) (by exact (hR.cons _)) hh)) (fun v L hp => ?_)
            · exact ⟨ob_concat rfl rfl (by first | omega | (simp only [List.length_append, List.length_cons, List.length_nil]; omega)), trivial⟩
            obtain ⟨rfl, hL⟩ := hp; subst hL
            refine ⟨[(29, S ([105, 110, 103, 101, 115, 116, 32, 49, 32] ++ s0))], rfl, ?_⟩
            refine chain_one rfl ?_ rfl (eff_call Tryz.func6 rfl rfl rfl rfl (fun w hh => lines_spec ([105, 110, 103, 101, 115, 116, 32, 49, 32] ++ s0) (by first | omega | (simp only [List.length_append, List.length_cons, List.length_nil]; omega)) (by exact (hR.cons _)) hh)) (fun v L hp => ?_)
            · exact ⟨ob_concat rfl rfl (by first | omega | (simp only [List.length_append, List.length_cons, List.length_nil]; omega)), trivial⟩
            obtain ⟨rfl, hL⟩ := hp; subst hL
            refine ⟨[], rfl, ?_⟩
            refine chain_one rfl trivial rfl (eff_call Tryz.func11 rfl rfl rfl rfl (fun w hh => known_spec (by exact (hR.cons _)) hh)) (fun v L hp => ?_)
            obtain ⟨rfl, hL⟩ := hp; subst hL
            refine ⟨[], rfl, ?_⟩
            refine chain_fin rfl trivial (fun a w hk hh => ?_)
            refine hK49 a w ?_; try clear hK49 K49
            refine wp_ret ?_
            refine fin_ret hk (show Tryz.f4.results = ⟨[.tmp 8]⟩ from rfl) (by exact (res_tmp hk rfl .nil)) ?_
            replace hh := (hh.at_ 0 rfl).drop
            exact ⟨_, _, rfl, ⟨rfl, rfl⟩, hh⟩
        · refine reg_q tabOK hk hh [(3, .bool false)] [0, 2, 3, 9, 12, 51] rfl ?_ (fun a hk => ?_)
          · exact ⟨ob_eq tabOK rfl (v_df c44), trivial⟩
          refine hK45 a w ?_; try clear hK45 K45
          refine code_cond hk rfl (fun h => by cases h) (fun _ => ?_)
          refine wp_exit ?_
          refine then_exit ?_
          refine then_exit ?_
          refine blk_out ?_
          refine hK42 a w ?_; try clear hK42 K42
          refine wp_seq_k fun K50 hK50 => ?_
          refine wp_region_lit ?_
          refine seq_q tabOK (i := 0) (stop := 3) hk hh [] rfl trivial (fun a hk => ?_)
          refine seq_eff hk hh rfl rfl (eff_call Tryz.func13 rfl rfl rfl rfl (fun w hh => within_spec at0 0 (s.length : Int) (by first | omega | (split <;> omega)) (by first | omega | (split <;> omega)) (by first | omega | (split <;> omega)) σ w _ hh)) (fun v L a w hp hk hh => ?_)
          obtain ⟨rfl, hL⟩ := hp; rw [hL] at hh; clear hL
          have hw54 := within_rng (n := at0) (lo := 0) (hi := (s.length : Int)) (by first | omega | (unfold maxI; split <;> omega))
          refine rest_q tabOK (i := 4) hk hh [] [0, 9, 13] rfl trivial (fun a hk => ?_)
          refine hK50 a w ?_; try clear hK50 K50
          refine wp_seq_k fun K51 hK51 => ?_
          have hz0 : (s0).length ≤ 80 := by first | omega | (rw [List.length_take]; omega)
          have hz1 : (s.take ((withinI at0 0 (s.length : Int)).toNat)).length ≤ s.length := by rw [List.length_take]; omega
          have hz2 : (s.drop ((withinI at0 0 (s.length : Int)).toNat)).length ≤ s.length := by rw [List.length_drop]; omega
          refine reg_d tabOK (by kernel_rfl) hk hh [1, 4, 8, 20, 25, 30, 33] [8] rfl 7 [] ?_
          refine chain_one rfl trivial rfl (eff_call Tryz.func6 rfl rfl rfl rfl (fun w hh => lines_spec s0 (by first | omega | (simp only [List.length_append, List.length_cons, List.length_nil]; omega)) (by exact (hR.cons _)) hh)) (fun v L hp => ?_)
          obtain ⟨rfl, hL⟩ := hp; subst hL
          refine ⟨[], rfl, ?_⟩
          refine chain_one rfl trivial rfl (eff_call Tryz.func10 rfl rfl rfl rfl (fun w hh => parses_spec s0 (by first | omega | (simp only [List.length_append, List.length_cons, List.length_nil]; omega)) (by exact (hR.cons _)) hh)) (fun v L hp => ?_)
          obtain ⟨rfl, hL⟩ := hp; subst hL
          refine ⟨[], rfl, ?_⟩
          refine chain_one rfl trivial rfl (eff_call Tryz.func10 rfl rfl rfl rfl (fun w hh => parses_spec s (by first | omega | (simp only [List.length_append, List.length_cons, List.length_nil]; omega)) (by exact (hR.cons _)) hh)) (fun v L hp => ?_)
          obtain ⟨rfl, hL⟩ := hp; subst hL
          refine ⟨[(13, S (s.take ((withinI at0 0 (s.length : Int)).toNat))), (15, S ((s.take ((withinI at0 0 (s.length : Int)).toNat)) ++ s0)), (18, S (s.drop ((withinI at0 0 (s.length : Int)).toNat))), (19, S (((s.take ((withinI at0 0 (s.length : Int)).toNat)) ++ s0) ++ (s.drop ((withinI at0 0 (s.length : Int)).toNat))))], rfl, ?_⟩
          refine chain_one rfl ?_ rfl (eff_call Tryz.func10 rfl rfl rfl rfl (fun w hh => parses_spec (((s.take ((withinI at0 0 (s.length : Int)).toNat)) ++ s0) ++ (s.drop ((withinI at0 0 (s.length : Int)).toNat))) (by first | omega | (simp only [List.length_append, List.length_cons, List.length_nil]; omega)) (by exact (hR.cons _)) hh)) (fun v L hp => ?_)
          · exact ⟨ob_slice_str tabOK rfl rfl rfl rfl (by omega) (by omega) (by omega) (by simp), ob_concat rfl rfl (by first | omega | (simp only [List.length_append, List.length_cons, List.length_nil]; omega)), ob_slice_str tabOK rfl rfl rfl rfl (by omega) (by omega) (by omega) (by simp), ob_concat rfl rfl (by first | omega | (simp only [List.length_append, List.length_cons, List.length_nil]; omega)), trivial⟩
          obtain ⟨rfl, hL⟩ := hp; subst hL
          refine ⟨[(24, S ([116, 105, 99, 107, 32] ++ s0))], rfl, ?_⟩
          refine chain_one rfl ?_ rfl (eff_call Tryz.func6 rfl rfl rfl rfl (fun w hh => lines_spec ([116, 105, 99, 107, 32] ++ s0) (by first | omega | (simp only [List.length_append, List.length_cons, List.length_nil]; omega)) (by exact (hR.cons _)) hh)) (fun v L hp => ?_)
          · exact ⟨ob_concat rfl rfl (by first | omega | (simp only [List.length_append, List.length_cons, List.length_nil]; omega)), trivial⟩
          obtain ⟨rfl, hL⟩ := hp; subst hL
          refine ⟨[(29, S ([105, 110, 103, 101, 115, 116, 32, 49, 32] ++ s0))], rfl, ?_⟩
          refine chain_one rfl ?_ rfl (eff_call Tryz.func6 rfl rfl rfl rfl (fun w hh => lines_spec ([105, 110, 103, 101, 115, 116, 32, 49, 32] ++ s0) (by first | omega | (simp only [List.length_append, List.length_cons, List.length_nil]; omega)) (by exact (hR.cons _)) hh)) (fun v L hp => ?_)
          · exact ⟨ob_concat rfl rfl (by first | omega | (simp only [List.length_append, List.length_cons, List.length_nil]; omega)), trivial⟩
          obtain ⟨rfl, hL⟩ := hp; subst hL
          refine ⟨[], rfl, ?_⟩
          refine chain_one rfl trivial rfl (eff_call Tryz.func11 rfl rfl rfl rfl (fun w hh => known_spec (by exact (hR.cons _)) hh)) (fun v L hp => ?_)
          obtain ⟨rfl, hL⟩ := hp; subst hL
          refine ⟨[], rfl, ?_⟩
          refine chain_fin rfl trivial (fun a w hk hh => ?_)
          refine hK51 a w ?_; try clear hK51 K51
          refine wp_ret ?_
          refine fin_ret hk (show Tryz.f4.results = ⟨[.tmp 8]⟩ from rfl) (by exact (res_tmp hk rfl .nil)) ?_
          replace hh := (hh.at_ 0 rfl).drop
          exact ⟨_, _, rfl, ⟨rfl, rfl⟩, hh⟩
    · refine reg_q tabOK hk hh [(3, .bool false)] [0, 1, 2, 3, 9, 10, 26] rfl ?_ (fun a hk => ?_)
      · exact ⟨ob_eq tabOK rfl (v_df c34), trivial⟩
      refine hK37 a w ?_; try clear hK37 K37
      refine code_cond hk rfl (fun h => by cases h) (fun _ => ?_)
      refine wp_exit ?_
      refine then_exit ?_
      refine then_exit ?_
      refine blk_out ?_
      refine hK34 a w ?_; try clear hK34 K34
      refine wp_seq_k fun K52 hK52 => ?_
      refine wp_seq_k fun K53 hK53 => ?_
      refine reg_q tabOK hk hh [] [0, 2, 3, 9, 12] rfl trivial (fun a hk => ?_)
      refine hK53 a w ?_; try clear hK53 K53
      refine wp_block ?_
      replace hh := (hh.at_ 0 rfl).drop
      replace hk := hk.keep [0, 2, 3, 9, 12] rfl
      refine code_loop (α := Nat) (fun (m : Nat) (E : Env) (L : List Assn) => ∃ (i : Nat), E = [(0, S s0), (2, .int .i64 at0), (3, .slice a2 q.length k2), (9, S s), (12, .int .i64 (i : Int))] ∧ L = [dat [.slice a2 q.length k2] [.sl (q.map ActL.ds)]] ++ R ∧ (i ≤ q.length) ∧ m = q.length - i) id _ hk hh ⟨0, rfl, rfl, (by omega), rfl⟩ ?_
      clear hk hh
      rintro _ _ _ a w ⟨i, rfl, hL, hj, rfl⟩ hk hh; rw [hL] at hh; clear hL
      refine wp_seq_k fun K54 hK54 => ?_
      refine wp_seq_k fun K55 hK55 => ?_
      by_cases c55 : (i : Int) < (q.length : Int)
      · refine reg_q tabOK hk hh [(3, .bool true)] [0, 2, 3, 9, 12, 51] rfl ?_ (fun a hk => ?_)
        · exact ⟨ob_eq tabOK rfl (v_dt c55), trivial⟩
        refine hK55 a w ?_; try clear hK55 K55
        refine code_cond hk rfl (fun c56 => ?_) (fun c56 => ?_)
        · replace c56 : (i : Int) < 20 := (of_decide_eq_true c56)
          refine wp_skip ?_
          refine hK54 a w ?_; try clear hK54 K54
          refine wp_seq_k fun K56 hK56 => ?_
          refine wp_block ?_
          refine wp_seq_k fun K57 hK57 => ?_
          obtain ⟨b57, o58, T59, rw60, lo61, hi62, ha, hc63, hH⟩ := dat_rows (k := 5) (f := ActL.cs) zA acts_pf (fun _ => rfl) (fun _ => rfl) (by omega) (hh.at_ 0 rfl)
          clear hh; subst ha; have hh := hH; clear hH
          refine reg_d tabOK (by kernel_rfl) hk hh [4, 9] [0, 2, 3, 9, 12, 64] rfl 2 [(2, .pointer (some ⟨b57, o58 + i * 5, none⟩)), (3, .agg ⟨[.int .i64 ((q.getD i zA).k), .int .i64 ((q.getD i zA).a), .int .i64 ((q.getD i zA).b), .int .i64 ((q.getD i zA).n), S ((q.getD i zA).s)]⟩), (7, .pointer (some ⟨b57, o58 + i * 5, none⟩)), (8, .agg ⟨[.int .i64 ((q.getD i zA).k), .int .i64 ((q.getD i zA).a), .int .i64 ((q.getD i zA).b), .int .i64 ((q.getD i zA).n), S ((q.getD i zA).s)]⟩)] ?_
          refine chain_one rfl ?_ rfl (eff_call Tryz.func8 rfl rfl rfl rfl (fun w hh => text_spec (q.getD i zA) (hq _ (by omega)) (by exact ((hR.cons _).cons _)) hh)) (fun v L hp => ?_)
          · exact ⟨ob_indexAddr tabOK (o58 + i * 5) rfl rfl rfl rfl (by omega) (by omega) (by show o58 + ((i : Int) : Int).toNat * 5 = o58 + i * 5; omega), ob_loadN tabOK 0 rfl rfl rfl rfl (hc63 _ (by omega)), ob_indexAddr tabOK (o58 + i * 5) rfl rfl rfl rfl (by omega) (by omega) (by show o58 + ((i : Int) : Int).toNat * 5 = o58 + i * 5; omega), ob_loadN tabOK 0 rfl rfl rfl rfl (hc63 _ (by omega)), trivial⟩
          obtain ⟨rfl, hL⟩ := hp; subst hL
          refine ⟨[], rfl, ?_⟩
          refine chain_one rfl ?_ rfl (eff_call Tryz.func9 rfl rfl rfl rfl (fun w hh => ltext_spec (q.getD i zA) (hq _ (by omega)) σ w _ hh)) (fun v L hp => ?_)
          · exact ⟨ob_indexAddr tabOK (o58 + i * 5) rfl rfl rfl rfl (by omega) (by omega) (by show o58 + ((i : Int) : Int).toNat * 5 = o58 + i * 5; omega), ob_loadN tabOK 0 rfl rfl rfl rfl (hc63 _ (by omega)), trivial⟩
          obtain ⟨rfl, hL⟩ := hp; subst hL
          refine ⟨[(10, .bool false)], rfl, ?_⟩
          refine chain_fin rfl ?_ (fun a w hk hh => ?_)
          · exact ⟨ob_eq tabOK rfl (v_not (v_et rfl)), trivial⟩
          refine hK57 a w ?_; try clear hK57 K57
          refine code_cond hk rfl (fun h => by cases h) (fun _ => ?_)
          refine wp_skip ?_
          refine blk_nm ?_
          refine hK56 a w ?_; try clear hK56 K56
          refine reg_q tabOK hk hh [(1, .int .i64 ((i : Int) + 1))] [0, 2, 3, 9, 12] rfl ?_ (fun a hk => ?_)
          · exact ⟨ob_eq tabOK rfl (eq_i64 (by omega)), trivial⟩
          replace hh := (hh.at_ 0 rfl).drop
          refine then_nm ?_
          exact ⟨_, _, _, ⟨i + 1, rfl, rfl, (by omega), rfl⟩, (by simp only [id]; omega), hk.keep [0, 2, 3, 9, 12] rfl, hh⟩
        · replace c56 : ¬ ((i : Int) < 20) := (of_decide_eq_false c56)
          refine wp_exit ?_
          refine then_exit ?_
          refine then_exit ?_
          refine blk_out ?_
          refine hK52 a w ?_; try clear hK52 K52
          refine wp_seq_k fun K58 hK58 => ?_
          refine wp_region_lit ?_
          refine seq_q tabOK (i := 0) (stop := 3) hk hh [] rfl trivial (fun a hk => ?_)
          refine seq_eff hk hh rfl rfl (eff_call Tryz.func13 rfl rfl rfl rfl (fun w hh => within_spec at0 0 (s.length : Int) (by first | omega | (split <;> omega)) (by first | omega | (split <;> omega)) (by first | omega | (split <;> omega)) σ w _ hh)) (fun v L a w hp hk hh => ?_)
          obtain ⟨rfl, hL⟩ := hp; rw [hL] at hh; clear hL
          have hw64 := within_rng (n := at0) (lo := 0) (hi := (s.length : Int)) (by first | omega | (unfold maxI; split <;> omega))
          refine rest_q tabOK (i := 4) hk hh [] [0, 9, 13] rfl trivial (fun a hk => ?_)
          refine hK58 a w ?_; try clear hK58 K58
          refine wp_seq_k fun K59 hK59 => ?_
          have hz0 : (s0).length ≤ 80 := by first | omega | (rw [List.length_take]; omega)
          have hz1 : (s.take ((withinI at0 0 (s.length : Int)).toNat)).length ≤ s.length := by rw [List.length_take]; omega
          have hz2 : (s.drop ((withinI at0 0 (s.length : Int)).toNat)).length ≤ s.length := by rw [List.length_drop]; omega
          refine reg_d tabOK (by kernel_rfl) hk hh [1, 4, 8, 20, 25, 30, 33] [8] rfl 7 [] ?_
          refine chain_one rfl trivial rfl (eff_call Tryz.func6 rfl rfl rfl rfl (fun w hh => lines_spec s0 (by first | omega | (simp only [List.length_append, List.length_cons, List.length_nil]; omega)) (by exact (hR.cons _)) hh)) (fun v L hp => ?_)
          obtain ⟨rfl, hL⟩ := hp; subst hL
          refine ⟨[], rfl, ?_⟩
          refine chain_one rfl trivial rfl (eff_call Tryz.func10 rfl rfl rfl rfl (fun w hh => parses_spec s0 (by first | omega | (simp only [List.length_append, List.length_cons, List.length_nil]; omega)) (by exact (hR.cons _)) hh)) (fun v L hp => ?_)
          obtain ⟨rfl, hL⟩ := hp; subst hL
          refine ⟨[], rfl, ?_⟩
          refine chain_one rfl trivial rfl (eff_call Tryz.func10 rfl rfl rfl rfl (fun w hh => parses_spec s (by first | omega | (simp only [List.length_append, List.length_cons, List.length_nil]; omega)) (by exact (hR.cons _)) hh)) (fun v L hp => ?_)
          obtain ⟨rfl, hL⟩ := hp; subst hL
          refine ⟨[(13, S (s.take ((withinI at0 0 (s.length : Int)).toNat))), (15, S ((s.take ((withinI at0 0 (s.length : Int)).toNat)) ++ s0)), (18, S (s.drop ((withinI at0 0 (s.length : Int)).toNat))), (19, S (((s.take ((withinI at0 0 (s.length : Int)).toNat)) ++ s0) ++ (s.drop ((withinI at0 0 (s.length : Int)).toNat))))], rfl, ?_⟩
          refine chain_one rfl ?_ rfl (eff_call Tryz.func10 rfl rfl rfl rfl (fun w hh => parses_spec (((s.take ((withinI at0 0 (s.length : Int)).toNat)) ++ s0) ++ (s.drop ((withinI at0 0 (s.length : Int)).toNat))) (by first | omega | (simp only [List.length_append, List.length_cons, List.length_nil]; omega)) (by exact (hR.cons _)) hh)) (fun v L hp => ?_)
          · exact ⟨ob_slice_str tabOK rfl rfl rfl rfl (by omega) (by omega) (by omega) (by simp), ob_concat rfl rfl (by first | omega | (simp only [List.length_append, List.length_cons, List.length_nil]; omega)), ob_slice_str tabOK rfl rfl rfl rfl (by omega) (by omega) (by omega) (by simp), ob_concat rfl rfl (by first | omega | (simp only [List.length_append, List.length_cons, List.length_nil]; omega)), trivial⟩
          obtain ⟨rfl, hL⟩ := hp; subst hL
          refine ⟨[(24, S ([116, 105, 99, 107, 32] ++ s0))], rfl, ?_⟩
          refine chain_one rfl ?_ rfl (eff_call Tryz.func6 rfl rfl rfl rfl (fun w hh => lines_spec ([116, 105, 99, 107, 32] ++ s0) (by first | omega | (simp only [List.length_append, List.length_cons, List.length_nil]; omega)) (by exact (hR.cons _)) hh)) (fun v L hp => ?_)
          · exact ⟨ob_concat rfl rfl (by first | omega | (simp only [List.length_append, List.length_cons, List.length_nil]; omega)), trivial⟩
          obtain ⟨rfl, hL⟩ := hp; subst hL
          refine ⟨[(29, S ([105, 110, 103, 101, 115, 116, 32, 49, 32] ++ s0))], rfl, ?_⟩
          refine chain_one rfl ?_ rfl (eff_call Tryz.func6 rfl rfl rfl rfl (fun w hh => lines_spec ([105, 110, 103, 101, 115, 116, 32, 49, 32] ++ s0) (by first | omega | (simp only [List.length_append, List.length_cons, List.length_nil]; omega)) (by exact (hR.cons _)) hh)) (fun v L hp => ?_)
          · exact ⟨ob_concat rfl rfl (by first | omega | (simp only [List.length_append, List.length_cons, List.length_nil]; omega)), trivial⟩
          obtain ⟨rfl, hL⟩ := hp; subst hL
          refine ⟨[], rfl, ?_⟩
          refine chain_one rfl trivial rfl (eff_call Tryz.func11 rfl rfl rfl rfl (fun w hh => known_spec (by exact (hR.cons _)) hh)) (fun v L hp => ?_)
          obtain ⟨rfl, hL⟩ := hp; subst hL
          refine ⟨[], rfl, ?_⟩
          refine chain_fin rfl trivial (fun a w hk hh => ?_)
          refine hK59 a w ?_; try clear hK59 K59
          refine wp_ret ?_
          refine fin_ret hk (show Tryz.f4.results = ⟨[.tmp 8]⟩ from rfl) (by exact (res_tmp hk rfl .nil)) ?_
          replace hh := (hh.at_ 0 rfl).drop
          exact ⟨_, _, rfl, ⟨rfl, rfl⟩, hh⟩
      · refine reg_q tabOK hk hh [(3, .bool false)] [0, 2, 3, 9, 12, 51] rfl ?_ (fun a hk => ?_)
        · exact ⟨ob_eq tabOK rfl (v_df c55), trivial⟩
        refine hK55 a w ?_; try clear hK55 K55
        refine code_cond hk rfl (fun h => by cases h) (fun _ => ?_)
        refine wp_exit ?_
        refine then_exit ?_
        refine then_exit ?_
        refine blk_out ?_
        refine hK52 a w ?_; try clear hK52 K52
        refine wp_seq_k fun K60 hK60 => ?_
        refine wp_region_lit ?_
        refine seq_q tabOK (i := 0) (stop := 3) hk hh [] rfl trivial (fun a hk => ?_)
        refine seq_eff hk hh rfl rfl (eff_call Tryz.func13 rfl rfl rfl rfl (fun w hh => within_spec at0 0 (s.length : Int) (by first | omega | (split <;> omega)) (by first | omega | (split <;> omega)) (by first | omega | (split <;> omega)) σ w _ hh)) (fun v L a w hp hk hh => ?_)
        obtain ⟨rfl, hL⟩ := hp; rw [hL] at hh; clear hL
        have hw65 := within_rng (n := at0) (lo := 0) (hi := (s.length : Int)) (by first | omega | (unfold maxI; split <;> omega))
        refine rest_q tabOK (i := 4) hk hh [] [0, 9, 13] rfl trivial (fun a hk => ?_)
        refine hK60 a w ?_; try clear hK60 K60
        refine wp_seq_k fun K61 hK61 => ?_
        have hz0 : (s0).length ≤ 80 := by first | omega | (rw [List.length_take]; omega)
        have hz1 : (s.take ((withinI at0 0 (s.length : Int)).toNat)).length ≤ s.length := by rw [List.length_take]; omega
        have hz2 : (s.drop ((withinI at0 0 (s.length : Int)).toNat)).length ≤ s.length := by rw [List.length_drop]; omega
        refine reg_d tabOK (by kernel_rfl) hk hh [1, 4, 8, 20, 25, 30, 33] [8] rfl 7 [] ?_
        refine chain_one rfl trivial rfl (eff_call Tryz.func6 rfl rfl rfl rfl (fun w hh => lines_spec s0 (by first | omega | (simp only [List.length_append, List.length_cons, List.length_nil]; omega)) (by exact (hR.cons _)) hh)) (fun v L hp => ?_)
        obtain ⟨rfl, hL⟩ := hp; subst hL
        refine ⟨[], rfl, ?_⟩
        refine chain_one rfl trivial rfl (eff_call Tryz.func10 rfl rfl rfl rfl (fun w hh => parses_spec s0 (by first | omega | (simp only [List.length_append, List.length_cons, List.length_nil]; omega)) (by exact (hR.cons _)) hh)) (fun v L hp => ?_)
        obtain ⟨rfl, hL⟩ := hp; subst hL
        refine ⟨[], rfl, ?_⟩
        refine chain_one rfl trivial rfl (eff_call Tryz.func10 rfl rfl rfl rfl (fun w hh => parses_spec s (by first | omega | (simp only [List.length_append, List.length_cons, List.length_nil]; omega)) (by exact (hR.cons _)) hh)) (fun v L hp => ?_)
        obtain ⟨rfl, hL⟩ := hp; subst hL
        refine ⟨[(13, S (s.take ((withinI at0 0 (s.length : Int)).toNat))), (15, S ((s.take ((withinI at0 0 (s.length : Int)).toNat)) ++ s0)), (18, S (s.drop ((withinI at0 0 (s.length : Int)).toNat))), (19, S (((s.take ((withinI at0 0 (s.length : Int)).toNat)) ++ s0) ++ (s.drop ((withinI at0 0 (s.length : Int)).toNat))))], rfl, ?_⟩
        refine chain_one rfl ?_ rfl (eff_call Tryz.func10 rfl rfl rfl rfl (fun w hh => parses_spec (((s.take ((withinI at0 0 (s.length : Int)).toNat)) ++ s0) ++ (s.drop ((withinI at0 0 (s.length : Int)).toNat))) (by first | omega | (simp only [List.length_append, List.length_cons, List.length_nil]; omega)) (by exact (hR.cons _)) hh)) (fun v L hp => ?_)
        · exact ⟨ob_slice_str tabOK rfl rfl rfl rfl (by omega) (by omega) (by omega) (by simp), ob_concat rfl rfl (by first | omega | (simp only [List.length_append, List.length_cons, List.length_nil]; omega)), ob_slice_str tabOK rfl rfl rfl rfl (by omega) (by omega) (by omega) (by simp), ob_concat rfl rfl (by first | omega | (simp only [List.length_append, List.length_cons, List.length_nil]; omega)), trivial⟩
        obtain ⟨rfl, hL⟩ := hp; subst hL
        refine ⟨[(24, S ([116, 105, 99, 107, 32] ++ s0))], rfl, ?_⟩
        refine chain_one rfl ?_ rfl (eff_call Tryz.func6 rfl rfl rfl rfl (fun w hh => lines_spec ([116, 105, 99, 107, 32] ++ s0) (by first | omega | (simp only [List.length_append, List.length_cons, List.length_nil]; omega)) (by exact (hR.cons _)) hh)) (fun v L hp => ?_)
        · exact ⟨ob_concat rfl rfl (by first | omega | (simp only [List.length_append, List.length_cons, List.length_nil]; omega)), trivial⟩
        obtain ⟨rfl, hL⟩ := hp; subst hL
        refine ⟨[(29, S ([105, 110, 103, 101, 115, 116, 32, 49, 32] ++ s0))], rfl, ?_⟩
        refine chain_one rfl ?_ rfl (eff_call Tryz.func6 rfl rfl rfl rfl (fun w hh => lines_spec ([105, 110, 103, 101, 115, 116, 32, 49, 32] ++ s0) (by first | omega | (simp only [List.length_append, List.length_cons, List.length_nil]; omega)) (by exact (hR.cons _)) hh)) (fun v L hp => ?_)
        · exact ⟨ob_concat rfl rfl (by first | omega | (simp only [List.length_append, List.length_cons, List.length_nil]; omega)), trivial⟩
        obtain ⟨rfl, hL⟩ := hp; subst hL
        refine ⟨[], rfl, ?_⟩
        refine chain_one rfl trivial rfl (eff_call Tryz.func11 rfl rfl rfl rfl (fun w hh => known_spec (by exact (hR.cons _)) hh)) (fun v L hp => ?_)
        obtain ⟨rfl, hL⟩ := hp; subst hL
        refine ⟨[], rfl, ?_⟩
        refine chain_fin rfl trivial (fun a w hk hh => ?_)
        refine hK61 a w ?_; try clear hK61 K61
        refine wp_ret ?_
        refine fin_ret hk (show Tryz.f4.results = ⟨[.tmp 8]⟩ from rfl) (by exact (res_tmp hk rfl .nil)) ?_
        replace hh := (hh.at_ 0 rfl).drop
        exact ⟨_, _, rfl, ⟨rfl, rfl⟩, hh⟩

end Go.Hop
