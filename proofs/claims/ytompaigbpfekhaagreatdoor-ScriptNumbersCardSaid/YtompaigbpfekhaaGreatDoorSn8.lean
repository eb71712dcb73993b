/- What is proved here: what a function of the text computes. Printed by program. -/
import Derived.Test.YtompaigbpfekhaaGreatDoorSn6
import Derived.Test.YtompaigbpfekhaaGreatDoorSn7
namespace Go.Hop
open Go.Proofs
set_option maxRecDepth 4000
theorem value_spec (s : List UInt8) (hs : s.length ≤ 9000000000000000000) (σ : Sg) (w : World) (R : List Assn) (hh : Holds σ w (R)) :
    Calls Tryz.prog 28 ⟨[S s]⟩ w fun e w' => ∃ v L', e = .returned v ∧ (v = .tuple ⟨[.int .i64 (valS s), .bool (Lib.itoa (valS s) == s)]⟩ ∧ L' = R) ∧ Holds σ w' L' := by
  refine enter Tryz.func28 rfl Tryz.ntmps28 rfl fun a hk => ?_
  refine wp_seq_k fun K1 hK1 => ?_
  refine reg_q tabOK hk hh [] [0] rfl trivial (fun a hk => ?_)
  refine hK1 a w ?_; try clear hK1 K1
  refine wp_seq_k fun K2 hK2 => ?_
  refine reg_q tabOK hk hh [] [0, 4] rfl trivial (fun a hk => ?_)
  refine hK2 a w ?_; try clear hK2 K2
  refine wp_seq_k fun K3 hK3 => ?_
  refine wp_seq_k fun K4 hK4 => ?_
  refine reg_q tabOK hk hh [] [0, 4, 5] rfl trivial (fun a hk => ?_)
  refine hK4 a w ?_; try clear hK4 K4
  refine wp_block ?_
  replace hk := hk.keep [0, 4, 5] rfl
  refine code_loop (α := Nat) (fun (m : Nat) (E : Env) (L : List Assn) => ∃ (n : Int) (i : Nat), E = [(0, S s), (4, .int .i64 n), (5, .int .i64 (i : Int))] ∧ L = R ∧ (i ≤ 20) ∧ (i ≤ s.length) ∧ (n = (s.take i).foldl valStep 0) ∧ m = s.length - i) id _ hk hh ⟨0, 0, rfl, rfl, (by omega), (by omega), rfl, rfl⟩ ?_
  clear hk hh
  rintro _ _ _ a w ⟨n, i, rfl, hL, h20, hil, en, rfl⟩ hk hh; rw [hL] at hh; clear hL
  have hb := (s.getD i 0).toNat_lt
  refine wp_seq_k fun K5 hK5 => ?_
  refine wp_seq_k fun K6 hK6 => ?_
  by_cases c1 : (i : Int) < (s.length : Int)
  · refine reg_q tabOK hk hh [(3, .bool true)] [0, 4, 5, 13] rfl ?_ (fun a hk => ?_)
    · exact ⟨ob_eq tabOK rfl (v_dt c1), trivial⟩
    refine hK6 a w ?_; try clear hK6 K6
    refine code_cond hk rfl (fun c2 => ?_) (fun c2 => ?_)
    · replace c2 : (i : Int) < 20 := (of_decide_eq_true c2)
      refine wp_skip ?_
      refine hK5 a w ?_; try clear hK5 K5
      refine wp_seq_k fun K7 hK7 => ?_
      refine wp_block ?_
      refine wp_seq_k fun K8 hK8 => ?_
      by_cases c3 : ((s.getD i 0).toNat : Int) ≥ 48
      · refine reg_q tabOK hk hh [(2, .int .u8 ((s.getD i 0).toNat : Int)), (3, .bool true), (7, .int .u8 ((s.getD i 0).toNat : Int))] [0, 4, 5, 25] rfl ?_ (fun a hk => ?_)
        · exact ⟨ob_index tabOK rfl rfl rfl (by omega) (getD_at (by omega)), ob_eq tabOK rfl (v_dt c3), ob_index tabOK rfl rfl rfl (by omega) (getD_at (by omega)), trivial⟩
        refine hK8 a w ?_; try clear hK8 K8
        refine code_cond hk rfl (fun c4 => ?_) (fun c4 => ?_)
        · replace c4 : ((s.getD i 0).toNat : Int) ≤ 57 := (of_decide_eq_true c4)
          refine reg_q tabOK hk hh [(4, .int .u8 ((s.getD i 0).toNat : Int)), (5, .int .u8 (((s.getD i 0).toNat : Int) - 48)), (6, .int .i64 (((s.getD i 0).toNat : Int) - 48))] [0, 4, 5] rfl ?_ (fun a hk => ?_)
          · exact ⟨ob_index tabOK rfl rfl rfl (by omega) (getD_at (by omega)), ob_eq tabOK rfl (eq_u8 (by omega)), ob_eq tabOK rfl (eq_i64 (by omega)), trivial⟩
          refine blk_nm ?_
          refine hK7 a w ?_; try clear hK7 K7
          refine reg_q tabOK hk hh [(1, .int .i64 ((i : Int) + 1))] [0, 4, 5] rfl ?_ (fun a hk => ?_)
          · exact ⟨ob_eq tabOK rfl (eq_i64 (by omega)), trivial⟩
          refine then_nm ?_
          exact ⟨_, _, _, ⟨IntKind.i64.wrap (IntKind.i64.wrap (n * 10) - (((s.getD i 0).toNat : Int) - 48)), i + 1, rfl, rfl, (by omega), (by omega), (val_hit en (by omega) (by omega) (by omega)), rfl⟩, (by simp only [id]; omega), hk.keep [0, 4, 5] rfl, hh⟩
        · replace c4 : ¬ (((s.getD i 0).toNat : Int) ≤ 57) := (of_decide_eq_false c4)
          refine wp_skip ?_
          refine blk_nm ?_
          refine hK7 a w ?_; try clear hK7 K7
          refine reg_q tabOK hk hh [(1, .int .i64 ((i : Int) + 1))] [0, 4, 5] rfl ?_ (fun a hk => ?_)
          · exact ⟨ob_eq tabOK rfl (eq_i64 (by omega)), trivial⟩
          refine then_nm ?_
          exact ⟨_, _, _, ⟨n, i + 1, rfl, rfl, (by omega), (by omega), (val_miss en (by omega) (by omega)), rfl⟩, (by simp only [id]; omega), hk.keep [0, 4, 5] rfl, hh⟩
      · refine reg_q tabOK hk hh [(2, .int .u8 ((s.getD i 0).toNat : Int)), (3, .bool false)] [0, 4, 5, 25] rfl ?_ (fun a hk => ?_)
        · exact ⟨ob_index tabOK rfl rfl rfl (by omega) (getD_at (by omega)), ob_eq tabOK rfl (v_df c3), trivial⟩
        refine hK8 a w ?_; try clear hK8 K8
        refine code_cond hk rfl (fun h => by cases h) (fun _ => ?_)
        refine wp_skip ?_
        refine blk_nm ?_
        refine hK7 a w ?_; try clear hK7 K7
        refine reg_q tabOK hk hh [(1, .int .i64 ((i : Int) + 1))] [0, 4, 5] rfl ?_ (fun a hk => ?_)
        · exact ⟨ob_eq tabOK rfl (eq_i64 (by omega)), trivial⟩
        refine then_nm ?_
        exact ⟨_, _, _, ⟨n, i + 1, rfl, rfl, (by omega), (by omega), (val_miss en (by omega) (by omega)), rfl⟩, (by simp only [id]; omega), hk.keep [0, 4, 5] rfl, hh⟩
    · replace c2 : ¬ ((i : Int) < 20) := (of_decide_eq_false c2)
      refine wp_exit ?_
      refine then_exit ?_
      refine then_exit ?_
      refine blk_out ?_
      refine hK3 a w ?_; try clear hK3 K3
      refine wp_seq_k fun K9 hK9 => ?_
      refine wp_seq_k fun K10 hK10 => ?_
      by_cases c5 : (s.length : Int) = 0
      · have ev := val_end en (by omega)
        refine reg_q tabOK hk hh [(2, .bool true)] [0, 4, 41] rfl ?_ (fun a hk => ?_)
        · exact ⟨ob_eq tabOK rfl (v_et c5), trivial⟩
        refine hK10 a w ?_; try clear hK10 K10
        refine code_cond hk rfl (fun _ => ?_) (fun h => by cases h)
        refine reg_q tabOK hk hh [] [0, 4] rfl trivial (fun a hk => ?_)
        refine hK9 a w ?_; try clear hK9 K9
        refine wp_seq_k fun K11 hK11 => ?_
        have ez := val_plus ev (by omega)
        have hz : I64 (IntKind.i64.wrap (0 - n)) := by rw [ez]; exact valS_I64 s
        refine wp_region_lit ?_
        refine seq_q tabOK (i := 0) (stop := 2) hk hh [] rfl trivial (fun a hk => ?_)
        refine seq_eff hk hh rfl rfl (eff_call Tryz.func7 rfl rfl rfl rfl (fun w hh => number_spec (IntKind.i64.wrap (0 - n)) (by first | assumption | (unfold I64; omega)) σ w _ hh)) (fun v L a w hp hk hh => ?_)
        obtain ⟨rfl, hL⟩ := hp; rw [hL] at hh; clear hL
        refine rest_q tabOK (i := 3) hk hh [] [2, 3] rfl trivial (fun a hk => ?_)
        refine hK11 a w ?_; try clear hK11 K11
        refine wp_ret ?_
        refine fin_ret hk (show Tryz.f28.results = ⟨[.tmp 2, .tmp 3]⟩ from rfl) (by exact (res_tmp hk rfl (res_tmp hk rfl .nil))) ?_
        refine ⟨_, _, rfl, ⟨?_, rfl⟩, hh⟩
        simp only [retV, ez]
      · have ev := val_end en (by omega)
        refine reg_q tabOK hk hh [(2, .bool false), (5, .int .u8 ((s.getD 0 0).toNat : Int))] [0, 4, 41] rfl ?_ (fun a hk => ?_)
        · exact ⟨ob_eq tabOK rfl (v_ef c5), ob_index tabOK rfl rfl rfl (by omega) (getD_at (by omega)), trivial⟩
        refine hK10 a w ?_; try clear hK10 K10
        refine code_cond hk rfl (fun c6 => ?_) (fun c6 => ?_)
        · replace c6 : ¬ (((s.getD 0 0).toNat : Int) = 45) := (c_nt c6)
          refine reg_q tabOK hk hh [] [0, 4] rfl trivial (fun a hk => ?_)
          refine hK9 a w ?_; try clear hK9 K9
          refine wp_seq_k fun K12 hK12 => ?_
          have ez := val_plus ev (by omega)
          have hz : I64 (IntKind.i64.wrap (0 - n)) := by rw [ez]; exact valS_I64 s
          refine wp_region_lit ?_
          refine seq_q tabOK (i := 0) (stop := 2) hk hh [] rfl trivial (fun a hk => ?_)
          refine seq_eff hk hh rfl rfl (eff_call Tryz.func7 rfl rfl rfl rfl (fun w hh => number_spec (IntKind.i64.wrap (0 - n)) (by first | assumption | (unfold I64; omega)) σ w _ hh)) (fun v L a w hp hk hh => ?_)
          obtain ⟨rfl, hL⟩ := hp; rw [hL] at hh; clear hL
          refine rest_q tabOK (i := 3) hk hh [] [2, 3] rfl trivial (fun a hk => ?_)
          refine hK12 a w ?_; try clear hK12 K12
          refine wp_ret ?_
          refine fin_ret hk (show Tryz.f28.results = ⟨[.tmp 2, .tmp 3]⟩ from rfl) (by exact (res_tmp hk rfl (res_tmp hk rfl .nil))) ?_
          refine ⟨_, _, rfl, ⟨?_, rfl⟩, hh⟩
          simp only [retV, ez]
        · replace c6 : ((s.getD 0 0).toNat : Int) = 45 := (c_nf c6)
          refine wp_skip ?_
          refine hK9 a w ?_; try clear hK9 K9
          refine wp_seq_k fun K13 hK13 => ?_
          have ez := val_minus ev (by omega) (by omega)
          have hz : I64 (n) := by rw [ez]; exact valS_I64 s
          refine wp_region_lit ?_
          refine seq_q tabOK (i := 0) (stop := 2) hk hh [] rfl trivial (fun a hk => ?_)
          refine seq_eff hk hh rfl rfl (eff_call Tryz.func7 rfl rfl rfl rfl (fun w hh => number_spec n (by first | assumption | (unfold I64; omega)) σ w _ hh)) (fun v L a w hp hk hh => ?_)
          obtain ⟨rfl, hL⟩ := hp; rw [hL] at hh; clear hL
          refine rest_q tabOK (i := 3) hk hh [] [2, 3] rfl trivial (fun a hk => ?_)
          refine hK13 a w ?_; try clear hK13 K13
          refine wp_ret ?_
          refine fin_ret hk (show Tryz.f28.results = ⟨[.tmp 2, .tmp 3]⟩ from rfl) (by exact (res_tmp hk rfl (res_tmp hk rfl .nil))) ?_
          refine ⟨_, _, rfl, ⟨?_, rfl⟩, hh⟩
          simp only [retV, ez]
  · refine reg_q tabOK hk hh [(3, .bool false)] [0, 4, 5, 13] rfl ?_ (fun a hk => ?_)
    · exact ⟨ob_eq tabOK rfl (v_df c1), trivial⟩
    refine hK6 a w ?_; try clear hK6 K6
    refine code_cond hk rfl (fun h => by cases h) (fun _ => ?_)
    refine wp_exit ?_
    refine then_exit ?_
    refine then_exit ?_
    refine blk_out ?_
    refine hK3 a w ?_; try clear hK3 K3
    refine wp_seq_k fun K14 hK14 => ?_
    refine wp_seq_k fun K15 hK15 => ?_
    by_cases c7 : (s.length : Int) = 0
    · have ev := val_end en (by omega)
      refine reg_q tabOK hk hh [(2, .bool true)] [0, 4, 41] rfl ?_ (fun a hk => ?_)
      · exact ⟨ob_eq tabOK rfl (v_et c7), trivial⟩
      refine hK15 a w ?_; try clear hK15 K15
      refine code_cond hk rfl (fun _ => ?_) (fun h => by cases h)
      refine reg_q tabOK hk hh [] [0, 4] rfl trivial (fun a hk => ?_)
      refine hK14 a w ?_; try clear hK14 K14
      refine wp_seq_k fun K16 hK16 => ?_
      have ez := val_plus ev (by omega)
      have hz : I64 (IntKind.i64.wrap (0 - n)) := by rw [ez]; exact valS_I64 s
      refine wp_region_lit ?_
      refine seq_q tabOK (i := 0) (stop := 2) hk hh [] rfl trivial (fun a hk => ?_)
      refine seq_eff hk hh rfl rfl (eff_call Tryz.func7 rfl rfl rfl rfl (fun w hh => number_spec (IntKind.i64.wrap (0 - n)) (by first | assumption | (unfold I64; omega)) σ w _ hh)) (fun v L a w hp hk hh => ?_)
      obtain ⟨rfl, hL⟩ := hp; rw [hL] at hh; clear hL
      refine rest_q tabOK (i := 3) hk hh [] [2, 3] rfl trivial (fun a hk => ?_)
      refine hK16 a w ?_; try clear hK16 K16
      refine wp_ret ?_
      refine fin_ret hk (show Tryz.f28.results = ⟨[.tmp 2, .tmp 3]⟩ from rfl) (by exact (res_tmp hk rfl (res_tmp hk rfl .nil))) ?_
      refine ⟨_, _, rfl, ⟨?_, rfl⟩, hh⟩
      simp only [retV, ez]
    · have ev := val_end en (by omega)
      refine reg_q tabOK hk hh [(2, .bool false), (5, .int .u8 ((s.getD 0 0).toNat : Int))] [0, 4, 41] rfl ?_ (fun a hk => ?_)
      · exact ⟨ob_eq tabOK rfl (v_ef c7), ob_index tabOK rfl rfl rfl (by omega) (getD_at (by omega)), trivial⟩
      refine hK15 a w ?_; try clear hK15 K15
      refine code_cond hk rfl (fun c8 => ?_) (fun c8 => ?_)
      · replace c8 : ¬ (((s.getD 0 0).toNat : Int) = 45) := (c_nt c8)
        refine reg_q tabOK hk hh [] [0, 4] rfl trivial (fun a hk => ?_)
        refine hK14 a w ?_; try clear hK14 K14
        refine wp_seq_k fun K17 hK17 => ?_
        have ez := val_plus ev (by omega)
        have hz : I64 (IntKind.i64.wrap (0 - n)) := by rw [ez]; exact valS_I64 s
        refine wp_region_lit ?_
        refine seq_q tabOK (i := 0) (stop := 2) hk hh [] rfl trivial (fun a hk => ?_)
        refine seq_eff hk hh rfl rfl (eff_call Tryz.func7 rfl rfl rfl rfl (fun w hh => number_spec (IntKind.i64.wrap (0 - n)) (by first | assumption | (unfold I64; omega)) σ w _ hh)) (fun v L a w hp hk hh => ?_)
        obtain ⟨rfl, hL⟩ := hp; rw [hL] at hh; clear hL
        refine rest_q tabOK (i := 3) hk hh [] [2, 3] rfl trivial (fun a hk => ?_)
        refine hK17 a w ?_; try clear hK17 K17
        refine wp_ret ?_
        refine fin_ret hk (show Tryz.f28.results = ⟨[.tmp 2, .tmp 3]⟩ from rfl) (by exact (res_tmp hk rfl (res_tmp hk rfl .nil))) ?_
        refine ⟨_, _, rfl, ⟨?_, rfl⟩, hh⟩
        simp only [retV, ez]
      · replace c8 : ((s.getD 0 0).toNat : Int) = 45 := (c_nf c8)
        refine wp_skip ?_
        refine hK14 a w ?_; try clear hK14 K14
        refine wp_seq_k fun K18 hK18 => ?_
        have ez := val_minus ev (by omega) (by omega)
        have hz : I64 (n) := by rw [ez]; exact valS_I64 s
        refine wp_region_lit ?_
        refine seq_q tabOK (i := 0) (stop := 2) hk hh [] rfl trivial (fun a hk => ?_)
        refine seq_eff hk hh rfl rfl (eff_call Tryz.func7 rfl rfl rfl rfl (fun w hh => number_spec n (by first | assumption | (unfold I64; omega)) σ w _ hh)) (fun v L a w hp hk hh => ?_)
        obtain ⟨rfl, hL⟩ := hp; rw [hL] at hh; clear hL
        refine rest_q tabOK (i := 3) hk hh [] [2, 3] rfl trivial (fun a hk => ?_)
        refine hK18 a w ?_; try clear hK18 K18
        refine wp_ret ?_
        refine fin_ret hk (show Tryz.f28.results = ⟨[.tmp 2, .tmp 3]⟩ from rfl) (by exact (res_tmp hk rfl (res_tmp hk rfl .nil))) ?_
        refine ⟨_, _, rfl, ⟨?_, rfl⟩, hh⟩
        simp only [retV, ez]

end Go.Hop
/- What is proved here: what a function of the text computes. Printed by program. -/
namespace Go.Hop
open Go.Proofs
set_option maxRecDepth 4000
theorem lline_spec (s : List UInt8) (hs : s.length ≤ 4000000000) (σ : Sg) (w : World) (R : List Assn) (hh : Holds σ w (R)) :
    Calls Tryz.prog 16 ⟨[S s]⟩ w fun e w' => ∃ v L', e = .returned v ∧ (∃ x ok, v = .tuple ⟨[.agg ⟨x.cs⟩, .bool ok]⟩ ∧ L' = R ∧ lineO s = (if ok = true then some x else none) ∧ (ok = false → x = zA)) ∧ Holds σ w' L' := by
  refine enter Tryz.func16 rfl Tryz.ntmps16 rfl fun a hk => ?_
  refine wp_seq_k fun K1 hK1 => ?_
  refine wp_region_lit ?_
  refine seq_eff hk hh rfl rfl (eff_alloc tabOK rfl) (fun v L a w hp hk hh => ?_)
  obtain ⟨b1, rfl, hL⟩ := hp; rw [hL] at hh; clear hL
  refine rest_q tabOK (i := 1) hk hh [] [0, 2] rfl trivial (fun a hk => ?_)
  refine hK1 a w ?_; try clear hK1 K1
  refine wp_seq_k fun K2 hK2 => ?_
  refine wp_seq_k fun K3 hK3 => ?_
  refine reg_q tabOK hk hh [] [0, 2, 4] rfl trivial (fun a hk => ?_)
  refine hK3 a w ?_; try clear hK3 K3
  refine wp_block ?_
  replace hk := hk.keep [0, 2, 4] rfl
  refine code_loop (α := Nat) (fun (m : Nat) (E : Env) (L : List Assn) => ∃ (i : Nat), E = [(0, S s), (2, .pointer (some ⟨b1, 0, none⟩)), (4, .int .i64 (i : Int))] ∧ L = [row b1 26 [.int .i64 0, .int .i64 0, .int .i64 0, .int .i64 0, S []]] ++ R ∧ (i ≤ s.length) ∧ (10 ∉ s.take i) ∧ m = s.length - i) id _ hk hh ⟨0, rfl, rfl, (by omega), (by simp), rfl⟩ ?_
  clear hk hh
  rintro _ _ _ a w ⟨i, rfl, hL, hi, inv, rfl⟩ hk hh; rw [hL] at hh; clear hL
  refine wp_seq_k fun K4 hK4 => ?_
  refine wp_seq_k fun K5 hK5 => ?_
  refine reg_q tabOK hk hh [] [0, 2, 4, 15] rfl trivial (fun a hk => ?_)
  refine hK5 a w ?_; try clear hK5 K5
  refine code_cond hk rfl (fun c2 => ?_) (fun c2 => ?_)
  · replace c2 : (i : Int) < (s.length : Int) := (of_decide_eq_true c2)
    refine wp_skip ?_
    refine hK4 a w ?_; try clear hK4 K4
    refine wp_seq_k fun K6 hK6 => ?_
    refine wp_block ?_
    refine wp_seq_k fun K7 hK7 => ?_
    refine reg_q tabOK hk hh [(2, .int .u8 ((s.getD i 0).toNat : Int))] [0, 2, 4, 21] rfl ?_ (fun a hk => ?_)
    · exact ⟨ob_index tabOK rfl rfl rfl (by omega) (getD_at (by omega)), trivial⟩
    refine hK7 a w ?_; try clear hK7 K7
    refine code_cond hk rfl (fun c3 => ?_) (fun c3 => ?_)
    · replace c3 : ((s.getD i 0).toNat : Int) = 10 := (c_et c3)
      refine wp_seq_k fun K8 hK8 => ?_
      refine wp_region_lit ?_
      refine seq_q tabOK (i := 0) (stop := 1) hk hh [] rfl trivial (fun a hk => ?_)
      refine seq_eff hk hh rfl rfl (eff_store tabOK 0 rfl rfl rfl rfl rfl rfl rfl (by simp)) (fun v L a w hp hk hh => ?_)
      obtain ⟨rfl, hL⟩ := hp; rw [hL] at hh; clear hL
      refine rest_q tabOK (i := 2) hk hh [] [0, 2, 3, 4] rfl trivial (fun a hk => ?_)
      refine hK8 a w ?_; try clear hK8 K8
      refine wp_ret ?_
      refine blk_ret ?_
      refine then_ret ?_
      refine then_ret ?_
      refine blk_ret ?_
      refine then_ret ?_
      refine fin_ret hk (show Tryz.f16.results = ⟨[.cell 2 26, .tmp 3]⟩ from rfl) (by exact (res_cellN tabOK hk hh 0 rfl rfl rfl rfl rfl (res_tmp hk rfl .nil))) ?_
      replace hh := (hh.at_ 0 rfl).drop
      refine ⟨_, _, rfl, ⟨zA, false, rfl, rfl, ?_, (fun _ => rfl)⟩, hh⟩
      exact line_bad (mem_nl (by omega) c3)
    · replace c3 : ¬ (((s.getD i 0).toNat : Int) = 10) := (c_ef c3)
      refine wp_skip ?_
      refine blk_nm ?_
      refine hK6 a w ?_; try clear hK6 K6
      refine reg_q tabOK hk hh [(1, .int .i64 ((i : Int) + 1))] [0, 2, 4] rfl ?_ (fun a hk => ?_)
      · exact ⟨ob_eq tabOK rfl (eq_i64 (by omega)), trivial⟩
      refine then_nm ?_
      exact ⟨_, _, _, ⟨i + 1, rfl, rfl, (by omega), (nl_step inv (by omega) c3), rfl⟩, (by simp only [id]; omega), hk.keep [0, 2, 4] rfl, hh⟩
  · replace c2 : ¬ ((i : Int) < (s.length : Int)) := (of_decide_eq_false c2)
    refine wp_exit ?_
    refine then_exit ?_
    refine then_exit ?_
    refine blk_out ?_
    refine hK2 a w ?_; try clear hK2 K2
    refine wp_seq_k fun K9 hK9 => ?_
    have hnl := nl_end inv (by omega)
    clear inv
    have hl1 : 1 ≤ (spl 32 s).length := spl_pos
    have hl2 : (spl 32 s).length ≤ 5000000000 := Nat.le_trans spl_len (by omega)
    have hlen0 : ∀ i, ((spl 32 s).getD i []).length ≤ 4000000000 := fun i => Nat.le_trans spl_word hs
    refine wp_region_lit ?_
    refine seq_q tabOK (i := 0) (stop := 1) hk hh [] rfl trivial (fun a hk => ?_)
    refine seq_eff hk hh rfl rfl (eff_call Tryz.func27 rfl rfl rfl rfl (fun w hh => words_spec s (by omega) σ w _ hh)) (fun v L a w hp hk hh => ?_)
    obtain ⟨b4, cap5, sp6, rfl, hL⟩ := hp; rw [hL] at hh; clear hL
    refine rest_q tabOK (i := 2) hk hh [] [2, 5] rfl trivial (fun a hk => ?_)
    refine hK9 a w ?_; try clear hK9 K9
    refine wp_seq_k fun K10 hK10 => ?_
    refine wp_region_lit ?_
    refine seq_q tabOK (i := 0) (stop := 3) hk hh [(1, .pointer (some ⟨b4, 0, none⟩)), (2, S ((spl 32 s).getD 0 []))] rfl ?_ (fun a hk => ?_)
    · exact ⟨ob_indexAddr tabOK (0) rfl rfl rfl rfl (by omega) (by omega) (by show 0 + (0 : Int).toNat * 1 = 0; omega), ob_load tabOK 0 rfl rfl rfl rfl (map_S_at2 (by omega)), trivial⟩
    refine seq_eff hk hh rfl rfl (eff_call Tryz.func20 rfl rfl rfl rfl (fun w hh => form_spec ((spl 32 s).getD 0 []) σ w _ hh)) (fun v L a w hp hk hh => ?_)
    obtain ⟨kd, lk, rfl, hL, hform⟩ := hp; rw [hL] at hh; clear hL
    have hlk3 := hform.len
    refine rest_q tabOK (i := 4) hk hh [] [2, 5, 6, 7] rfl trivial (fun a hk => ?_)
    refine hK10 a w ?_; try clear hK10 K10
    refine wp_seq_k fun K11 hK11 => ?_
    refine wp_seq_k fun K12 hK12 => ?_
    by_cases c7 : kd = 0
    · refine reg_q tabOK hk hh [(1, .bool true)] [2, 5, 6, 7, 41] rfl ?_ (fun a hk => ?_)
      · exact ⟨ob_eq tabOK rfl (v_et c7), trivial⟩
      refine hK12 a w ?_; try clear hK12 K12
      refine code_cond hk rfl (fun _ => ?_) (fun h => by cases h)
      refine wp_seq_k fun K13 hK13 => ?_
      refine wp_region_lit ?_
      refine seq_q tabOK (i := 0) (stop := 1) hk hh [] rfl trivial (fun a hk => ?_)
      refine seq_eff hk hh rfl rfl (eff_store tabOK 1 rfl rfl rfl rfl rfl rfl rfl (by simp)) (fun v L a w hp hk hh => ?_)
      obtain ⟨rfl, hL⟩ := hp; rw [hL] at hh; clear hL
      refine rest_q tabOK (i := 2) hk hh [] [2, 3, 5, 6, 7] rfl trivial (fun a hk => ?_)
      refine hK13 a w ?_; try clear hK13 K13
      refine wp_ret ?_
      refine then_ret ?_
      refine fin_ret hk (show Tryz.f16.results = ⟨[.cell 2 26, .tmp 3]⟩ from rfl) (by exact (res_cellN tabOK hk hh 0 rfl rfl rfl rfl rfl (res_tmp hk rfl .nil))) ?_
      replace hh := (hh.at_ 0 rfl).drop
      replace hh := (hh.at_ 0 rfl).drop
      refine ⟨_, _, rfl, ⟨zA, false, rfl, rfl, ?_, (fun _ => rfl)⟩, hh⟩
      rcases hform with ⟨f0, hf0, hw0, rfl, rfl⟩ | ⟨_, _, hno⟩
      · have hul : (upL (F f0).f).length = (F f0).f.length := upL_len
        have hk0 := forms_k hf0
        exact line_form hnl hf0 hw0 (readF_len (by omega))
      · exact line_noform hnl hno
    · refine reg_q tabOK hk hh [(1, .bool false), (7, .int .i64 ((lk.length : Int) + 1))] [2, 5, 6, 7, 41] rfl ?_ (fun a hk => ?_)
      · exact ⟨ob_eq tabOK rfl (v_ef c7), ob_eq tabOK rfl (eq_i64 (by omega)), trivial⟩
      refine hK12 a w ?_; try clear hK12 K12
      refine code_cond hk rfl (fun c8 => ?_) (fun c8 => ?_)
      · replace c8 : ¬ (((spl 32 s).length : Int) = (lk.length : Int) + 1) := (c_nt c8)
        refine wp_seq_k fun K14 hK14 => ?_
        refine wp_region_lit ?_
        refine seq_q tabOK (i := 0) (stop := 1) hk hh [] rfl trivial (fun a hk => ?_)
        refine seq_eff hk hh rfl rfl (eff_store tabOK 1 rfl rfl rfl rfl rfl rfl rfl (by simp)) (fun v L a w hp hk hh => ?_)
        obtain ⟨rfl, hL⟩ := hp; rw [hL] at hh; clear hL
        refine rest_q tabOK (i := 2) hk hh [] [2, 3, 5, 6, 7] rfl trivial (fun a hk => ?_)
        refine hK14 a w ?_; try clear hK14 K14
        refine wp_ret ?_
        refine then_ret ?_
        refine fin_ret hk (show Tryz.f16.results = ⟨[.cell 2 26, .tmp 3]⟩ from rfl) (by exact (res_cellN tabOK hk hh 0 rfl rfl rfl rfl rfl (res_tmp hk rfl .nil))) ?_
        replace hh := (hh.at_ 0 rfl).drop
        replace hh := (hh.at_ 0 rfl).drop
        refine ⟨_, _, rfl, ⟨zA, false, rfl, rfl, ?_, (fun _ => rfl)⟩, hh⟩
        rcases hform with ⟨f0, hf0, hw0, rfl, rfl⟩ | ⟨_, _, hno⟩
        · have hul : (upL (F f0).f).length = (F f0).f.length := upL_len
          have hk0 := forms_k hf0
          exact line_form hnl hf0 hw0 (readF_len (by omega))
        · exact line_noform hnl hno
      · replace c8 : ((spl 32 s).length : Int) = (lk.length : Int) + 1 := (c_nf c8)
        refine wp_skip ?_
        refine hK11 a w ?_; try clear hK11 K11
        refine wp_seq_k fun K15 hK15 => ?_
        obtain ⟨f0, hf0, hw0, hkd, hlk⟩ : ∃ i, i < 13 ∧ (F i).w = (spl 32 s).getD 0 [] ∧ kd = (F i).k ∧ lk = upL (F i).f := hform.resolve_right (fun h => by have := h.1; omega)
        subst hkd; subst hlk
        have hul : (upL (F f0).f).length = (F f0).f.length := upL_len
        have hread := readF_fill hw0 (by omega)
        refine wp_region_lit ?_
        refine seq_q tabOK (i := 0) (stop := 2) hk hh [] rfl trivial (fun a hk => ?_)
        refine seq_eff hk hh rfl rfl (eff_alloc tabOK rfl) (fun v L a w hp hk hh => ?_)
        obtain ⟨b9, rfl, hL⟩ := hp; rw [hL] at hh; clear hL
        refine seq_eff hk hh rfl rfl (eff_store tabOK 0 rfl rfl rfl rfl rfl rfl rfl (by simp)) (fun v L a w hp hk hh => ?_)
        obtain ⟨rfl, hL⟩ := hp; rw [hL] at hh; clear hL
        refine rest_q tabOK (i := 4) hk hh [] [2, 5, 7, 8] rfl trivial (fun a hk => ?_)
        refine hK15 a w ?_; try clear hK15 K15
        refine wp_seq_k fun K16 hK16 => ?_
        refine wp_seq_k fun K17 hK17 => ?_
        refine reg_q tabOK hk hh [] [2, 5, 7, 8, 9] rfl trivial (fun a hk => ?_)
        refine hK17 a w ?_; try clear hK17 K17
        refine wp_block ?_
        replace hh := hh.picks [0, 1, 0] rfl
        replace hk := hk.keep [2, 5, 7, 8, 9] rfl
        refine code_loop (α := Nat) (fun (m : Nat) (E : Env) (L : List Assn) => ∃ (i : Nat) (x : ActL), E = [(2, .pointer (some ⟨b1, 0, none⟩)), (5, .slice (some ⟨b4, 0, none⟩) ((spl 32 s).length) cap5), (7, S (upL (F f0).f)), (8, .pointer (some ⟨b9, 0, none⟩)), (9, .int .i64 (i : Int))] ∧ L = [row b9 26 [.int .i64 x.k, .int .i64 x.a, .int .i64 x.b, .int .i64 x.n, S x.s], row b1 26 [.int .i64 0, .int .i64 0, .int .i64 0, .int .i64 0, S []], row b4 9 ((spl 32 s).map S ++ sp6)] ++ R ∧ (1 ≤ i) ∧ (i ≤ (spl 32 s).length) ∧ (fillF x ((F f0).f.drop (i - 1)) ((spl 32 s).drop i) = fillF ⟨(F f0).k, 0, 0, 0, []⟩ (F f0).f ((spl 32 s).drop 1)) ∧ m = (spl 32 s).length - i) id _ hk hh ⟨1, ⟨(F f0).k, 0, 0, 0, []⟩, rfl, rfl, (by omega), (by omega), rfl, rfl⟩ ?_
        clear hk hh
        rintro _ _ _ a w ⟨i, x, rfl, hL, hi1, hi, inv, rfl⟩ hk hh; rw [hL] at hh; clear hL
        refine wp_seq_k fun K18 hK18 => ?_
        refine wp_seq_k fun K19 hK19 => ?_
        refine reg_q tabOK hk hh [] [2, 5, 7, 8, 9, 48] rfl trivial (fun a hk => ?_)
        refine hK19 a w ?_; try clear hK19 K19
        refine code_cond hk rfl (fun c10 => ?_) (fun c10 => ?_)
        · replace c10 : (i : Int) < ((spl 32 s).length : Int) := (of_decide_eq_true c10)
          refine wp_skip ?_
          refine hK18 a w ?_; try clear hK18 K18
          refine wp_seq_k fun K20 hK20 => ?_
          refine wp_block ?_
          refine wp_seq_k fun K21 hK21 => ?_
          refine wp_seq_k fun K22 hK22 => ?_
          refine reg_q tabOK hk hh [(2, .int .i64 ((i : Int) - 1)), (3, .int .u8 (((upL (F f0).f).getD (((i : Int) - 1).toNat) 0).toNat : Int))] [2, 5, 7, 8, 9, 55] rfl ?_ (fun a hk => ?_)
          · exact ⟨ob_eq tabOK rfl (eq_i64 (by omega)), ob_index tabOK rfl rfl rfl (by omega) (getD_at (by omega)), trivial⟩
          refine hK22 a w ?_; try clear hK22 K22
          refine code_cond hk rfl (fun c11 => ?_) (fun c11 => ?_)
          · replace c11 : (((upL (F f0).f).getD (((i : Int) - 1).toNat) 0).toNat : Int) = 115 := (c_et c11)
            refine wp_seq_k fun K23 hK23 => ?_
            refine wp_seq_k fun K24 hK24 => ?_
            refine reg_q tabOK hk hh [(2, .pointer (some ⟨b4, i, none⟩)), (3, S ((spl 32 s).getD i []))] [2, 5, 7, 8, 9, 60] rfl ?_ (fun a hk => ?_)
            · exact ⟨ob_indexAddr tabOK (i) rfl rfl rfl rfl (by omega) (by omega) (by show 0 + ((i : Int) : Int).toNat * 1 = i; omega), ob_load tabOK 2 rfl rfl rfl rfl (map_S_at2 (by omega)), trivial⟩
            refine hK24 a w ?_; try clear hK24 K24
            refine code_cond hk rfl (fun c12 => ?_) (fun c12 => ?_)
            · replace c12 : (spl 32 s).getD i [] = [] := (c_et c12)
              refine wp_seq_k fun K25 hK25 => ?_
              refine wp_region_lit ?_
              refine seq_q tabOK (i := 0) (stop := 1) hk hh [] rfl trivial (fun a hk => ?_)
              refine seq_eff hk hh rfl rfl (eff_store tabOK 1 rfl rfl rfl rfl rfl rfl rfl (by simp)) (fun v L a w hp hk hh => ?_)
              obtain ⟨rfl, hL⟩ := hp; rw [hL] at hh; clear hL
              refine rest_q tabOK (i := 2) hk hh [] [2, 3, 5, 7, 8, 9] rfl trivial (fun a hk => ?_)
              refine hK25 a w ?_; try clear hK25 K25
              refine wp_ret ?_
              refine then_ret ?_
              refine then_ret ?_
              refine blk_ret ?_
              refine then_ret ?_
              refine then_ret ?_
              refine blk_ret ?_
              refine then_ret ?_
              refine fin_ret hk (show Tryz.f16.results = ⟨[.cell 2 26, .tmp 3]⟩ from rfl) (by exact (res_cellN tabOK hk hh 0 rfl rfl rfl rfl rfl (res_tmp hk rfl .nil))) ?_
              replace hh := (hh.at_ 0 rfl).drop
              replace hh := (hh.at_ 0 rfl).drop
              replace hh := (hh.at_ 0 rfl).drop
              refine ⟨_, _, rfl, ⟨zA, false, rfl, rfl, ?_, (fun _ => rfl)⟩, hh⟩
              exact line_form hnl hf0 hw0 (by rw [hread]; exact fill_miss2 (j := i) inv (by omega) (by omega) (by omega) (set_s0 (m := ((i : Int) - 1).toNat) (by omega) c11 c12))
            · replace c12 : ¬ ((spl 32 s).getD i [] = []) := (c_ef c12)
              refine wp_skip ?_
              refine hK23 a w ?_; try clear hK23 K23
              refine wp_seq_k fun K26 hK26 => ?_
              refine wp_region_lit ?_
              refine seq_q tabOK (i := 0) (stop := 5) hk hh [(2, .pointer (some ⟨b4, i, none⟩)), (3, S ((spl 32 s).getD i []))] rfl ?_ (fun a hk => ?_)
              · exact ⟨ob_indexAddr tabOK (i) rfl rfl rfl rfl (by omega) (by omega) (by show 0 + ((i : Int) : Int).toNat * 1 = i; omega), ob_load tabOK 2 rfl rfl rfl rfl (map_S_at2 (by omega)), trivial⟩
              refine seq_eff hk hh rfl rfl (eff_store tabOK 0 rfl rfl rfl rfl rfl rfl rfl (by simp)) (fun v L a w hp hk hh => ?_)
              obtain ⟨rfl, hL⟩ := hp; rw [hL] at hh; clear hL
              refine rest_q tabOK (i := 6) hk hh [] [2, 5, 7, 8, 9] rfl trivial (fun a hk => ?_)
              refine hK26 a w ?_; try clear hK26 K26
              refine wp_exit ?_
              refine then_exit ?_
              refine blk_out ?_
              refine hK20 a w ?_; try clear hK20 K20
              refine reg_q tabOK hk hh [(1, .int .i64 ((i : Int) + 1))] [2, 5, 7, 8, 9] rfl ?_ (fun a hk => ?_)
              · exact ⟨ob_eq tabOK rfl (eq_i64 (by omega)), trivial⟩
              refine then_nm ?_
              exact ⟨_, _, _, ⟨i + 1, ⟨x.k, x.a, x.b, x.n, (spl 32 s).getD i []⟩, rfl, rfl, (by omega), (by omega), (fill_hit2 (j := i) inv (by omega) (by omega) (by omega) (set_s (m := ((i : Int) - 1).toNat) (by omega) c11 c12)), rfl⟩, (by simp only [id]; omega), hk.keep [2, 5, 7, 8, 9] rfl, hh⟩
          · replace c11 : ¬ ((((upL (F f0).f).getD (((i : Int) - 1).toNat) 0).toNat : Int) = 115) := (c_ef c11)
            refine wp_skip ?_
            refine hK21 a w ?_; try clear hK21 K21
            refine wp_seq_k fun K27 hK27 => ?_
            refine wp_region_lit ?_
            refine seq_q tabOK (i := 0) (stop := 4) hk hh [(2, .pointer (some ⟨b4, i, none⟩)), (3, S ((spl 32 s).getD i []))] rfl ?_ (fun a hk => ?_)
            · exact ⟨ob_indexAddr tabOK (i) rfl rfl rfl rfl (by omega) (by omega) (by show 0 + ((i : Int) : Int).toNat * 1 = i; omega), ob_load tabOK 2 rfl rfl rfl rfl (map_S_at2 (by omega)), trivial⟩
            refine seq_eff hk hh rfl rfl (eff_call Tryz.func28 rfl rfl rfl rfl (fun w hh => value_spec ((spl 32 s).getD i []) (Nat.le_trans (hlen0 _) (by omega)) σ w _ hh)) (fun v L a w hp hk hh => ?_)
            obtain ⟨hv0, hL⟩ := hp; rw [hL] at hh; clear hL
            obtain ⟨n13, hn0⟩ : ∃ n, n = valS ((spl 32 s).getD i []) := ⟨_, rfl⟩
            obtain ⟨ok14, hok0⟩ : ∃ b, b = (Lib.itoa (valS ((spl 32 s).getD i [])) == ((spl 32 s).getD i [])) := ⟨_, rfl⟩
            have hnum := valS_is ((spl 32 s).getD i [])
            rw [← hn0] at hv0 hnum hok0
            rw [← hok0] at hv0 hnum; subst hv0
            refine rest_q tabOK (i := 5) hk hh [] [2, 5, 7, 8, 9, 10, 11] rfl trivial (fun a hk => ?_)
            refine hK27 a w ?_; try clear hK27 K27
            refine wp_seq_k fun K28 hK28 => ?_
            refine wp_seq_k fun K29 hK29 => ?_
            refine reg_q tabOK hk hh [] [2, 5, 7, 8, 9, 10, 76] rfl trivial (fun a hk => ?_)
            refine hK29 a w ?_; try clear hK29 K29
            refine code_cond hk rfl (fun c15 => ?_) (fun c15 => ?_)
            · replace c15 : ¬ (ok14 = true) := (by simp [(c_it c15)])
              refine wp_seq_k fun K30 hK30 => ?_
              refine wp_region_lit ?_
              refine seq_q tabOK (i := 0) (stop := 1) hk hh [] rfl trivial (fun a hk => ?_)
              refine seq_eff hk hh rfl rfl (eff_store tabOK 1 rfl rfl rfl rfl rfl rfl rfl (by simp)) (fun v L a w hp hk hh => ?_)
              obtain ⟨rfl, hL⟩ := hp; rw [hL] at hh; clear hL
              refine rest_q tabOK (i := 2) hk hh [] [2, 3, 5, 7, 8, 9, 10] rfl trivial (fun a hk => ?_)
              refine hK30 a w ?_; try clear hK30 K30
              refine wp_ret ?_
              refine then_ret ?_
              refine blk_ret ?_
              refine then_ret ?_
              refine then_ret ?_
              refine blk_ret ?_
              refine then_ret ?_
              refine fin_ret hk (show Tryz.f16.results = ⟨[.cell 2 26, .tmp 3]⟩ from rfl) (by exact (res_cellN tabOK hk hh 0 rfl rfl rfl rfl rfl (res_tmp hk rfl .nil))) ?_
              replace hh := (hh.at_ 0 rfl).drop
              replace hh := (hh.at_ 0 rfl).drop
              replace hh := (hh.at_ 0 rfl).drop
              refine ⟨_, _, rfl, ⟨zA, false, rfl, rfl, ?_, (fun _ => rfl)⟩, hh⟩
              exact line_form hnl hf0 hw0 (by rw [hread]; exact fill_miss2 (j := i) inv (by omega) (by omega) (by omega) (set_no (m := ((i : Int) - 1).toNat) (by omega) c11 (by rw [hnum.2, if_neg c15])))
            · replace c15 : ok14 = true := (c_if c15)
              refine wp_skip ?_
              refine hK28 a w ?_; try clear hK28 K28
              refine wp_seq_k fun K31 hK31 => ?_
              refine reg_q tabOK hk hh [(2, .int .i64 ((i : Int) - 1)), (3, .int .u8 (((upL (F f0).f).getD (((i : Int) - 1).toNat) 0).toNat : Int))] [2, 5, 7, 8, 9, 10, 81] rfl ?_ (fun a hk => ?_)
              · exact ⟨ob_eq tabOK rfl (eq_i64 (by omega)), ob_index tabOK rfl rfl rfl (by omega) (getD_at (by omega)), trivial⟩
              refine hK31 a w ?_; try clear hK31 K31
              refine wp_block ?_
              refine wp_seq_k fun K32 hK32 => ?_
              refine reg_q tabOK hk hh [] [2, 5, 7, 8, 9, 10, 81, 84] rfl trivial (fun a hk => ?_)
              refine hK32 a w ?_; try clear hK32 K32
              refine code_cond hk rfl (fun c16 => ?_) (fun c16 => ?_)
              · replace c16 : (((upL (F f0).f).getD (((i : Int) - 1).toNat) 0).toNat : Int) = 65 := (c_et c16)
                refine wp_region_lit ?_
                refine seq_q tabOK (i := 0) (stop := 2) hk hh [] rfl trivial (fun a hk => ?_)
                refine seq_eff hk hh rfl rfl (eff_store tabOK 0 rfl rfl rfl rfl rfl rfl rfl (by simp)) (fun v L a w hp hk hh => ?_)
                obtain ⟨rfl, hL⟩ := hp; rw [hL] at hh; clear hL
                refine rest_q tabOK (i := 3) hk hh [] [2, 5, 7, 8, 9] rfl trivial (fun a hk => ?_)
                refine blk_nm ?_
                refine blk_nm ?_
                refine hK20 a w ?_; try clear hK20 K20
                refine reg_q tabOK hk hh [(1, .int .i64 ((i : Int) + 1))] [2, 5, 7, 8, 9] rfl ?_ (fun a hk => ?_)
                · exact ⟨ob_eq tabOK rfl (eq_i64 (by omega)), trivial⟩
                refine then_nm ?_
                exact ⟨_, _, _, ⟨i + 1, ⟨x.k, n13, x.b, x.n, x.s⟩, rfl, rfl, (by omega), (by omega), (fill_hit2 (j := i) inv (by omega) (by omega) (by omega) (set_a (m := ((i : Int) - 1).toNat) (by omega) (forms_up hf0) c11 c16 (by rw [hnum.2, if_pos c15]))), rfl⟩, (by simp only [id]; omega), hk.keep [2, 5, 7, 8, 9] rfl, hh⟩
              · replace c16 : ¬ ((((upL (F f0).f).getD (((i : Int) - 1).toNat) 0).toNat : Int) = 65) := (c_ef c16)
                refine wp_seq_k fun K33 hK33 => ?_
                refine reg_q tabOK hk hh [] [2, 5, 7, 8, 9, 10, 88] rfl trivial (fun a hk => ?_)
                refine hK33 a w ?_; try clear hK33 K33
                refine code_cond hk rfl (fun c17 => ?_) (fun c17 => ?_)
                · replace c17 : (((upL (F f0).f).getD (((i : Int) - 1).toNat) 0).toNat : Int) = 66 := (c_et c17)
                  refine wp_region_lit ?_
                  refine seq_q tabOK (i := 0) (stop := 2) hk hh [] rfl trivial (fun a hk => ?_)
                  refine seq_eff hk hh rfl rfl (eff_store tabOK 0 rfl rfl rfl rfl rfl rfl rfl (by simp)) (fun v L a w hp hk hh => ?_)
                  obtain ⟨rfl, hL⟩ := hp; rw [hL] at hh; clear hL
                  refine rest_q tabOK (i := 3) hk hh [] [2, 5, 7, 8, 9] rfl trivial (fun a hk => ?_)
                  refine blk_nm ?_
                  refine blk_nm ?_
                  refine hK20 a w ?_; try clear hK20 K20
                  refine reg_q tabOK hk hh [(1, .int .i64 ((i : Int) + 1))] [2, 5, 7, 8, 9] rfl ?_ (fun a hk => ?_)
                  · exact ⟨ob_eq tabOK rfl (eq_i64 (by omega)), trivial⟩
                  refine then_nm ?_
                  exact ⟨_, _, _, ⟨i + 1, ⟨x.k, x.a, n13, x.n, x.s⟩, rfl, rfl, (by omega), (by omega), (fill_hit2 (j := i) inv (by omega) (by omega) (by omega) (set_b (m := ((i : Int) - 1).toNat) (by omega) (forms_up hf0) c11 c16 c17 (by rw [hnum.2, if_pos c15]))), rfl⟩, (by simp only [id]; omega), hk.keep [2, 5, 7, 8, 9] rfl, hh⟩
                · replace c17 : ¬ ((((upL (F f0).f).getD (((i : Int) - 1).toNat) 0).toNat : Int) = 66) := (c_ef c17)
                  refine wp_region_lit ?_
                  refine seq_q tabOK (i := 0) (stop := 2) hk hh [] rfl trivial (fun a hk => ?_)
                  refine seq_eff hk hh rfl rfl (eff_store tabOK 0 rfl rfl rfl rfl rfl rfl rfl (by simp)) (fun v L a w hp hk hh => ?_)
                  obtain ⟨rfl, hL⟩ := hp; rw [hL] at hh; clear hL
                  refine rest_q tabOK (i := 3) hk hh [] [2, 5, 7, 8, 9] rfl trivial (fun a hk => ?_)
                  refine blk_nm ?_
                  refine blk_nm ?_
                  refine hK20 a w ?_; try clear hK20 K20
                  refine reg_q tabOK hk hh [(1, .int .i64 ((i : Int) + 1))] [2, 5, 7, 8, 9] rfl ?_ (fun a hk => ?_)
                  · exact ⟨ob_eq tabOK rfl (eq_i64 (by omega)), trivial⟩
                  refine then_nm ?_
                  exact ⟨_, _, _, ⟨i + 1, ⟨x.k, x.a, x.b, n13, x.s⟩, rfl, rfl, (by omega), (by omega), (fill_hit2 (j := i) inv (by omega) (by omega) (by omega) (set_n (m := ((i : Int) - 1).toNat) (by omega) c11 c16 c17 (by rw [hnum.2, if_pos c15]))), rfl⟩, (by simp only [id]; omega), hk.keep [2, 5, 7, 8, 9] rfl, hh⟩
        · replace c10 : ¬ ((i : Int) < ((spl 32 s).length : Int)) := (of_decide_eq_false c10)
          refine wp_exit ?_
          refine then_exit ?_
          refine then_exit ?_
          refine blk_out ?_
          refine hK16 a w ?_; try clear hK16 K16
          refine wp_seq_k fun K34 hK34 => ?_
          refine wp_region_lit ?_
          refine seq_q tabOK (i := 0) (stop := 1) hk hh [(0, .agg ⟨[.int .i64 x.k, .int .i64 x.a, .int .i64 x.b, .int .i64 x.n, S x.s]⟩)] rfl ?_ (fun a hk => ?_)
          · exact ⟨ob_loadN tabOK 0 rfl rfl rfl rfl rfl, trivial⟩
          refine seq_eff hk hh rfl rfl (eff_store tabOK 1 rfl rfl rfl rfl rfl rfl rfl (by simp)) (fun v L a w hp hk hh => ?_)
          obtain ⟨rfl, hL⟩ := hp; rw [hL] at hh; clear hL
          refine rest_q tabOK (i := 2) hk hh [] [2, 3] rfl trivial (fun a hk => ?_)
          refine hK34 a w ?_; try clear hK34 K34
          refine wp_ret ?_
          refine fin_ret hk (show Tryz.f16.results = ⟨[.cell 2 26, .tmp 3]⟩ from rfl) (by exact (res_cellN tabOK hk hh 0 rfl rfl rfl rfl rfl (res_tmp hk rfl .nil))) ?_
          replace hh := (hh.at_ 0 rfl).drop
          replace hh := (hh.at_ 0 rfl).drop
          replace hh := (hh.at_ 0 rfl).drop
          refine ⟨_, _, rfl, ⟨x, true, rfl, rfl, ?_, (fun h => by cases h)⟩, hh⟩
          exact line_form hnl hf0 hw0 (by rw [hread]; exact fill_end2 inv (by omega))

end Go.Hop
/- What is proved here: what a function of the text computes. Printed by program. -/
namespace Go.Hop
open Go.Proofs
set_option maxRecDepth 4000
set_option maxHeartbeats 4000000
theorem ltext_spec (x : ActL) (hx : ActOK x) (σ : Sg) (w : World) (R : List Assn) (hh : Holds σ w (R)) :
    Calls Tryz.prog 9 ⟨[.agg ⟨[.int .i64 x.k, .int .i64 x.a, .int .i64 x.b, .int .i64 x.n, S x.s]⟩]⟩ w fun e w' => ∃ v L', e = .returned v ∧ (v = S (textO x) ∧ L' = R) ∧ Holds σ w' L' := by
  refine enter Tryz.func9 rfl Tryz.ntmps9 rfl fun a hk => ?_
  have hxa := hx.a
  have hxb := hx.b
  have hxn := hx.n
  have hxs := hx.s
  have hla := itoa_len hx.a
  have hlb := itoa_len hx.b
  have hln := itoa_len hx.n
  refine wp_seq_k fun K1 hK1 => ?_
  refine wp_region_lit ?_
  refine seq_eff hk hh rfl rfl (eff_box rfl rfl) (fun v L a w hp hk hh => ?_)
  obtain ⟨b1, rfl, hL⟩ := hp; rw [hL] at hh; clear hL
  refine rest_q tabOK (i := 1) hk hh [] [1] rfl trivial (fun a hk => ?_)
  refine hK1 a w ?_; try clear hK1 K1
  refine wp_seq_k fun K2 hK2 => ?_
  refine wp_seq_k fun K3 hK3 => ?_
  refine wp_region_lit ?_
  refine seq_eff hk hh rfl rfl (eff_lit tabOK rfl rfl rfl (by decide) rfl) (fun v L a w hp hk hh => ?_)
  obtain ⟨b2, rfl, hL⟩ := hp; rw [hL] at hh; clear hL
  refine rest_q tabOK (i := 1) hk hh [] [1, 11, 12, 13] rfl trivial (fun a hk => ?_)
  refine hK3 a w ?_; try clear hK3 K3
  refine wp_block ?_
  replace hh := hh.picks [1, 0] rfl
  replace hk := hk.keep [1, 11, 12, 13] rfl
  refine code_loop (α := Nat) (fun (m : Nat) (E : Env) (L : List Assn) => ∃ (i : Nat), E = [(1, .pointer (some ⟨b1, 0, none⟩)), (11, .slice (some ⟨b2, 0, none⟩) 13 13), (12, .int .i64 13), (13, .int .i64 (i : Int))] ∧ L = [row b1 26 [.int .i64 x.k, .int .i64 x.a, .int .i64 x.b, .int .i64 x.n, S x.s], row b2 9 (formsL.map fun f => S f.w)] ++ R ∧ (i ≤ 13) ∧ (∀ j, j < i → ¬ ((F j).k = x.k ∧ lineO (showT (F j).w (F j).f x) = some x)) ∧ m = 13 - i) id _ hk hh ⟨0, rfl, rfl, (by omega), (fun j hj => by omega), rfl⟩ ?_
  clear hk hh
  rintro _ _ _ a w ⟨i, rfl, hL, hi, inv, rfl⟩ hk hh; rw [hL] at hh; clear hL
  refine wp_seq_k fun K4 hK4 => ?_
  refine reg_q tabOK hk hh [] [1, 11, 12, 13, 14] rfl trivial (fun a hk => ?_)
  refine hK4 a w ?_; try clear hK4 K4
  refine wp_seq_k fun K5 hK5 => ?_
  refine code_cond hk rfl (fun c3 => ?_) (fun c3 => ?_)
  · replace c3 : (i : Int) < 13 := (of_decide_eq_true c3)
    refine wp_skip ?_
    refine hK5 a w ?_; try clear hK5 K5
    refine wp_seq_k fun K6 hK6 => ?_
    refine wp_block ?_
    refine wp_seq_k fun K7 hK7 => ?_
    refine reg_q tabOK hk hh [(0, .pointer (some ⟨b2, i, none⟩)), (1, S ((F i).w))] [1, 4, 11, 12, 13] rfl ?_ (fun a hk => ?_)
    · exact ⟨ob_indexAddr tabOK (i) rfl rfl rfl rfl (by omega) (by omega) (by show 0 + ((i : Int) : Int).toNat * 1 = i; omega), ob_load tabOK 1 rfl rfl rfl rfl (names_at (by omega)), trivial⟩
    refine hK7 a w ?_; try clear hK7 K7
    refine wp_seq_k fun K8 hK8 => ?_
    refine wp_region_lit ?_
    refine seq_q tabOK (i := 0) (stop := 1) hk hh [] rfl trivial (fun a hk => ?_)
    refine seq_eff hk hh rfl rfl (eff_call Tryz.func20 rfl rfl rfl rfl (fun w hh => form_spec ((F i).w) σ w _ hh)) (fun v L a w hp hk hh => ?_)
    obtain ⟨kd, lk, rfl, hL, hform⟩ := hp; rw [hL] at hh; clear hL
    obtain ⟨rfl, rfl⟩ := form_at (by omega) hform
    clear hform
    refine rest_q tabOK (i := 2) hk hh [] [1, 4, 5, 6, 11, 12, 13] rfl trivial (fun a hk => ?_)
    refine hK8 a w ?_; try clear hK8 K8
    refine wp_seq_k fun K9 hK9 => ?_
    refine wp_seq_k fun K10 hK10 => ?_
    refine reg_q tabOK hk hh [(2, .int .i64 x.k)] [1, 4, 6, 11, 12, 13, 25] rfl ?_ (fun a hk => ?_)
    · exact ⟨ob_load tabOK 0 rfl rfl rfl rfl rfl, trivial⟩
    refine hK10 a w ?_; try clear hK10 K10
    refine code_cond hk rfl (fun c4 => ?_) (fun c4 => ?_)
    · replace c4 : ¬ ((F i).k = x.k) := (c_nt c4)
      refine wp_exit ?_
      refine then_exit ?_
      refine blk_out ?_
      refine hK6 a w ?_; try clear hK6 K6
      refine reg_q tabOK hk hh [(0, .int .i64 ((i : Int) + 1))] [1, 11, 12, 13] rfl ?_ (fun a hk => ?_)
      · exact ⟨ob_eq tabOK rfl (eq_i64 (by omega)), trivial⟩
      refine then_nm ?_
      exact ⟨_, _, _, ⟨i + 1, rfl, rfl, (by omega), (fun j hj => (Nat.lt_succ_iff_lt_or_eq.1 hj).elim (fun h => inv j h) (fun h => by rw [h]; exact (fun e => c4 e.1))), rfl⟩, (by simp only [id]; omega), hk.keep [1, 11, 12, 13] rfl, hh⟩
    · replace c4 : (F i).k = x.k := (c_nf c4)
      refine wp_skip ?_
      refine hK9 a w ?_; try clear hK9 K9
      refine wp_seq_k fun K11 hK11 => ?_
      refine reg_q tabOK hk hh [] [1, 6, 7, 11, 12, 13] rfl trivial (fun a hk => ?_)
      refine hK11 a w ?_; try clear hK11 K11
      refine wp_seq_k fun K12 hK12 => ?_
      refine wp_seq_k fun K13 hK13 => ?_
      have hfl := forms_len (i := i) (by omega)
      have hup := forms_up (i := i) (by omega)
      have hul : (upL (F i).f).length = (F i).f.length := upL_len
      refine reg_q tabOK hk hh [] [1, 6, 7, 8, 11, 12, 13] rfl trivial (fun a hk => ?_)
      refine hK13 a w ?_; try clear hK13 K13
      refine wp_block ?_
      replace hk := hk.keep [1, 6, 7, 8, 11, 12, 13] rfl
      refine code_loop (α := Nat) (fun (m : Nat) (E : Env) (L : List Assn) => ∃ (j : Nat) (s : List UInt8), E = [(1, .pointer (some ⟨b1, 0, none⟩)), (6, S (upL (F i).f)), (7, S s), (8, .int .i64 (j : Int)), (11, .slice (some ⟨b2, 0, none⟩) 13 13), (12, .int .i64 13), (13, .int .i64 (i : Int))] ∧ L = [row b1 26 [.int .i64 x.k, .int .i64 x.a, .int .i64 x.b, .int .i64 x.n, S x.s], row b2 9 (formsL.map fun f => S f.w)] ++ R ∧ (j ≤ (F i).f.length) ∧ (s = (F i).w ++ tailT x ((F i).f.take j)) ∧ m = (F i).f.length - j) id _ hk hh ⟨0, (F i).w, rfl, rfl, (by omega), (by simp [tailT]), rfl⟩ ?_
      clear hk hh
      rintro _ _ _ a w ⟨j, s, rfl, hL, hj, sinv, rfl⟩ hk hh; rw [hL] at hh; clear hL
      have htl := tail_len hx (l := (F i).f.take j)
      have hll : s.length = (F i).w.length + (tailT x ((F i).f.take j)).length := by rw [sinv, List.length_append]
      have htk : ((F i).f.take j).length ≤ 3 := by rw [List.length_take]; omega
      refine wp_seq_k fun K14 hK14 => ?_
      refine wp_seq_k fun K15 hK15 => ?_
      refine reg_q tabOK hk hh [] [1, 6, 7, 8, 11, 12, 13, 30] rfl trivial (fun a hk => ?_)
      refine hK15 a w ?_; try clear hK15 K15
      refine code_cond hk rfl (fun c5 => ?_) (fun c5 => ?_)
      · replace c5 : (j : Int) < ((upL (F i).f).length : Int) := (of_decide_eq_true c5)
        refine wp_skip ?_
        refine hK14 a w ?_; try clear hK14 K14
        refine wp_seq_k fun K16 hK16 => ?_
        refine wp_block ?_
        refine wp_seq_k fun K17 hK17 => ?_
        have hj0 : j < (F i).f.length := by omega
        refine reg_q tabOK hk hh [(2, .int .u8 (((upL (F i).f).getD j 0).toNat : Int))] [1, 6, 7, 8, 11, 12, 13, 35] rfl ?_ (fun a hk => ?_)
        · exact ⟨ob_index tabOK rfl rfl rfl (by omega) (getD_at (by omega)), trivial⟩
        refine hK17 a w ?_; try clear hK17 K17
        refine wp_block ?_
        refine wp_seq_k fun K18 hK18 => ?_
        refine reg_q tabOK hk hh [] [1, 6, 7, 8, 11, 12, 13, 35, 42] rfl trivial (fun a hk => ?_)
        refine hK18 a w ?_; try clear hK18 K18
        refine code_cond hk rfl (fun c6 => ?_) (fun c6 => ?_)
        · replace c6 : (((upL (F i).f).getD j 0).toNat : Int) = 65 := (c_et c6)
          refine wp_region_lit ?_
          refine seq_q tabOK (i := 0) (stop := 3) hk hh [(2, .int .i64 x.a)] rfl ?_ (fun a hk => ?_)
          · exact ⟨ob_load tabOK 0 rfl rfl rfl rfl rfl, trivial⟩
          refine seq_eff hk hh rfl rfl (eff_call Tryz.func7 rfl rfl rfl rfl (fun w hh => number_spec x.a (by first | assumption | (unfold I64; omega)) σ w _ hh)) (fun v L a w hp hk hh => ?_)
          obtain ⟨rfl, hL⟩ := hp; rw [hL] at hh; clear hL
          refine rest_q tabOK (i := 4) hk hh [(4, S ([32] ++ (Lib.itoa x.a))), (5, S (s ++ ([32] ++ (Lib.itoa x.a))))] [1, 6, 7, 8, 11, 12, 13] rfl ?_ (fun a hk => ?_)
          · exact ⟨ob_concat rfl rfl (by simp only [List.length_append, List.length_cons, List.length_nil]; omega), ob_concat rfl rfl (by simp only [List.length_append, List.length_cons, List.length_nil]; omega), trivial⟩
          refine blk_nm ?_
          refine blk_nm ?_
          refine hK16 a w ?_; try clear hK16 K16
          refine reg_q tabOK hk hh [(1, .int .i64 ((j : Int) + 1))] [1, 6, 7, 8, 11, 12, 13] rfl ?_ (fun a hk => ?_)
          · exact ⟨ob_eq tabOK rfl (eq_i64 (by omega)), trivial⟩
          refine then_nm ?_
          exact ⟨_, _, _, ⟨j + 1, s ++ ([32] ++ (Lib.itoa x.a)), rfl, rfl, (by omega), (tail_step sinv hj0 (fld_a (up_a hj0 hup c6))), rfl⟩, (by simp only [id]; omega), hk.keep [1, 6, 7, 8, 11, 12, 13] rfl, hh⟩
        · replace c6 : ¬ ((((upL (F i).f).getD j 0).toNat : Int) = 65) := (c_ef c6)
          refine wp_seq_k fun K19 hK19 => ?_
          refine reg_q tabOK hk hh [] [1, 6, 7, 8, 11, 12, 13, 35, 50] rfl trivial (fun a hk => ?_)
          refine hK19 a w ?_; try clear hK19 K19
          refine code_cond hk rfl (fun c7 => ?_) (fun c7 => ?_)
          · replace c7 : (((upL (F i).f).getD j 0).toNat : Int) = 66 := (c_et c7)
            refine wp_region_lit ?_
            refine seq_q tabOK (i := 0) (stop := 3) hk hh [(2, .int .i64 x.b)] rfl ?_ (fun a hk => ?_)
            · exact ⟨ob_load tabOK 0 rfl rfl rfl rfl rfl, trivial⟩
            refine seq_eff hk hh rfl rfl (eff_call Tryz.func7 rfl rfl rfl rfl (fun w hh => number_spec x.b (by first | assumption | (unfold I64; omega)) σ w _ hh)) (fun v L a w hp hk hh => ?_)
            obtain ⟨rfl, hL⟩ := hp; rw [hL] at hh; clear hL
            refine rest_q tabOK (i := 4) hk hh [(4, S ([32] ++ (Lib.itoa x.b))), (5, S (s ++ ([32] ++ (Lib.itoa x.b))))] [1, 6, 7, 8, 11, 12, 13] rfl ?_ (fun a hk => ?_)
            · exact ⟨ob_concat rfl rfl (by simp only [List.length_append, List.length_cons, List.length_nil]; omega), ob_concat rfl rfl (by simp only [List.length_append, List.length_cons, List.length_nil]; omega), trivial⟩
            refine blk_nm ?_
            refine blk_nm ?_
            refine hK16 a w ?_; try clear hK16 K16
            refine reg_q tabOK hk hh [(1, .int .i64 ((j : Int) + 1))] [1, 6, 7, 8, 11, 12, 13] rfl ?_ (fun a hk => ?_)
            · exact ⟨ob_eq tabOK rfl (eq_i64 (by omega)), trivial⟩
            refine then_nm ?_
            exact ⟨_, _, _, ⟨j + 1, s ++ ([32] ++ (Lib.itoa x.b)), rfl, rfl, (by omega), (tail_step sinv hj0 (fld_b (up_a_not hj0 c6) (up_b hj0 hup c7))), rfl⟩, (by simp only [id]; omega), hk.keep [1, 6, 7, 8, 11, 12, 13] rfl, hh⟩
          · replace c7 : ¬ ((((upL (F i).f).getD j 0).toNat : Int) = 66) := (c_ef c7)
            refine wp_seq_k fun K20 hK20 => ?_
            refine reg_q tabOK hk hh [] [1, 6, 7, 8, 11, 12, 13, 58] rfl trivial (fun a hk => ?_)
            refine hK20 a w ?_; try clear hK20 K20
            refine code_cond hk rfl (fun c8 => ?_) (fun c8 => ?_)
            · replace c8 : (((upL (F i).f).getD j 0).toNat : Int) = 115 := (c_et c8)
              refine reg_q tabOK hk hh [(2, S x.s), (3, S ([32] ++ x.s)), (4, S (s ++ ([32] ++ x.s)))] [1, 6, 7, 8, 11, 12, 13] rfl ?_ (fun a hk => ?_)
              · exact ⟨ob_load tabOK 0 rfl rfl rfl rfl rfl, ob_concat rfl rfl (by simp only [List.length_append, List.length_cons, List.length_nil]; omega), ob_concat rfl rfl (by simp only [List.length_append, List.length_cons, List.length_nil]; omega), trivial⟩
              refine blk_nm ?_
              refine blk_nm ?_
              refine hK16 a w ?_; try clear hK16 K16
              refine reg_q tabOK hk hh [(1, .int .i64 ((j : Int) + 1))] [1, 6, 7, 8, 11, 12, 13] rfl ?_ (fun a hk => ?_)
              · exact ⟨ob_eq tabOK rfl (eq_i64 (by omega)), trivial⟩
              refine then_nm ?_
              exact ⟨_, _, _, ⟨j + 1, s ++ ([32] ++ x.s), rfl, rfl, (by omega), (tail_step sinv hj0 (fld_s (up_a_not hj0 c6) (up_b_not hj0 c7) (up_s hj0 c8))), rfl⟩, (by simp only [id]; omega), hk.keep [1, 6, 7, 8, 11, 12, 13] rfl, hh⟩
            · replace c8 : ¬ ((((upL (F i).f).getD j 0).toNat : Int) = 115) := (c_ef c8)
              refine wp_region_lit ?_
              refine seq_q tabOK (i := 0) (stop := 3) hk hh [(2, .int .i64 x.n)] rfl ?_ (fun a hk => ?_)
              · exact ⟨ob_load tabOK 0 rfl rfl rfl rfl rfl, trivial⟩
              refine seq_eff hk hh rfl rfl (eff_call Tryz.func7 rfl rfl rfl rfl (fun w hh => number_spec x.n (by first | assumption | (unfold I64; omega)) σ w _ hh)) (fun v L a w hp hk hh => ?_)
              obtain ⟨rfl, hL⟩ := hp; rw [hL] at hh; clear hL
              refine rest_q tabOK (i := 4) hk hh [(4, S ([32] ++ (Lib.itoa x.n))), (5, S (s ++ ([32] ++ (Lib.itoa x.n))))] [1, 6, 7, 8, 11, 12, 13] rfl ?_ (fun a hk => ?_)
              · exact ⟨ob_concat rfl rfl (by simp only [List.length_append, List.length_cons, List.length_nil]; omega), ob_concat rfl rfl (by simp only [List.length_append, List.length_cons, List.length_nil]; omega), trivial⟩
              refine blk_nm ?_
              refine blk_nm ?_
              refine hK16 a w ?_; try clear hK16 K16
              refine reg_q tabOK hk hh [(1, .int .i64 ((j : Int) + 1))] [1, 6, 7, 8, 11, 12, 13] rfl ?_ (fun a hk => ?_)
              · exact ⟨ob_eq tabOK rfl (eq_i64 (by omega)), trivial⟩
              refine then_nm ?_
              exact ⟨_, _, _, ⟨j + 1, s ++ ([32] ++ (Lib.itoa x.n)), rfl, rfl, (by omega), (tail_step sinv hj0 (fld_n (up_a_not hj0 c6) (up_b_not hj0 c7) (up_s_not hj0 c8))), rfl⟩, (by simp only [id]; omega), hk.keep [1, 6, 7, 8, 11, 12, 13] rfl, hh⟩
      · replace c5 : ¬ ((j : Int) < ((upL (F i).f).length : Int)) := (of_decide_eq_false c5)
        refine wp_exit ?_
        refine then_exit ?_
        refine then_exit ?_
        refine blk_out ?_
        refine hK12 a w ?_; try clear hK12 K12
        refine wp_seq_k fun K21 hK21 => ?_
        have hsT := tail_end sinv (by omega)
        have hs := Nat.le_trans (show_len hx hfl.1 hfl.2) (show 3700000000 ≤ 4000000000 by omega)
        rw [← hsT] at hs
        refine wp_region_lit ?_
        refine seq_q tabOK (i := 0) (stop := 1) hk hh [] rfl trivial (fun a hk => ?_)
        refine seq_eff hk hh rfl rfl (eff_call Tryz.func16 rfl rfl rfl rfl (fun w hh => lline_spec s (by first | exact hs | exact hw0 _ | omega) σ w _ hh)) (fun v L a w hp hk hh => ?_)
        obtain ⟨x9, ok10, rfl, hL, hlx9, hzx9⟩ := hp; rw [hL] at hh; clear hL
        refine seq_q tabOK (i := 2) (stop := 5) hk hh [] rfl trivial (fun a hk => ?_)
        refine seq_eff hk hh rfl rfl (eff_alloc tabOK rfl) (fun v L a w hp hk hh => ?_)
        obtain ⟨b11, rfl, hL⟩ := hp; rw [hL] at hh; clear hL
        refine seq_eff hk hh rfl rfl (eff_store tabOK 0 rfl rfl rfl rfl rfl rfl rfl (by simp)) (fun v L a w hp hk hh => ?_)
        obtain ⟨rfl, hL⟩ := hp; rw [hL] at hh; clear hL
        refine rest_q tabOK (i := 7) hk hh [] [1, 7, 9, 10, 11, 12, 13] rfl trivial (fun a hk => ?_)
        refine hK21 a w ?_; try clear hK21 K21
        refine wp_seq_k fun K22 hK22 => ?_
        by_cases c12 : ok10 = true
        · refine reg_q tabOK hk hh [(0, .bool true), (2, .agg ⟨[.int .i64 x9.k, .int .i64 x9.a, .int .i64 x9.b, .int .i64 x9.n, S x9.s]⟩), (3, .agg ⟨[.int .i64 x.k, .int .i64 x.a, .int .i64 x.b, .int .i64 x.n, S x.s]⟩), (4, .bool (decide (x9 = x)))] [1, 7, 11, 12, 13, 75] rfl ?_ (fun a hk => ?_)
          · exact ⟨ob_eq tabOK rfl (v_id c12), ob_loadN tabOK 0 rfl rfl rfl rfl rfl, ob_loadN tabOK 1 rfl rfl rfl rfl rfl, ob_conv (ob_eqS tabOK eqOK rfl rfl rfl rfl) (act_eq x9 x), trivial⟩
          refine hK22 a w ?_; try clear hK22 K22
          refine code_cond hk rfl (fun c13 => ?_) (fun c13 => ?_)
          · replace c13 : x9 = x := (of_decide_eq_true c13)
            refine wp_seq_k fun K23 hK23 => ?_
            refine reg_q tabOK hk hh [] [1, 2, 11, 12, 13] rfl trivial (fun a hk => ?_)
            refine hK23 a w ?_; try clear hK23 K23
            refine wp_ret ?_
            refine blk_ret ?_
            refine then_ret ?_
            refine then_ret ?_
            refine blk_ret ?_
            refine then_ret ?_
            refine fin_ret hk (show Tryz.f9.results = ⟨[.tmp 2]⟩ from rfl) (by exact (res_tmp hk rfl .nil)) ?_
            replace hh := (hh.at_ 0 rfl).drop
            replace hh := (hh.at_ 0 rfl).drop
            replace hh := (hh.at_ 0 rfl).drop
            refine ⟨_, _, rfl, ⟨?_, rfl⟩, hh⟩
            rw [text_hit inv (by omega) c4 (by rw [← hsT, hlx9, if_pos c12, c13]), ← hsT]; rfl
          · replace c13 : ¬ (x9 = x) := (of_decide_eq_false c13)
            refine wp_skip ?_
            refine blk_nm ?_
            refine hK6 a w ?_; try clear hK6 K6
            refine reg_q tabOK hk hh [(0, .int .i64 ((i : Int) + 1))] [1, 11, 12, 13] rfl ?_ (fun a hk => ?_)
            · exact ⟨ob_eq tabOK rfl (eq_i64 (by omega)), trivial⟩
            replace hh := (hh.at_ 0 rfl).drop
            refine then_nm ?_
            exact ⟨_, _, _, ⟨i + 1, rfl, rfl, (by omega), (fun j hj => (Nat.lt_succ_iff_lt_or_eq.1 hj).elim (fun h => inv j h) (fun h => by rw [h]; exact (fun e => by have q := hlx9.symm.trans (show lineO s = some x by rw [hsT]; exact e.2); rw [if_pos c12] at q; exact c13 (Option.some.inj q)))), rfl⟩, (by simp only [id]; omega), hk.keep [1, 11, 12, 13] rfl, hh⟩
        · refine reg_q tabOK hk hh [(0, .bool false)] [1, 7, 11, 12, 13, 75] rfl ?_ (fun a hk => ?_)
          · exact ⟨ob_eq tabOK rfl (v_id (by simpa using c12)), trivial⟩
          refine hK22 a w ?_; try clear hK22 K22
          refine code_cond hk rfl (fun h => by cases h) (fun _ => ?_)
          refine wp_skip ?_
          refine blk_nm ?_
          refine hK6 a w ?_; try clear hK6 K6
          refine reg_q tabOK hk hh [(0, .int .i64 ((i : Int) + 1))] [1, 11, 12, 13] rfl ?_ (fun a hk => ?_)
          · exact ⟨ob_eq tabOK rfl (eq_i64 (by omega)), trivial⟩
          replace hh := (hh.at_ 0 rfl).drop
          refine then_nm ?_
          exact ⟨_, _, _, ⟨i + 1, rfl, rfl, (by omega), (fun j hj => (Nat.lt_succ_iff_lt_or_eq.1 hj).elim (fun h => inv j h) (fun h => by rw [h]; exact (fun e => by have q := hlx9.symm.trans (show lineO s = some x by rw [hsT]; exact e.2); rw [if_neg c12] at q; cases q))), rfl⟩, (by simp only [id]; omega), hk.keep [1, 11, 12, 13] rfl, hh⟩
  · replace c3 : ¬ ((i : Int) < 13) := (of_decide_eq_false c3)
    refine wp_exit ?_
    refine then_exit ?_
    refine then_exit ?_
    refine blk_out ?_
    refine hK2 a w ?_; try clear hK2 K2
    refine wp_seq_k fun K24 hK24 => ?_
    refine reg_q tabOK hk hh [] [2] rfl trivial (fun a hk => ?_)
    refine hK24 a w ?_; try clear hK24 K24
    refine wp_ret ?_
    refine fin_ret hk (show Tryz.f9.results = ⟨[.tmp 2]⟩ from rfl) (by exact (res_tmp hk rfl .nil)) ?_
    replace hh := (hh.at_ 0 rfl).drop
    replace hh := (hh.at_ 0 rfl).drop
    refine ⟨_, _, rfl, ⟨?_, rfl⟩, hh⟩
    rw [text_none (fun j hj => inv j (by omega))]; rfl

end Go.Hop
/- What is proved here: what a function of the text computes. Printed by program. -/
namespace Go.Hop
open Go.Proofs
set_option maxRecDepth 4000
set_option maxHeartbeats 4000000
theorem lines_spec (s : List UInt8) (hs : s.length ≤ 4000000000) {σ : Sg} {w : World} {R : List Assn} (hR : Lay R) (hh : Holds σ w (R)) :
    Calls Tryz.prog 6 ⟨[S s]⟩ w fun e w' => ∃ v L', e = .returned v ∧ (v = .bool true ∧ L' = R) ∧ Holds σ w' L' := by
  refine enter Tryz.func6 rfl Tryz.ntmps6 rfl fun a hk => ?_
  refine wp_seq_k fun K1 hK1 => ?_
  refine reg_q tabOK hk hh [] [0] rfl trivial (fun a hk => ?_)
  refine hK1 a w ?_; try clear hK1 K1
  refine wp_seq_k fun K2 hK2 => ?_
  refine wp_region_lit ?_
  refine seq_q tabOK (i := 0) (stop := 1) hk hh [] rfl trivial (fun a hk => ?_)
  refine seq_eff hk hh rfl rfl (eff_call Tryz.func15 rfl rfl rfl rfl (fun w hh => line_spec s (by first | exact hs | exact hw0 _ | omega) (by exact hR) hh)) (fun v L a w hp hk hh => ?_)
  obtain ⟨x1, ok2, rfl, hL, hlx1, hzx1⟩ := hp; rw [hL] at hh; clear hL
  refine seq_q tabOK (i := 2) (stop := 5) hk hh [] rfl trivial (fun a hk => ?_)
  refine seq_eff hk hh rfl rfl (eff_alloc tabOK rfl) (fun v L a w hp hk hh => ?_)
  obtain ⟨b3, rfl, hL⟩ := hp; rw [hL] at hh; clear hL
  refine seq_eff hk hh rfl rfl (eff_store tabOK 0 rfl rfl rfl rfl rfl rfl rfl (by simp)) (fun v L a w hp hk hh => ?_)
  obtain ⟨rfl, hL⟩ := hp; rw [hL] at hh; clear hL
  refine rest_q tabOK (i := 7) hk hh [] [0, 3, 4] rfl trivial (fun a hk => ?_)
  refine hK2 a w ?_; try clear hK2 K2
  refine wp_seq_k fun K3 hK3 => ?_
  refine wp_region_lit ?_
  refine seq_q tabOK (i := 0) (stop := 1) hk hh [] rfl trivial (fun a hk => ?_)
  refine seq_eff hk hh rfl rfl (eff_call Tryz.func16 rfl rfl rfl rfl (fun w hh => lline_spec s (by first | exact hs | exact hw0 _ | omega) σ w _ hh)) (fun v L a w hp hk hh => ?_)
  obtain ⟨x4, ok5, rfl, hL, hlx4, hzx4⟩ := hp; rw [hL] at hh; clear hL
  obtain ⟨h1, h2⟩ := line_same hlx1 hzx1 hlx4 hzx4; subst h1; subst h2
  refine seq_q tabOK (i := 2) (stop := 5) hk hh [] rfl trivial (fun a hk => ?_)
  refine seq_eff hk hh rfl rfl (eff_alloc tabOK rfl) (fun v L a w hp hk hh => ?_)
  obtain ⟨b6, rfl, hL⟩ := hp; rw [hL] at hh; clear hL
  refine seq_eff hk hh rfl rfl (eff_store tabOK 0 rfl rfl rfl rfl rfl rfl rfl (by simp)) (fun v L a w hp hk hh => ?_)
  obtain ⟨rfl, hL⟩ := hp; rw [hL] at hh; clear hL
  refine rest_q tabOK (i := 7) hk hh [] [3, 4, 5, 6] rfl trivial (fun a hk => ?_)
  refine hK3 a w ?_; try clear hK3 K3
  refine wp_seq_k fun K4 hK4 => ?_
  refine reg_q tabOK hk hh [(0, .agg ⟨[.int .i64 x1.k, .int .i64 x1.a, .int .i64 x1.b, .int .i64 x1.n, S x1.s]⟩), (1, .agg ⟨[.int .i64 x1.k, .int .i64 x1.a, .int .i64 x1.b, .int .i64 x1.n, S x1.s]⟩), (2, .bool true), (6, .bool true)] [2] rfl ?_ (fun a hk => ?_)
  · exact ⟨ob_loadN tabOK 1 rfl rfl rfl rfl rfl, ob_loadN tabOK 0 rfl rfl rfl rfl rfl, ob_conv (ob_eqS tabOK eqOK rfl rfl rfl rfl) ((act_eq x1 x1).trans (v_dt rfl)), ob_eq tabOK rfl (v_et rfl), trivial⟩
  refine hK4 a w ?_; try clear hK4 K4
  refine wp_ret ?_
  refine fin_ret hk (show Tryz.f6.results = ⟨[.tmp 2]⟩ from rfl) (by exact (res_tmp hk rfl .nil)) ?_
  replace hh := (hh.at_ 0 rfl).drop
  replace hh := (hh.at_ 0 rfl).drop
  exact ⟨_, _, rfl, ⟨rfl, rfl⟩, hh⟩

end Go.Hop
/- What is proved here: a text is scanned line by line, beside what its lines are, in plain Lean. -/
namespace Go.Hop
/-- Scanned up to i, the line begun at p, n lines ahead of it. -/
def ScanI (s : List UInt8) (i p n : Nat) : Prop := if i ≤ s.length then (spl 10 s).drop n = spA 10 ((s.take i).drop p) (s.drop i) else n = (spl 10 s).length
variable {s : List UInt8} {i p n k m seen : Nat} {y : ActL}
theorem ScanI.start : ScanI s 0 0 0 := by simp [ScanI, spl]
theorem ScanI.miss (h : ScanI s i p n) (hi : i < s.length) (hp : p ≤ i) (hc : ¬ ((s.getD i 0).toNat : Int) = 10) : ScanI s (i + 1) p n := by
  unfold ScanI at h ⊢
  rw [if_pos (by omega)] at h ⊢
  have hg : s.getD i 0 = s[i] := by simp [List.getD, List.getElem?_eq_getElem hi]
  have hne : ¬ s[i] = 10 := fun e => hc (by rw [hg, e]; rfl)
  rw [h, List.drop_eq_getElem_cons hi, spA, if_neg hne, List.take_succ_eq_append_getElem hi, List.drop_append_of_le_length (by rw [List.length_take]; omega)]
theorem ScanI.next (h : ScanI s i p n) (hi : i ≤ s.length) (hc : i < s.length → ((s.getD i 0).toNat : Int) = 10) : ScanI s (i + 1) (i + 1) (n + 1) ∧ n < (spl 10 s).length ∧ (spl 10 s).getD n [] = (s.take i).drop p := by
  unfold ScanI at h ⊢
  rw [if_pos hi] at h
  have key : ∀ (r : List (List UInt8)) (x : List UInt8), (spl 10 s).drop n = x :: r → n < (spl 10 s).length ∧ (spl 10 s).getD n [] = x ∧ (spl 10 s).drop (n + 1) = r := by
    intro r x e
    have hn : n < (spl 10 s).length := by
      rcases Nat.lt_or_ge n (spl 10 s).length with h | h
      · exact h
      · rw [List.drop_of_length_le h] at e; cases e
    rw [List.drop_eq_getElem_cons hn] at e
    injection e with e1 e2
    exact ⟨hn, by simp [List.getD, List.getElem?_eq_getElem hn, e1], e2⟩
  by_cases hl : i < s.length
  · have hg : s.getD i 0 = s[i] := by simp [List.getD, List.getElem?_eq_getElem hl]
    have h10 : s.getD i 0 = 10 := byte_eq (n := 10) (by omega) (hc hl)
    rw [List.drop_eq_getElem_cons hl, spA, if_pos (by rw [← hg]; exact h10)] at h
    obtain ⟨a, b, c⟩ := key _ _ h
    refine ⟨?_, a, b⟩
    rw [if_pos (by omega), c]
    rw [List.drop_of_length_le (l := s.take (i + 1)) (by rw [List.length_take]; omega)]
  · have e : i = s.length := by omega
    rw [List.drop_of_length_le (by omega : s.length ≤ i), spA] at h
    obtain ⟨a, b, c⟩ := key _ _ h
    refine ⟨?_, a, b⟩
    rw [if_neg (by omega)]
    have := List.drop_eq_nil_iff.1 c
    omega
theorem ScanI.fin (h : ScanI s i p n) (hi : ¬ i ≤ s.length) : n = (spl 10 s).length := by
  unfold ScanI at h; rwa [if_neg hi] at h

theorem parseL_full : ∀ (ls : List (List UInt8)) (n : Nat), parseL ls n 400 = ([], [])
  | [], _ => rfl
  | x :: ls, n => by
    rw [parseL]
    by_cases hx : x = []
    · rw [if_pos hx]; exact parseL_full ls (n + 1)
    · rw [if_neg hx, if_pos (by omega)]
/-- What is still to come, beside what a text's acts are. -/
def ParI (s : List UInt8) (n k m seen : Nat) : Prop := parseL ((spl 10 s).drop n) n seen = ((parseO s).1.drop k, (parseO s).2.drop m) ∧ k ≤ (parseO s).1.length ∧ m ≤ (parseO s).2.length
theorem ParI.start : ParI s 0 0 0 0 := by simp [ParI, parseO]
theorem drop_hd {α : Type} {l r : List α} {k : Nat} {x : α} (d : α) (h : x :: r = l.drop k) : k < l.length ∧ l.getD k d = x ∧ r = l.drop (k + 1) := by
  have hn : k < l.length := by
    rcases Nat.lt_or_ge k l.length with q | q
    · exact q
    · rw [List.drop_of_length_le q] at h; cases h
  rw [List.drop_eq_getElem_cons hn] at h
  injection h with e1 e2
  exact ⟨hn, by simp [List.getD, List.getElem?_eq_getElem hn, e1], e2⟩
theorem ParI.empty (h : ParI s n k m seen) (hn : n < (spl 10 s).length) {x : List UInt8} (hl : (spl 10 s).getD n [] = x) (hx : x = []) : ParI s (n + 1) k m seen := by
  refine ⟨?_, h.2⟩
  have := h.1
  rwa [drop_getD (d := []) hn, parseL, hl, if_pos hx] at this
theorem ParI.full (h : ParI s n k m seen) (hs : seen ≤ 400) (hf : (seen : Int) ≥ 400) : ParI s (n + 1) k m seen := by
  have e : seen = 400 := by omega
  subst e
  refine ⟨?_, h.2⟩
  have := h.1
  rw [parseL_full] at this ⊢
  exact this
theorem ParI.act (h : ParI s n k m seen) (hn : n < (spl 10 s).length) {x : List UInt8} (hl : (spl 10 s).getD n [] = x) (hx : ¬ x = []) (hf : ¬ (seen : Int) ≥ 400) (hy : lineO x = some y) :
    k < (parseO s).1.length ∧ (parseO s).1.getD k zA = y ∧ ParI s (n + 1) (k + 1) m (seen + 1) := by
  have := h.1
  rw [drop_getD (d := []) hn, parseL, hl, if_neg hx, if_neg (by omega), hy] at this
  injection this with e1 e2
  obtain ⟨a, b, c⟩ := drop_hd zA e1
  exact ⟨a, b, by rw [← c, ← e2], by omega, h.2.2⟩
theorem ParI.none (h : ParI s n k m seen) (hn : n < (spl 10 s).length) {x : List UInt8} (hl : (spl 10 s).getD n [] = x) (hx : ¬ x = []) (hf : ¬ (seen : Int) ≥ 400) (hy : lineO x = Option.none) :
    m < (parseO s).2.length ∧ (parseO s).2.getD m 0 = (n : Int) + 1 ∧ ParI s (n + 1) k (m + 1) (seen + 1) := by
  have := h.1
  rw [drop_getD (d := []) hn, parseL, hl, if_neg hx, if_neg (by omega), hy] at this
  injection this with e1 e2
  obtain ⟨a, b, c⟩ := drop_hd 0 e2
  exact ⟨a, b, by rw [← c, ← e1], h.2.1, by omega⟩
theorem ParI.fin (h : ParI s n k m seen) (hn : n = (spl 10 s).length) : k = (parseO s).1.length ∧ m = (parseO s).2.length := by
  have := h.1
  rw [List.drop_of_length_le (by omega), parseL] at this
  injection this with e1 e2
  have a := List.drop_eq_nil_iff.1 e1.symm
  have b := List.drop_eq_nil_iff.1 e2.symm
  exact ⟨by have := h.2.1; omega, by have := h.2.2; omega⟩
end Go.Hop
/- What is proved here: what a function of the text computes. Printed by program. -/
namespace Go.Hop
open Go.Proofs
set_option maxRecDepth 4000
theorem parse_text (s : List UInt8) (hs : s.length ≤ 4000000000) {σ : Sg} {w : World} {R : List Assn} (hR : Lay R) (hh : Holds σ w (R)) :
    Calls Tryz.prog 14 ⟨[S s]⟩ w fun e w' => ∃ v L', e = .returned v ∧ (∃ u1 u2, v = .tuple ⟨[u1, u2]⟩ ∧ L' = Own 26 5 u1 (parseO s).1.length (actC (parseO s).1) :: Own 3 1 u2 (parseO s).2.length (intC (parseO s).2) :: R) ∧ Holds σ w' L' := by
  refine enter Tryz.func14 rfl Tryz.ntmps14 rfl fun a hk => ?_
  refine wp_seq_k fun K1 hK1 => ?_
  refine reg_q tabOK hk hh [] [0] rfl trivial (fun a hk => ?_)
  refine hK1 a w ?_; try clear hK1 K1
  refine wp_seq_k fun K2 hK2 => ?_
  refine reg_q tabOK hk hh [] [0, 4] rfl trivial (fun a hk => ?_)
  refine hK2 a w ?_; try clear hK2 K2
  refine wp_seq_k fun K3 hK3 => ?_
  refine reg_q tabOK hk hh [] [0, 4, 5] rfl trivial (fun a hk => ?_)
  refine hK3 a w ?_; try clear hK3 K3
  refine wp_seq_k fun K4 hK4 => ?_
  refine reg_q tabOK hk hh [] [0, 4, 5, 6] rfl trivial (fun a hk => ?_)
  refine hK4 a w ?_; try clear hK4 K4
  refine wp_seq_k fun K5 hK5 => ?_
  refine wp_seq_k fun K6 hK6 => ?_
  refine wp_region_lit ?_
  refine seq_q tabOK (i := 0) (stop := 1) hk hh [] rfl trivial (fun a hk => ?_)
  refine seq_eff hk hh rfl rfl (eff_call Tryz.func24 rfl rfl rfl rfl (fun w hh => split_spec 10 s (by omega) (by exact hR) hh)) (fun v L a w hp hk hh => ?_)
  obtain ⟨b1, rfl, hL⟩ := hp; rw [hL] at hh; clear hL
  refine rest_q tabOK (i := 2) hk hh [] [4, 5, 6, 12, 13, 14] rfl trivial (fun a hk => ?_)
  refine hK6 a w ?_; try clear hK6 K6
  refine wp_block ?_
  replace hh := own_nil 3 1 (own_nil 26 5 hh)
  replace hh := hh.picks [1, 0, 0] rfl
  replace hk := hk.keep [4, 5, 6, 12, 13, 14] rfl
  refine code_loop (α := Nat) (fun (m : Nat) (E : Env) (L : List Assn) => ∃ (i : Nat) (seen : Nat) (A : List ActL) (B : List Int) (u1 : Value) (u2 : Value), E = [(4, u1), (5, u2), (6, .int .i64 (seen : Int)), (12, .slice (some ⟨b1, 0, none⟩) ((spl 10 s).length) ((spl 10 s).length)), (13, .int .i64 ((spl 10 s).length : Int)), (14, .int .i64 (i : Int))] ∧ L = [Own 26 5 u1 A.length (actC A), Own 3 1 u2 B.length (intC B), row b1 9 ((spl 10 s).map S)] ++ R ∧ (i ≤ (spl 10 s).length) ∧ (seen ≤ 400) ∧ (A.length ≤ seen) ∧ (B.length ≤ seen) ∧ (PInv (spl 10 s) i seen A B (parseO s)) ∧ m = (spl 10 s).length - i) id _ hk hh ⟨0, 0, [], [], (.slice none 0 0), (.slice none 0 0), rfl, rfl, (by omega), (by omega), (by simp), (by simp), PInv.start, rfl⟩ ?_
  clear hk hh
  rintro _ _ _ a w ⟨i, seen, A, B, u1, u2, rfl, hL, hi, hsn, hA, hB, inv, rfl⟩ hk hh; rw [hL] at hh; clear hL
  have hl2 : (spl 10 s).length ≤ 5000000000 := Nat.le_trans spl_len (by omega)
  have hw0 : ∀ i, ((spl 10 s).getD i []).length ≤ 4000000000 := fun i => Nat.le_trans spl_word hs
  refine wp_seq_k fun K7 hK7 => ?_
  refine reg_q tabOK hk hh [] [4, 5, 6, 12, 13, 14, 15] rfl trivial (fun a hk => ?_)
  refine hK7 a w ?_; try clear hK7 K7
  refine wp_seq_k fun K8 hK8 => ?_
  refine code_cond hk rfl (fun c2 => ?_) (fun c2 => ?_)
  · replace c2 : (i : Int) < ((spl 10 s).length : Int) := (of_decide_eq_true c2)
    refine wp_skip ?_
    refine hK8 a w ?_; try clear hK8 K8
    refine wp_seq_k fun K9 hK9 => ?_
    refine wp_block ?_
    refine wp_seq_k fun K10 hK10 => ?_
    refine reg_q tabOK hk hh [(1, .pointer (some ⟨b1, i, none⟩)), (2, S ((spl 10 s).getD i []))] [4, 5, 6, 7, 8, 12, 13, 14] rfl ?_ (fun a hk => ?_)
    · exact ⟨ob_indexAddr tabOK (i) rfl rfl rfl rfl (by omega) (by omega) (by show 0 + ((i : Int) : Int).toNat * 1 = i; omega), ob_load tabOK 2 rfl rfl rfl rfl (map_S_at (by omega)), trivial⟩
    refine hK10 a w ?_; try clear hK10 K10
    refine wp_seq_k fun K11 hK11 => ?_
    refine wp_seq_k fun K12 hK12 => ?_
    refine reg_q tabOK hk hh [] [4, 5, 6, 7, 8, 12, 13, 14, 20] rfl trivial (fun a hk => ?_)
    refine hK12 a w ?_; try clear hK12 K12
    refine code_cond hk rfl (fun c3 => ?_) (fun c3 => ?_)
    · replace c3 : (spl 10 s).getD i [] = [] := (c_et c3)
      refine wp_exit ?_
      refine then_exit ?_
      refine blk_out ?_
      refine hK9 a w ?_; try clear hK9 K9
      refine reg_q tabOK hk hh [(0, .int .i64 ((i : Int) + 1))] [4, 5, 6, 12, 13, 14] rfl ?_ (fun a hk => ?_)
      · exact ⟨ob_eq tabOK rfl (eq_i64 (by omega)), trivial⟩
      refine then_nm ?_
      exact ⟨_, _, _, ⟨i + 1, seen, A, B, u1, u2, rfl, rfl, (by omega), (by omega), (by omega), (by omega), (inv.empty (by omega) c3), rfl⟩, (by simp only [id]; omega), hk.keep [4, 5, 6, 12, 13, 14] rfl, hh⟩
    · replace c3 : ¬ ((spl 10 s).getD i [] = []) := (c_ef c3)
      refine wp_skip ?_
      refine hK11 a w ?_; try clear hK11 K11
      refine wp_seq_k fun K13 hK13 => ?_
      refine wp_seq_k fun K14 hK14 => ?_
      refine reg_q tabOK hk hh [(1, .int .i64 ((seen : Int) + 1))] [4, 5, 6, 7, 8, 12, 13, 14] rfl ?_ (fun a hk => ?_)
      · exact ⟨ob_eq tabOK rfl (eq_i64 (by omega)), trivial⟩
      refine hK14 a w ?_; try clear hK14 K14
      refine wp_seq_k fun K15 hK15 => ?_
      refine reg_q tabOK hk hh [] [4, 5, 6, 7, 8, 12, 13, 14, 24] rfl trivial (fun a hk => ?_)
      refine hK15 a w ?_; try clear hK15 K15
      refine code_cond hk rfl (fun c4 => ?_) (fun c4 => ?_)
      · replace c4 : (seen : Int) + 1 > 400 := (of_decide_eq_true c4)
        refine wp_exit ?_
        refine then_exit ?_
        refine blk_exit rfl ?_
        refine then_exit ?_
        refine then_exit ?_
        refine blk_out ?_
        refine hK5 a w ?_; try clear hK5 K5
        refine wp_seq_k fun K16 hK16 => ?_
        refine reg_q tabOK hk hh [] [2, 3] rfl trivial (fun a hk => ?_)
        refine hK16 a w ?_; try clear hK16 K16
        refine wp_ret ?_
        refine fin_ret hk (show Tryz.f14.results = ⟨[.tmp 2, .tmp 3]⟩ from rfl) (by exact (res_tmp hk rfl (res_tmp hk rfl .nil))) ?_
        replace hh := (hh.at_ 2 rfl).drop
        have hr := inv.full (by omega) c3 (by omega)
        exact ⟨_, _, rfl, ⟨u1, u2, rfl, by rw [hr]; rfl⟩, hh⟩
      · replace c4 : ¬ ((seen : Int) + 1 > 400) := (of_decide_eq_false c4)
        refine wp_skip ?_
        refine hK13 a w ?_; try clear hK13 K13
        refine wp_seq_k fun K17 hK17 => ?_
        refine wp_region_lit ?_
        refine seq_q tabOK (i := 0) (stop := 1) hk hh [] rfl trivial (fun a hk => ?_)
        refine seq_eff hk hh rfl rfl (eff_call Tryz.func15 rfl rfl rfl rfl (fun w hh => line_spec ((spl 10 s).getD i []) (by first | exact hs | exact hw0 _ | omega) (by exact (((hR.cons _).cons _).cons _)) hh)) (fun v L a w hp hk hh => ?_)
        obtain ⟨x5, ok6, rfl, hL, hlx5, hzx5⟩ := hp; rw [hL] at hh; clear hL
        refine seq_q tabOK (i := 2) (stop := 5) hk hh [] rfl trivial (fun a hk => ?_)
        refine seq_eff hk hh rfl rfl (eff_alloc tabOK rfl) (fun v L a w hp hk hh => ?_)
        obtain ⟨b7, rfl, hL⟩ := hp; rw [hL] at hh; clear hL
        refine seq_eff hk hh rfl rfl (eff_store tabOK 0 rfl rfl rfl rfl rfl rfl rfl (by simp)) (fun v L a w hp hk hh => ?_)
        obtain ⟨rfl, hL⟩ := hp; rw [hL] at hh; clear hL
        refine rest_q tabOK (i := 7) hk hh [] [4, 5, 6, 7, 9, 10, 12, 13, 14] rfl trivial (fun a hk => ?_)
        refine hK17 a w ?_; try clear hK17 K17
        refine wp_seq_k fun K18 hK18 => ?_
        refine reg_q tabOK hk hh [] [4, 5, 6, 7, 9, 12, 13, 14, 30] rfl trivial (fun a hk => ?_)
        refine hK18 a w ?_; try clear hK18 K18
        refine code_cond hk rfl (fun c8 => ?_) (fun c8 => ?_)
        · replace c8 : ok6 = true := c8
          refine wp_region_lit ?_
          refine seq_q tabOK (i := 0) (stop := 2) hk hh [(1, .agg ⟨[.int .i64 x5.k, .int .i64 x5.a, .int .i64 x5.b, .int .i64 x5.n, S x5.s]⟩)] rfl ?_ (fun a hk => ?_)
          · exact ⟨ob_loadN tabOK 0 rfl rfl rfl rfl rfl, trivial⟩
          refine seq_eff hk hh rfl rfl (eff_lit tabOK rfl rfl rfl (by decide) rfl) (fun v L a w hp hk hh => ?_)
          obtain ⟨b9, rfl, hL⟩ := hp; rw [hL] at hh; clear hL
          refine seq_eff hk hh rfl rfl (eff_append tabOK 2 rfl rfl rfl rfl rfl rfl rfl (.inl ⟨_, rfl⟩) (fun _ => rfl) (fun w hh => src_row (j := 1) hh rfl rfl) rfl rfl (by show (A.length + 1) * 48 ≤ 140737488355328; omega) (by show 0 < 48; omega)) (fun u10 L a w hp hk hh => ?_)
          rw [hp] at hh; clear hp
          refine rest_q tabOK (i := 4) hk hh [] [4, 5, 6, 12, 13, 14] rfl trivial (fun a hk => ?_)
          refine blk_nm ?_
          refine hK9 a w ?_; try clear hK9 K9
          refine reg_q tabOK hk hh [(0, .int .i64 ((i : Int) + 1))] [4, 5, 6, 12, 13, 14] rfl ?_ (fun a hk => ?_)
          · exact ⟨ob_eq tabOK rfl (eq_i64 (by omega)), trivial⟩
          rw [len_snoc (x := (⟨x5.k, x5.a, x5.b, x5.n, x5.s⟩ : ActL)), flat_snoc] at hh
          replace hh := (hh.at_ 1 rfl).drop
          replace hh := (hh.at_ 1 rfl).drop
          refine then_nm ?_
          exact ⟨_, _, _, ⟨i + 1, seen + 1, A ++ [(⟨x5.k, x5.a, x5.b, x5.n, x5.s⟩ : ActL)], B, u10, u2, rfl, rfl, (by omega), (by omega), (by simp only [List.length_append, List.length_cons, List.length_nil]; omega), (by omega), (inv.act (by omega) c3 (by omega) (by rw [hlx5, if_pos c8])), rfl⟩, (by simp only [id]; omega), hk.keep [4, 5, 6, 12, 13, 14] rfl, hh⟩
        · replace c8 : ¬ (ok6 = true) := (by simp [c8])
          refine wp_region_lit ?_
          refine seq_q tabOK (i := 0) (stop := 3) hk hh [(2, .int .i64 ((i : Int) + 1))] rfl ?_ (fun a hk => ?_)
          · exact ⟨ob_eq tabOK rfl (eq_i64 (by omega)), trivial⟩
          refine seq_eff hk hh rfl rfl (eff_lit tabOK rfl rfl rfl (by decide) rfl) (fun v L a w hp hk hh => ?_)
          obtain ⟨b11, rfl, hL⟩ := hp; rw [hL] at hh; clear hL
          refine seq_eff hk hh rfl rfl (eff_append tabOK 3 rfl rfl rfl rfl rfl rfl rfl (.inl ⟨_, rfl⟩) (fun _ => rfl) (fun w hh => src_row (j := 1) hh rfl rfl) rfl rfl (by show (B.length + 1) * 8 ≤ 140737488355328; omega) (by show 0 < 8; omega)) (fun u12 L a w hp hk hh => ?_)
          rw [hp] at hh; clear hp
          refine rest_q tabOK (i := 5) hk hh [] [4, 5, 6, 12, 13, 14] rfl trivial (fun a hk => ?_)
          refine blk_nm ?_
          refine hK9 a w ?_; try clear hK9 K9
          refine reg_q tabOK hk hh [(0, .int .i64 ((i : Int) + 1))] [4, 5, 6, 12, 13, 14] rfl ?_ (fun a hk => ?_)
          · exact ⟨ob_eq tabOK rfl (eq_i64 (by omega)), trivial⟩
          rw [len_snoc (x := ((i : Int) + 1)), ints_snoc] at hh
          replace hh := (hh.at_ 1 rfl).drop
          replace hh := (hh.at_ 1 rfl).drop
          replace hh := hh.picks [1, 0, 0] rfl
          refine then_nm ?_
          exact ⟨_, _, _, ⟨i + 1, seen + 1, A, B ++ [(i : Int) + 1], u1, u12, rfl, rfl, (by omega), (by omega), (by omega), (by simp only [List.length_append, List.length_cons, List.length_nil]; omega), (inv.none (by omega) c3 (by omega) (by rw [hlx5, if_neg c8])), rfl⟩, (by simp only [id]; omega), hk.keep [4, 5, 6, 12, 13, 14] rfl, hh⟩
  · replace c2 : ¬ ((i : Int) < ((spl 10 s).length : Int)) := (of_decide_eq_false c2)
    refine wp_exit ?_
    refine then_exit ?_
    refine then_exit ?_
    refine blk_out ?_
    refine hK5 a w ?_; try clear hK5 K5
    refine wp_seq_k fun K19 hK19 => ?_
    refine reg_q tabOK hk hh [] [2, 3] rfl trivial (fun a hk => ?_)
    refine hK19 a w ?_; try clear hK19 K19
    refine wp_ret ?_
    refine fin_ret hk (show Tryz.f14.results = ⟨[.tmp 2, .tmp 3]⟩ from rfl) (by exact (res_tmp hk rfl (res_tmp hk rfl .nil))) ?_
    replace hh := (hh.at_ 2 rfl).drop
    have hr := inv.fin (by omega)
    exact ⟨_, _, rfl, ⟨u1, u2, rfl, by rw [hr]; rfl⟩, hh⟩

end Go.Hop
