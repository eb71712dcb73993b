/- What is proved here: what a function of the text computes. Printed by program. -/
import Derived.Test.YtompaigbpfekhaaGreatDoorSt0
import Derived.Test.YtompaigbpfekhaaGreatDoorSt6
import Derived.Test.YtompaigbpfekhaaGreatDoorSt7
import Derived.Test.YtompaigbpfekhaaGreatDoorSt8
namespace Go.Hop
open Go.Proofs
set_option maxRecDepth 4000
set_option maxHeartbeats 4000000
theorem ltext_spec (x : ActL) (hx : ActOK x) (σ : Sg) (w : World) (R : List Assn) (hh : Holds σ w (R)) :
    Calls Tryz.prog 9 ⟨[.agg ⟨[.int .i64 x.k, .int .i64 x.a, .int .i64 x.b, .int .i64 x.n, S x.s]⟩]⟩ w fun e w' => ∃ v L', e = .returned v ∧ (v = S (textO x) ∧ L' = R) ∧ Holds σ w' L' := by
  refine enter Tryz.func9 rfl Tryz.ntmps9 rfl fun a hk => ?_
  have hxa := hx.a
  have hxb := hx.b
  have hxn := hx.n
  have hxs := hx.s
  have hla := itoa_len hx.a
  have hlb := itoa_len hx.b
  have hln := itoa_len hx.n
  refine wp_seq_k fun K1 hK1 => ?_
  refine wp_region_lit ?_
  refine seq_eff hk hh rfl rfl (eff_box rfl rfl) (fun v L a w hp hk hh => ?_)
  obtain ⟨b1, rfl, hL⟩ := hp; rw [hL] at hh; clear hL
  refine rest_q tabOK (i := 1) hk hh [] [1] rfl trivial (fun a hk => ?_)
  refine hK1 a w ?_; try clear hK1 K1
  refine wp_seq_k fun K2 hK2 => ?_
  refine wp_seq_k fun K3 hK3 => ?_
  refine wp_region_lit ?_
  refine seq_eff hk hh rfl rfl (eff_lit tabOK rfl rfl rfl (by decide) rfl) (fun v L a w hp hk hh => ?_)
  obtain ⟨b2, rfl, hL⟩ := hp; rw [hL] at hh; clear hL
  refine rest_q tabOK (i := 1) hk hh [] [1, 11, 12, 13] rfl trivial (fun a hk => ?_)
  refine hK3 a w ?_; try clear hK3 K3
  refine wp_block ?_
  replace hh := hh.picks [1, 0] rfl
  replace hk := hk.keep [1, 11, 12, 13] rfl
  refine code_loop (α := Nat) (fun (m : Nat) (E : Env) (L : List Assn) => ∃ (i : Nat), E = [(1, .pointer (some ⟨b1, 0, none⟩)), (11, .slice (some ⟨b2, 0, none⟩) 13 13), (12, .int .i64 13), (13, .int .i64 (i : Int))] ∧ L = [row b1 26 [.int .i64 x.k, .int .i64 x.a, .int .i64 x.b, .int .i64 x.n, S x.s], row b2 9 (formsL.map fun f => S f.w)] ++ R ∧ (i ≤ 13) ∧ (∀ j, j < i → ¬ ((F j).k = x.k ∧ lineO (showT (F j).w (F j).f x) = some x)) ∧ m = 13 - i) id _ hk hh ⟨0, rfl, rfl, (by omega), (fun j hj => by omega), rfl⟩ ?_
  clear hk hh
  rintro _ _ _ a w ⟨i, rfl, hL, hi, inv, rfl⟩ hk hh; rw [hL] at hh; clear hL
  refine wp_seq_k fun K4 hK4 => ?_
  refine reg_q tabOK hk hh [] [1, 11, 12, 13, 14] rfl trivial (fun a hk => ?_)
  refine hK4 a w ?_; try clear hK4 K4
  refine wp_seq_k fun K5 hK5 => ?_
  refine code_cond hk rfl (fun c3 => ?_) (fun c3 => ?_)
  · replace c3 : (i : Int) < 13 := (of_decide_eq_true c3)
    refine wp_skip ?_
    refine hK5 a w ?_; try clear hK5 K5
    refine wp_seq_k fun K6 hK6 => ?_
    refine wp_block ?_
    refine wp_seq_k fun K7 hK7 => ?_
    refine reg_q tabOK hk hh [(0, .pointer (some ⟨b2, i, none⟩)), (1, S ((F i).w))] [1, 4, 11, 12, 13] rfl ?_ (fun a hk => ?_)
    · exact ⟨ob_indexAddr tabOK (i) rfl rfl rfl rfl (by omega) (by omega) (by show 0 + ((i : Int) : Int).toNat * 1 = i; omega), ob_load tabOK 1 rfl rfl rfl rfl (names_at (by omega)), trivial⟩
    refine hK7 a w ?_; try clear hK7 K7
    refine wp_seq_k fun K8 hK8 => ?_
    refine wp_region_lit ?_
    refine seq_q tabOK (i := 0) (stop := 1) hk hh [] rfl trivial (fun a hk => ?_)
    refine seq_eff hk hh rfl rfl (eff_call Tryz.func20 rfl rfl rfl rfl (fun w hh => form_spec ((F i).w) σ w _ hh)) (fun v L a w hp hk hh => ?_)
    obtain ⟨kd, lk, rfl, hL, hform⟩ := hp; rw [hL] at hh; clear hL
    obtain ⟨rfl, rfl⟩ := form_at (by omega) hform
    clear hform
    refine rest_q tabOK (i := 2) hk hh [] [1, 4, 5, 6, 11, 12, 13] rfl trivial (fun a hk => ?_)
    refine hK8 a w ?_; try clear hK8 K8
    refine wp_seq_k fun K9 hK9 => ?_
    refine wp_seq_k fun K10 hK10 => ?_
    refine reg_q tabOK hk hh [(2, .int .i64 x.k)] [1, 4, 6, 11, 12, 13, 25] rfl ?_ (fun a hk => ?_)
    · exact ⟨ob_load tabOK 0 rfl rfl rfl rfl rfl, trivial⟩
    refine hK10 a w ?_; try clear hK10 K10
    refine code_cond hk rfl (fun c4 => ?_) (fun c4 => ?_)
    · replace c4 : ¬ ((F i).k = x.k) := (c_nt c4)
      refine wp_exit ?_
      refine then_exit ?_
      refine blk_out ?_
      refine hK6 a w ?_; try clear hK6 K6
      refine reg_q tabOK hk hh [(0, .int .i64 ((i : Int) + 1))] [1, 11, 12, 13] rfl ?_ (fun a hk => ?_)
      · exact ⟨ob_eq tabOK rfl (eq_i64 (by omega)), trivial⟩
      refine then_nm ?_
      exact ⟨_, _, _, ⟨i + 1, rfl, rfl, (by omega), (fun j hj => (Nat.lt_succ_iff_lt_or_eq.1 hj).elim (fun h => inv j h) (fun h => by rw [h]; exact (fun e => c4 e.1))), rfl⟩, (by simp only [id]; omega), hk.keep [1, 11, 12, 13] rfl, hh⟩
    · replace c4 : (F i).k = x.k := (c_nf c4)
      refine wp_skip ?_
      refine hK9 a w ?_; try clear hK9 K9
      refine wp_seq_k fun K11 hK11 => ?_
      refine reg_q tabOK hk hh [] [1, 6, 7, 11, 12, 13] rfl trivial (fun a hk => ?_)
      refine hK11 a w ?_; try clear hK11 K11
      refine wp_seq_k fun K12 hK12 => ?_
      refine wp_seq_k fun K13 hK13 => ?_
      have hfl := forms_len (i := i) (by omega)
      have hup := forms_up (i := i) (by omega)
      have hul : (upL (F i).f).length = (F i).f.length := upL_len
      refine reg_q tabOK hk hh [] [1, 6, 7, 8, 11, 12, 13] rfl trivial (fun a hk => ?_)
      refine hK13 a w ?_; try clear hK13 K13
      refine wp_block ?_
      replace hk := hk.keep [1, 6, 7, 8, 11, 12, 13] rfl
      refine code_loop (α := Nat) (fun (m : Nat) (E : Env) (L : List Assn) => ∃ (j : Nat) (s : List UInt8), E = [(1, .pointer (some ⟨b1, 0, none⟩)), (6, S (upL (F i).f)), (7, S s), (8, .int .i64 (j : Int)), (11, .slice (some ⟨b2, 0, none⟩) 13 13), (12, .int .i64 13), (13, .int .i64 (i : Int))] ∧ L = [row b1 26 [.int .i64 x.k, .int .i64 x.a, .int .i64 x.b, .int .i64 x.n, S x.s], row b2 9 (formsL.map fun f => S f.w)] ++ R ∧ (j ≤ (F i).f.length) ∧ (s = (F i).w ++ tailT x ((F i).f.take j)) ∧ m = (F i).f.length - j) id _ hk hh ⟨0, (F i).w, rfl, rfl, (by omega), (by simp [tailT]), rfl⟩ ?_
      clear hk hh
      rintro _ _ _ a w ⟨j, s, rfl, hL, hj, sinv, rfl⟩ hk hh; rw [hL] at hh; clear hL
      have htl := tail_len hx (l := (F i).f.take j)
      have hll : s.length = (F i).w.length + (tailT x ((F i).f.take j)).length := by rw [sinv, List.length_append]
      have htk : ((F i).f.take j).length ≤ 3 := by rw [List.length_take]; omega
      refine wp_seq_k fun K14 hK14 => ?_
      refine wp_seq_k fun K15 hK15 => ?_
      refine reg_q tabOK hk hh [] [1, 6, 7, 8, 11, 12, 13, 30] rfl trivial (fun a hk => ?_)
      refine hK15 a w ?_; try clear hK15 K15
      refine code_cond hk rfl (fun c5 => ?_) (fun c5 => ?_)
      · replace c5 : (j : Int) < ((upL (F i).f).length : Int) := (of_decide_eq_true c5)
        refine wp_skip ?_
        refine hK14 a w ?_; try clear hK14 K14
        refine wp_seq_k fun K16 hK16 => ?_
        refine wp_block ?_
        refine wp_seq_k fun K17 hK17 => ?_
        have hj0 : j < (F i).f.length := by omega
        refine reg_q tabOK hk hh [(2, .int .u8 (((upL (F i).f).getD j 0).toNat : Int))] [1, 6, 7, 8, 11, 12, 13, 35] rfl ?_ (fun a hk => ?_)
        · exact ⟨ob_index tabOK rfl rfl rfl (by omega) (getD_at (by omega)), trivial⟩
        refine hK17 a w ?_; try clear hK17 K17
        refine wp_block ?_
        refine wp_seq_k fun K18 hK18 => ?_
        refine reg_q tabOK hk hh [] [1, 6, 7, 8, 11, 12, 13, 35, 42] rfl trivial (fun a hk => ?_)
        refine hK18 a w ?_; try clear hK18 K18
        refine code_cond hk rfl (fun c6 => ?_) (fun c6 => ?_)
        · replace c6 : (((upL (F i).f).getD j 0).toNat : Int) = 65 := (c_et c6)
          refine wp_region_lit ?_
          refine seq_q tabOK (i := 0) (stop := 3) hk hh [(2, .int .i64 x.a)] rfl ?_ (fun a hk => ?_)
          · exact ⟨ob_load tabOK 0 rfl rfl rfl rfl rfl, trivial⟩
          refine seq_eff hk hh rfl rfl (eff_call Tryz.func7 rfl rfl rfl rfl (fun w hh => number_spec x.a (by first | assumption | (unfold I64; omega)) σ w _ hh)) (fun v L a w hp hk hh => ?_)
          obtain ⟨rfl, hL⟩ := hp; rw [hL] at hh; clear hL
          refine rest_q tabOK (i := 4) hk hh [(4, S ([32] ++ (Lib.itoa x.a))), (5, S (s ++ ([32] ++ (Lib.itoa x.a))))] [1, 6, 7, 8, 11, 12, 13] rfl ?_ (fun a hk => ?_)
          · exact ⟨ob_concat rfl rfl (by simp only [List.length_append, List.length_cons, List.length_nil]; omega), ob_concat rfl rfl (by simp only [List.length_append, List.length_cons, List.length_nil]; omega), trivial⟩
          refine blk_nm ?_
          refine blk_nm ?_
          refine hK16 a w ?_; try clear hK16 K16
          refine reg_q tabOK hk hh [(1, .int .i64 ((j : Int) + 1))] [1, 6, 7, 8, 11, 12, 13] rfl ?_ (fun a hk => ?_)
          · exact ⟨ob_eq tabOK rfl (eq_i64 (by omega)), trivial⟩
          refine then_nm ?_
          exact ⟨_, _, _, ⟨j + 1, s ++ ([32] ++ (Lib.itoa x.a)), rfl, rfl, (by omega), (tail_step sinv hj0 (fld_a (up_a hj0 hup c6))), rfl⟩, (by simp only [id]; omega), hk.keep [1, 6, 7, 8, 11, 12, 13] rfl, hh⟩
        · replace c6 : ¬ ((((upL (F i).f).getD j 0).toNat : Int) = 65) := (c_ef c6)
          refine wp_seq_k fun K19 hK19 => ?_
          refine reg_q tabOK hk hh [] [1, 6, 7, 8, 11, 12, 13, 35, 50] rfl trivial (fun a hk => ?_)
          refine hK19 a w ?_; try clear hK19 K19
          refine code_cond hk rfl (fun c7 => ?_) (fun c7 => ?_)
          · replace c7 : (((upL (F i).f).getD j 0).toNat : Int) = 66 := (c_et c7)
            refine wp_region_lit ?_
            refine seq_q tabOK (i := 0) (stop := 3) hk hh [(2, .int .i64 x.b)] rfl ?_ (fun a hk => ?_)
            · exact ⟨ob_load tabOK 0 rfl rfl rfl rfl rfl, trivial⟩
            refine seq_eff hk hh rfl rfl (eff_call Tryz.func7 rfl rfl rfl rfl (fun w hh => number_spec x.b (by first | assumption | (unfold I64; omega)) σ w _ hh)) (fun v L a w hp hk hh => ?_)
            obtain ⟨rfl, hL⟩ := hp; rw [hL] at hh; clear hL
            refine rest_q tabOK (i := 4) hk hh [(4, S ([32] ++ (Lib.itoa x.b))), (5, S (s ++ ([32] ++ (Lib.itoa x.b))))] [1, 6, 7, 8, 11, 12, 13] rfl ?_ (fun a hk => ?_)
            · exact ⟨ob_concat rfl rfl (by simp only [List.length_append, List.length_cons, List.length_nil]; omega), ob_concat rfl rfl (by simp only [List.length_append, List.length_cons, List.length_nil]; omega), trivial⟩
            refine blk_nm ?_
            refine blk_nm ?_
            refine hK16 a w ?_; try clear hK16 K16
            refine reg_q tabOK hk hh [(1, .int .i64 ((j : Int) + 1))] [1, 6, 7, 8, 11, 12, 13] rfl ?_ (fun a hk => ?_)
            · exact ⟨ob_eq tabOK rfl (eq_i64 (by omega)), trivial⟩
            refine then_nm ?_
            exact ⟨_, _, _, ⟨j + 1, s ++ ([32] ++ (Lib.itoa x.b)), rfl, rfl, (by omega), (tail_step sinv hj0 (fld_b (up_a_not hj0 c6) (up_b hj0 hup c7))), rfl⟩, (by simp only [id]; omega), hk.keep [1, 6, 7, 8, 11, 12, 13] rfl, hh⟩
          · replace c7 : ¬ ((((upL (F i).f).getD j 0).toNat : Int) = 66) := (c_ef c7)
            refine wp_seq_k fun K20 hK20 => ?_
            refine reg_q tabOK hk hh [] [1, 6, 7, 8, 11, 12, 13, 58] rfl trivial (fun a hk => ?_)
            refine hK20 a w ?_; try clear hK20 K20
            refine code_cond hk rfl (fun c8 => ?_) (fun c8 => ?_)
            · replace c8 : (((upL (F i).f).getD j 0).toNat : Int) = 115 := (c_et c8)
              refine reg_q tabOK hk hh [(2, S x.s), (3, S ([32] ++ x.s)), (4, S (s ++ ([32] ++ x.s)))] [1, 6, 7, 8, 11, 12, 13] rfl ?_ (fun a hk => ?_)
              · exact ⟨ob_load tabOK 0 rfl rfl rfl rfl rfl, ob_concat rfl rfl (by simp only [List.length_append, List.length_cons, List.length_nil]; omega), ob_concat rfl rfl (by simp only [List.length_append, List.length_cons, List.length_nil]; omega), trivial⟩
              refine blk_nm ?_
              refine blk_nm ?_
              refine hK16 a w ?_; try clear hK16 K16
              refine reg_q tabOK hk hh [(1, .int .i64 ((j : Int) + 1))] [1, 6, 7, 8, 11, 12, 13] rfl ?_ (fun a hk => ?_)
              · exact ⟨ob_eq tabOK rfl (eq_i64 (by omega)), trivial⟩
              refine then_nm ?_
              exact ⟨_, _, _, ⟨j + 1, s ++ ([32] ++ x.s), rfl, rfl, (by omega), (tail_step sinv hj0 (fld_s (up_a_not hj0 c6) (up_b_not hj0 c7) (up_s hj0 c8))), rfl⟩, (by simp only [id]; omega), hk.keep [1, 6, 7, 8, 11, 12, 13] rfl, hh⟩
            · replace c8 : ¬ ((((upL (F i).f).getD j 0).toNat : Int) = 115) := (c_ef c8)
              refine wp_region_lit ?_
              refine seq_q tabOK (i := 0) (stop := 3) hk hh [(2, .int .i64 x.n)] rfl ?_ (fun a hk => ?_)
              · exact ⟨ob_load tabOK 0 rfl rfl rfl rfl rfl, trivial⟩
              refine seq_eff hk hh rfl rfl (eff_call Tryz.func7 rfl rfl rfl rfl (fun w hh => number_spec x.n (by first | assumption | (unfold I64; omega)) σ w _ hh)) (fun v L a w hp hk hh => ?_)
              obtain ⟨rfl, hL⟩ := hp; rw [hL] at hh; clear hL
              refine rest_q tabOK (i := 4) hk hh [(4, S ([32] ++ (Lib.itoa x.n))), (5, S (s ++ ([32] ++ (Lib.itoa x.n))))] [1, 6, 7, 8, 11, 12, 13] rfl ?_ (fun a hk => ?_)
              · exact ⟨ob_concat rfl rfl (by simp only [List.length_append, List.length_cons, List.length_nil]; omega), ob_concat rfl rfl (by simp only [List.length_append, List.length_cons, List.length_nil]; omega), trivial⟩
              refine blk_nm ?_
              refine blk_nm ?_
              refine hK16 a w ?_; try clear hK16 K16
              refine reg_q tabOK hk hh [(1, .int .i64 ((j : Int) + 1))] [1, 6, 7, 8, 11, 12, 13] rfl ?_ (fun a hk => ?_)
              · exact ⟨ob_eq tabOK rfl (eq_i64 (by omega)), trivial⟩
              refine then_nm ?_
              exact ⟨_, _, _, ⟨j + 1, s ++ ([32] ++ (Lib.itoa x.n)), rfl, rfl, (by omega), (tail_step sinv hj0 (fld_n (up_a_not hj0 c6) (up_b_not hj0 c7) (up_s_not hj0 c8))), rfl⟩, (by simp only [id]; omega), hk.keep [1, 6, 7, 8, 11, 12, 13] rfl, hh⟩
      · replace c5 : ¬ ((j : Int) < ((upL (F i).f).length : Int)) := (of_decide_eq_false c5)
        refine wp_exit ?_
        refine then_exit ?_
        refine then_exit ?_
        refine blk_out ?_
        refine hK12 a w ?_; try clear hK12 K12
        refine wp_seq_k fun K21 hK21 => ?_
        have hsT := tail_end sinv (by omega)
        have hs := Nat.le_trans (show_len hx hfl.1 hfl.2) (show 3700000000 ≤ 4000000000 by omega)
        rw [← hsT] at hs
        refine wp_region_lit ?_
        refine seq_q tabOK (i := 0) (stop := 1) hk hh [] rfl trivial (fun a hk => ?_)
        refine seq_eff hk hh rfl rfl (eff_call Tryz.func16 rfl rfl rfl rfl (fun w hh => lline_spec s (by first | exact hs | exact hw0 _ | omega) σ w _ hh)) (fun v L a w hp hk hh => ?_)
        obtain ⟨x9, ok10, rfl, hL, hlx9, hzx9⟩ := hp; rw [hL] at hh; clear hL
        refine seq_q tabOK (i := 2) (stop := 5) hk hh [] rfl trivial (fun a hk => ?_)
        refine seq_eff hk hh rfl rfl (eff_alloc tabOK rfl) (fun v L a w hp hk hh => ?_)
        obtain ⟨b11, rfl, hL⟩ := hp; rw [hL] at hh; clear hL
        refine seq_eff hk hh rfl rfl (eff_store tabOK 0 rfl rfl rfl rfl rfl rfl rfl (by simp)) (fun v L a w hp hk hh => ?_)
        obtain ⟨rfl, hL⟩ := hp; rw [hL] at hh; clear hL
        refine rest_q tabOK (i := 7) hk hh [] [1, 7, 9, 10, 11, 12, 13] rfl trivial (fun a hk => ?_)
        refine hK21 a w ?_; try clear hK21 K21
        refine wp_seq_k fun K22 hK22 => ?_
        by_cases c12 : ok10 = true
        · refine reg_q tabOK hk hh [(0, .bool true), (2, .agg ⟨[.int .i64 x9.k, .int .i64 x9.a, .int .i64 x9.b, .int .i64 x9.n, S x9.s]⟩), (3, .agg ⟨[.int .i64 x.k, .int .i64 x.a, .int .i64 x.b, .int .i64 x.n, S x.s]⟩), (4, .bool (decide (x9 = x)))] [1, 7, 11, 12, 13, 75] rfl ?_ (fun a hk => ?_)
          · exact ⟨ob_eq tabOK rfl (v_id c12), ob_loadN tabOK 0 rfl rfl rfl rfl rfl, ob_loadN tabOK 1 rfl rfl rfl rfl rfl, ob_conv (ob_eqS tabOK eqOK rfl rfl rfl rfl) (act_eq x9 x), trivial⟩
          refine hK22 a w ?_; try clear hK22 K22
          refine code_cond hk rfl (fun c13 => ?_) (fun c13 => ?_)
          · replace c13 : x9 = x := (of_decide_eq_true c13)
            refine wp_seq_k fun K23 hK23 => ?_
            refine reg_q tabOK hk hh [] [1, 2, 11, 12, 13] rfl trivial (fun a hk => ?_)
            refine hK23 a w ?_; try clear hK23 K23
            refine wp_ret ?_
            refine blk_ret ?_
            refine then_ret ?_
            refine then_ret ?_
            refine blk_ret ?_
            refine then_ret ?_
            refine fin_ret hk (show Tryz.f9.results = ⟨[.tmp 2]⟩ from rfl) (by exact (res_tmp hk rfl .nil)) ?_
            replace hh := (hh.at_ 0 rfl).drop
            replace hh := (hh.at_ 0 rfl).drop
            replace hh := (hh.at_ 0 rfl).drop
            refine ⟨_, _, rfl, ⟨?_, rfl⟩, hh⟩
            rw [text_hit inv (by omega) c4 (by rw [← hsT, hlx9, if_pos c12, c13]), ← hsT]; rfl
          · replace c13 : ¬ (x9 = x) := (of_decide_eq_false c13)
            refine wp_skip ?_
            refine blk_nm ?_
            refine hK6 a w ?_; try clear hK6 K6
            refine reg_q tabOK hk hh [(0, .int .i64 ((i : Int) + 1))] [1, 11, 12, 13] rfl ?_ (fun a hk => ?_)
            · exact ⟨ob_eq tabOK rfl (eq_i64 (by omega)), trivial⟩
            replace hh := (hh.at_ 0 rfl).drop
            refine then_nm ?_
            exact ⟨_, _, _, ⟨i + 1, rfl, rfl, (by omega), (fun j hj => (Nat.lt_succ_iff_lt_or_eq.1 hj).elim (fun h => inv j h) (fun h => by rw [h]; exact (fun e => by have q := hlx9.symm.trans (show lineO s = some x by rw [hsT]; exact e.2); rw [if_pos c12] at q; exact c13 (Option.some.inj q)))), rfl⟩, (by simp only [id]; omega), hk.keep [1, 11, 12, 13] rfl, hh⟩
        · refine reg_q tabOK hk hh [(0, .bool false)] [1, 7, 11, 12, 13, 75] rfl ?_ (fun a hk => ?_)
          · exact ⟨ob_eq tabOK rfl (v_id (by simpa using c12)), trivial⟩
          refine hK22 a w ?_; try clear hK22 K22
          refine code_cond hk rfl (fun h => by cases h) (fun _ => ?_)
          refine wp_skip ?_
          refine blk_nm ?_
          refine hK6 a w ?_; try clear hK6 K6
          refine reg_q tabOK hk hh [(0, .int .i64 ((i : Int) + 1))] [1, 11, 12, 13] rfl ?_ (fun a hk => ?_)
          · exact ⟨ob_eq tabOK rfl (eq_i64 (by omega)), trivial⟩
          replace hh := (hh.at_ 0 rfl).drop
          refine then_nm ?_
          exact ⟨_, _, _, ⟨i + 1, rfl, rfl, (by omega), (fun j hj => (Nat.lt_succ_iff_lt_or_eq.1 hj).elim (fun h => inv j h) (fun h => by rw [h]; exact (fun e => by have q := hlx9.symm.trans (show lineO s = some x by rw [hsT]; exact e.2); rw [if_neg c12] at q; cases q))), rfl⟩, (by simp only [id]; omega), hk.keep [1, 11, 12, 13] rfl, hh⟩
  · replace c3 : ¬ ((i : Int) < 13) := (of_decide_eq_false c3)
    refine wp_exit ?_
    refine then_exit ?_
    refine then_exit ?_
    refine blk_out ?_
    refine hK2 a w ?_; try clear hK2 K2
    refine wp_seq_k fun K24 hK24 => ?_
    refine reg_q tabOK hk hh [] [2] rfl trivial (fun a hk => ?_)
    refine hK24 a w ?_; try clear hK24 K24
    refine wp_ret ?_
    refine fin_ret hk (show Tryz.f9.results = ⟨[.tmp 2]⟩ from rfl) (by exact (res_tmp hk rfl .nil)) ?_
    replace hh := (hh.at_ 0 rfl).drop
    replace hh := (hh.at_ 0 rfl).drop
    refine ⟨_, _, rfl, ⟨?_, rfl⟩, hh⟩
    rw [text_none (fun j hj => inv j (by omega))]; rfl

end Go.Hop
/- What is proved here: what a function of the text computes. Printed by program. -/
namespace Go.Hop
open Go.Proofs
set_option maxRecDepth 4000
set_option maxHeartbeats 4000000
theorem lines_spec (s : List UInt8) (hs : s.length ≤ 4000000000) {σ : Sg} {w : World} {R : List Assn} (hR : Lay R) (hh : Holds σ w (R)) :
    Calls Tryz.prog 6 ⟨[S s]⟩ w fun e w' => ∃ v L', e = .returned v ∧ (v = .bool true ∧ L' = R) ∧ Holds σ w' L' := by
  refine enter Tryz.func6 rfl Tryz.ntmps6 rfl fun a hk => ?_
  refine wp_seq_k fun K1 hK1 => ?_
  refine reg_q tabOK hk hh [] [0] rfl trivial (fun a hk => ?_)
  refine hK1 a w ?_; try clear hK1 K1
  refine wp_seq_k fun K2 hK2 => ?_
  refine wp_region_lit ?_
  refine seq_q tabOK (i := 0) (stop := 1) hk hh [] rfl trivial (fun a hk => ?_)
  refine seq_eff hk hh rfl rfl (eff_call Tryz.func15 rfl rfl rfl rfl (fun w hh => line_spec s (by first | exact hs | exact hw0 _ | omega) (by exact hR) hh)) (fun v L a w hp hk hh => ?_)
  obtain ⟨x1, ok2, rfl, hL, hlx1, hzx1⟩ := hp; rw [hL] at hh; clear hL
  refine seq_q tabOK (i := 2) (stop := 5) hk hh [] rfl trivial (fun a hk => ?_)
  refine seq_eff hk hh rfl rfl (eff_alloc tabOK rfl) (fun v L a w hp hk hh => ?_)
  obtain ⟨b3, rfl, hL⟩ := hp; rw [hL] at hh; clear hL
  refine seq_eff hk hh rfl rfl (eff_store tabOK 0 rfl rfl rfl rfl rfl rfl rfl (by simp)) (fun v L a w hp hk hh => ?_)
  obtain ⟨rfl, hL⟩ := hp; rw [hL] at hh; clear hL
  refine rest_q tabOK (i := 7) hk hh [] [0, 3, 4] rfl trivial (fun a hk => ?_)
  refine hK2 a w ?_; try clear hK2 K2
  refine wp_seq_k fun K3 hK3 => ?_
  refine wp_region_lit ?_
  refine seq_q tabOK (i := 0) (stop := 1) hk hh [] rfl trivial (fun a hk => ?_)
  refine seq_eff hk hh rfl rfl (eff_call Tryz.func16 rfl rfl rfl rfl (fun w hh => lline_spec s (by first | exact hs | exact hw0 _ | omega) σ w _ hh)) (fun v L a w hp hk hh => ?_)
  obtain ⟨x4, ok5, rfl, hL, hlx4, hzx4⟩ := hp; rw [hL] at hh; clear hL
  obtain ⟨h1, h2⟩ := line_same hlx1 hzx1 hlx4 hzx4; subst h1; subst h2
  refine seq_q tabOK (i := 2) (stop := 5) hk hh [] rfl trivial (fun a hk => ?_)
  refine seq_eff hk hh rfl rfl (eff_alloc tabOK rfl) (fun v L a w hp hk hh => ?_)
  obtain ⟨b6, rfl, hL⟩ := hp; rw [hL] at hh; clear hL
  refine seq_eff hk hh rfl rfl (eff_store tabOK 0 rfl rfl rfl rfl rfl rfl rfl (by simp)) (fun v L a w hp hk hh => ?_)
  obtain ⟨rfl, hL⟩ := hp; rw [hL] at hh; clear hL
  refine rest_q tabOK (i := 7) hk hh [] [3, 4, 5, 6] rfl trivial (fun a hk => ?_)
  refine hK3 a w ?_; try clear hK3 K3
  refine wp_seq_k fun K4 hK4 => ?_
  refine reg_q tabOK hk hh [(0, .agg ⟨[.int .i64 x1.k, .int .i64 x1.a, .int .i64 x1.b, .int .i64 x1.n, S x1.s]⟩), (1, .agg ⟨[.int .i64 x1.k, .int .i64 x1.a, .int .i64 x1.b, .int .i64 x1.n, S x1.s]⟩), (2, .bool true), (6, .bool true)] [2] rfl ?_ (fun a hk => ?_)
  · exact ⟨ob_loadN tabOK 1 rfl rfl rfl rfl rfl, ob_loadN tabOK 0 rfl rfl rfl rfl rfl, ob_conv (ob_eqS tabOK eqOK rfl rfl rfl rfl) ((act_eq x1 x1).trans (v_dt rfl)), ob_eq tabOK rfl (v_et rfl), trivial⟩
  refine hK4 a w ?_; try clear hK4 K4
  refine wp_ret ?_
  refine fin_ret hk (show Tryz.f6.results = ⟨[.tmp 2]⟩ from rfl) (by exact (res_tmp hk rfl .nil)) ?_
  replace hh := (hh.at_ 0 rfl).drop
  replace hh := (hh.at_ 0 rfl).drop
  exact ⟨_, _, rfl, ⟨rfl, rfl⟩, hh⟩

end Go.Hop
/- What is proved here: a text is scanned line by line, beside what its lines are, in plain Lean. -/
namespace Go.Hop
/-- Scanned up to i, the line begun at p, n lines ahead of it. -/
def ScanI (s : List UInt8) (i p n : Nat) : Prop := if i ≤ s.length then (spl 10 s).drop n = spA 10 ((s.take i).drop p) (s.drop i) else n = (spl 10 s).length
variable {s : List UInt8} {i p n k m seen : Nat} {y : ActL}
theorem ScanI.start : ScanI s 0 0 0 := by simp [ScanI, spl]
theorem ScanI.miss (h : ScanI s i p n) (hi : i < s.length) (hp : p ≤ i) (hc : ¬ ((s.getD i 0).toNat : Int) = 10) : ScanI s (i + 1) p n := by
  unfold ScanI at h ⊢
  rw [if_pos (by omega)] at h ⊢
  have hg : s.getD i 0 = s[i] := by simp [List.getD, List.getElem?_eq_getElem hi]
  have hne : ¬ s[i] = 10 := fun e => hc (by rw [hg, e]; rfl)
  rw [h, List.drop_eq_getElem_cons hi, spA, if_neg hne, List.take_succ_eq_append_getElem hi, List.drop_append_of_le_length (by rw [List.length_take]; omega)]
theorem ScanI.next (h : ScanI s i p n) (hi : i ≤ s.length) (hc : i < s.length → ((s.getD i 0).toNat : Int) = 10) : ScanI s (i + 1) (i + 1) (n + 1) ∧ n < (spl 10 s).length ∧ (spl 10 s).getD n [] = (s.take i).drop p := by
  unfold ScanI at h ⊢
  rw [if_pos hi] at h
  have key : ∀ (r : List (List UInt8)) (x : List UInt8), (spl 10 s).drop n = x :: r → n < (spl 10 s).length ∧ (spl 10 s).getD n [] = x ∧ (spl 10 s).drop (n + 1) = r := by
    intro r x e
    have hn : n < (spl 10 s).length := by
      rcases Nat.lt_or_ge n (spl 10 s).length with h | h
      · exact h
      · rw [List.drop_of_length_le h] at e; cases e
    rw [List.drop_eq_getElem_cons hn] at e
    injection e with e1 e2
    exact ⟨hn, by simp [List.getD, List.getElem?_eq_getElem hn, e1], e2⟩
  by_cases hl : i < s.length
  · have hg : s.getD i 0 = s[i] := by simp [List.getD, List.getElem?_eq_getElem hl]
    have h10 : s.getD i 0 = 10 := byte_eq (n := 10) (by omega) (hc hl)
    rw [List.drop_eq_getElem_cons hl, spA, if_pos (by rw [← hg]; exact h10)] at h
    obtain ⟨a, b, c⟩ := key _ _ h
    refine ⟨?_, a, b⟩
    rw [if_pos (by omega), c]
    rw [List.drop_of_length_le (l := s.take (i + 1)) (by rw [List.length_take]; omega)]
  · have e : i = s.length := by omega
    rw [List.drop_of_length_le (by omega : s.length ≤ i), spA] at h
    obtain ⟨a, b, c⟩ := key _ _ h
    refine ⟨?_, a, b⟩
    rw [if_neg (by omega)]
    have := List.drop_eq_nil_iff.1 c
    omega
theorem ScanI.fin (h : ScanI s i p n) (hi : ¬ i ≤ s.length) : n = (spl 10 s).length := by
  unfold ScanI at h; rwa [if_neg hi] at h

theorem parseL_full : ∀ (ls : List (List UInt8)) (n : Nat), parseL ls n 400 = ([], [])
  | [], _ => rfl
  | x :: ls, n => by
    rw [parseL]
    by_cases hx : x = []
    · rw [if_pos hx]; exact parseL_full ls (n + 1)
    · rw [if_neg hx, if_pos (by omega)]
/-- What is still to come, beside what a text's acts are. -/
def ParI (s : List UInt8) (n k m seen : Nat) : Prop := parseL ((spl 10 s).drop n) n seen = ((parseO s).1.drop k, (parseO s).2.drop m) ∧ k ≤ (parseO s).1.length ∧ m ≤ (parseO s).2.length
theorem ParI.start : ParI s 0 0 0 0 := by simp [ParI, parseO]
theorem drop_hd {α : Type} {l r : List α} {k : Nat} {x : α} (d : α) (h : x :: r = l.drop k) : k < l.length ∧ l.getD k d = x ∧ r = l.drop (k + 1) := by
  have hn : k < l.length := by
    rcases Nat.lt_or_ge k l.length with q | q
    · exact q
    · rw [List.drop_of_length_le q] at h; cases h
  rw [List.drop_eq_getElem_cons hn] at h
  injection h with e1 e2
  exact ⟨hn, by simp [List.getD, List.getElem?_eq_getElem hn, e1], e2⟩
theorem ParI.empty (h : ParI s n k m seen) (hn : n < (spl 10 s).length) {x : List UInt8} (hl : (spl 10 s).getD n [] = x) (hx : x = []) : ParI s (n + 1) k m seen := by
  refine ⟨?_, h.2⟩
  have := h.1
  rwa [drop_getD (d := []) hn, parseL, hl, if_pos hx] at this
theorem ParI.full (h : ParI s n k m seen) (hs : seen ≤ 400) (hf : (seen : Int) ≥ 400) : ParI s (n + 1) k m seen := by
  have e : seen = 400 := by omega
  subst e
  refine ⟨?_, h.2⟩
  have := h.1
  rw [parseL_full] at this ⊢
  exact this
theorem ParI.act (h : ParI s n k m seen) (hn : n < (spl 10 s).length) {x : List UInt8} (hl : (spl 10 s).getD n [] = x) (hx : ¬ x = []) (hf : ¬ (seen : Int) ≥ 400) (hy : lineO x = some y) :
    k < (parseO s).1.length ∧ (parseO s).1.getD k zA = y ∧ ParI s (n + 1) (k + 1) m (seen + 1) := by
  have := h.1
  rw [drop_getD (d := []) hn, parseL, hl, if_neg hx, if_neg (by omega), hy] at this
  injection this with e1 e2
  obtain ⟨a, b, c⟩ := drop_hd zA e1
  exact ⟨a, b, by rw [← c, ← e2], by omega, h.2.2⟩
theorem ParI.none (h : ParI s n k m seen) (hn : n < (spl 10 s).length) {x : List UInt8} (hl : (spl 10 s).getD n [] = x) (hx : ¬ x = []) (hf : ¬ (seen : Int) ≥ 400) (hy : lineO x = Option.none) :
    m < (parseO s).2.length ∧ (parseO s).2.getD m 0 = (n : Int) + 1 ∧ ParI s (n + 1) k (m + 1) (seen + 1) := by
  have := h.1
  rw [drop_getD (d := []) hn, parseL, hl, if_neg hx, if_neg (by omega), hy] at this
  injection this with e1 e2
  obtain ⟨a, b, c⟩ := drop_hd 0 e2
  exact ⟨a, b, by rw [← c, ← e1], h.2.1, by omega⟩
theorem ParI.fin (h : ParI s n k m seen) (hn : n = (spl 10 s).length) : k = (parseO s).1.length ∧ m = (parseO s).2.length := by
  have := h.1
  rw [List.drop_of_length_le (by omega), parseL] at this
  injection this with e1 e2
  have a := List.drop_eq_nil_iff.1 e1.symm
  have b := List.drop_eq_nil_iff.1 e2.symm
  exact ⟨by have := h.2.1; omega, by have := h.2.2; omega⟩
end Go.Hop
/- What is proved here: what a function of the text computes. Printed by program. -/
namespace Go.Hop
open Go.Proofs
set_option maxRecDepth 4000
theorem parse_text (s : List UInt8) (hs : s.length ≤ 4000000000) {σ : Sg} {w : World} {R : List Assn} (hR : Lay R) (hh : Holds σ w (R)) :
    Calls Tryz.prog 14 ⟨[S s]⟩ w fun e w' => ∃ v L', e = .returned v ∧ (∃ u1 u2, v = .tuple ⟨[u1, u2]⟩ ∧ L' = Own 26 5 u1 (parseO s).1.length (actC (parseO s).1) :: Own 3 1 u2 (parseO s).2.length (intC (parseO s).2) :: R) ∧ Holds σ w' L' := by
  refine enter Tryz.func14 rfl Tryz.ntmps14 rfl fun a hk => ?_
  refine wp_seq_k fun K1 hK1 => ?_
  refine reg_q tabOK hk hh [] [0] rfl trivial (fun a hk => ?_)
  refine hK1 a w ?_; try clear hK1 K1
  refine wp_seq_k fun K2 hK2 => ?_
  refine reg_q tabOK hk hh [] [0, 4] rfl trivial (fun a hk => ?_)
  refine hK2 a w ?_; try clear hK2 K2
  refine wp_seq_k fun K3 hK3 => ?_
  refine reg_q tabOK hk hh [] [0, 4, 5] rfl trivial (fun a hk => ?_)
  refine hK3 a w ?_; try clear hK3 K3
  refine wp_seq_k fun K4 hK4 => ?_
  refine reg_q tabOK hk hh [] [0, 4, 5, 6] rfl trivial (fun a hk => ?_)
  refine hK4 a w ?_; try clear hK4 K4
  refine wp_seq_k fun K5 hK5 => ?_
  refine wp_seq_k fun K6 hK6 => ?_
  refine wp_region_lit ?_
  refine seq_q tabOK (i := 0) (stop := 1) hk hh [] rfl trivial (fun a hk => ?_)
  refine seq_eff hk hh rfl rfl (eff_call Tryz.func24 rfl rfl rfl rfl (fun w hh => split_spec 10 s (by omega) (by exact hR) hh)) (fun v L a w hp hk hh => ?_)
  obtain ⟨b1, rfl, hL⟩ := hp; rw [hL] at hh; clear hL
  refine rest_q tabOK (i := 2) hk hh [] [4, 5, 6, 12, 13, 14] rfl trivial (fun a hk => ?_)
  refine hK6 a w ?_; try clear hK6 K6
  refine wp_block ?_
  replace hh := own_nil 3 1 (own_nil 26 5 hh)
  replace hh := hh.picks [1, 0, 0] rfl
  replace hk := hk.keep [4, 5, 6, 12, 13, 14] rfl
  refine code_loop (α := Nat) (fun (m : Nat) (E : Env) (L : List Assn) => ∃ (i : Nat) (seen : Nat) (A : List ActL) (B : List Int) (u1 : Value) (u2 : Value), E = [(4, u1), (5, u2), (6, .int .i64 (seen : Int)), (12, .slice (some ⟨b1, 0, none⟩) ((spl 10 s).length) ((spl 10 s).length)), (13, .int .i64 ((spl 10 s).length : Int)), (14, .int .i64 (i : Int))] ∧ L = [Own 26 5 u1 A.length (actC A), Own 3 1 u2 B.length (intC B), row b1 9 ((spl 10 s).map S)] ++ R ∧ (i ≤ (spl 10 s).length) ∧ (seen ≤ 400) ∧ (A.length ≤ seen) ∧ (B.length ≤ seen) ∧ (PInv (spl 10 s) i seen A B (parseO s)) ∧ m = (spl 10 s).length - i) id _ hk hh ⟨0, 0, [], [], (.slice none 0 0), (.slice none 0 0), rfl, rfl, (by omega), (by omega), (by simp), (by simp), PInv.start, rfl⟩ ?_
  clear hk hh
  rintro _ _ _ a w ⟨i, seen, A, B, u1, u2, rfl, hL, hi, hsn, hA, hB, inv, rfl⟩ hk hh; rw [hL] at hh; clear hL
  have hl2 : (spl 10 s).length ≤ 5000000000 := Nat.le_trans spl_len (by omega)
  have hw0 : ∀ i, ((spl 10 s).getD i []).length ≤ 4000000000 := fun i => Nat.le_trans spl_word hs
  refine wp_seq_k fun K7 hK7 => ?_
  refine reg_q tabOK hk hh [] [4, 5, 6, 12, 13, 14, 15] rfl trivial (fun a hk => ?_)
  refine hK7 a w ?_; try clear hK7 K7
  refine wp_seq_k fun K8 hK8 => ?_
  refine code_cond hk rfl (fun c2 => ?_) (fun c2 => ?_)
  · replace c2 : (i : Int) < ((spl 10 s).length : Int) := (of_decide_eq_true c2)
    refine wp_skip ?_
    refine hK8 a w ?_; try clear hK8 K8
    refine wp_seq_k fun K9 hK9 => ?_
    refine wp_block ?_
    refine wp_seq_k fun K10 hK10 => ?_
    refine reg_q tabOK hk hh [(1, .pointer (some ⟨b1, i, none⟩)), (2, S ((spl 10 s).getD i []))] [4, 5, 6, 7, 8, 12, 13, 14] rfl ?_ (fun a hk => ?_)
    · exact ⟨ob_indexAddr tabOK (i) rfl rfl rfl rfl (by omega) (by omega) (by show 0 + ((i : Int) : Int).toNat * 1 = i; omega), ob_load tabOK 2 rfl rfl rfl rfl (map_S_at (by omega)), trivial⟩
    refine hK10 a w ?_; try clear hK10 K10
    refine wp_seq_k fun K11 hK11 => ?_
    refine wp_seq_k fun K12 hK12 => ?_
    refine reg_q tabOK hk hh [] [4, 5, 6, 7, 8, 12, 13, 14, 20] rfl trivial (fun a hk => ?_)
    refine hK12 a w ?_; try clear hK12 K12
    refine code_cond hk rfl (fun c3 => ?_) (fun c3 => ?_)
    · replace c3 : (spl 10 s).getD i [] = [] := (c_et c3)
      refine wp_exit ?_
      refine then_exit ?_
      refine blk_out ?_
      refine hK9 a w ?_; try clear hK9 K9
      refine reg_q tabOK hk hh [(0, .int .i64 ((i : Int) + 1))] [4, 5, 6, 12, 13, 14] rfl ?_ (fun a hk => ?_)
      · exact ⟨ob_eq tabOK rfl (eq_i64 (by omega)), trivial⟩
      refine then_nm ?_
      exact ⟨_, _, _, ⟨i + 1, seen, A, B, u1, u2, rfl, rfl, (by omega), (by omega), (by omega), (by omega), (inv.empty (by omega) c3), rfl⟩, (by simp only [id]; omega), hk.keep [4, 5, 6, 12, 13, 14] rfl, hh⟩
    · replace c3 : ¬ ((spl 10 s).getD i [] = []) := (c_ef c3)
      refine wp_skip ?_
      refine hK11 a w ?_; try clear hK11 K11
      refine wp_seq_k fun K13 hK13 => ?_
      refine wp_seq_k fun K14 hK14 => ?_
      refine reg_q tabOK hk hh [(1, .int .i64 ((seen : Int) + 1))] [4, 5, 6, 7, 8, 12, 13, 14] rfl ?_ (fun a hk => ?_)
      · exact ⟨ob_eq tabOK rfl (eq_i64 (by omega)), trivial⟩
      refine hK14 a w ?_; try clear hK14 K14
      refine wp_seq_k fun K15 hK15 => ?_
      refine reg_q tabOK hk hh [] [4, 5, 6, 7, 8, 12, 13, 14, 24] rfl trivial (fun a hk => ?_)
      refine hK15 a w ?_; try clear hK15 K15
      refine code_cond hk rfl (fun c4 => ?_) (fun c4 => ?_)
      · replace c4 : (seen : Int) + 1 > 400 := (of_decide_eq_true c4)
        refine wp_exit ?_
        refine then_exit ?_
        refine blk_exit rfl ?_
        refine then_exit ?_
        refine then_exit ?_
        refine blk_out ?_
        refine hK5 a w ?_; try clear hK5 K5
        refine wp_seq_k fun K16 hK16 => ?_
        refine reg_q tabOK hk hh [] [2, 3] rfl trivial (fun a hk => ?_)
        refine hK16 a w ?_; try clear hK16 K16
        refine wp_ret ?_
        refine fin_ret hk (show Tryz.f14.results = ⟨[.tmp 2, .tmp 3]⟩ from rfl) (by exact (res_tmp hk rfl (res_tmp hk rfl .nil))) ?_
        replace hh := (hh.at_ 2 rfl).drop
        have hr := inv.full (by omega) c3 (by omega)
        exact ⟨_, _, rfl, ⟨u1, u2, rfl, by rw [hr]; rfl⟩, hh⟩
      · replace c4 : ¬ ((seen : Int) + 1 > 400) := (of_decide_eq_false c4)
        refine wp_skip ?_
        refine hK13 a w ?_; try clear hK13 K13
        refine wp_seq_k fun K17 hK17 => ?_
        refine wp_region_lit ?_
        refine seq_q tabOK (i := 0) (stop := 1) hk hh [] rfl trivial (fun a hk => ?_)
        refine seq_eff hk hh rfl rfl (eff_call Tryz.func15 rfl rfl rfl rfl (fun w hh => line_spec ((spl 10 s).getD i []) (by first | exact hs | exact hw0 _ | omega) (by exact (((hR.cons _).cons _).cons _)) hh)) (fun v L a w hp hk hh => ?_)
        obtain ⟨x5, ok6, rfl, hL, hlx5, hzx5⟩ := hp; rw [hL] at hh; clear hL
        refine seq_q tabOK (i := 2) (stop := 5) hk hh [] rfl trivial (fun a hk => ?_)
        refine seq_eff hk hh rfl rfl (eff_alloc tabOK rfl) (fun v L a w hp hk hh => ?_)
        obtain ⟨b7, rfl, hL⟩ := hp; rw [hL] at hh; clear hL
        refine seq_eff hk hh rfl rfl (eff_store tabOK 0 rfl rfl rfl rfl rfl rfl rfl (by simp)) (fun v L a w hp hk hh => ?_)
        obtain ⟨rfl, hL⟩ := hp; rw [hL] at hh; clear hL
        refine rest_q tabOK (i := 7) hk hh [] [4, 5, 6, 7, 9, 10, 12, 13, 14] rfl trivial (fun a hk => ?_)
        refine hK17 a w ?_; try clear hK17 K17
        refine wp_seq_k fun K18 hK18 => ?_
        refine reg_q tabOK hk hh [] [4, 5, 6, 7, 9, 12, 13, 14, 30] rfl trivial (fun a hk => ?_)
        refine hK18 a w ?_; try clear hK18 K18
        refine code_cond hk rfl (fun c8 => ?_) (fun c8 => ?_)
        · replace c8 : ok6 = true := c8
          refine wp_region_lit ?_
          refine seq_q tabOK (i := 0) (stop := 2) hk hh [(1, .agg ⟨[.int .i64 x5.k, .int .i64 x5.a, .int .i64 x5.b, .int .i64 x5.n, S x5.s]⟩)] rfl ?_ (fun a hk => ?_)
          · exact ⟨ob_loadN tabOK 0 rfl rfl rfl rfl rfl, trivial⟩
          refine seq_eff hk hh rfl rfl (eff_lit tabOK rfl rfl rfl (by decide) rfl) (fun v L a w hp hk hh => ?_)
          obtain ⟨b9, rfl, hL⟩ := hp; rw [hL] at hh; clear hL
          refine seq_eff hk hh rfl rfl (eff_append tabOK 2 rfl rfl rfl rfl rfl rfl rfl (.inl ⟨_, rfl⟩) (fun _ => rfl) (fun w hh => src_row (j := 1) hh rfl rfl) rfl rfl (by show (A.length + 1) * 48 ≤ 140737488355328; omega) (by show 0 < 48; omega)) (fun u10 L a w hp hk hh => ?_)
          rw [hp] at hh; clear hp
          refine rest_q tabOK (i := 4) hk hh [] [4, 5, 6, 12, 13, 14] rfl trivial (fun a hk => ?_)
          refine blk_nm ?_
          refine hK9 a w ?_; try clear hK9 K9
          refine reg_q tabOK hk hh [(0, .int .i64 ((i : Int) + 1))] [4, 5, 6, 12, 13, 14] rfl ?_ (fun a hk => ?_)
          · exact ⟨ob_eq tabOK rfl (eq_i64 (by omega)), trivial⟩
          rw [len_snoc (x := (⟨x5.k, x5.a, x5.b, x5.n, x5.s⟩ : ActL)), flat_snoc] at hh
          replace hh := (hh.at_ 1 rfl).drop
          replace hh := (hh.at_ 1 rfl).drop
          refine then_nm ?_
          exact ⟨_, _, _, ⟨i + 1, seen + 1, A ++ [(⟨x5.k, x5.a, x5.b, x5.n, x5.s⟩ : ActL)], B, u10, u2, rfl, rfl, (by omega), (by omega), (by simp only [List.length_append, List.length_cons, List.length_nil]; omega), (by omega), (inv.act (by omega) c3 (by omega) (by rw [hlx5, if_pos c8])), rfl⟩, (by simp only [id]; omega), hk.keep [4, 5, 6, 12, 13, 14] rfl, hh⟩
        · replace c8 : ¬ (ok6 = true) := (by simp [c8])
          refine wp_region_lit ?_
          refine seq_q tabOK (i := 0) (stop := 3) hk hh [(2, .int .i64 ((i : Int) + 1))] rfl ?_ (fun a hk => ?_)
          · exact ⟨ob_eq tabOK rfl (eq_i64 (by omega)), trivial⟩
          refine seq_eff hk hh rfl rfl (eff_lit tabOK rfl rfl rfl (by decide) rfl) (fun v L a w hp hk hh => ?_)
          obtain ⟨b11, rfl, hL⟩ := hp; rw [hL] at hh; clear hL
          refine seq_eff hk hh rfl rfl (eff_append tabOK 3 rfl rfl rfl rfl rfl rfl rfl (.inl ⟨_, rfl⟩) (fun _ => rfl) (fun w hh => src_row (j := 1) hh rfl rfl) rfl rfl (by show (B.length + 1) * 8 ≤ 140737488355328; omega) (by show 0 < 8; omega)) (fun u12 L a w hp hk hh => ?_)
          rw [hp] at hh; clear hp
          refine rest_q tabOK (i := 5) hk hh [] [4, 5, 6, 12, 13, 14] rfl trivial (fun a hk => ?_)
          refine blk_nm ?_
          refine hK9 a w ?_; try clear hK9 K9
          refine reg_q tabOK hk hh [(0, .int .i64 ((i : Int) + 1))] [4, 5, 6, 12, 13, 14] rfl ?_ (fun a hk => ?_)
          · exact ⟨ob_eq tabOK rfl (eq_i64 (by omega)), trivial⟩
          rw [len_snoc (x := ((i : Int) + 1)), ints_snoc] at hh
          replace hh := (hh.at_ 1 rfl).drop
          replace hh := (hh.at_ 1 rfl).drop
          replace hh := hh.picks [1, 0, 0] rfl
          refine then_nm ?_
          exact ⟨_, _, _, ⟨i + 1, seen + 1, A, B ++ [(i : Int) + 1], u1, u12, rfl, rfl, (by omega), (by omega), (by omega), (by simp only [List.length_append, List.length_cons, List.length_nil]; omega), (inv.none (by omega) c3 (by omega) (by rw [hlx5, if_neg c8])), rfl⟩, (by simp only [id]; omega), hk.keep [4, 5, 6, 12, 13, 14] rfl, hh⟩
  · replace c2 : ¬ ((i : Int) < ((spl 10 s).length : Int)) := (of_decide_eq_false c2)
    refine wp_exit ?_
    refine then_exit ?_
    refine then_exit ?_
    refine blk_out ?_
    refine hK5 a w ?_; try clear hK5 K5
    refine wp_seq_k fun K19 hK19 => ?_
    refine reg_q tabOK hk hh [] [2, 3] rfl trivial (fun a hk => ?_)
    refine hK19 a w ?_; try clear hK19 K19
    refine wp_ret ?_
    refine fin_ret hk (show Tryz.f14.results = ⟨[.tmp 2, .tmp 3]⟩ from rfl) (by exact (res_tmp hk rfl (res_tmp hk rfl .nil))) ?_
    replace hh := (hh.at_ 2 rfl).drop
    have hr := inv.fin (by omega)
    exact ⟨_, _, rfl, ⟨u1, u2, rfl, by rw [hr]; rfl⟩, hh⟩

end Go.Hop
/- What is proved here: what a function of the text computes. Printed by program. -/
namespace Go.Hop
open Go.Proofs
set_option maxRecDepth 4000
set_option maxHeartbeats 4000000
theorem parses_spec (s : List UInt8) (hs : s.length ≤ 4000000000) {σ : Sg} {w : World} {R : List Assn} (hR : Lay R) (hh : Holds σ w (R)) :
    Calls Tryz.prog 10 ⟨[S s]⟩ w fun e w' => ∃ v L', e = .returned v ∧ (v = .bool true ∧ L' = R) ∧ Holds σ w' L' := by
  refine enter Tryz.func10 rfl Tryz.ntmps10 rfl fun a hk => ?_
  have hpl := spl_len (c := 10) (l := s)
  refine wp_seq_k fun K1 hK1 => ?_
  refine reg_q tabOK hk hh [] [0] rfl trivial (fun a hk => ?_)
  refine hK1 a w ?_; try clear hK1 K1
  refine wp_seq_k fun K2 hK2 => ?_
  refine wp_region_lit ?_
  refine seq_q tabOK (i := 0) (stop := 1) hk hh [] rfl trivial (fun a hk => ?_)
  refine seq_eff hk hh rfl rfl (eff_call Tryz.func14 rfl rfl rfl rfl (fun w hh => parse_text s (by omega) (by exact hR) hh)) (fun v L a w hp hk hh => ?_)
  obtain ⟨u1, u2, rfl, hL⟩ := hp; rw [hL] at hh; clear hL
  refine rest_q tabOK (i := 2) hk hh [] [0, 3, 4] rfl trivial (fun a hk => ?_)
  refine hK2 a w ?_; try clear hK2 K2
  refine wp_seq_k fun K3 hK3 => ?_
  refine reg_q tabOK hk hh [] [0, 3, 4, 5, 6, 7, 8, 9] rfl trivial (fun a hk => ?_)
  refine hK3 a w ?_; try clear hK3 K3
  refine wp_seq_k fun K4 hK4 => ?_
  refine wp_seq_k fun K5 hK5 => ?_
  refine reg_q tabOK hk hh [] [0, 3, 4, 5, 6, 7, 8, 9, 10] rfl trivial (fun a hk => ?_)
  refine hK5 a w ?_; try clear hK5 K5
  refine wp_block ?_
  replace hk := hk.keep [0, 3, 4, 5, 6, 7, 8, 9, 10] rfl
  refine code_loop (α := Nat) (fun (m : Nat) (E : Env) (L : List Assn) => ∃ (i : Nat) (p : Nat) (n : Nat) (k : Nat) (mb : Nat) (seen : Nat) (u1 : Value) (u2 : Value), E = [(0, S s), (3, u1), (4, u2), (5, .int .i64 (n : Int)), (6, .int .i64 (p : Int)), (7, .int .i64 (k : Int)), (8, .int .i64 (mb : Int)), (9, .int .i64 (seen : Int)), (10, .int .i64 (i : Int))] ∧ L = [Own 26 5 u1 ((parseO s).1.length) (actC (parseO s).1), Own 3 1 u2 ((parseO s).2.length) (intC (parseO s).2)] ++ R ∧ (i ≤ s.length + 1) ∧ (p ≤ i) ∧ (n ≤ i) ∧ (k ≤ n ∧ mb ≤ n) ∧ (seen ≤ 400) ∧ (ScanI s i p n) ∧ (ParI s n k mb seen) ∧ m = s.length + 1 - i) id _ hk hh ⟨0, 0, 0, 0, 0, 0, u1, u2, rfl, rfl, (by omega), (by omega), (by omega), (by omega), (by omega), .start, .start, rfl⟩ ?_
  clear hk hh
  rintro _ _ _ a w ⟨i, p, n, k, mb, seen, u1, u2, rfl, hL, hi, hp, hn, hkn, hsn, sv, pv, rfl⟩ hk hh; rw [hL] at hh; clear hL
  refine wp_seq_k fun K6 hK6 => ?_
  refine wp_seq_k fun K7 hK7 => ?_
  refine reg_q tabOK hk hh [] [0, 3, 4, 5, 6, 7, 8, 9, 10, 22] rfl trivial (fun a hk => ?_)
  refine hK7 a w ?_; try clear hK7 K7
  refine code_cond hk rfl (fun c3 => ?_) (fun c3 => ?_)
  · replace c3 : (i : Int) ≤ (s.length : Int) := (of_decide_eq_true c3)
    refine wp_skip ?_
    refine hK6 a w ?_; try clear hK6 K6
    refine wp_seq_k fun K8 hK8 => ?_
    refine wp_block ?_
    refine wp_seq_k fun K9 hK9 => ?_
    refine wp_seq_k fun K10 hK10 => ?_
    by_cases c4 : (i : Int) < (s.length : Int)
    · refine reg_q tabOK hk hh [(3, .bool true), (7, .int .u8 ((s.getD i 0).toNat : Int))] [0, 3, 4, 5, 6, 7, 8, 9, 10, 34] rfl ?_ (fun a hk => ?_)
      · exact ⟨ob_eq tabOK rfl (v_dt c4), ob_index tabOK rfl rfl rfl (by omega) (getD_at (by omega)), trivial⟩
      refine hK10 a w ?_; try clear hK10 K10
      refine code_cond hk rfl (fun c5 => ?_) (fun c5 => ?_)
      · replace c5 : ¬ (((s.getD i 0).toNat : Int) = 10) := (c_nt c5)
        refine wp_exit ?_
        refine then_exit ?_
        refine blk_out ?_
        refine hK8 a w ?_; try clear hK8 K8
        refine reg_q tabOK hk hh [(1, .int .i64 ((i : Int) + 1))] [0, 3, 4, 5, 6, 7, 8, 9, 10] rfl ?_ (fun a hk => ?_)
        · exact ⟨ob_eq tabOK rfl (eq_i64 (by omega)), trivial⟩
        refine then_nm ?_
        exact ⟨_, _, _, ⟨i + 1, p, n, k, mb, seen, u1, u2, rfl, rfl, (by omega), (by omega), (by omega), (by omega), (by omega), (sv.miss (by omega) (by omega) c5), pv, rfl⟩, (by simp only [id]; omega), hk.keep [0, 3, 4, 5, 6, 7, 8, 9, 10] rfl, hh⟩
      · replace c5 : ((s.getD i 0).toNat : Int) = 10 := (c_nf c5)
        refine wp_skip ?_
        refine hK9 a w ?_; try clear hK9 K9
        refine wp_seq_k fun K11 hK11 => ?_
        obtain ⟨hq1, hq2, hq3⟩ := sv.next (by omega) (fun _ => c5)
        have hxl : ((s.take i).drop p).length ≤ s.length := by rw [List.length_drop, List.length_take]; omega
        refine reg_q tabOK hk hh [(3, S ((s.take i).drop p))] [0, 3, 4, 5, 7, 8, 9, 10, 11] rfl ?_ (fun a hk => ?_)
        · exact ⟨ob_slice_str tabOK rfl rfl rfl rfl (by omega) (by omega) (by omega) (by simp), trivial⟩
        refine hK11 a w ?_; try clear hK11 K11
        refine wp_seq_k fun K12 hK12 => ?_
        refine reg_q tabOK hk hh [(1, .int .i64 ((i : Int) + 1))] [0, 3, 4, 5, 6, 7, 8, 9, 10, 11] rfl ?_ (fun a hk => ?_)
        · exact ⟨ob_eq tabOK rfl (eq_i64 (by omega)), trivial⟩
        refine hK12 a w ?_; try clear hK12 K12
        refine wp_seq_k fun K13 hK13 => ?_
        refine reg_q tabOK hk hh [(1, .int .i64 ((n : Int) + 1))] [0, 3, 4, 5, 6, 7, 8, 9, 10, 11] rfl ?_ (fun a hk => ?_)
        · exact ⟨ob_eq tabOK rfl (eq_i64 (by omega)), trivial⟩
        refine hK13 a w ?_; try clear hK13 K13
        refine wp_seq_k fun K14 hK14 => ?_
        refine wp_seq_k fun K15 hK15 => ?_
        by_cases c6 : (s.take i).drop p = []
        · refine reg_q tabOK hk hh [(1, .bool true)] [0, 3, 4, 5, 6, 7, 8, 9, 10, 11, 48] rfl ?_ (fun a hk => ?_)
          · exact ⟨ob_eq tabOK rfl (v_et c6), trivial⟩
          refine hK15 a w ?_; try clear hK15 K15
          refine code_cond hk rfl (fun _ => ?_) (fun h => by cases h)
          refine wp_exit ?_
          refine then_exit ?_
          refine blk_out ?_
          refine hK8 a w ?_; try clear hK8 K8
          refine reg_q tabOK hk hh [(1, .int .i64 ((i : Int) + 1))] [0, 3, 4, 5, 6, 7, 8, 9, 10] rfl ?_ (fun a hk => ?_)
          · exact ⟨ob_eq tabOK rfl (eq_i64 (by omega)), trivial⟩
          refine then_nm ?_
          exact ⟨_, _, _, ⟨i + 1, i + 1, n + 1, k, mb, seen, u1, u2, rfl, rfl, (by omega), (by omega), (by omega), (by omega), (by omega), hq1, (pv.empty hq2 hq3 c6), rfl⟩, (by simp only [id]; omega), hk.keep [0, 3, 4, 5, 6, 7, 8, 9, 10] rfl, hh⟩
        · refine reg_q tabOK hk hh [(1, .bool false)] [0, 3, 4, 5, 6, 7, 8, 9, 10, 11, 48] rfl ?_ (fun a hk => ?_)
          · exact ⟨ob_eq tabOK rfl (v_ef c6), trivial⟩
          refine hK15 a w ?_; try clear hK15 K15
          refine code_cond hk rfl (fun c7 => ?_) (fun c7 => ?_)
          · replace c7 : (seen : Int) ≥ 400 := (of_decide_eq_true c7)
            refine wp_exit ?_
            refine then_exit ?_
            refine blk_out ?_
            refine hK8 a w ?_; try clear hK8 K8
            refine reg_q tabOK hk hh [(1, .int .i64 ((i : Int) + 1))] [0, 3, 4, 5, 6, 7, 8, 9, 10] rfl ?_ (fun a hk => ?_)
            · exact ⟨ob_eq tabOK rfl (eq_i64 (by omega)), trivial⟩
            refine then_nm ?_
            exact ⟨_, _, _, ⟨i + 1, i + 1, n + 1, k, mb, seen, u1, u2, rfl, rfl, (by omega), (by omega), (by omega), (by omega), (by omega), hq1, (pv.full (by omega) c7), rfl⟩, (by simp only [id]; omega), hk.keep [0, 3, 4, 5, 6, 7, 8, 9, 10] rfl, hh⟩
          · replace c7 : ¬ ((seen : Int) ≥ 400) := (of_decide_eq_false c7)
            refine wp_skip ?_
            refine hK14 a w ?_; try clear hK14 K14
            refine wp_seq_k fun K16 hK16 => ?_
            refine reg_q tabOK hk hh [(1, .int .i64 ((seen : Int) + 1))] [0, 3, 4, 5, 6, 7, 8, 9, 10, 11] rfl ?_ (fun a hk => ?_)
            · exact ⟨ob_eq tabOK rfl (eq_i64 (by omega)), trivial⟩
            refine hK16 a w ?_; try clear hK16 K16
            refine wp_seq_k fun K17 hK17 => ?_
            refine wp_region_lit ?_
            refine seq_q tabOK (i := 0) (stop := 1) hk hh [] rfl trivial (fun a hk => ?_)
            refine seq_eff hk hh rfl rfl (eff_call Tryz.func16 rfl rfl rfl rfl (fun w hh => lline_spec ((s.take i).drop p) (by first | exact hs | exact hw0 _ | omega) σ w _ hh)) (fun v L a w hp hk hh => ?_)
            obtain ⟨x8, ok9, rfl, hL, hlx8, hzx8⟩ := hp; rw [hL] at hh; clear hL
            refine seq_q tabOK (i := 2) (stop := 5) hk hh [] rfl trivial (fun a hk => ?_)
            refine seq_eff hk hh rfl rfl (eff_alloc tabOK rfl) (fun v L a w hp hk hh => ?_)
            obtain ⟨b10, rfl, hL⟩ := hp; rw [hL] at hh; clear hL
            refine seq_eff hk hh rfl rfl (eff_store tabOK 0 rfl rfl rfl rfl rfl rfl rfl (by simp)) (fun v L a w hp hk hh => ?_)
            obtain ⟨rfl, hL⟩ := hp; rw [hL] at hh; clear hL
            refine rest_q tabOK (i := 7) hk hh [] [0, 3, 4, 5, 6, 7, 8, 9, 10, 12, 13] rfl trivial (fun a hk => ?_)
            refine hK17 a w ?_; try clear hK17 K17
            refine wp_seq_k fun K18 hK18 => ?_
            refine reg_q tabOK hk hh [] [0, 3, 4, 5, 6, 7, 8, 9, 10, 12, 56] rfl trivial (fun a hk => ?_)
            refine hK18 a w ?_; try clear hK18 K18
            refine code_cond hk rfl (fun c11 => ?_) (fun c11 => ?_)
            · replace c11 : ok9 = true := c11
              refine wp_seq_k fun K19 hK19 => ?_
              refine wp_seq_k fun K20 hK20 => ?_
              obtain ⟨hr1, hr2, hr3⟩ := pv.act hq2 hq3 c6 c7 (by rw [hlx8, if_pos c11])
              by_cases c12 : (k : Int) ≥ ((parseO s).1.length : Int)
              · exfalso; omega
              · have hx := own_ne (hh.at_ 1 rfl) (by omega)
                clear hh; obtain ⟨b13, cap14, sp15, hu, hcap14, hH⟩ := hx; subst hu; have hh := hH; clear hH
                refine reg_d tabOK (by kernel_rfl) hk hh [] [0, 3, 4, 5, 6, 7, 8, 9, 10, 68] rfl 0 [(3, .bool false), (7, .pointer (some ⟨b13, k * 5, none⟩)), (8, .agg ⟨[.int .i64 (((parseO s).1.getD k zA).k), .int .i64 (((parseO s).1.getD k zA).a), .int .i64 (((parseO s).1.getD k zA).b), .int .i64 (((parseO s).1.getD k zA).n), S (((parseO s).1.getD k zA).s)]⟩), (9, .agg ⟨[.int .i64 x8.k, .int .i64 x8.a, .int .i64 x8.b, .int .i64 x8.n, S x8.s]⟩), (10, .bool (!(decide (((parseO s).1.getD k zA) = x8))))] ?_
                refine chain_fin rfl ?_ (fun a w hk hh => ?_)
                · exact ⟨ob_eq tabOK rfl (v_df c12), ob_indexAddr tabOK (k * 5) rfl rfl rfl rfl (by omega) (by omega) (by show 0 + ((k : Int) : Int).toNat * 5 = k * 5; omega), ob_loadN tabOK 0 rfl rfl rfl rfl (acts_at (by omega)), ob_loadN tabOK 1 rfl rfl rfl rfl rfl, ob_conv (ob_neS tabOK eqOK rfl rfl rfl rfl) (act_ne ((parseO s).1.getD k zA) x8), trivial⟩
                refine hK20 a w ?_; try clear hK20 K20
                refine code_cond hk rfl (fun c16 => ?_) (fun c16 => ?_)
                · replace c16 : ¬ (((parseO s).1.getD k zA) = x8) := (of_decide_eq_false (c_it c16))
                  exact absurd hr2 c16
                · replace c16 : ((parseO s).1.getD k zA) = x8 := (of_decide_eq_true (c_if c16))
                  refine wp_skip ?_
                  refine hK19 a w ?_; try clear hK19 K19
                  refine reg_q tabOK hk hh [(1, .int .i64 ((k : Int) + 1))] [0, 3, 4, 5, 6, 7, 8, 9, 10] rfl ?_ (fun a hk => ?_)
                  · exact ⟨ob_eq tabOK rfl (eq_i64 (by omega)), trivial⟩
                  refine blk_nm ?_
                  refine hK8 a w ?_; try clear hK8 K8
                  refine reg_q tabOK hk hh [(1, .int .i64 ((i : Int) + 1))] [0, 3, 4, 5, 6, 7, 8, 9, 10] rfl ?_ (fun a hk => ?_)
                  · exact ⟨ob_eq tabOK rfl (eq_i64 (by omega)), trivial⟩
                  replace hh := own_again hcap14 (hh.at_ 0 rfl)
                  replace hh := (hh.at_ 1 rfl).drop
                  refine then_nm ?_
                  exact ⟨_, _, _, ⟨i + 1, i + 1, n + 1, k + 1, mb, seen + 1, (.slice (some ⟨b13, 0, none⟩) ((parseO s).1.length) cap14), u2, rfl, rfl, (by omega), (by omega), (by omega), (by omega), (by omega), hq1, hr3, rfl⟩, (by simp only [id]; omega), hk.keep [0, 3, 4, 5, 6, 7, 8, 9, 10] rfl, hh⟩
            · replace c11 : ¬ (ok9 = true) := (by simp [c11])
              refine wp_seq_k fun K21 hK21 => ?_
              refine wp_seq_k fun K22 hK22 => ?_
              obtain ⟨hr1, hr2, hr3⟩ := pv.none hq2 hq3 c6 c7 (by rw [hlx8, if_neg c11])
              by_cases c17 : (mb : Int) ≥ ((parseO s).2.length : Int)
              · exfalso; omega
              · have hx := own_ne (hh.at_ 2 rfl) (by omega)
                clear hh; obtain ⟨b18, cap19, sp20, hu, hcap19, hH⟩ := hx; subst hu; have hh := hH; clear hH
                refine reg_q tabOK hk hh [(3, .bool false), (7, .pointer (some ⟨b18, mb, none⟩)), (8, .int .i64 ((parseO s).2.getD mb 0))] [0, 3, 4, 5, 6, 7, 8, 9, 10, 82] rfl ?_ (fun a hk => ?_)
                · exact ⟨ob_eq tabOK rfl (v_df c17), ob_indexAddr tabOK (mb) rfl rfl rfl rfl (by omega) (by omega) (by show 0 + ((mb : Int) : Int).toNat * 1 = mb; omega), ob_load tabOK 0 rfl rfl rfl rfl (ints_at (by omega)), trivial⟩
                refine hK22 a w ?_; try clear hK22 K22
                refine code_cond hk rfl (fun c21 => ?_) (fun c21 => ?_)
                · replace c21 : ¬ ((parseO s).2.getD mb 0 = (n : Int) + 1) := (c_nt c21)
                  exact absurd (by omega) c21
                · replace c21 : (parseO s).2.getD mb 0 = (n : Int) + 1 := (c_nf c21)
                  refine wp_skip ?_
                  refine hK21 a w ?_; try clear hK21 K21
                  refine reg_q tabOK hk hh [(1, .int .i64 ((mb : Int) + 1))] [0, 3, 4, 5, 6, 7, 8, 9, 10] rfl ?_ (fun a hk => ?_)
                  · exact ⟨ob_eq tabOK rfl (eq_i64 (by omega)), trivial⟩
                  refine blk_nm ?_
                  refine hK8 a w ?_; try clear hK8 K8
                  refine reg_q tabOK hk hh [(1, .int .i64 ((i : Int) + 1))] [0, 3, 4, 5, 6, 7, 8, 9, 10] rfl ?_ (fun a hk => ?_)
                  · exact ⟨ob_eq tabOK rfl (eq_i64 (by omega)), trivial⟩
                  replace hh := own_again hcap19 (hh.at_ 0 rfl)
                  replace hh := (hh.at_ 1 rfl).drop
                  replace hh := hh.picks [1, 0] rfl
                  refine then_nm ?_
                  exact ⟨_, _, _, ⟨i + 1, i + 1, n + 1, k, mb + 1, seen + 1, u1, (.slice (some ⟨b18, 0, none⟩) ((parseO s).2.length) cap19), rfl, rfl, (by omega), (by omega), (by omega), (by omega), (by omega), hq1, hr3, rfl⟩, (by simp only [id]; omega), hk.keep [0, 3, 4, 5, 6, 7, 8, 9, 10] rfl, hh⟩
    · refine reg_q tabOK hk hh [(3, .bool false)] [0, 3, 4, 5, 6, 7, 8, 9, 10, 34] rfl ?_ (fun a hk => ?_)
      · exact ⟨ob_eq tabOK rfl (v_df c4), trivial⟩
      refine hK10 a w ?_; try clear hK10 K10
      refine code_cond hk rfl (fun h => by cases h) (fun _ => ?_)
      refine wp_skip ?_
      refine hK9 a w ?_; try clear hK9 K9
      refine wp_seq_k fun K23 hK23 => ?_
      obtain ⟨hq1, hq2, hq3⟩ := sv.next (by omega) (fun h => absurd h (by omega))
      have hxl : ((s.take i).drop p).length ≤ s.length := by rw [List.length_drop, List.length_take]; omega
      refine reg_q tabOK hk hh [(3, S ((s.take i).drop p))] [0, 3, 4, 5, 7, 8, 9, 10, 11] rfl ?_ (fun a hk => ?_)
      · exact ⟨ob_slice_str tabOK rfl rfl rfl rfl (by omega) (by omega) (by omega) (by simp), trivial⟩
      refine hK23 a w ?_; try clear hK23 K23
      refine wp_seq_k fun K24 hK24 => ?_
      refine reg_q tabOK hk hh [(1, .int .i64 ((i : Int) + 1))] [0, 3, 4, 5, 6, 7, 8, 9, 10, 11] rfl ?_ (fun a hk => ?_)
      · exact ⟨ob_eq tabOK rfl (eq_i64 (by omega)), trivial⟩
      refine hK24 a w ?_; try clear hK24 K24
      refine wp_seq_k fun K25 hK25 => ?_
      refine reg_q tabOK hk hh [(1, .int .i64 ((n : Int) + 1))] [0, 3, 4, 5, 6, 7, 8, 9, 10, 11] rfl ?_ (fun a hk => ?_)
      · exact ⟨ob_eq tabOK rfl (eq_i64 (by omega)), trivial⟩
      refine hK25 a w ?_; try clear hK25 K25
      refine wp_seq_k fun K26 hK26 => ?_
      refine wp_seq_k fun K27 hK27 => ?_
      by_cases c22 : (s.take i).drop p = []
      · refine reg_q tabOK hk hh [(1, .bool true)] [0, 3, 4, 5, 6, 7, 8, 9, 10, 11, 48] rfl ?_ (fun a hk => ?_)
        · exact ⟨ob_eq tabOK rfl (v_et c22), trivial⟩
        refine hK27 a w ?_; try clear hK27 K27
        refine code_cond hk rfl (fun _ => ?_) (fun h => by cases h)
        refine wp_exit ?_
        refine then_exit ?_
        refine blk_out ?_
        refine hK8 a w ?_; try clear hK8 K8
        refine reg_q tabOK hk hh [(1, .int .i64 ((i : Int) + 1))] [0, 3, 4, 5, 6, 7, 8, 9, 10] rfl ?_ (fun a hk => ?_)
        · exact ⟨ob_eq tabOK rfl (eq_i64 (by omega)), trivial⟩
        refine then_nm ?_
        exact ⟨_, _, _, ⟨i + 1, i + 1, n + 1, k, mb, seen, u1, u2, rfl, rfl, (by omega), (by omega), (by omega), (by omega), (by omega), hq1, (pv.empty hq2 hq3 c22), rfl⟩, (by simp only [id]; omega), hk.keep [0, 3, 4, 5, 6, 7, 8, 9, 10] rfl, hh⟩
      · refine reg_q tabOK hk hh [(1, .bool false)] [0, 3, 4, 5, 6, 7, 8, 9, 10, 11, 48] rfl ?_ (fun a hk => ?_)
        · exact ⟨ob_eq tabOK rfl (v_ef c22), trivial⟩
        refine hK27 a w ?_; try clear hK27 K27
        refine code_cond hk rfl (fun c23 => ?_) (fun c23 => ?_)
        · replace c23 : (seen : Int) ≥ 400 := (of_decide_eq_true c23)
          refine wp_exit ?_
          refine then_exit ?_
          refine blk_out ?_
          refine hK8 a w ?_; try clear hK8 K8
          refine reg_q tabOK hk hh [(1, .int .i64 ((i : Int) + 1))] [0, 3, 4, 5, 6, 7, 8, 9, 10] rfl ?_ (fun a hk => ?_)
          · exact ⟨ob_eq tabOK rfl (eq_i64 (by omega)), trivial⟩
          refine then_nm ?_
          exact ⟨_, _, _, ⟨i + 1, i + 1, n + 1, k, mb, seen, u1, u2, rfl, rfl, (by omega), (by omega), (by omega), (by omega), (by omega), hq1, (pv.full (by omega) c23), rfl⟩, (by simp only [id]; omega), hk.keep [0, 3, 4, 5, 6, 7, 8, 9, 10] rfl, hh⟩
        · replace c23 : ¬ ((seen : Int) ≥ 400) := (of_decide_eq_false c23)
          refine wp_skip ?_
          refine hK26 a w ?_; try clear hK26 K26
          refine wp_seq_k fun K28 hK28 => ?_
          refine reg_q tabOK hk hh [(1, .int .i64 ((seen : Int) + 1))] [0, 3, 4, 5, 6, 7, 8, 9, 10, 11] rfl ?_ (fun a hk => ?_)
          · exact ⟨ob_eq tabOK rfl (eq_i64 (by omega)), trivial⟩
          refine hK28 a w ?_; try clear hK28 K28
          refine wp_seq_k fun K29 hK29 => ?_
          refine wp_region_lit ?_
          refine seq_q tabOK (i := 0) (stop := 1) hk hh [] rfl trivial (fun a hk => ?_)
          refine seq_eff hk hh rfl rfl (eff_call Tryz.func16 rfl rfl rfl rfl (fun w hh => lline_spec ((s.take i).drop p) (by first | exact hs | exact hw0 _ | omega) σ w _ hh)) (fun v L a w hp hk hh => ?_)
          obtain ⟨x24, ok25, rfl, hL, hlx24, hzx24⟩ := hp; rw [hL] at hh; clear hL
          refine seq_q tabOK (i := 2) (stop := 5) hk hh [] rfl trivial (fun a hk => ?_)
          refine seq_eff hk hh rfl rfl (eff_alloc tabOK rfl) (fun v L a w hp hk hh => ?_)
          obtain ⟨b26, rfl, hL⟩ := hp; rw [hL] at hh; clear hL
          refine seq_eff hk hh rfl rfl (eff_store tabOK 0 rfl rfl rfl rfl rfl rfl rfl (by simp)) (fun v L a w hp hk hh => ?_)
          obtain ⟨rfl, hL⟩ := hp; rw [hL] at hh; clear hL
          refine rest_q tabOK (i := 7) hk hh [] [0, 3, 4, 5, 6, 7, 8, 9, 10, 12, 13] rfl trivial (fun a hk => ?_)
          refine hK29 a w ?_; try clear hK29 K29
          refine wp_seq_k fun K30 hK30 => ?_
          refine reg_q tabOK hk hh [] [0, 3, 4, 5, 6, 7, 8, 9, 10, 12, 56] rfl trivial (fun a hk => ?_)
          refine hK30 a w ?_; try clear hK30 K30
          refine code_cond hk rfl (fun c27 => ?_) (fun c27 => ?_)
          · replace c27 : ok25 = true := c27
            refine wp_seq_k fun K31 hK31 => ?_
            refine wp_seq_k fun K32 hK32 => ?_
            obtain ⟨hr1, hr2, hr3⟩ := pv.act hq2 hq3 c22 c23 (by rw [hlx24, if_pos c27])
            by_cases c28 : (k : Int) ≥ ((parseO s).1.length : Int)
            · exfalso; omega
            · have hx := own_ne (hh.at_ 1 rfl) (by omega)
              clear hh; obtain ⟨b29, cap30, sp31, hu, hcap30, hH⟩ := hx; subst hu; have hh := hH; clear hH
              refine reg_d tabOK (by kernel_rfl) hk hh [] [0, 3, 4, 5, 6, 7, 8, 9, 10, 68] rfl 0 [(3, .bool false), (7, .pointer (some ⟨b29, k * 5, none⟩)), (8, .agg ⟨[.int .i64 (((parseO s).1.getD k zA).k), .int .i64 (((parseO s).1.getD k zA).a), .int .i64 (((parseO s).1.getD k zA).b), .int .i64 (((parseO s).1.getD k zA).n), S (((parseO s).1.getD k zA).s)]⟩), (9, .agg ⟨[.int .i64 x24.k, .int .i64 x24.a, .int .i64 x24.b, .int .i64 x24.n, S x24.s]⟩), (10, .bool (!(decide (((parseO s).1.getD k zA) = x24))))] ?_
              refine chain_fin rfl ?_ (fun a w hk hh => ?_)
              · exact ⟨ob_eq tabOK rfl (v_df c28), ob_indexAddr tabOK (k * 5) rfl rfl rfl rfl (by omega) (by omega) (by show 0 + ((k : Int) : Int).toNat * 5 = k * 5; omega), ob_loadN tabOK 0 rfl rfl rfl rfl (acts_at (by omega)), ob_loadN tabOK 1 rfl rfl rfl rfl rfl, ob_conv (ob_neS tabOK eqOK rfl rfl rfl rfl) (act_ne ((parseO s).1.getD k zA) x24), trivial⟩
              refine hK32 a w ?_; try clear hK32 K32
              refine code_cond hk rfl (fun c32 => ?_) (fun c32 => ?_)
              · replace c32 : ¬ (((parseO s).1.getD k zA) = x24) := (of_decide_eq_false (c_it c32))
                exact absurd hr2 c32
              · replace c32 : ((parseO s).1.getD k zA) = x24 := (of_decide_eq_true (c_if c32))
                refine wp_skip ?_
                refine hK31 a w ?_; try clear hK31 K31
                refine reg_q tabOK hk hh [(1, .int .i64 ((k : Int) + 1))] [0, 3, 4, 5, 6, 7, 8, 9, 10] rfl ?_ (fun a hk => ?_)
                · exact ⟨ob_eq tabOK rfl (eq_i64 (by omega)), trivial⟩
                refine blk_nm ?_
                refine hK8 a w ?_; try clear hK8 K8
                refine reg_q tabOK hk hh [(1, .int .i64 ((i : Int) + 1))] [0, 3, 4, 5, 6, 7, 8, 9, 10] rfl ?_ (fun a hk => ?_)
                · exact ⟨ob_eq tabOK rfl (eq_i64 (by omega)), trivial⟩
                replace hh := own_again hcap30 (hh.at_ 0 rfl)
                replace hh := (hh.at_ 1 rfl).drop
                refine then_nm ?_
                exact ⟨_, _, _, ⟨i + 1, i + 1, n + 1, k + 1, mb, seen + 1, (.slice (some ⟨b29, 0, none⟩) ((parseO s).1.length) cap30), u2, rfl, rfl, (by omega), (by omega), (by omega), (by omega), (by omega), hq1, hr3, rfl⟩, (by simp only [id]; omega), hk.keep [0, 3, 4, 5, 6, 7, 8, 9, 10] rfl, hh⟩
          · replace c27 : ¬ (ok25 = true) := (by simp [c27])
            refine wp_seq_k fun K33 hK33 => ?_
            refine wp_seq_k fun K34 hK34 => ?_
            obtain ⟨hr1, hr2, hr3⟩ := pv.none hq2 hq3 c22 c23 (by rw [hlx24, if_neg c27])
            by_cases c33 : (mb : Int) ≥ ((parseO s).2.length : Int)
            · exfalso; omega
            · have hx := own_ne (hh.at_ 2 rfl) (by omega)
              clear hh; obtain ⟨b34, cap35, sp36, hu, hcap35, hH⟩ := hx; subst hu; have hh := hH; clear hH
              refine reg_q tabOK hk hh [(3, .bool false), (7, .pointer (some ⟨b34, mb, none⟩)), (8, .int .i64 ((parseO s).2.getD mb 0))] [0, 3, 4, 5, 6, 7, 8, 9, 10, 82] rfl ?_ (fun a hk => ?_)
              · exact ⟨ob_eq tabOK rfl (v_df c33), ob_indexAddr tabOK (mb) rfl rfl rfl rfl (by omega) (by omega) (by show 0 + ((mb : Int) : Int).toNat * 1 = mb; omega), ob_load tabOK 0 rfl rfl rfl rfl (ints_at (by omega)), trivial⟩
              refine hK34 a w ?_; try clear hK34 K34
              refine code_cond hk rfl (fun c37 => ?_) (fun c37 => ?_)
              · replace c37 : ¬ ((parseO s).2.getD mb 0 = (n : Int) + 1) := (c_nt c37)
                exact absurd (by omega) c37
              · replace c37 : (parseO s).2.getD mb 0 = (n : Int) + 1 := (c_nf c37)
                refine wp_skip ?_
                refine hK33 a w ?_; try clear hK33 K33
                refine reg_q tabOK hk hh [(1, .int .i64 ((mb : Int) + 1))] [0, 3, 4, 5, 6, 7, 8, 9, 10] rfl ?_ (fun a hk => ?_)
                · exact ⟨ob_eq tabOK rfl (eq_i64 (by omega)), trivial⟩
                refine blk_nm ?_
                refine hK8 a w ?_; try clear hK8 K8
                refine reg_q tabOK hk hh [(1, .int .i64 ((i : Int) + 1))] [0, 3, 4, 5, 6, 7, 8, 9, 10] rfl ?_ (fun a hk => ?_)
                · exact ⟨ob_eq tabOK rfl (eq_i64 (by omega)), trivial⟩
                replace hh := own_again hcap35 (hh.at_ 0 rfl)
                replace hh := (hh.at_ 1 rfl).drop
                replace hh := hh.picks [1, 0] rfl
                refine then_nm ?_
                exact ⟨_, _, _, ⟨i + 1, i + 1, n + 1, k, mb + 1, seen + 1, u1, (.slice (some ⟨b34, 0, none⟩) ((parseO s).2.length) cap35), rfl, rfl, (by omega), (by omega), (by omega), (by omega), (by omega), hq1, hr3, rfl⟩, (by simp only [id]; omega), hk.keep [0, 3, 4, 5, 6, 7, 8, 9, 10] rfl, hh⟩
  · replace c3 : ¬ ((i : Int) ≤ (s.length : Int)) := (of_decide_eq_false c3)
    refine wp_exit ?_
    refine then_exit ?_
    refine then_exit ?_
    refine blk_out ?_
    refine hK4 a w ?_; try clear hK4 K4
    refine wp_seq_k fun K35 hK35 => ?_
    obtain ⟨hf1, hf2⟩ := pv.fin (sv.fin (by omega))
    by_cases c38 : (k : Int) = ((parseO s).1.length : Int)
    · refine reg_q tabOK hk hh [(2, .int .i64 ((parseO s).1.length : Int)), (3, .bool true), (7, .int .i64 ((parseO s).2.length : Int))] [2] rfl ?_ (fun a hk => ?_)
      · exact ⟨ob_lenOwn tabOK 0 rfl rfl rfl, ob_eq tabOK rfl (v_et c38), ob_lenOwn tabOK 1 rfl rfl rfl, trivial⟩
      refine hK35 a w ?_; try clear hK35 K35
      refine wp_ret ?_
      refine fin_ret hk (show Tryz.f10.results = ⟨[.tmp 2]⟩ from rfl) (by exact (res_tmp hk rfl .nil)) ?_
      replace hh := (hh.at_ 0 rfl).drop
      replace hh := (hh.at_ 0 rfl).drop
      exact ⟨_, _, rfl, ⟨v_et (by omega), rfl⟩, hh⟩
    · exfalso; omega

end Go.Hop
/- What is proved here: what a function of the text computes. Printed by program. -/
namespace Go.Hop
open Go.Proofs
set_option maxRecDepth 4000
theorem same_spec (A B : List Int) (u : Value) (b2 c2 : Nat) (sp2 : List Value) (hA : A.length ≤ 1000000000) (hB : B.length ≤ 1000000000) (σ : Sg) (w : World) (R : List Assn) (hh : Holds σ w ([Own 3 1 u A.length (intC A), row b2 3 (intC B ++ sp2)] ++ R)) :
    Calls Tryz.prog 21 ⟨[u, .slice (some ⟨b2, 0, none⟩) B.length c2]⟩ w fun e w' => ∃ v L', e = .returned v ∧ (v = .bool (decide (A = B)) ∧ L' = Own 3 1 u A.length (intC A) :: row b2 3 (intC B ++ sp2) :: R) ∧ Holds σ w' L' := by
  refine enter Tryz.func21 rfl Tryz.ntmps21 rfl fun a hk => ?_
  refine wp_seq_k fun K1 hK1 => ?_
  refine reg_q tabOK hk hh [] [0, 1] rfl trivial (fun a hk => ?_)
  refine hK1 a w ?_; try clear hK1 K1
  refine wp_seq_k fun K2 hK2 => ?_
  refine wp_seq_k fun K3 hK3 => ?_
  refine reg_q tabOK hk hh [(1, .int .i64 (A.length : Int))] [0, 1, 10] rfl ?_ (fun a hk => ?_)
  · exact ⟨ob_lenOwn tabOK 0 rfl rfl rfl, trivial⟩
  refine hK3 a w ?_; try clear hK3 K3
  refine code_cond hk rfl (fun c1 => ?_) (fun c1 => ?_)
  · replace c1 : ¬ ((A.length : Int) = (B.length : Int)) := (c_nt c1)
    refine wp_seq_k fun K4 hK4 => ?_
    refine reg_q tabOK hk hh [] [0, 1, 4] rfl trivial (fun a hk => ?_)
    refine hK4 a w ?_; try clear hK4 K4
    refine wp_ret ?_
    refine then_ret ?_
    refine fin_ret hk (show Tryz.f21.results = ⟨[.tmp 4]⟩ from rfl) (by exact (res_tmp hk rfl .nil)) ?_
    refine ⟨_, _, rfl, ⟨?_, rfl⟩, hh⟩
    exact (v_df (fun h => c1 (by rw [h]))).symm
  · replace c1 : (A.length : Int) = (B.length : Int) := (c_nf c1)
    refine wp_skip ?_
    refine hK2 a w ?_; try clear hK2 K2
    refine wp_seq_k fun K5 hK5 => ?_
    refine wp_seq_k fun K6 hK6 => ?_
    refine reg_q tabOK hk hh [] [0, 1, 5] rfl trivial (fun a hk => ?_)
    refine hK6 a w ?_; try clear hK6 K6
    refine wp_block ?_
    replace hk := hk.keep [0, 1, 5] rfl
    refine code_loop (α := Nat) (fun (m : Nat) (E : Env) (L : List Assn) => ∃ (i : Nat), E = [(0, u), (1, .slice (some ⟨b2, 0, none⟩) B.length c2), (5, .int .i64 (i : Int))] ∧ L = [Own 3 1 u A.length (intC A), row b2 3 (intC B ++ sp2)] ++ R ∧ (i ≤ A.length) ∧ (∀ j, j < i → A.getD j 0 = B.getD j 0) ∧ m = A.length - i) id _ hk hh ⟨0, rfl, rfl, (by omega), (fun j hj => by omega), rfl⟩ ?_
    clear hk hh
    rintro _ _ _ a w ⟨i, rfl, hL, hi, inv, rfl⟩ hk hh; rw [hL] at hh; clear hL
    refine wp_seq_k fun K7 hK7 => ?_
    refine wp_seq_k fun K8 hK8 => ?_
    refine reg_q tabOK hk hh [(2, .int .i64 (A.length : Int))] [0, 1, 5, 14] rfl ?_ (fun a hk => ?_)
    · exact ⟨ob_lenOwn tabOK 0 rfl rfl rfl, trivial⟩
    refine hK8 a w ?_; try clear hK8 K8
    refine code_cond hk rfl (fun c2 => ?_) (fun c2 => ?_)
    · replace c2 : (i : Int) < (A.length : Int) := (of_decide_eq_true c2)
      refine wp_skip ?_
      refine hK7 a w ?_; try clear hK7 K7
      refine wp_seq_k fun K9 hK9 => ?_
      refine wp_block ?_
      refine wp_seq_k fun K10 hK10 => ?_
      have hx := own_ne (hh.at_ 0 rfl) (by omega)
      clear hh; obtain ⟨b3, cap4, sp5, hu, hcap4, hh⟩ := hx; subst hu
      refine reg_d tabOK (by kernel_rfl) hk hh [] [0, 1, 5, 25] rfl 0 [(2, .pointer (some ⟨b3, i, none⟩)), (3, .int .i64 (A.getD i 0)), (6, .pointer (some ⟨b2, i, none⟩)), (7, .int .i64 (B.getD i 0))] ?_
      refine chain_fin rfl ?_ (fun a w hk hh => ?_)
      · exact ⟨ob_indexAddr tabOK (i) rfl rfl rfl rfl (by omega) (by omega) (by show 0 + ((i : Int) : Int).toNat * 1 = i; omega), ob_load tabOK 0 rfl rfl rfl rfl (ints_at (by omega)), ob_indexAddr tabOK (i) rfl rfl rfl rfl (by omega) (by omega) (by show 0 + ((i : Int) : Int).toNat * 1 = i; omega), ob_load tabOK 1 rfl rfl rfl rfl (ints_at (by omega)), trivial⟩
      refine hK10 a w ?_; try clear hK10 K10
      refine code_cond hk rfl (fun c6 => ?_) (fun c6 => ?_)
      · replace c6 : ¬ (A.getD i 0 = B.getD i 0) := (c_nt c6)
        refine wp_seq_k fun K11 hK11 => ?_
        refine reg_q tabOK hk hh [] [0, 1, 4, 5] rfl trivial (fun a hk => ?_)
        refine hK11 a w ?_; try clear hK11 K11
        refine wp_ret ?_
        refine blk_ret ?_
        refine then_ret ?_
        refine then_ret ?_
        refine blk_ret ?_
        refine then_ret ?_
        refine fin_ret hk (show Tryz.f21.results = ⟨[.tmp 4]⟩ from rfl) (by exact (res_tmp hk rfl .nil)) ?_
        replace hh := own_again hcap4 (hh.at_ 0 rfl)
        refine ⟨_, _, rfl, ⟨?_, rfl⟩, hh⟩
        exact (v_df (fun h => c6 (by rw [h]))).symm
      · replace c6 : A.getD i 0 = B.getD i 0 := (c_nf c6)
        refine wp_skip ?_
        refine blk_nm ?_
        refine hK9 a w ?_; try clear hK9 K9
        refine reg_q tabOK hk hh [(1, .int .i64 ((i : Int) + 1))] [0, 1, 5] rfl ?_ (fun a hk => ?_)
        · exact ⟨ob_eq tabOK rfl (eq_i64 (by omega)), trivial⟩
        replace hh := own_again hcap4 (hh.at_ 0 rfl)
        refine then_nm ?_
        exact ⟨_, _, _, ⟨i + 1, rfl, rfl, (by omega), (fun j hj => (Nat.lt_succ_iff_lt_or_eq.1 hj).elim (fun h => inv j h) (fun h => by rw [h]; exact c6)), rfl⟩, (by simp only [id]; omega), hk.keep [0, 1, 5] rfl, hh⟩
    · replace c2 : ¬ ((i : Int) < (A.length : Int)) := (of_decide_eq_false c2)
      refine wp_exit ?_
      refine then_exit ?_
      refine then_exit ?_
      refine blk_out ?_
      refine hK5 a w ?_; try clear hK5 K5
      refine wp_seq_k fun K12 hK12 => ?_
      refine reg_q tabOK hk hh [] [4] rfl trivial (fun a hk => ?_)
      refine hK12 a w ?_; try clear hK12 K12
      refine wp_ret ?_
      refine fin_ret hk (show Tryz.f21.results = ⟨[.tmp 4]⟩ from rfl) (by exact (res_tmp hk rfl .nil)) ?_
      refine ⟨_, _, rfl, ⟨?_, rfl⟩, hh⟩
      exact (v_dt (list_ext0 (by omega) inv (by omega))).symm

end Go.Hop
/- What is proved here: what a function of the text computes. Printed by program. -/
namespace Go.Hop
open Go.Proofs
set_option maxRecDepth 4000
theorem run_nil (u : Value) (σ : Sg) (w : World) (R : List Assn) (hh : Holds σ w (R)) :
    Calls Tryz.prog 22 ⟨[.pointer none, u]⟩ w fun e w' => ∃ v L', e = .returned v ∧ (v = .slice none 0 0 ∧ L' = R) ∧ Holds σ w' L' := by
  refine enter Tryz.func22 rfl Tryz.ntmps22 rfl fun a hk => ?_
  refine wp_seq_k fun K1 hK1 => ?_
  refine reg_q tabOK hk hh [] [0, 1] rfl trivial (fun a hk => ?_)
  refine hK1 a w ?_; try clear hK1 K1
  refine wp_seq_k fun K2 hK2 => ?_
  refine reg_q tabOK hk hh [] [0, 1, 5] rfl trivial (fun a hk => ?_)
  refine hK2 a w ?_; try clear hK2 K2
  refine wp_seq_k fun K3 hK3 => ?_
  refine wp_seq_k fun K4 hK4 => ?_
  refine reg_q tabOK hk hh [] [0, 1, 5, 9] rfl trivial (fun a hk => ?_)
  refine hK4 a w ?_; try clear hK4 K4
  refine code_cond hk rfl (fun _ => ?_) (fun h => by cases h)
  refine wp_seq_k fun K5 hK5 => ?_
  refine reg_q tabOK hk hh [] [0, 1, 4, 5] rfl trivial (fun a hk => ?_)
  refine hK5 a w ?_; try clear hK5 K5
  refine wp_ret ?_
  refine then_ret ?_
  refine fin_ret hk (show Tryz.f22.results = ⟨[.tmp 4]⟩ from rfl) (by exact (res_tmp hk rfl .nil)) ?_
  exact ⟨_, _, rfl, ⟨rfl, rfl⟩, hh⟩

end Go.Hop
/- What is proved here: what a function of the text computes. Printed by program. -/
namespace Go.Hop
open Go.Proofs
set_option maxRecDepth 4000
theorem known_spec  {σ : Sg} {w : World} {R : List Assn} (hR : Lay R) (hh : Holds σ w (R)) :
    Calls Tryz.prog 11 ⟨[]⟩ w fun e w' => ∃ v L', e = .returned v ∧ (v = .bool true ∧ L' = R) ∧ Holds σ w' L' := by
  refine enter Tryz.func11 rfl Tryz.ntmps11 rfl fun a hk => ?_
  refine wp_seq_k fun K1 hK1 => ?_
  refine reg_q tabOK hk hh [] [] rfl trivial (fun a hk => ?_)
  refine hK1 a w ?_; try clear hK1 K1
  refine wp_seq_k fun K2 hK2 => ?_
  refine wp_region_lit ?_
  refine seq_eff hk hh rfl rfl (eff_call Tryz.func15 rfl rfl rfl rfl (fun w hh => line_spec [108, 101, 97, 100, 32, 48] (by decide) (by exact hR) hh)) (fun v L a w hp hk hh => ?_)
  obtain ⟨x, ok, rfl, hL, hl, hz⟩ := hp; rw [hL] at hh; clear hL
  obtain ⟨rfl, rfl⟩ := line_known hl line_lead0
  clear hl hz
  refine seq_q tabOK (i := 1) (stop := 4) hk hh [] rfl trivial (fun a hk => ?_)
  refine seq_eff hk hh rfl rfl (eff_alloc tabOK rfl) (fun v L a w hp hk hh => ?_)
  obtain ⟨b1, rfl, hL⟩ := hp; rw [hL] at hh; clear hL
  refine seq_eff hk hh rfl rfl (eff_store tabOK 0 rfl rfl rfl rfl rfl rfl rfl (by simp)) (fun v L a w hp hk hh => ?_)
  obtain ⟨rfl, hL⟩ := hp; rw [hL] at hh; clear hL
  refine rest_q tabOK (i := 6) hk hh [] [1, 2] rfl trivial (fun a hk => ?_)
  refine hK2 a w ?_; try clear hK2 K2
  refine wp_seq_k fun K3 hK3 => ?_
  refine wp_region_lit ?_
  refine seq_eff hk hh rfl rfl (eff_call Tryz.func15 rfl rfl rfl rfl (fun w hh => line_spec [108, 101, 97, 100] (by decide) (by exact (hR.cons _)) hh)) (fun v L a w hp hk hh => ?_)
  obtain ⟨x, ok, rfl, hL, hl, hz⟩ := hp; rw [hL] at hh; clear hL
  obtain ⟨rfl, rfl⟩ := line_unknown hl hz line_lead
  clear hl hz
  refine seq_q tabOK (i := 1) (stop := 4) hk hh [] rfl trivial (fun a hk => ?_)
  refine seq_eff hk hh rfl rfl (eff_alloc tabOK rfl) (fun v L a w hp hk hh => ?_)
  obtain ⟨b2, rfl, hL⟩ := hp; rw [hL] at hh; clear hL
  refine seq_eff hk hh rfl rfl (eff_store tabOK 0 rfl rfl rfl rfl rfl rfl rfl (by simp)) (fun v L a w hp hk hh => ?_)
  obtain ⟨rfl, hL⟩ := hp; rw [hL] at hh; clear hL
  refine rest_q tabOK (i := 6) hk hh [] [1, 2, 4] rfl trivial (fun a hk => ?_)
  refine hK3 a w ?_; try clear hK3 K3
  refine wp_seq_k fun K4 hK4 => ?_
  refine wp_region_lit ?_
  refine seq_eff hk hh rfl rfl (eff_call Tryz.func14 rfl rfl rfl rfl (fun w hh => parse_text knownT (by decide) (by exact ((hR.cons _).cons _)) hh)) (fun v L a w hp hk hh => ?_)
  obtain ⟨u1, u2, rfl, hL⟩ := hp; rw [hL, parse_known] at hh; clear hL
  change Holds σ w (Own 26 5 u1 2 (actC [ingA, tikA]) :: Own 3 1 u2 [(3 : Int)].length (intC [3]) :: _) at hh
  have hx := own_ne (hh.at_ 0 rfl) (by omega)
  clear hh; obtain ⟨b3, cap4, sp5, hu, hcap4, hh⟩ := hx; subst hu
  refine rest_q tabOK (i := 1) hk hh [] [1, 2, 4, 5, 6] rfl trivial (fun a hk => ?_)
  refine hK4 a w ?_; try clear hK4 K4
  refine wp_seq_k fun K5 hK5 => ?_
  refine wp_region_lit ?_
  refine seq_q tabOK (i := 0) (stop := 31) hk hh [(2, .agg ⟨[.int .i64 8, .int .i64 0, .int .i64 0, .int .i64 0, S []]⟩), (4, .bool true), (17, .pointer (some ⟨b3, 0, none⟩)), (19, S [97, 61, 49]), (20, .bool true), (24, .pointer (some ⟨b3, 0, none⟩)), (26, .int .i64 5)] rfl ?_ (fun a hk => ?_)
  · exact ⟨ob_loadN tabOK 3 rfl rfl rfl rfl rfl, ob_conv (ob_eqS tabOK eqOK rfl rfl rfl rfl) ((act_eq (⟨8, 0, 0, 0, []⟩ : ActL) (⟨8, 0, 0, 0, []⟩ : ActL)).trans (v_dt rfl)), ob_indexAddr tabOK (0) rfl rfl rfl rfl (by omega) (by omega) (by show 0 + (0 : Int).toNat * 5 = 0; omega), ob_load tabOK 0 rfl rfl rfl rfl rfl, ob_eq tabOK rfl (v_et rfl), ob_indexAddr tabOK (0) rfl rfl rfl rfl (by omega) (by omega) (by show 0 + (0 : Int).toNat * 5 = 0; omega), ob_load tabOK 0 rfl rfl rfl rfl rfl, trivial⟩
  refine seq_eff hk hh rfl rfl (eff_lit tabOK rfl rfl rfl (by decide) rfl) (fun v L a w hp hk hh => ?_)
  obtain ⟨b6, rfl, hL⟩ := hp; rw [hL] at hh; clear hL
  refine seq_eff hk hh rfl rfl (eff_call Tryz.func21 rfl rfl rfl rfl (fun w hh => same_spec [3] [3] u2 b6 1 [] (by decide) (by decide) σ w _ (hh.picks [2, 0] rfl))) (fun v L a w hp hk hh => ?_)
  obtain ⟨hv, hL⟩ := hp; rw [hL] at hh; clear hL; have hv2 := hv.trans (v_dt rfl); clear hv; subst hv2
  refine seq_q tabOK (i := 33) (stop := 36) hk hh [] rfl trivial (fun a hk => ?_)
  refine seq_eff hk hh rfl rfl (eff_call Tryz.func8 rfl rfl rfl rfl (fun w hh => text_spec ⟨0, 0, 0, 0, []⟩ zero_ok (by exact (((((hR.cons _).cons _).cons _).cons _).cons _)) hh)) (fun v L a w hp hk hh => ?_)
  obtain ⟨hv, hL⟩ := hp; rw [hL] at hh; clear hL; rw [text_zero] at hv; subst hv
  refine seq_q tabOK (i := 37) (stop := 43) hk hh [(37, .bool true), (41, .pointer (some ⟨b3, 0, none⟩)), (42, .agg ⟨[.int .i64 9, .int .i64 1, .int .i64 0, .int .i64 5, S [97, 61, 49]]⟩)] rfl ?_ (fun a hk => ?_)
  · exact ⟨ob_eq tabOK rfl (v_et rfl), ob_indexAddr tabOK (0) rfl rfl rfl rfl (by omega) (by omega) (by show 0 + (0 : Int).toNat * 5 = 0; omega), ob_loadN tabOK 2 rfl rfl rfl rfl rfl, trivial⟩
  refine seq_eff hk hh rfl rfl (eff_call Tryz.func8 rfl rfl rfl rfl (fun w hh => text_spec ingA ing_ok (by exact (((((hR.cons _).cons _).cons _).cons _).cons _)) hh)) (fun v L a w hp hk hh => ?_)
  obtain ⟨hv, hL⟩ := hp; rw [hL] at hh; clear hL; rw [text_ing] at hv; subst hv
  refine seq_q tabOK (i := 44) (stop := 48) hk hh [(44, .bool true)] rfl ?_ (fun a hk => ?_)
  · exact ⟨ob_eq tabOK rfl (v_et rfl), trivial⟩
  refine seq_eff hk hh rfl rfl (eff_call Tryz.func22 rfl rfl rfl rfl (fun w hh => run_nil _ σ w _ hh)) (fun v L a w hp hk hh => ?_)
  obtain ⟨rfl, hL⟩ := hp; rw [hL] at hh; clear hL
  refine rest_q tabOK (i := 49) hk hh [] [0] rfl trivial (fun a hk => ?_)
  refine hK5 a w ?_; try clear hK5 K5
  refine wp_ret ?_
  refine fin_ret hk (show Tryz.f11.results = ⟨[.tmp 0]⟩ from rfl) (by exact (res_tmp hk rfl .nil)) ?_
  replace hh := (hh.at_ 0 rfl).drop
  replace hh := (hh.at_ 0 rfl).drop
  replace hh := (hh.at_ 0 rfl).drop
  replace hh := (hh.at_ 0 rfl).drop
  replace hh := (hh.at_ 0 rfl).drop
  exact ⟨_, _, rfl, ⟨rfl, rfl⟩, hh⟩

end Go.Hop
