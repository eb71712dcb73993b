/- What is proved here: what a function of the text computes. Printed by program. -/
import Derived.Test.YtompaigbpfekhaaGreatDoorWAgain
import Derived.Test.YtompaigbpfekhaaGreatDoorWFtext
import Derived.Test.YtompaigbpfekhaaGreatDoorWForms
namespace Go.Hop
open Go.Proofs
set_option maxRecDepth 4000
theorem text_spec (x : ActL) (hx : ActOK x) {σ : Sg} {w : World} {R : List Assn} (hR : Lay R) (hh : Holds σ w (R)) :
    Calls Tryz.prog 8 ⟨[.agg ⟨[.int .i64 x.k, .int .i64 x.a, .int .i64 x.b, .int .i64 x.n, S x.s]⟩]⟩ w fun e w' => ∃ v L', e = .returned v ∧ (v = S (textO x) ∧ L' = R) ∧ Holds σ w' L' := by
  refine enter Tryz.func8 rfl Tryz.ntmps8 rfl fun a hk => ?_
  refine wp_seq_k fun K1 hK1 => ?_
  refine wp_region_lit ?_
  refine seq_eff hk hh rfl rfl (eff_box rfl rfl) (fun v L a w hp hk hh => ?_)
  obtain ⟨b1, rfl, hL⟩ := hp; rw [hL] at hh; clear hL
  refine rest_q tabOK (i := 1) hk hh [] [1] rfl trivial (fun a hk => ?_)
  refine hK1 a w ?_; try clear hK1 K1
  refine wp_seq_k fun K2 hK2 => ?_
  refine reg_q tabOK hk hh [] [1, 3] rfl trivial (fun a hk => ?_)
  refine hK2 a w ?_; try clear hK2 K2
  refine wp_seq_k fun K3 hK3 => ?_
  refine wp_seq_k fun K4 hK4 => ?_
  refine wp_region_lit ?_
  refine seq_eff hk hh rfl rfl (eff_call Tryz.func18 rfl rfl rfl rfl (fun w hh => forms_spec σ w _ hh)) (fun v L a w hp hk hh => ?_)
  obtain ⟨b2, rfl, hL⟩ := hp; rw [hL] at hh; clear hL
  refine rest_q tabOK (i := 1) hk hh [] [1, 3, 7, 8, 9] rfl trivial (fun a hk => ?_)
  refine hK4 a w ?_; try clear hK4 K4
  refine wp_block ?_
  replace hh := hh.picks [1, 0] rfl
  replace hk := hk.keep [1, 3, 7, 8, 9] rfl
  refine code_loop (α := Nat) (fun (m : Nat) (E : Env) (L : List Assn) => ∃ (i : Nat), E = [(1, .pointer (some ⟨b1, 0, none⟩)), (3, .func (.func 17) ⟨[]⟩ ⟨[]⟩), (7, .slice (some ⟨b2, 0, none⟩) 13 13), (8, .int .i64 13), (9, .int .i64 (i : Int))] ∧ L = [row b1 26 [.int .i64 x.k, .int .i64 x.a, .int .i64 x.b, .int .i64 x.n, S x.s], row b2 44 formsC] ++ R ∧ (i ≤ 13) ∧ (∀ j, j < i → ¬ ((F j).k = x.k ∧ lineO (showT (F j).w (F j).f x) = some x)) ∧ m = 13 - i) id _ hk hh ⟨0, rfl, rfl, (by omega), (fun j hj => by omega), rfl⟩ ?_
  clear hk hh
  rintro _ _ _ a w ⟨i, rfl, hL, hi, inv, rfl⟩ hk hh; rw [hL] at hh; clear hL
  refine wp_seq_k fun K5 hK5 => ?_
  refine reg_q tabOK hk hh [] [1, 3, 7, 8, 9, 10] rfl trivial (fun a hk => ?_)
  refine hK5 a w ?_; try clear hK5 K5
  refine wp_seq_k fun K6 hK6 => ?_
  refine code_cond hk rfl (fun c3 => ?_) (fun c3 => ?_)
  · replace c3 : (i : Int) < 13 := (of_decide_eq_true c3)
    refine wp_skip ?_
    refine hK6 a w ?_; try clear hK6 K6
    refine wp_seq_k fun K7 hK7 => ?_
    refine wp_block ?_
    refine wp_seq_k fun K8 hK8 => ?_
    refine wp_region_lit ?_
    refine seq_q tabOK (i := 0) (stop := 2) hk hh [(0, .pointer (some ⟨b2, i * 3, none⟩)), (1, .agg ⟨[S ((F i).w), .int .i64 ((F i).k), S ((F i).f)]⟩)] rfl ?_ (fun a hk => ?_)
    · exact ⟨ob_indexAddr tabOK (i * 3) rfl rfl rfl rfl (by omega) (by omega) (by show 0 + ((i : Int) : Int).toNat * 3 = i * 3; omega), ob_loadN tabOK 1 rfl rfl rfl rfl (forms_at (by omega)), trivial⟩
    refine seq_eff hk hh rfl rfl (eff_alloc tabOK rfl) (fun v L a w hp hk hh => ?_)
    obtain ⟨b4, rfl, hL⟩ := hp; rw [hL] at hh; clear hL
    refine seq_eff hk hh rfl rfl (eff_store tabOK 0 rfl rfl rfl rfl rfl rfl rfl (by simp)) (fun v L a w hp hk hh => ?_)
    obtain ⟨rfl, hL⟩ := hp; rw [hL] at hh; clear hL
    refine rest_q tabOK (i := 4) hk hh [] [1, 3, 5, 7, 8, 9] rfl trivial (fun a hk => ?_)
    refine hK8 a w ?_; try clear hK8 K8
    refine wp_seq_k fun K9 hK9 => ?_
    refine wp_seq_k fun K10 hK10 => ?_
    refine reg_q tabOK hk hh [(1, .int .i64 ((F i).k)), (3, .int .i64 x.k)] [1, 3, 5, 7, 8, 9, 17] rfl ?_ (fun a hk => ?_)
    · exact ⟨ob_load tabOK 0 rfl rfl rfl rfl rfl, ob_load tabOK 1 rfl rfl rfl rfl rfl, trivial⟩
    refine hK10 a w ?_; try clear hK10 K10
    refine code_cond hk rfl (fun c5 => ?_) (fun c5 => ?_)
    · replace c5 : ¬ ((F i).k = x.k) := (c_nt c5)
      refine wp_exit ?_
      refine then_exit ?_
      refine blk_out ?_
      refine hK7 a w ?_; try clear hK7 K7
      refine reg_q tabOK hk hh [(0, .int .i64 ((i : Int) + 1))] [1, 3, 7, 8, 9] rfl ?_ (fun a hk => ?_)
      · exact ⟨ob_eq tabOK rfl (eq_i64 (by omega)), trivial⟩
      replace hh := (hh.at_ 0 rfl).drop
      refine then_nm ?_
      exact ⟨_, _, _, ⟨i + 1, rfl, rfl, (by omega), (fun j hj => (Nat.lt_succ_iff_lt_or_eq.1 hj).elim (fun h => inv j h) (fun h => by rw [h]; exact (fun e => c5 e.1))), rfl⟩, (by simp only [id]; omega), hk.keep [1, 3, 7, 8, 9] rfl, hh⟩
    · replace c5 : (F i).k = x.k := (c_nf c5)
      refine wp_skip ?_
      refine hK9 a w ?_; try clear hK9 K9
      refine wp_seq_k fun K11 hK11 => ?_
      have hfl := forms_len (i := i) (by omega)
      have hasc : ∀ k, ((F i).f.getD k 0).toNat < 128 := getD_ascii (forms_ascii (by omega))
      have hs := Nat.le_trans (show_len hx hfl.1 hfl.2) (show 3700000000 ≤ 4000000000 by omega)
      refine wp_region_lit ?_
      refine seq_q tabOK (i := 0) (stop := 3) hk hh [(1, .agg ⟨[S ((F i).w), .int .i64 ((F i).k), S ((F i).f)]⟩), (2, .agg ⟨[.int .i64 x.k, .int .i64 x.a, .int .i64 x.b, .int .i64 x.n, S x.s]⟩)] rfl ?_ (fun a hk => ?_)
      · exact ⟨ob_loadN tabOK 0 rfl rfl rfl rfl rfl, ob_loadN tabOK 1 rfl rfl rfl rfl rfl, trivial⟩
      refine seq_eff hk hh rfl rfl (eff_callv (f := 17) Tryz.func17 rfl rfl rfl rfl rfl (fun w hh => ftext_spec ((F i).w) ((F i).f) ((F i).k) x hx hfl.1 hfl.2 hasc (by exact (((hR.cons _).cons _).cons _)) hh)) (fun v L a w hp hk hh => ?_)
      obtain ⟨rfl, hL⟩ := hp; rw [hL] at hh; clear hL
      refine rest_q tabOK (i := 4) hk hh [] [1, 3, 6, 7, 8, 9] rfl trivial (fun a hk => ?_)
      refine hK11 a w ?_; try clear hK11 K11
      refine wp_seq_k fun K12 hK12 => ?_
      refine wp_region_lit ?_
      refine seq_q tabOK (i := 0) (stop := 2) hk hh [(1, .agg ⟨[.int .i64 x.k, .int .i64 x.a, .int .i64 x.b, .int .i64 x.n, S x.s]⟩)] rfl ?_ (fun a hk => ?_)
      · exact ⟨ob_loadN tabOK 1 rfl rfl rfl rfl rfl, trivial⟩
      refine seq_eff hk hh rfl rfl (eff_call Tryz.func19 rfl rfl rfl rfl (fun w hh => again_spec (showT ((F i).w) ((F i).f) x) x (by first | exact hs | exact hw0 _ | omega) (by exact (((hR.cons _).cons _).cons _)) hh)) (fun v L a w hp hk hh => ?_)
      obtain ⟨rfl, hL⟩ := hp; rw [hL] at hh; clear hL
      refine rest_q tabOK (i := 3) hk hh [] [1, 3, 6, 7, 8, 9, 24] rfl trivial (fun a hk => ?_)
      refine hK12 a w ?_; try clear hK12 K12
      refine code_cond hk rfl (fun c6 => ?_) (fun c6 => ?_)
      · replace c6 : lineO (showT ((F i).w) ((F i).f) x) = some x := (of_decide_eq_true c6)
        refine wp_seq_k fun K13 hK13 => ?_
        refine reg_q tabOK hk hh [] [1, 2, 3, 7, 8, 9] rfl trivial (fun a hk => ?_)
        refine hK13 a w ?_; try clear hK13 K13
        refine wp_ret ?_
        refine blk_ret ?_
        refine then_ret ?_
        refine then_ret ?_
        refine blk_ret ?_
        refine then_ret ?_
        refine fin_ret hk (show Tryz.f8.results = ⟨[.tmp 2]⟩ from rfl) (by exact (res_tmp hk rfl .nil)) ?_
        replace hh := (hh.at_ 0 rfl).drop
        replace hh := (hh.at_ 0 rfl).drop
        replace hh := (hh.at_ 0 rfl).drop
        refine ⟨_, _, rfl, ⟨?_, rfl⟩, hh⟩
        rw [text_hit inv (by omega) c5 c6]; rfl
      · replace c6 : ¬ (lineO (showT ((F i).w) ((F i).f) x) = some x) := (of_decide_eq_false c6)
        refine wp_skip ?_
        refine blk_nm ?_
        refine hK7 a w ?_; try clear hK7 K7
        refine reg_q tabOK hk hh [(0, .int .i64 ((i : Int) + 1))] [1, 3, 7, 8, 9] rfl ?_ (fun a hk => ?_)
        · exact ⟨ob_eq tabOK rfl (eq_i64 (by omega)), trivial⟩
        replace hh := (hh.at_ 0 rfl).drop
        refine then_nm ?_
        exact ⟨_, _, _, ⟨i + 1, rfl, rfl, (by omega), (fun j hj => (Nat.lt_succ_iff_lt_or_eq.1 hj).elim (fun h => inv j h) (fun h => by rw [h]; exact (fun e => c6 e.2))), rfl⟩, (by simp only [id]; omega), hk.keep [1, 3, 7, 8, 9] rfl, hh⟩
  · replace c3 : ¬ ((i : Int) < 13) := (of_decide_eq_false c3)
    refine wp_exit ?_
    refine then_exit ?_
    refine then_exit ?_
    refine blk_out ?_
    refine hK3 a w ?_; try clear hK3 K3
    refine wp_seq_k fun K14 hK14 => ?_
    refine reg_q tabOK hk hh [] [2] rfl trivial (fun a hk => ?_)
    refine hK14 a w ?_; try clear hK14 K14
    refine wp_ret ?_
    refine fin_ret hk (show Tryz.f8.results = ⟨[.tmp 2]⟩ from rfl) (by exact (res_tmp hk rfl .nil)) ?_
    replace hh := (hh.at_ 0 rfl).drop
    replace hh := (hh.at_ 0 rfl).drop
    refine ⟨_, _, rfl, ⟨?_, rfl⟩, hh⟩
    rw [text_none (fun j hj => inv j (by omega))]; rfl

end Go.Hop
