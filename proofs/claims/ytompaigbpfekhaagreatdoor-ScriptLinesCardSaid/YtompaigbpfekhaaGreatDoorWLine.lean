/- What is proved here: what a function of the text computes. Printed by program. -/
import Derived.Test.YtompaigbpfekhaaGreatDoorWRead
import Derived.Test.YtompaigbpfekhaaGreatDoorWForms
namespace Go.Hop
open Go.Proofs
set_option maxRecDepth 4000
theorem line_spec (s : List UInt8) (hs : s.length ≤ 4000000000) {σ : Sg} {w : World} {R : List Assn} (hR : Lay R) (hh : Holds σ w (R)) :
    Calls Tryz.prog 15 ⟨[S s]⟩ w fun e w' => ∃ v L', e = .returned v ∧ (∃ x ok, v = .tuple ⟨[.agg ⟨x.cs⟩, .bool ok]⟩ ∧ L' = R ∧ lineO s = (if ok = true then some x else none) ∧ (ok = false → x = zA)) ∧ Holds σ w' L' := by
  refine enter Tryz.func15 rfl Tryz.ntmps15 rfl fun a hk => ?_
  refine wp_seq_k fun K1 hK1 => ?_
  refine wp_region_lit ?_
  refine seq_eff hk hh rfl rfl (eff_alloc tabOK rfl) (fun v L a w hp hk hh => ?_)
  obtain ⟨b1, rfl, hL⟩ := hp; rw [hL] at hh; clear hL
  refine rest_q tabOK (i := 1) hk hh [] [0, 2] rfl trivial (fun a hk => ?_)
  refine hK1 a w ?_; try clear hK1 K1
  refine wp_seq_k fun K2 hK2 => ?_
  refine wp_seq_k fun K3 hK3 => ?_
  refine wp_region_lit ?_
  refine seq_q tabOK (i := 0) (stop := 1) hk hh [] rfl trivial (fun a hk => ?_)
  refine seq_eff hk hh rfl rfl (eff_call Tryz.func25 rfl rfl rfl rfl (fun w hh => contains_spec 10 s hh)) (fun v L a w hp hk hh => ?_)
  obtain ⟨rfl, hL⟩ := hp; rw [hL] at hh; clear hL
  refine rest_q tabOK (i := 2) hk hh [] [0, 2, 11] rfl trivial (fun a hk => ?_)
  refine hK3 a w ?_; try clear hK3 K3
  refine code_cond hk rfl (fun c2 => ?_) (fun c2 => ?_)
  · replace c2 : 10 ∈ s := (of_decide_eq_true c2)
    refine wp_seq_k fun K4 hK4 => ?_
    refine wp_region_lit ?_
    refine seq_q tabOK (i := 0) (stop := 1) hk hh [] rfl trivial (fun a hk => ?_)
    refine seq_eff hk hh rfl rfl (eff_store tabOK 0 rfl rfl rfl rfl rfl rfl rfl (by simp)) (fun v L a w hp hk hh => ?_)
    obtain ⟨rfl, hL⟩ := hp; rw [hL] at hh; clear hL
    refine rest_q tabOK (i := 2) hk hh [] [0, 2, 3] rfl trivial (fun a hk => ?_)
    refine hK4 a w ?_; try clear hK4 K4
    refine wp_ret ?_
    refine then_ret ?_
    refine fin_ret hk (show Tryz.f15.results = ⟨[.cell 2 26, .tmp 3]⟩ from rfl) (by exact (res_cellN tabOK hk hh 0 rfl rfl rfl rfl rfl (res_tmp hk rfl .nil))) ?_
    replace hh := (hh.at_ 0 rfl).drop
    refine ⟨_, _, rfl, ⟨zA, false, rfl, rfl, ?_, (fun _ => rfl)⟩, hh⟩
    exact line_bad c2
  · replace c2 : ¬ (10 ∈ s) := (of_decide_eq_false c2)
    refine wp_skip ?_
    refine hK2 a w ?_; try clear hK2 K2
    refine wp_seq_k fun K5 hK5 => ?_
    refine wp_region_lit ?_
    refine seq_q tabOK (i := 0) (stop := 1) hk hh [] rfl trivial (fun a hk => ?_)
    refine seq_eff hk hh rfl rfl (eff_call Tryz.func24 rfl rfl rfl rfl (fun w hh => split_spec 32 s (by omega) (by exact (hR.cons _)) hh)) (fun v L a w hp hk hh => ?_)
    obtain ⟨b3, rfl, hL⟩ := hp; rw [hL] at hh; clear hL
    refine rest_q tabOK (i := 2) hk hh [] [2, 4] rfl trivial (fun a hk => ?_)
    refine hK5 a w ?_; try clear hK5 K5
    refine wp_seq_k fun K6 hK6 => ?_
    refine reg_q tabOK hk hh [] [2, 4, 5] rfl trivial (fun a hk => ?_)
    refine hK6 a w ?_; try clear hK6 K6
    refine wp_seq_k fun K7 hK7 => ?_
    refine wp_seq_k fun K8 hK8 => ?_
    refine wp_region_lit ?_
    refine seq_eff hk hh rfl rfl (eff_call Tryz.func18 rfl rfl rfl rfl (fun w hh => forms_spec σ w _ hh)) (fun v L a w hp hk hh => ?_)
    obtain ⟨b4, rfl, hL⟩ := hp; rw [hL] at hh; clear hL
    refine rest_q tabOK (i := 1) hk hh [] [2, 4, 5, 15, 16, 17] rfl trivial (fun a hk => ?_)
    refine hK8 a w ?_; try clear hK8 K8
    refine wp_block ?_
    replace hh := hh.picks [2, 1, 0] rfl
    replace hk := hk.keep [2, 4, 5, 15, 16, 17] rfl
    refine code_loop (α := Nat) (fun (m : Nat) (E : Env) (L : List Assn) => ∃ (i : Nat), E = [(2, .pointer (some ⟨b1, 0, none⟩)), (4, .slice (some ⟨b3, 0, none⟩) ((spl 32 s).length) ((spl 32 s).length)), (5, .func (.func 26) ⟨[]⟩ ⟨[]⟩), (15, .slice (some ⟨b4, 0, none⟩) 13 13), (16, .int .i64 13), (17, .int .i64 (i : Int))] ∧ L = [row b1 26 [.int .i64 0, .int .i64 0, .int .i64 0, .int .i64 0, S []], row b3 9 ((spl 32 s).map S), row b4 44 formsC] ++ R ∧ (i ≤ 13) ∧ (∀ j, j < i → readF (F j) (spl 32 s) = none) ∧ m = 13 - i) id _ hk hh ⟨0, rfl, rfl, (by omega), (fun j hj => by omega), rfl⟩ ?_
    clear hk hh
    rintro _ _ _ a w ⟨i, rfl, hL, hi, inv, rfl⟩ hk hh; rw [hL] at hh; clear hL
    have hl1 : 1 ≤ (spl 32 s).length := spl_pos
    have hl2 : (spl 32 s).length ≤ 5000000000 := Nat.le_trans spl_len (by omega)
    have hlen : ∀ i, ((spl 32 s).getD i []).length ≤ 4000000000 := fun i => Nat.le_trans spl_word hs
    refine wp_seq_k fun K9 hK9 => ?_
    refine reg_q tabOK hk hh [] [2, 4, 5, 15, 16, 17, 18] rfl trivial (fun a hk => ?_)
    refine hK9 a w ?_; try clear hK9 K9
    refine wp_seq_k fun K10 hK10 => ?_
    refine code_cond hk rfl (fun c5 => ?_) (fun c5 => ?_)
    · replace c5 : (i : Int) < 13 := (of_decide_eq_true c5)
      refine wp_skip ?_
      refine hK10 a w ?_; try clear hK10 K10
      refine wp_seq_k fun K11 hK11 => ?_
      refine wp_block ?_
      refine wp_seq_k fun K12 hK12 => ?_
      refine wp_region_lit ?_
      refine seq_q tabOK (i := 0) (stop := 2) hk hh [(0, .pointer (some ⟨b4, i * 3, none⟩)), (1, .agg ⟨[S ((F i).w), .int .i64 ((F i).k), S ((F i).f)]⟩)] rfl ?_ (fun a hk => ?_)
      · exact ⟨ob_indexAddr tabOK (i * 3) rfl rfl rfl rfl (by omega) (by omega) (by show 0 + ((i : Int) : Int).toNat * 3 = i * 3; omega), ob_loadN tabOK 2 rfl rfl rfl rfl (forms_at (by omega)), trivial⟩
      refine seq_eff hk hh rfl rfl (eff_alloc tabOK rfl) (fun v L a w hp hk hh => ?_)
      obtain ⟨b6, rfl, hL⟩ := hp; rw [hL] at hh; clear hL
      refine seq_eff hk hh rfl rfl (eff_store tabOK 0 rfl rfl rfl rfl rfl rfl rfl (by simp)) (fun v L a w hp hk hh => ?_)
      obtain ⟨rfl, hL⟩ := hp; rw [hL] at hh; clear hL
      refine rest_q tabOK (i := 4) hk hh [] [2, 4, 5, 7, 15, 16, 17] rfl trivial (fun a hk => ?_)
      refine hK12 a w ?_; try clear hK12 K12
      refine wp_seq_k fun K13 hK13 => ?_
      have hff : (F i).f.length ≤ 1000000 := Nat.le_trans (forms_len (by omega)).1 (by decide)
      have hasc : ∀ k, ((F i).f.getD k 0).toNat < 128 := getD_ascii (forms_ascii (by omega))
      refine wp_region_lit ?_
      refine seq_q tabOK (i := 0) (stop := 3) hk hh [(1, .agg ⟨[S ((F i).w), .int .i64 ((F i).k), S ((F i).f)]⟩)] rfl ?_ (fun a hk => ?_)
      · exact ⟨ob_loadN tabOK 0 rfl rfl rfl rfl rfl, trivial⟩
      refine seq_eff hk hh rfl rfl (eff_callv (f := 26) Tryz.func26 rfl rfl rfl rfl rfl (fun w hh => read_spec ((F i).w) ((F i).f) ((F i).k) b3 (spl 32 s) hl1 hl2 hff hasc hlen (by exact (((hR.cons _).cons _).cons _)) (hh.at_ 2 rfl))) (fun v L a w hp hk hh => ?_)
      obtain ⟨x, ok, rfl, hL, hread, hz⟩ := hp; rw [hL] at hh; clear hL
      refine seq_q tabOK (i := 4) (stop := 7) hk hh [] rfl trivial (fun a hk => ?_)
      refine seq_eff hk hh rfl rfl (eff_alloc tabOK rfl) (fun v L a w hp hk hh => ?_)
      obtain ⟨b7, rfl, hL⟩ := hp; rw [hL] at hh; clear hL
      refine seq_eff hk hh rfl rfl (eff_store tabOK 0 rfl rfl rfl rfl rfl rfl rfl (by simp)) (fun v L a w hp hk hh => ?_)
      obtain ⟨rfl, hL⟩ := hp; rw [hL] at hh; clear hL
      refine rest_q tabOK (i := 9) hk hh [] [2, 4, 5, 8, 9, 15, 16, 17] rfl trivial (fun a hk => ?_)
      refine hK13 a w ?_; try clear hK13 K13
      refine wp_seq_k fun K14 hK14 => ?_
      refine reg_q tabOK hk hh [] [2, 4, 5, 8, 15, 16, 17, 28] rfl trivial (fun a hk => ?_)
      refine hK14 a w ?_; try clear hK14 K14
      refine code_cond hk rfl (fun c8 => ?_) (fun c8 => ?_)
      · replace c8 : ok = true := c8
        refine wp_seq_k fun K15 hK15 => ?_
        refine wp_region_lit ?_
        refine seq_q tabOK (i := 0) (stop := 1) hk hh [(0, .agg ⟨[.int .i64 x.k, .int .i64 x.a, .int .i64 x.b, .int .i64 x.n, S x.s]⟩)] rfl ?_ (fun a hk => ?_)
        · exact ⟨ob_loadN tabOK 0 rfl rfl rfl rfl rfl, trivial⟩
        refine seq_eff hk hh rfl rfl (eff_store tabOK 3 rfl rfl rfl rfl rfl rfl rfl (by simp)) (fun v L a w hp hk hh => ?_)
        obtain ⟨rfl, hL⟩ := hp; rw [hL] at hh; clear hL
        refine rest_q tabOK (i := 2) hk hh [] [2, 3, 4, 5, 15, 16, 17] rfl trivial (fun a hk => ?_)
        refine hK15 a w ?_; try clear hK15 K15
        refine wp_ret ?_
        refine blk_ret ?_
        refine then_ret ?_
        refine then_ret ?_
        refine blk_ret ?_
        refine then_ret ?_
        refine fin_ret hk (show Tryz.f15.results = ⟨[.cell 2 26, .tmp 3]⟩ from rfl) (by exact (res_cellN tabOK hk hh 0 rfl rfl rfl rfl rfl (res_tmp hk rfl .nil))) ?_
        replace hh := (hh.at_ 0 rfl).drop
        replace hh := (hh.at_ 0 rfl).drop
        replace hh := (hh.at_ 0 rfl).drop
        replace hh := (hh.at_ 0 rfl).drop
        replace hh := (hh.at_ 0 rfl).drop
        refine ⟨_, _, rfl, ⟨x, true, rfl, rfl, ?_, (fun h => by cases h)⟩, hh⟩
        exact line_hit c2 inv (by omega) (by rw [hread, if_pos c8])
      · replace c8 : ¬ (ok = true) := (by simp [c8])
        refine wp_skip ?_
        refine blk_nm ?_
        refine hK11 a w ?_; try clear hK11 K11
        refine reg_q tabOK hk hh [(0, .int .i64 ((i : Int) + 1))] [2, 4, 5, 15, 16, 17] rfl ?_ (fun a hk => ?_)
        · exact ⟨ob_eq tabOK rfl (eq_i64 (by omega)), trivial⟩
        replace hh := (hh.at_ 0 rfl).drop
        replace hh := (hh.at_ 1 rfl).drop
        replace hh := hh.picks [1, 0, 0] rfl
        refine then_nm ?_
        exact ⟨_, _, _, ⟨i + 1, rfl, rfl, (by omega), (fun j hj => (Nat.lt_succ_iff_lt_or_eq.1 hj).elim (fun h => inv j h) (fun h => by rw [h, hread, if_neg c8])), rfl⟩, (by simp only [id]; omega), hk.keep [2, 4, 5, 15, 16, 17] rfl, hh⟩
    · replace c5 : ¬ ((i : Int) < 13) := (of_decide_eq_false c5)
      refine wp_exit ?_
      refine then_exit ?_
      refine then_exit ?_
      refine blk_out ?_
      refine hK7 a w ?_; try clear hK7 K7
      refine wp_seq_k fun K16 hK16 => ?_
      refine wp_region_lit ?_
      refine seq_q tabOK (i := 0) (stop := 1) hk hh [] rfl trivial (fun a hk => ?_)
      refine seq_eff hk hh rfl rfl (eff_store tabOK 0 rfl rfl rfl rfl rfl rfl rfl (by simp)) (fun v L a w hp hk hh => ?_)
      obtain ⟨rfl, hL⟩ := hp; rw [hL] at hh; clear hL
      refine rest_q tabOK (i := 2) hk hh [] [2, 3] rfl trivial (fun a hk => ?_)
      refine hK16 a w ?_; try clear hK16 K16
      refine wp_ret ?_
      refine fin_ret hk (show Tryz.f15.results = ⟨[.cell 2 26, .tmp 3]⟩ from rfl) (by exact (res_cellN tabOK hk hh 0 rfl rfl rfl rfl rfl (res_tmp hk rfl .nil))) ?_
      replace hh := (hh.at_ 0 rfl).drop
      replace hh := (hh.at_ 0 rfl).drop
      replace hh := (hh.at_ 0 rfl).drop
      refine ⟨_, _, rfl, ⟨zA, false, rfl, rfl, ?_, (fun _ => rfl)⟩, hh⟩
      exact line_none c2 (fun j hj => inv j (by omega))

end Go.Hop
