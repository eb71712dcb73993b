/- What is proved here: what a function of the text computes. Printed by program. -/
import Derived.Test.YtompaigbpfekhaaGreatDoorWSet
namespace Go.Hop
open Go.Proofs
set_option maxRecDepth 4000
theorem read_spec (fw ff : List UInt8) (fk : Int) (bl : Nat) (l : List (List UInt8)) (hl : 1 ≤ l.length) (hl2 : l.length ≤ 5000000000) (hff : ff.length ≤ 1000000) (hasc : ∀ i, (ff.getD i 0).toNat < 128) (hlen : ∀ i, (l.getD i []).length ≤ 4000000000) {σ : Sg} {w : World} {R : List Assn} (hR : Lay R) (hh : Holds σ w ([row bl 9 (l.map S)] ++ R)) :
    Calls Tryz.prog 26 ⟨[.agg ⟨[S fw, .int .i64 fk, S ff]⟩, .slice (some ⟨bl, 0, none⟩) l.length l.length]⟩ w fun e w' => ∃ v L', e = .returned v ∧ (∃ x ok, v = .tuple ⟨[.agg ⟨x.cs⟩, .bool ok]⟩ ∧ L' = row bl 9 (l.map S) :: R ∧ readF ⟨fw, fk, ff⟩ l = (if ok = true then some x else none) ∧ (ok = false → x = zA)) ∧ Holds σ w' L' := by
  refine enter Tryz.func26 rfl Tryz.ntmps26 rfl fun a hk => ?_
  refine wp_seq_k fun K1 hK1 => ?_
  refine wp_region_lit ?_
  refine seq_eff hk hh rfl rfl (eff_box rfl rfl) (fun v L a w hp hk hh => ?_)
  obtain ⟨b1, rfl, hL⟩ := hp; rw [hL] at hh; clear hL
  refine seq_eff hk hh rfl rfl (eff_alloc tabOK rfl) (fun v L a w hp hk hh => ?_)
  obtain ⟨b2, rfl, hL⟩ := hp; rw [hL] at hh; clear hL
  refine rest_q tabOK (i := 2) hk hh [] [1, 2, 4] rfl trivial (fun a hk => ?_)
  refine hK1 a w ?_; try clear hK1 K1
  refine wp_seq_k fun K2 hK2 => ?_
  refine wp_seq_k fun K3 hK3 => ?_
  by_cases c3 : l.getD 0 [] = fw
  · refine reg_d tabOK (by kernel_rfl) hk hh [] [1, 2, 4, 23] rfl 0 [(1, .pointer (some ⟨bl, 0, none⟩)), (2, S (l.getD 0 [])), (4, S fw), (5, .bool false), (10, S ff), (12, .int .i64 (1 + (ff.length : Int)))] ?_
    refine chain_fin rfl ?_ (fun a w hk hh => ?_)
    · exact ⟨ob_indexAddr tabOK (0) rfl rfl rfl rfl (by omega) (by omega) (by show 0 + (0 : Int).toNat * 1 = 0; omega), ob_load tabOK 2 rfl rfl rfl rfl (map_S_at (by omega)), ob_load tabOK 1 rfl rfl rfl rfl rfl, ob_eq tabOK rfl (v_not (v_et c3)), ob_load tabOK 1 rfl rfl rfl rfl rfl, ob_eq tabOK rfl (eq_i64 (by omega)), trivial⟩
    refine hK3 a w ?_; try clear hK3 K3
    refine code_cond hk rfl (fun c4 => ?_) (fun c4 => ?_)
    · replace c4 : ¬ ((l.length : Int) = 1 + (ff.length : Int)) := (c_nt c4)
      refine wp_seq_k fun K4 hK4 => ?_
      refine wp_region_lit ?_
      refine seq_q tabOK (i := 0) (stop := 1) hk hh [] rfl trivial (fun a hk => ?_)
      refine seq_eff hk hh rfl rfl (eff_store tabOK 0 rfl rfl rfl rfl rfl rfl rfl (by simp)) (fun v L a w hp hk hh => ?_)
      obtain ⟨rfl, hL⟩ := hp; rw [hL] at hh; clear hL
      refine rest_q tabOK (i := 2) hk hh [] [1, 2, 4, 5] rfl trivial (fun a hk => ?_)
      refine hK4 a w ?_; try clear hK4 K4
      refine wp_ret ?_
      refine then_ret ?_
      refine fin_ret hk (show Tryz.f26.results = ⟨[.cell 4 26, .tmp 5]⟩ from rfl) (by exact (res_cellN tabOK hk hh 0 rfl rfl rfl rfl rfl (res_tmp hk rfl .nil))) ?_
      replace hh := (hh.at_ 0 rfl).drop
      replace hh := (hh.at_ 0 rfl).drop
      refine ⟨_, _, rfl, ⟨⟨0, 0, 0, 0, []⟩, false, rfl, rfl, ?_, (fun _ => rfl)⟩, hh⟩
      rw [readF, if_neg (fun h => by have h2 : l.length = 1 + ff.length := h.2; first | exact absurd h.1 c3 | omega)]; rfl
    · replace c4 : (l.length : Int) = 1 + (ff.length : Int) := (c_nf c4)
      refine wp_skip ?_
      refine hK2 a w ?_; try clear hK2 K2
      refine wp_seq_k fun K5 hK5 => ?_
      refine wp_region_lit ?_
      refine seq_q tabOK (i := 0) (stop := 3) hk hh [(1, .int .i64 fk)] rfl ?_ (fun a hk => ?_)
      · exact ⟨ob_load tabOK 1 rfl rfl rfl rfl rfl, trivial⟩
      refine seq_eff hk hh rfl rfl (eff_alloc tabOK rfl) (fun v L a w hp hk hh => ?_)
      obtain ⟨b5, rfl, hL⟩ := hp; rw [hL] at hh; clear hL
      refine seq_eff hk hh rfl rfl (eff_store tabOK 0 rfl rfl rfl rfl rfl rfl rfl (by simp)) (fun v L a w hp hk hh => ?_)
      obtain ⟨rfl, hL⟩ := hp; rw [hL] at hh; clear hL
      refine rest_q tabOK (i := 5) hk hh [] [1, 2, 4, 6] rfl trivial (fun a hk => ?_)
      refine hK5 a w ?_; try clear hK5 K5
      refine wp_seq_k fun K6 hK6 => ?_
      refine wp_seq_k fun K7 hK7 => ?_
      refine wp_region_lit ?_
      refine seq_q tabOK (i := 0) (stop := 2) hk hh [(1, S ff)] rfl ?_ (fun a hk => ?_)
      · exact ⟨ob_load tabOK 2 rfl rfl rfl rfl rfl, trivial⟩
      refine seq_eff hk hh rfl rfl (eff_range_str tabOK rfl rfl) (fun v L a w hp hk hh => ?_)
      obtain ⟨b6, rfl, hL⟩ := hp; rw [hL] at hh; clear hL
      refine rest_q tabOK (i := 3) hk hh [] [1, 4, 6, 30] rfl trivial (fun a hk => ?_)
      refine hK7 a w ?_; try clear hK7 K7
      refine wp_block ?_
      replace hh := (hh.at_ 3 rfl).drop
      replace hh := hh.picks [1, 0, 0, 0] rfl
      replace hk := hk.keep [1, 4, 6, 30] rfl
      refine code_loop (α := Nat) (fun (m : Nat) (E : Env) (L : List Assn) => ∃ (i : Nat) (x : ActL), E = [(1, .slice (some ⟨bl, 0, none⟩) l.length l.length), (4, .pointer (some ⟨b2, 0, none⟩)), (6, .pointer (some ⟨b5, 0, none⟩)), (30, .pointer (some ⟨b6, 0, none⟩))] ∧ L = [row b5 26 [.int .i64 x.k, .int .i64 x.a, .int .i64 x.b, .int .i64 x.n, S x.s], iterS b6 ff i, row b2 26 [.int .i64 0, .int .i64 0, .int .i64 0, .int .i64 0, S []], row bl 9 (l.map S)] ++ R ∧ (i ≤ ff.length) ∧ (fillF x (ff.drop i) (l.drop (1 + i)) = fillF ⟨fk, 0, 0, 0, []⟩ ff (l.drop 1)) ∧ m = ff.length - i) id _ hk hh ⟨0, ⟨fk, 0, 0, 0, []⟩, rfl, rfl, (by omega), rfl, rfl⟩ ?_
      clear hk hh
      rintro _ _ _ a w ⟨i, x, rfl, hL, hi, inv, rfl⟩ hk hh; rw [hL] at hh; clear hL
      refine wp_seq_k fun K8 hK8 => ?_
      by_cases c7 : i < ff.length
      · refine wp_region_lit ?_
        refine seq_eff hk hh rfl rfl (eff_next_ascii 1 rfl rfl (getD_at c7) (hasc _)) (fun v L a w hp hk hh => ?_)
        obtain ⟨rfl, hL⟩ := hp; rw [hL] at hh; clear hL
        refine rest_q tabOK (i := 1) hk hh [] [1, 4, 6, 30, 31, 32] rfl trivial (fun a hk => ?_)
        refine hK8 a w ?_; try clear hK8 K8
        refine wp_seq_k fun K9 hK9 => ?_
        refine code_cond hk rfl (fun _ => ?_) (fun h => by cases h)
        refine wp_skip ?_
        refine hK9 a w ?_; try clear hK9 K9
        refine wp_block ?_
        refine wp_seq_k fun K10 hK10 => ?_
        refine reg_q tabOK hk hh [] [1, 4, 6, 7, 8, 30] rfl trivial (fun a hk => ?_)
        refine hK10 a w ?_; try clear hK10 K10
        refine wp_seq_k fun K11 hK11 => ?_
        refine wp_region_lit ?_
        refine seq_q tabOK (i := 0) (stop := 6) hk hh [(3, .int .i64 (1 + (i : Int))), (4, .pointer (some ⟨bl, (1 + (i : Int)).toNat, none⟩)), (5, S (l.getD ((1 + (i : Int)).toNat) []))] rfl ?_ (fun a hk => ?_)
        · exact ⟨ob_eq tabOK rfl (eq_i64 (by omega)), ob_indexAddr tabOK ((1 + (i : Int)).toNat) rfl rfl rfl rfl (by omega) (by omega) (by show 0 + (1 + (i : Int) : Int).toNat * 1 = (1 + (i : Int)).toNat; omega), ob_load tabOK 3 rfl rfl rfl rfl (map_S_at (by omega)), trivial⟩
        refine seq_eff hk hh rfl rfl (eff_call Tryz.func35 rfl rfl rfl rfl (fun w hh => set_spec b5 ⟨x.k, x.a, x.b, x.n, x.s⟩ ((ff.getD i 0).toNat : Int) (l.getD ((1 + (i : Int)).toNat) []) (hlen _) (by exact (((hR.cons _).cons _).cons _)) (hh.at_ 1 rfl))) (fun v L a w hp hk hh => ?_)
        obtain ⟨y, ok, rfl, hL, hset⟩ := hp; rw [hL] at hh; clear hL
        refine rest_q tabOK (i := 7) hk hh [] [1, 4, 6, 30, 42] rfl trivial (fun a hk => ?_)
        refine hK11 a w ?_; try clear hK11 K11
        refine code_cond hk rfl (fun c8 => ?_) (fun c8 => ?_)
        · replace c8 : ¬ (ok = true) := (by simp [(c_it c8)])
          refine wp_seq_k fun K12 hK12 => ?_
          refine wp_region_lit ?_
          refine seq_q tabOK (i := 0) (stop := 1) hk hh [] rfl trivial (fun a hk => ?_)
          refine seq_eff hk hh rfl rfl (eff_store tabOK 2 rfl rfl rfl rfl rfl rfl rfl (by simp)) (fun v L a w hp hk hh => ?_)
          obtain ⟨rfl, hL⟩ := hp; rw [hL] at hh; clear hL
          refine rest_q tabOK (i := 2) hk hh [] [1, 4, 5, 6, 30] rfl trivial (fun a hk => ?_)
          refine hK12 a w ?_; try clear hK12 K12
          refine wp_ret ?_
          refine blk_ret ?_
          refine then_ret ?_
          refine blk_ret ?_
          refine then_ret ?_
          refine fin_ret hk (show Tryz.f26.results = ⟨[.cell 4 26, .tmp 5]⟩ from rfl) (by exact (res_cellN tabOK hk hh 0 rfl rfl rfl rfl rfl (res_tmp hk rfl .nil))) ?_
          replace hh := (hh.at_ 0 rfl).drop
          replace hh := (hh.at_ 0 rfl).drop
          replace hh := (hh.at_ 0 rfl).drop
          refine ⟨_, _, rfl, ⟨⟨0, 0, 0, 0, []⟩, false, rfl, rfl, ?_, (fun _ => rfl)⟩, hh⟩
          rw [readF, if_pos ⟨c3, by show l.length = 1 + ff.length; omega⟩]; exact fill_miss (j := (1 + (i : Int)).toNat) inv (by omega) (by omega) (by omega) (by rw [hset, if_neg c8])
        · replace c8 : ok = true := (c_if c8)
          refine wp_skip ?_
          refine blk_nm ?_
          refine then_nm ?_
          exact ⟨_, _, _, ⟨i + 1, y, rfl, rfl, (by omega), (fill_hit (j := (1 + (i : Int)).toNat) inv (by omega) (by omega) (by omega) (by rw [hset, if_pos c8])), rfl⟩, (by simp only [id]; omega), hk.keep [1, 4, 6, 30] rfl, hh⟩
      · refine wp_region_lit ?_
        refine seq_eff hk hh rfl rfl (eff_next_end 1 rfl rfl (by omega)) (fun v L a w hp hk hh => ?_)
        obtain ⟨rfl, hL⟩ := hp; rw [hL] at hh; clear hL
        refine rest_q tabOK (i := 1) hk hh [] [1, 4, 6, 30, 31, 32] rfl trivial (fun a hk => ?_)
        refine hK8 a w ?_; try clear hK8 K8
        refine wp_seq_k fun K13 hK13 => ?_
        refine code_cond hk rfl (fun h => by cases h) (fun _ => ?_)
        refine wp_exit ?_
        refine then_exit ?_
        refine then_exit ?_
        refine blk_out ?_
        refine hK6 a w ?_; try clear hK6 K6
        refine wp_seq_k fun K14 hK14 => ?_
        refine wp_region_lit ?_
        refine seq_q tabOK (i := 0) (stop := 1) hk hh [(0, .agg ⟨[.int .i64 x.k, .int .i64 x.a, .int .i64 x.b, .int .i64 x.n, S x.s]⟩)] rfl ?_ (fun a hk => ?_)
        · exact ⟨ob_loadN tabOK 0 rfl rfl rfl rfl rfl, trivial⟩
        refine seq_eff hk hh rfl rfl (eff_store tabOK 2 rfl rfl rfl rfl rfl rfl rfl (by simp)) (fun v L a w hp hk hh => ?_)
        obtain ⟨rfl, hL⟩ := hp; rw [hL] at hh; clear hL
        refine rest_q tabOK (i := 2) hk hh [] [4, 5] rfl trivial (fun a hk => ?_)
        refine hK14 a w ?_; try clear hK14 K14
        refine wp_ret ?_
        refine fin_ret hk (show Tryz.f26.results = ⟨[.cell 4 26, .tmp 5]⟩ from rfl) (by exact (res_cellN tabOK hk hh 0 rfl rfl rfl rfl rfl (res_tmp hk rfl .nil))) ?_
        replace hh := (hh.at_ 0 rfl).drop
        replace hh := (hh.at_ 0 rfl).drop
        replace hh := (hh.at_ 0 rfl).drop
        refine ⟨_, _, rfl, ⟨x, true, rfl, rfl, ?_, (fun h => by cases h)⟩, hh⟩
        rw [readF, if_pos ⟨c3, by show l.length = 1 + ff.length; omega⟩]; exact fill_end inv (by omega)
  · refine reg_d tabOK (by kernel_rfl) hk hh [] [1, 2, 4, 23] rfl 0 [(1, .pointer (some ⟨bl, 0, none⟩)), (2, S (l.getD 0 [])), (4, S fw), (5, .bool true)] ?_
    refine chain_fin rfl ?_ (fun a w hk hh => ?_)
    · exact ⟨ob_indexAddr tabOK (0) rfl rfl rfl rfl (by omega) (by omega) (by show 0 + (0 : Int).toNat * 1 = 0; omega), ob_load tabOK 2 rfl rfl rfl rfl (map_S_at (by omega)), ob_load tabOK 1 rfl rfl rfl rfl rfl, ob_eq tabOK rfl (v_not (v_ef c3)), trivial⟩
    refine hK3 a w ?_; try clear hK3 K3
    refine code_cond hk rfl (fun _ => ?_) (fun h => by cases h)
    refine wp_seq_k fun K15 hK15 => ?_
    refine wp_region_lit ?_
    refine seq_q tabOK (i := 0) (stop := 1) hk hh [] rfl trivial (fun a hk => ?_)
    refine seq_eff hk hh rfl rfl (eff_store tabOK 0 rfl rfl rfl rfl rfl rfl rfl (by simp)) (fun v L a w hp hk hh => ?_)
    obtain ⟨rfl, hL⟩ := hp; rw [hL] at hh; clear hL
    refine rest_q tabOK (i := 2) hk hh [] [1, 2, 4, 5] rfl trivial (fun a hk => ?_)
    refine hK15 a w ?_; try clear hK15 K15
    refine wp_ret ?_
    refine then_ret ?_
    refine fin_ret hk (show Tryz.f26.results = ⟨[.cell 4 26, .tmp 5]⟩ from rfl) (by exact (res_cellN tabOK hk hh 0 rfl rfl rfl rfl rfl (res_tmp hk rfl .nil))) ?_
    replace hh := (hh.at_ 0 rfl).drop
    replace hh := (hh.at_ 0 rfl).drop
    refine ⟨_, _, rfl, ⟨⟨0, 0, 0, 0, []⟩, false, rfl, rfl, ?_, (fun _ => rfl)⟩, hh⟩
    rw [readF, if_neg (fun h => by have h2 : l.length = 1 + ff.length := h.2; first | exact absurd h.1 c3 | omega)]; rfl

end Go.Hop
