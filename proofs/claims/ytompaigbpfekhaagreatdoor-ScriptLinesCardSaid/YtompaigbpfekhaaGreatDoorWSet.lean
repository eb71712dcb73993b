/- What is proved here: what a function of the text computes. Printed by program. -/
import Derived.Test.YtompaigbpfekhaaGreatDoorHopForms
import Derived.Test.YtompaigbpfekhaaGreatDoorWSNumber
namespace Go.Hop
open Go.Proofs
set_option maxRecDepth 4000
theorem set_spec (b : Nat) (x : ActL) (c : Int) (s : List UInt8) (hs : s.length ≤ 4000000000) {σ : Sg} {w : World} {R : List Assn} (hR : Lay R) (hh : Holds σ w ([row b 26 [.int .i64 x.k, .int .i64 x.a, .int .i64 x.b, .int .i64 x.n, S x.s]] ++ R)) :
    Calls Tryz.prog 35 ⟨[.pointer (some ⟨b, 0, none⟩), .int .i32 c, S s]⟩ w fun e w' => ∃ v L', e = .returned v ∧ (∃ y ok, v = .bool ok ∧ L' = row b 26 y.cs :: R ∧ setF x c s = if ok = true then some y else none) ∧ Holds σ w' L' := by
  refine enter Tryz.func35 rfl Tryz.ntmps35 rfl fun a hk => ?_
  refine wp_seq_k fun K1 hK1 => ?_
  refine reg_q tabOK hk hh [] [0, 1, 2] rfl trivial (fun a hk => ?_)
  refine hK1 a w ?_; try clear hK1 K1
  refine wp_seq_k fun K2 hK2 => ?_
  refine wp_seq_k fun K3 hK3 => ?_
  refine reg_q tabOK hk hh [] [0, 1, 2, 10] rfl trivial (fun a hk => ?_)
  refine hK3 a w ?_; try clear hK3 K3
  refine code_cond hk rfl (fun c1 => ?_) (fun c1 => ?_)
  · replace c1 : c = 115 := (c_et c1)
    refine wp_seq_k fun K4 hK4 => ?_
    refine wp_region_lit ?_
    refine seq_q tabOK (i := 0) (stop := 4) hk hh [] rfl trivial (fun a hk => ?_)
    refine seq_eff hk hh rfl rfl (eff_store tabOK 0 rfl rfl rfl rfl rfl rfl rfl (by simp)) (fun v L a w hp hk hh => ?_)
    obtain ⟨rfl, hL⟩ := hp; rw [hL] at hh; clear hL
    refine rest_q tabOK (i := 5) hk hh [] [0, 1, 2] rfl trivial (fun a hk => ?_)
    refine hK4 a w ?_; try clear hK4 K4
    refine wp_seq_k fun K5 hK5 => ?_
    refine reg_q tabOK hk hh [] [0, 1, 2, 6] rfl trivial (fun a hk => ?_)
    refine hK5 a w ?_; try clear hK5 K5
    refine wp_ret ?_
    refine then_ret ?_
    refine fin_ret hk (show Tryz.f35.results = ⟨[.tmp 6]⟩ from rfl) (by exact (res_tmp hk rfl .nil)) ?_
    refine ⟨_, _, rfl, ⟨⟨x.k, x.a, x.b, x.n, s⟩, (!(s == [])), rfl, rfl, ?_⟩, hh⟩
    first | (rw [setF, if_pos c1]; simp [bne]; done) | (have hq := hn.2; rw [setF, if_neg c1, hq]; cases ok <;> simp [c1])
  · replace c1 : ¬ (c = 115) := (c_ef c1)
    refine wp_skip ?_
    refine hK2 a w ?_; try clear hK2 K2
    refine wp_seq_k fun K6 hK6 => ?_
    refine wp_region_lit ?_
    refine seq_q tabOK (i := 0) (stop := 1) hk hh [] rfl trivial (fun a hk => ?_)
    refine seq_eff hk hh rfl rfl (eff_call Tryz.func46 rfl rfl rfl rfl (fun w hh => snumber_spec s (by omega) (by exact (hR.cons _)) hh)) (fun v L a w hp hk hh => ?_)
    obtain ⟨⟨n, ok, rfl, hn⟩, hL⟩ := hp; rw [hL] at hh; clear hL
    refine rest_q tabOK (i := 2) hk hh [] [0, 1, 7, 8] rfl trivial (fun a hk => ?_)
    refine hK6 a w ?_; try clear hK6 K6
    refine wp_seq_k fun K7 hK7 => ?_
    refine wp_seq_k fun K8 hK8 => ?_
    refine reg_q tabOK hk hh [] [0, 7, 8, 22] rfl trivial (fun a hk => ?_)
    refine hK8 a w ?_; try clear hK8 K8
    refine wp_block ?_
    refine wp_seq_k fun K9 hK9 => ?_
    refine reg_q tabOK hk hh [] [0, 7, 8, 22, 27] rfl trivial (fun a hk => ?_)
    refine hK9 a w ?_; try clear hK9 K9
    refine code_cond hk rfl (fun c2 => ?_) (fun c2 => ?_)
    · replace c2 : c = 97 := (c_et c2)
      refine wp_region_lit ?_
      refine seq_q tabOK (i := 0) (stop := 4) hk hh [] rfl trivial (fun a hk => ?_)
      refine seq_eff hk hh rfl rfl (eff_store tabOK 0 rfl rfl rfl rfl rfl rfl rfl (by simp)) (fun v L a w hp hk hh => ?_)
      obtain ⟨rfl, hL⟩ := hp; rw [hL] at hh; clear hL
      refine rest_q tabOK (i := 5) hk hh [] [8] rfl trivial (fun a hk => ?_)
      refine blk_nm ?_
      refine hK7 a w ?_; try clear hK7 K7
      refine wp_seq_k fun K10 hK10 => ?_
      refine reg_q tabOK hk hh [] [6] rfl trivial (fun a hk => ?_)
      refine hK10 a w ?_; try clear hK10 K10
      refine wp_ret ?_
      refine fin_ret hk (show Tryz.f35.results = ⟨[.tmp 6]⟩ from rfl) (by exact (res_tmp hk rfl .nil)) ?_
      refine ⟨_, _, rfl, ⟨⟨x.k, n, x.b, x.n, x.s⟩, ok, rfl, rfl, ?_⟩, hh⟩
      first | (rw [setF, if_pos c1]; simp [bne]; done) | (have hq := hn.2; rw [setF, if_neg c1, hq]; cases ok <;> simp [c1, c2])
    · replace c2 : ¬ (c = 97) := (c_ef c2)
      refine wp_seq_k fun K11 hK11 => ?_
      refine reg_q tabOK hk hh [] [0, 7, 8, 33] rfl trivial (fun a hk => ?_)
      refine hK11 a w ?_; try clear hK11 K11
      refine code_cond hk rfl (fun c3 => ?_) (fun c3 => ?_)
      · replace c3 : c = 98 := (c_et c3)
        refine wp_region_lit ?_
        refine seq_q tabOK (i := 0) (stop := 4) hk hh [] rfl trivial (fun a hk => ?_)
        refine seq_eff hk hh rfl rfl (eff_store tabOK 0 rfl rfl rfl rfl rfl rfl rfl (by simp)) (fun v L a w hp hk hh => ?_)
        obtain ⟨rfl, hL⟩ := hp; rw [hL] at hh; clear hL
        refine rest_q tabOK (i := 5) hk hh [] [8] rfl trivial (fun a hk => ?_)
        refine blk_nm ?_
        refine hK7 a w ?_; try clear hK7 K7
        refine wp_seq_k fun K12 hK12 => ?_
        refine reg_q tabOK hk hh [] [6] rfl trivial (fun a hk => ?_)
        refine hK12 a w ?_; try clear hK12 K12
        refine wp_ret ?_
        refine fin_ret hk (show Tryz.f35.results = ⟨[.tmp 6]⟩ from rfl) (by exact (res_tmp hk rfl .nil)) ?_
        refine ⟨_, _, rfl, ⟨⟨x.k, x.a, n, x.n, x.s⟩, ok, rfl, rfl, ?_⟩, hh⟩
        first | (rw [setF, if_pos c1]; simp [bne]; done) | (have hq := hn.2; rw [setF, if_neg c1, hq]; cases ok <;> simp [c1, c2, c3])
      · replace c3 : ¬ (c = 98) := (c_ef c3)
        refine wp_region_lit ?_
        refine seq_q tabOK (i := 0) (stop := 4) hk hh [] rfl trivial (fun a hk => ?_)
        refine seq_eff hk hh rfl rfl (eff_store tabOK 0 rfl rfl rfl rfl rfl rfl rfl (by simp)) (fun v L a w hp hk hh => ?_)
        obtain ⟨rfl, hL⟩ := hp; rw [hL] at hh; clear hL
        refine rest_q tabOK (i := 5) hk hh [] [8] rfl trivial (fun a hk => ?_)
        refine blk_nm ?_
        refine hK7 a w ?_; try clear hK7 K7
        refine wp_seq_k fun K13 hK13 => ?_
        refine reg_q tabOK hk hh [] [6] rfl trivial (fun a hk => ?_)
        refine hK13 a w ?_; try clear hK13 K13
        refine wp_ret ?_
        refine fin_ret hk (show Tryz.f35.results = ⟨[.tmp 6]⟩ from rfl) (by exact (res_tmp hk rfl .nil)) ?_
        refine ⟨_, _, rfl, ⟨⟨x.k, x.a, x.b, n, x.s⟩, ok, rfl, rfl, ?_⟩, hh⟩
        first | (rw [setF, if_pos c1]; simp [bne]; done) | (have hq := hn.2; rw [setF, if_neg c1, hq]; cases ok <;> simp [c1, c2, c3])

end Go.Hop
