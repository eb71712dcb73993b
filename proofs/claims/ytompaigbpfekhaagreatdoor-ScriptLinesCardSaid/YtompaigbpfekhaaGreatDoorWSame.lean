/- What is proved here: what a function of the text computes. Printed by program. -/
import Derived.Test.YtompaigbpfekhaaGreatDoorHopParse
import Derived.Test.YtompaigbpfekhaaGreatDoorHopTab
namespace Go.Hop
open Go.Proofs
set_option maxRecDepth 4000
theorem same_spec (A B : List Int) (u : Value) (b2 c2 : Nat) (sp2 : List Value) (hA : A.length ≤ 1000000000) (hB : B.length ≤ 1000000000) (σ : Sg) (w : World) (R : List Assn) (hh : Holds σ w ([Own 3 1 u A.length (intC A), row b2 3 (intC B ++ sp2)] ++ R)) :
    Calls Tryz.prog 21 ⟨[u, .slice (some ⟨b2, 0, none⟩) B.length c2]⟩ w fun e w' => ∃ v L', e = .returned v ∧ (v = .bool (decide (A = B)) ∧ L' = Own 3 1 u A.length (intC A) :: row b2 3 (intC B ++ sp2) :: R) ∧ Holds σ w' L' := by
  refine enter Tryz.func21 rfl Tryz.ntmps21 rfl fun a hk => ?_
  refine wp_seq_k fun K1 hK1 => ?_
  refine reg_q tabOK hk hh [] [0, 1] rfl trivial (fun a hk => ?_)
  refine hK1 a w ?_; try clear hK1 K1
  refine wp_seq_k fun K2 hK2 => ?_
  refine wp_seq_k fun K3 hK3 => ?_
  refine reg_q tabOK hk hh [(1, .int .i64 (A.length : Int))] [0, 1, 10] rfl ?_ (fun a hk => ?_)
  · exact ⟨ob_lenOwn tabOK 0 rfl rfl rfl, trivial⟩
  refine hK3 a w ?_; try clear hK3 K3
  refine code_cond hk rfl (fun c1 => ?_) (fun c1 => ?_)
  · replace c1 : ¬ ((A.length : Int) = (B.length : Int)) := (c_nt c1)
    refine wp_seq_k fun K4 hK4 => ?_
    refine reg_q tabOK hk hh [] [0, 1, 4] rfl trivial (fun a hk => ?_)
    refine hK4 a w ?_; try clear hK4 K4
    refine wp_ret ?_
    refine then_ret ?_
    refine fin_ret hk (show Tryz.f21.results = ⟨[.tmp 4]⟩ from rfl) (by exact (res_tmp hk rfl .nil)) ?_
    refine ⟨_, _, rfl, ⟨?_, rfl⟩, hh⟩
    exact (v_df (fun h => c1 (by rw [h]))).symm
  · replace c1 : (A.length : Int) = (B.length : Int) := (c_nf c1)
    refine wp_skip ?_
    refine hK2 a w ?_; try clear hK2 K2
    refine wp_seq_k fun K5 hK5 => ?_
    refine wp_seq_k fun K6 hK6 => ?_
    refine reg_q tabOK hk hh [] [0, 1, 5] rfl trivial (fun a hk => ?_)
    refine hK6 a w ?_; try clear hK6 K6
    refine wp_block ?_
    replace hk := hk.keep [0, 1, 5] rfl
    refine code_loop (α := Nat) (fun (m : Nat) (E : Env) (L : List Assn) => ∃ (i : Nat), E = [(0, u), (1, .slice (some ⟨b2, 0, none⟩) B.length c2), (5, .int .i64 (i : Int))] ∧ L = [Own 3 1 u A.length (intC A), row b2 3 (intC B ++ sp2)] ++ R ∧ (i ≤ A.length) ∧ (∀ j, j < i → A.getD j 0 = B.getD j 0) ∧ m = A.length - i) id _ hk hh ⟨0, rfl, rfl, (by omega), (fun j hj => by omega), rfl⟩ ?_
    clear hk hh
    rintro _ _ _ a w ⟨i, rfl, hL, hi, inv, rfl⟩ hk hh; rw [hL] at hh; clear hL
    refine wp_seq_k fun K7 hK7 => ?_
    refine wp_seq_k fun K8 hK8 => ?_
    refine reg_q tabOK hk hh [(2, .int .i64 (A.length : Int))] [0, 1, 5, 14] rfl ?_ (fun a hk => ?_)
    · exact ⟨ob_lenOwn tabOK 0 rfl rfl rfl, trivial⟩
    refine hK8 a w ?_; try clear hK8 K8
    refine code_cond hk rfl (fun c2 => ?_) (fun c2 => ?_)
    · replace c2 : (i : Int) < (A.length : Int) := (of_decide_eq_true c2)
      refine wp_skip ?_
      refine hK7 a w ?_; try clear hK7 K7
      refine wp_seq_k fun K9 hK9 => ?_
      refine wp_block ?_
      refine wp_seq_k fun K10 hK10 => ?_
      have hx := own_ne (hh.at_ 0 rfl) (by omega)
      clear hh; obtain ⟨b3, cap4, sp5, hu, hcap4, hh⟩ := hx; subst hu
      refine reg_d tabOK (by kernel_rfl) hk hh [] [0, 1, 5, 25] rfl 0 [(2, .pointer (some ⟨b3, i, none⟩)), (3, .int .i64 (A.getD i 0)), (6, .pointer (some ⟨b2, i, none⟩)), (7, .int .i64 (B.getD i 0))] ?_
      refine chain_fin rfl ?_ (fun a w hk hh => ?_)
      · exact ⟨ob_indexAddr tabOK (i) rfl rfl rfl rfl (by omega) (by omega) (by show 0 + ((i : Int) : Int).toNat * 1 = i; omega), ob_load tabOK 0 rfl rfl rfl rfl (ints_at (by omega)), ob_indexAddr tabOK (i) rfl rfl rfl rfl (by omega) (by omega) (by show 0 + ((i : Int) : Int).toNat * 1 = i; omega), ob_load tabOK 1 rfl rfl rfl rfl (ints_at (by omega)), trivial⟩
      refine hK10 a w ?_; try clear hK10 K10
      refine code_cond hk rfl (fun c6 => ?_) (fun c6 => ?_)
      · replace c6 : ¬ (A.getD i 0 = B.getD i 0) := (c_nt c6)
        refine wp_seq_k fun K11 hK11 => ?_
        refine reg_q tabOK hk hh [] [0, 1, 4, 5] rfl trivial (fun a hk => ?_)
        refine hK11 a w ?_; try clear hK11 K11
        refine wp_ret ?_
        refine blk_ret ?_
        refine then_ret ?_
        refine then_ret ?_
        refine blk_ret ?_
        refine then_ret ?_
        refine fin_ret hk (show Tryz.f21.results = ⟨[.tmp 4]⟩ from rfl) (by exact (res_tmp hk rfl .nil)) ?_
        replace hh := own_again hcap4 (hh.at_ 0 rfl)
        refine ⟨_, _, rfl, ⟨?_, rfl⟩, hh⟩
        exact (v_df (fun h => c6 (by rw [h]))).symm
      · replace c6 : A.getD i 0 = B.getD i 0 := (c_nf c6)
        refine wp_skip ?_
        refine blk_nm ?_
        refine hK9 a w ?_; try clear hK9 K9
        refine reg_q tabOK hk hh [(1, .int .i64 ((i : Int) + 1))] [0, 1, 5] rfl ?_ (fun a hk => ?_)
        · exact ⟨ob_eq tabOK rfl (eq_i64 (by omega)), trivial⟩
        replace hh := own_again hcap4 (hh.at_ 0 rfl)
        refine then_nm ?_
        exact ⟨_, _, _, ⟨i + 1, rfl, rfl, (by omega), (fun j hj => (Nat.lt_succ_iff_lt_or_eq.1 hj).elim (fun h => inv j h) (fun h => by rw [h]; exact c6)), rfl⟩, (by simp only [id]; omega), hk.keep [0, 1, 5] rfl, hh⟩
    · replace c2 : ¬ ((i : Int) < (A.length : Int)) := (of_decide_eq_false c2)
      refine wp_exit ?_
      refine then_exit ?_
      refine then_exit ?_
      refine blk_out ?_
      refine hK5 a w ?_; try clear hK5 K5
      refine wp_seq_k fun K12 hK12 => ?_
      refine reg_q tabOK hk hh [] [4] rfl trivial (fun a hk => ?_)
      refine hK12 a w ?_; try clear hK12 K12
      refine wp_ret ?_
      refine fin_ret hk (show Tryz.f21.results = ⟨[.tmp 4]⟩ from rfl) (by exact (res_tmp hk rfl .nil)) ?_
      refine ⟨_, _, rfl, ⟨?_, rfl⟩, hh⟩
      exact (v_dt (list_ext0 (by omega) inv (by omega))).symm

end Go.Hop
