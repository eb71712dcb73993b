/- What is proved here: what a function of the text computes. Printed by program. -/
import Derived.Test.YtompaigbpfekhaaGreatDoorHopParse
import Derived.Test.YtompaigbpfekhaaGreatDoorWLine
namespace Go.Hop
open Go.Proofs
set_option maxRecDepth 4000
theorem parse_text (s : List UInt8) (hs : s.length ≤ 4000000000) {σ : Sg} {w : World} {R : List Assn} (hR : Lay R) (hh : Holds σ w (R)) :
    Calls Tryz.prog 14 ⟨[S s]⟩ w fun e w' => ∃ v L', e = .returned v ∧ (∃ u1 u2, v = .tuple ⟨[u1, u2]⟩ ∧ L' = Own 26 5 u1 (parseO s).1.length (actC (parseO s).1) :: Own 3 1 u2 (parseO s).2.length (intC (parseO s).2) :: R) ∧ Holds σ w' L' := by
  refine enter Tryz.func14 rfl Tryz.ntmps14 rfl fun a hk => ?_
  refine wp_seq_k fun K1 hK1 => ?_
  refine reg_q tabOK hk hh [] [0] rfl trivial (fun a hk => ?_)
  refine hK1 a w ?_; try clear hK1 K1
  refine wp_seq_k fun K2 hK2 => ?_
  refine reg_q tabOK hk hh [] [0, 4] rfl trivial (fun a hk => ?_)
  refine hK2 a w ?_; try clear hK2 K2
  refine wp_seq_k fun K3 hK3 => ?_
  refine reg_q tabOK hk hh [] [0, 4, 5] rfl trivial (fun a hk => ?_)
  refine hK3 a w ?_; try clear hK3 K3
  refine wp_seq_k fun K4 hK4 => ?_
  refine reg_q tabOK hk hh [] [0, 4, 5, 6] rfl trivial (fun a hk => ?_)
  refine hK4 a w ?_; try clear hK4 K4
  refine wp_seq_k fun K5 hK5 => ?_
  refine wp_seq_k fun K6 hK6 => ?_
  refine wp_region_lit ?_
  refine seq_q tabOK (i := 0) (stop := 1) hk hh [] rfl trivial (fun a hk => ?_)
  refine seq_eff hk hh rfl rfl (eff_call Tryz.func24 rfl rfl rfl rfl (fun w hh => split_spec 10 s (by omega) (by exact hR) hh)) (fun v L a w hp hk hh => ?_)
  obtain ⟨b1, rfl, hL⟩ := hp; rw [hL] at hh; clear hL
  refine rest_q tabOK (i := 2) hk hh [] [4, 5, 6, 12, 13, 14] rfl trivial (fun a hk => ?_)
  refine hK6 a w ?_; try clear hK6 K6
  refine wp_block ?_
  replace hh := own_nil 3 1 (own_nil 26 5 hh)
  replace hh := hh.picks [1, 0, 0] rfl
  replace hk := hk.keep [4, 5, 6, 12, 13, 14] rfl
  refine code_loop (α := Nat) (fun (m : Nat) (E : Env) (L : List Assn) => ∃ (i : Nat) (seen : Nat) (A : List ActL) (B : List Int) (u1 : Value) (u2 : Value), E = [(4, u1), (5, u2), (6, .int .i64 (seen : Int)), (12, .slice (some ⟨b1, 0, none⟩) ((spl 10 s).length) ((spl 10 s).length)), (13, .int .i64 ((spl 10 s).length : Int)), (14, .int .i64 (i : Int))] ∧ L = [Own 26 5 u1 A.length (actC A), Own 3 1 u2 B.length (intC B), row b1 9 ((spl 10 s).map S)] ++ R ∧ (i ≤ (spl 10 s).length) ∧ (seen ≤ 400) ∧ (A.length ≤ seen) ∧ (B.length ≤ seen) ∧ (PInv (spl 10 s) i seen A B (parseO s)) ∧ m = (spl 10 s).length - i) id _ hk hh ⟨0, 0, [], [], (.slice none 0 0), (.slice none 0 0), rfl, rfl, (by omega), (by omega), (by simp), (by simp), PInv.start, rfl⟩ ?_
  clear hk hh
  rintro _ _ _ a w ⟨i, seen, A, B, u1, u2, rfl, hL, hi, hsn, hA, hB, inv, rfl⟩ hk hh; rw [hL] at hh; clear hL
  have hl2 : (spl 10 s).length ≤ 5000000000 := Nat.le_trans spl_len (by omega)
  have hw0 : ∀ i, ((spl 10 s).getD i []).length ≤ 4000000000 := fun i => Nat.le_trans spl_word hs
  refine wp_seq_k fun K7 hK7 => ?_
  refine reg_q tabOK hk hh [] [4, 5, 6, 12, 13, 14, 15] rfl trivial (fun a hk => ?_)
  refine hK7 a w ?_; try clear hK7 K7
  refine wp_seq_k fun K8 hK8 => ?_
  refine code_cond hk rfl (fun c2 => ?_) (fun c2 => ?_)
  · replace c2 : (i : Int) < ((spl 10 s).length : Int) := (of_decide_eq_true c2)
    refine wp_skip ?_
    refine hK8 a w ?_; try clear hK8 K8
    refine wp_seq_k fun K9 hK9 => ?_
    refine wp_block ?_
    refine wp_seq_k fun K10 hK10 => ?_
    refine reg_q tabOK hk hh [(1, .pointer (some ⟨b1, i, none⟩)), (2, S ((spl 10 s).getD i []))] [4, 5, 6, 7, 8, 12, 13, 14] rfl ?_ (fun a hk => ?_)
    · exact ⟨ob_indexAddr tabOK (i) rfl rfl rfl rfl (by omega) (by omega) (by show 0 + ((i : Int) : Int).toNat * 1 = i; omega), ob_load tabOK 2 rfl rfl rfl rfl (map_S_at (by omega)), trivial⟩
    refine hK10 a w ?_; try clear hK10 K10
    refine wp_seq_k fun K11 hK11 => ?_
    refine wp_seq_k fun K12 hK12 => ?_
    refine reg_q tabOK hk hh [] [4, 5, 6, 7, 8, 12, 13, 14, 20] rfl trivial (fun a hk => ?_)
    refine hK12 a w ?_; try clear hK12 K12
    refine code_cond hk rfl (fun c3 => ?_) (fun c3 => ?_)
    · replace c3 : (spl 10 s).getD i [] = [] := (c_et c3)
      refine wp_exit ?_
      refine then_exit ?_
      refine blk_out ?_
      refine hK9 a w ?_; try clear hK9 K9
      refine reg_q tabOK hk hh [(0, .int .i64 ((i : Int) + 1))] [4, 5, 6, 12, 13, 14] rfl ?_ (fun a hk => ?_)
      · exact ⟨ob_eq tabOK rfl (eq_i64 (by omega)), trivial⟩
      refine then_nm ?_
      exact ⟨_, _, _, ⟨i + 1, seen, A, B, u1, u2, rfl, rfl, (by omega), (by omega), (by omega), (by omega), (inv.empty (by omega) c3), rfl⟩, (by simp only [id]; omega), hk.keep [4, 5, 6, 12, 13, 14] rfl, hh⟩
    · replace c3 : ¬ ((spl 10 s).getD i [] = []) := (c_ef c3)
      refine wp_skip ?_
      refine hK11 a w ?_; try clear hK11 K11
      refine wp_seq_k fun K13 hK13 => ?_
      refine wp_seq_k fun K14 hK14 => ?_
      refine reg_q tabOK hk hh [(1, .int .i64 ((seen : Int) + 1))] [4, 5, 6, 7, 8, 12, 13, 14] rfl ?_ (fun a hk => ?_)
      · exact ⟨ob_eq tabOK rfl (eq_i64 (by omega)), trivial⟩
      refine hK14 a w ?_; try clear hK14 K14
      refine wp_seq_k fun K15 hK15 => ?_
      refine reg_q tabOK hk hh [] [4, 5, 6, 7, 8, 12, 13, 14, 24] rfl trivial (fun a hk => ?_)
      refine hK15 a w ?_; try clear hK15 K15
      refine code_cond hk rfl (fun c4 => ?_) (fun c4 => ?_)
      · replace c4 : (seen : Int) + 1 > 400 := (of_decide_eq_true c4)
        refine wp_exit ?_
        refine then_exit ?_
        refine blk_exit rfl ?_
        refine then_exit ?_
        refine then_exit ?_
        refine blk_out ?_
        refine hK5 a w ?_; try clear hK5 K5
        refine wp_seq_k fun K16 hK16 => ?_
        refine reg_q tabOK hk hh [] [2, 3] rfl trivial (fun a hk => ?_)
        refine hK16 a w ?_; try clear hK16 K16
        refine wp_ret ?_
        refine fin_ret hk (show Tryz.f14.results = ⟨[.tmp 2, .tmp 3]⟩ from rfl) (by exact (res_tmp hk rfl (res_tmp hk rfl .nil))) ?_
        replace hh := (hh.at_ 2 rfl).drop
        have hr := inv.full (by omega) c3 (by omega)
        exact ⟨_, _, rfl, ⟨u1, u2, rfl, by rw [hr]; rfl⟩, hh⟩
      · replace c4 : ¬ ((seen : Int) + 1 > 400) := (of_decide_eq_false c4)
        refine wp_skip ?_
        refine hK13 a w ?_; try clear hK13 K13
        refine wp_seq_k fun K17 hK17 => ?_
        refine wp_region_lit ?_
        refine seq_q tabOK (i := 0) (stop := 1) hk hh [] rfl trivial (fun a hk => ?_)
        refine seq_eff hk hh rfl rfl (eff_call Tryz.func15 rfl rfl rfl rfl (fun w hh => line_spec ((spl 10 s).getD i []) (by first | exact hs | exact hw0 _ | omega) (by exact (((hR.cons _).cons _).cons _)) hh)) (fun v L a w hp hk hh => ?_)
        obtain ⟨x5, ok6, rfl, hL, hlx5, hzx5⟩ := hp; rw [hL] at hh; clear hL
        refine seq_q tabOK (i := 2) (stop := 5) hk hh [] rfl trivial (fun a hk => ?_)
        refine seq_eff hk hh rfl rfl (eff_alloc tabOK rfl) (fun v L a w hp hk hh => ?_)
        obtain ⟨b7, rfl, hL⟩ := hp; rw [hL] at hh; clear hL
        refine seq_eff hk hh rfl rfl (eff_store tabOK 0 rfl rfl rfl rfl rfl rfl rfl (by simp)) (fun v L a w hp hk hh => ?_)
        obtain ⟨rfl, hL⟩ := hp; rw [hL] at hh; clear hL
        refine rest_q tabOK (i := 7) hk hh [] [4, 5, 6, 7, 9, 10, 12, 13, 14] rfl trivial (fun a hk => ?_)
        refine hK17 a w ?_; try clear hK17 K17
        refine wp_seq_k fun K18 hK18 => ?_
        refine reg_q tabOK hk hh [] [4, 5, 6, 7, 9, 12, 13, 14, 30] rfl trivial (fun a hk => ?_)
        refine hK18 a w ?_; try clear hK18 K18
        refine code_cond hk rfl (fun c8 => ?_) (fun c8 => ?_)
        · replace c8 : ok6 = true := c8
          refine wp_region_lit ?_
          refine seq_q tabOK (i := 0) (stop := 2) hk hh [(1, .agg ⟨[.int .i64 x5.k, .int .i64 x5.a, .int .i64 x5.b, .int .i64 x5.n, S x5.s]⟩)] rfl ?_ (fun a hk => ?_)
          · exact ⟨ob_loadN tabOK 0 rfl rfl rfl rfl rfl, trivial⟩
          refine seq_eff hk hh rfl rfl (eff_lit tabOK rfl rfl rfl (by decide) rfl) (fun v L a w hp hk hh => ?_)
          obtain ⟨b9, rfl, hL⟩ := hp; rw [hL] at hh; clear hL
          refine seq_eff hk hh rfl rfl (eff_append tabOK 2 rfl rfl rfl rfl rfl rfl rfl (.inl ⟨_, rfl⟩) (fun _ => rfl) (fun w hh => src_row (j := 1) hh rfl rfl) rfl rfl (by show (A.length + 1) * 48 ≤ 140737488355328; omega) (by show 0 < 48; omega)) (fun u10 L a w hp hk hh => ?_)
          rw [hp] at hh; clear hp
          refine rest_q tabOK (i := 4) hk hh [] [4, 5, 6, 12, 13, 14] rfl trivial (fun a hk => ?_)
          refine blk_nm ?_
          refine hK9 a w ?_; try clear hK9 K9
          refine reg_q tabOK hk hh [(0, .int .i64 ((i : Int) + 1))] [4, 5, 6, 12, 13, 14] rfl ?_ (fun a hk => ?_)
          · exact ⟨ob_eq tabOK rfl (eq_i64 (by omega)), trivial⟩
          rw [len_snoc (x := (⟨x5.k, x5.a, x5.b, x5.n, x5.s⟩ : ActL)), flat_snoc] at hh
          replace hh := (hh.at_ 1 rfl).drop
          replace hh := (hh.at_ 1 rfl).drop
          refine then_nm ?_
          exact ⟨_, _, _, ⟨i + 1, seen + 1, A ++ [(⟨x5.k, x5.a, x5.b, x5.n, x5.s⟩ : ActL)], B, u10, u2, rfl, rfl, (by omega), (by omega), (by simp only [List.length_append, List.length_cons, List.length_nil]; omega), (by omega), (inv.act (by omega) c3 (by omega) (by rw [hlx5, if_pos c8])), rfl⟩, (by simp only [id]; omega), hk.keep [4, 5, 6, 12, 13, 14] rfl, hh⟩
        · replace c8 : ¬ (ok6 = true) := (by simp [c8])
          refine wp_region_lit ?_
          refine seq_q tabOK (i := 0) (stop := 3) hk hh [(2, .int .i64 ((i : Int) + 1))] rfl ?_ (fun a hk => ?_)
          · exact ⟨ob_eq tabOK rfl (eq_i64 (by omega)), trivial⟩
          refine seq_eff hk hh rfl rfl (eff_lit tabOK rfl rfl rfl (by decide) rfl) (fun v L a w hp hk hh => ?_)
          obtain ⟨b11, rfl, hL⟩ := hp; rw [hL] at hh; clear hL
          refine seq_eff hk hh rfl rfl (eff_append tabOK 3 rfl rfl rfl rfl rfl rfl rfl (.inl ⟨_, rfl⟩) (fun _ => rfl) (fun w hh => src_row (j := 1) hh rfl rfl) rfl rfl (by show (B.length + 1) * 8 ≤ 140737488355328; omega) (by show 0 < 8; omega)) (fun u12 L a w hp hk hh => ?_)
          rw [hp] at hh; clear hp
          refine rest_q tabOK (i := 5) hk hh [] [4, 5, 6, 12, 13, 14] rfl trivial (fun a hk => ?_)
          refine blk_nm ?_
          refine hK9 a w ?_; try clear hK9 K9
          refine reg_q tabOK hk hh [(0, .int .i64 ((i : Int) + 1))] [4, 5, 6, 12, 13, 14] rfl ?_ (fun a hk => ?_)
          · exact ⟨ob_eq tabOK rfl (eq_i64 (by omega)), trivial⟩
          rw [len_snoc (x := ((i : Int) + 1)), ints_snoc] at hh
          replace hh := (hh.at_ 1 rfl).drop
          replace hh := (hh.at_ 1 rfl).drop
          replace hh := hh.picks [1, 0, 0] rfl
          refine then_nm ?_
          exact ⟨_, _, _, ⟨i + 1, seen + 1, A, B ++ [(i : Int) + 1], u1, u12, rfl, rfl, (by omega), (by omega), (by omega), (by simp only [List.length_append, List.length_cons, List.length_nil]; omega), (inv.none (by omega) c3 (by omega) (by rw [hlx5, if_neg c8])), rfl⟩, (by simp only [id]; omega), hk.keep [4, 5, 6, 12, 13, 14] rfl, hh⟩
  · replace c2 : ¬ ((i : Int) < ((spl 10 s).length : Int)) := (of_decide_eq_false c2)
    refine wp_exit ?_
    refine then_exit ?_
    refine then_exit ?_
    refine blk_out ?_
    refine hK5 a w ?_; try clear hK5 K5
    refine wp_seq_k fun K19 hK19 => ?_
    refine reg_q tabOK hk hh [] [2, 3] rfl trivial (fun a hk => ?_)
    refine hK19 a w ?_; try clear hK19 K19
    refine wp_ret ?_
    refine fin_ret hk (show Tryz.f14.results = ⟨[.tmp 2, .tmp 3]⟩ from rfl) (by exact (res_tmp hk rfl (res_tmp hk rfl .nil))) ?_
    replace hh := (hh.at_ 2 rfl).drop
    have hr := inv.fin (by omega)
    exact ⟨_, _, rfl, ⟨u1, u2, rfl, by rw [hr]; rfl⟩, hh⟩

end Go.Hop
