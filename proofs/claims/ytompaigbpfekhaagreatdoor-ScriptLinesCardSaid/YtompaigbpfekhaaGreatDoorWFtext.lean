/- What is proved here: what a function of the text computes. Printed by program. -/
import Derived.Test.YtompaigbpfekhaaGreatDoorHopParse
import Derived.Test.YtompaigbpfekhaaGreatDoorHopShelf
namespace Go.Hop
open Go.Proofs
set_option maxRecDepth 4000
theorem ftext_spec (fw ff : List UInt8) (fk : Int) (x : ActL) (hx : ActOK x) (hff : ff.length ≤ 3) (hfw : fw.length ≤ 10) (hasc : ∀ i, (ff.getD i 0).toNat < 128) {σ : Sg} {w : World} {R : List Assn} (hR : Lay R) (hh : Holds σ w (R)) :
    Calls Tryz.prog 17 ⟨[.agg ⟨[S fw, .int .i64 fk, S ff]⟩, .agg ⟨[.int .i64 x.k, .int .i64 x.a, .int .i64 x.b, .int .i64 x.n, S x.s]⟩]⟩ w fun e w' => ∃ v L', e = .returned v ∧ (v = S (showT fw ff x) ∧ L' = R) ∧ Holds σ w' L' := by
  refine enter Tryz.func17 rfl Tryz.ntmps17 rfl fun a hk => ?_
  have hxa := hx.a
  have hxb := hx.b
  have hxn := hx.n
  refine wp_seq_k fun K1 hK1 => ?_
  refine wp_region_lit ?_
  refine seq_eff hk hh rfl rfl (eff_box rfl rfl) (fun v L a w hp hk hh => ?_)
  obtain ⟨b1, rfl, hL⟩ := hp; rw [hL] at hh; clear hL
  refine seq_eff hk hh rfl rfl (eff_box rfl rfl) (fun v L a w hp hk hh => ?_)
  obtain ⟨b2, rfl, hL⟩ := hp; rw [hL] at hh; clear hL
  refine rest_q tabOK (i := 2) hk hh [] [2, 3] rfl trivial (fun a hk => ?_)
  refine hK1 a w ?_; try clear hK1 K1
  refine wp_seq_k fun K2 hK2 => ?_
  refine wp_region_lit ?_
  refine seq_q tabOK (i := 0) (stop := 2) hk hh [(1, S fw)] rfl ?_ (fun a hk => ?_)
  · exact ⟨ob_load tabOK 1 rfl rfl rfl rfl rfl, trivial⟩
  refine seq_eff hk hh rfl rfl (eff_lit tabOK rfl rfl rfl (by decide) rfl) (fun v L a w hp hk hh => ?_)
  obtain ⟨b3, rfl, hL⟩ := hp; rw [hL] at hh; clear hL
  refine rest_q tabOK (i := 3) hk hh [] [2, 3, 5] rfl trivial (fun a hk => ?_)
  refine hK2 a w ?_; try clear hK2 K2
  refine wp_seq_k fun K3 hK3 => ?_
  refine wp_seq_k fun K4 hK4 => ?_
  refine wp_region_lit ?_
  refine seq_q tabOK (i := 0) (stop := 2) hk hh [(1, S ff)] rfl ?_ (fun a hk => ?_)
  · exact ⟨ob_load tabOK 2 rfl rfl rfl rfl rfl, trivial⟩
  refine seq_eff hk hh rfl rfl (eff_range_str tabOK rfl rfl) (fun v L a w hp hk hh => ?_)
  obtain ⟨b4, rfl, hL⟩ := hp; rw [hL] at hh; clear hL
  refine rest_q tabOK (i := 3) hk hh [] [3, 5, 13] rfl trivial (fun a hk => ?_)
  refine hK4 a w ?_; try clear hK4 K4
  refine wp_block ?_
  replace hh := own_again (k := 1) (sp := []) (n := 1) (cap := 1) (cs := [S fw]) ⟨by omega, rfl, rfl⟩ (hh.at_ 1 rfl)
  replace hh := (hh.at_ 3 rfl).drop
  replace hk := hk.keep [3, 5, 13] rfl
  refine code_loop (α := Nat) (fun (m : Nat) (E : Env) (L : List Assn) => ∃ (i : Nat) (O : List (List UInt8)) (u : Value), E = [(3, .pointer (some ⟨b2, 0, none⟩)), (5, u), (13, .pointer (some ⟨b4, 0, none⟩))] ∧ L = [Own 9 1 u O.length (O.map S), iterS b4 ff i, row b2 26 [.int .i64 x.k, .int .i64 x.a, .int .i64 x.b, .int .i64 x.n, S x.s]] ++ R ∧ (i ≤ ff.length) ∧ (O.length ≤ 1 + i) ∧ (O = fw :: (ff.take i).map (fldT x)) ∧ m = ff.length - i) id _ hk hh ⟨0, [fw], (.slice (some ⟨b3, 0, none⟩) 1 1), rfl, rfl, (by omega), (by simp), (by simp), rfl⟩ ?_
  clear hk hh
  rintro _ _ _ a w ⟨i, O, u, rfl, hL, hi, hO, inv, rfl⟩ hk hh; rw [hL] at hh; clear hL
  refine wp_seq_k fun K5 hK5 => ?_
  by_cases c5 : i < ff.length
  · refine wp_region_lit ?_
    refine seq_eff hk hh rfl rfl (eff_next_ascii 1 rfl rfl (getD_at c5) (hasc _)) (fun v L a w hp hk hh => ?_)
    obtain ⟨rfl, hL⟩ := hp; rw [hL] at hh; clear hL
    refine rest_q tabOK (i := 1) hk hh [] [3, 5, 13, 14, 15] rfl trivial (fun a hk => ?_)
    refine hK5 a w ?_; try clear hK5 K5
    refine wp_seq_k fun K6 hK6 => ?_
    refine code_cond hk rfl (fun _ => ?_) (fun h => by cases h)
    refine wp_skip ?_
    refine hK6 a w ?_; try clear hK6 K6
    refine wp_block ?_
    refine wp_seq_k fun K7 hK7 => ?_
    refine reg_q tabOK hk hh [] [3, 5, 7, 13] rfl trivial (fun a hk => ?_)
    refine hK7 a w ?_; try clear hK7 K7
    refine wp_seq_k fun K8 hK8 => ?_
    refine reg_q tabOK hk hh [] [3, 5, 13, 17] rfl trivial (fun a hk => ?_)
    refine hK8 a w ?_; try clear hK8 K8
    refine wp_block ?_
    refine wp_seq_k fun K9 hK9 => ?_
    refine reg_q tabOK hk hh [] [3, 5, 13, 17, 24] rfl trivial (fun a hk => ?_)
    refine hK9 a w ?_; try clear hK9 K9
    refine code_cond hk rfl (fun c6 => ?_) (fun c6 => ?_)
    · replace c6 : ((ff.getD i 0).toNat : Int) = 97 := (c_et c6)
      refine wp_region_lit ?_
      refine seq_q tabOK (i := 0) (stop := 3) hk hh [(2, .int .i64 x.a)] rfl ?_ (fun a hk => ?_)
      · exact ⟨ob_load tabOK 2 rfl rfl rfl rfl rfl, trivial⟩
      refine seq_eff hk hh rfl rfl (eff_call Tryz.func29 rfl rfl rfl rfl (fun w hh => itoa_spec x.a (by first | assumption | (unfold I64; omega)) (by exact (((hR.cons _).cons _).cons _)) hh)) (fun v L a w hp hk hh => ?_)
      obtain ⟨rfl, hL⟩ := hp; rw [hL] at hh; clear hL
      refine seq_eff hk hh rfl rfl (eff_lit tabOK rfl rfl rfl (by decide) rfl) (fun v L a w hp hk hh => ?_)
      obtain ⟨b7, rfl, hL⟩ := hp; rw [hL] at hh; clear hL
      refine seq_eff hk hh rfl rfl (eff_append tabOK 2 rfl rfl rfl rfl rfl rfl rfl (.inl ⟨_, rfl⟩) (fun _ => rfl) (fun w hh => src_row (j := 1) hh rfl rfl) rfl rfl (by show (O.length + 1) * 16 ≤ 140737488355328; omega) (by show 0 < 16; omega)) (fun u8 L a w hp hk hh => ?_)
      rw [hp] at hh; clear hp
      refine rest_q tabOK (i := 6) hk hh [] [3, 5, 13] rfl trivial (fun a hk => ?_)
      refine blk_nm ?_
      refine blk_nm ?_
      rw [len_snoc (x := (Lib.itoa x.a)), map_snoc] at hh
      replace hh := (hh.at_ 1 rfl).drop
      refine then_nm ?_
      exact ⟨_, _, _, ⟨i + 1, O ++ [(Lib.itoa x.a)], u8, rfl, rfl, (by omega), (by simp only [List.length_append, List.length_cons, List.length_nil]; omega), (words_step inv (by omega) (fld_a c6)), rfl⟩, (by simp only [id]; omega), hk.keep [3, 5, 13] rfl, hh⟩
    · replace c6 : ¬ (((ff.getD i 0).toNat : Int) = 97) := (c_ef c6)
      refine wp_seq_k fun K10 hK10 => ?_
      refine reg_q tabOK hk hh [] [3, 5, 13, 17, 32] rfl trivial (fun a hk => ?_)
      refine hK10 a w ?_; try clear hK10 K10
      refine code_cond hk rfl (fun c9 => ?_) (fun c9 => ?_)
      · replace c9 : ((ff.getD i 0).toNat : Int) = 98 := (c_et c9)
        refine wp_region_lit ?_
        refine seq_q tabOK (i := 0) (stop := 3) hk hh [(2, .int .i64 x.b)] rfl ?_ (fun a hk => ?_)
        · exact ⟨ob_load tabOK 2 rfl rfl rfl rfl rfl, trivial⟩
        refine seq_eff hk hh rfl rfl (eff_call Tryz.func29 rfl rfl rfl rfl (fun w hh => itoa_spec x.b (by first | assumption | (unfold I64; omega)) (by exact (((hR.cons _).cons _).cons _)) hh)) (fun v L a w hp hk hh => ?_)
        obtain ⟨rfl, hL⟩ := hp; rw [hL] at hh; clear hL
        refine seq_eff hk hh rfl rfl (eff_lit tabOK rfl rfl rfl (by decide) rfl) (fun v L a w hp hk hh => ?_)
        obtain ⟨b10, rfl, hL⟩ := hp; rw [hL] at hh; clear hL
        refine seq_eff hk hh rfl rfl (eff_append tabOK 2 rfl rfl rfl rfl rfl rfl rfl (.inl ⟨_, rfl⟩) (fun _ => rfl) (fun w hh => src_row (j := 1) hh rfl rfl) rfl rfl (by show (O.length + 1) * 16 ≤ 140737488355328; omega) (by show 0 < 16; omega)) (fun u11 L a w hp hk hh => ?_)
        rw [hp] at hh; clear hp
        refine rest_q tabOK (i := 6) hk hh [] [3, 5, 13] rfl trivial (fun a hk => ?_)
        refine blk_nm ?_
        refine blk_nm ?_
        rw [len_snoc (x := (Lib.itoa x.b)), map_snoc] at hh
        replace hh := (hh.at_ 1 rfl).drop
        refine then_nm ?_
        exact ⟨_, _, _, ⟨i + 1, O ++ [(Lib.itoa x.b)], u11, rfl, rfl, (by omega), (by simp only [List.length_append, List.length_cons, List.length_nil]; omega), (words_step inv (by omega) (fld_b c6 c9)), rfl⟩, (by simp only [id]; omega), hk.keep [3, 5, 13] rfl, hh⟩
      · replace c9 : ¬ (((ff.getD i 0).toNat : Int) = 98) := (c_ef c9)
        refine wp_seq_k fun K11 hK11 => ?_
        refine reg_q tabOK hk hh [] [3, 5, 13, 40] rfl trivial (fun a hk => ?_)
        refine hK11 a w ?_; try clear hK11 K11
        refine code_cond hk rfl (fun c12 => ?_) (fun c12 => ?_)
        · replace c12 : ((ff.getD i 0).toNat : Int) = 115 := (c_et c12)
          refine wp_region_lit ?_
          refine seq_q tabOK (i := 0) (stop := 3) hk hh [(2, S x.s)] rfl ?_ (fun a hk => ?_)
          · exact ⟨ob_load tabOK 2 rfl rfl rfl rfl rfl, trivial⟩
          refine seq_eff hk hh rfl rfl (eff_lit tabOK rfl rfl rfl (by decide) rfl) (fun v L a w hp hk hh => ?_)
          obtain ⟨b13, rfl, hL⟩ := hp; rw [hL] at hh; clear hL
          refine seq_eff hk hh rfl rfl (eff_append tabOK 2 rfl rfl rfl rfl rfl rfl rfl (.inl ⟨_, rfl⟩) (fun _ => rfl) (fun w hh => src_row (j := 1) hh rfl rfl) rfl rfl (by show (O.length + 1) * 16 ≤ 140737488355328; omega) (by show 0 < 16; omega)) (fun u14 L a w hp hk hh => ?_)
          rw [hp] at hh; clear hp
          refine rest_q tabOK (i := 5) hk hh [] [3, 5, 13] rfl trivial (fun a hk => ?_)
          refine blk_nm ?_
          refine blk_nm ?_
          rw [len_snoc (x := x.s), map_snoc] at hh
          replace hh := (hh.at_ 1 rfl).drop
          refine then_nm ?_
          exact ⟨_, _, _, ⟨i + 1, O ++ [x.s], u14, rfl, rfl, (by omega), (by simp only [List.length_append, List.length_cons, List.length_nil]; omega), (words_step inv (by omega) (fld_s c6 c9 c12)), rfl⟩, (by simp only [id]; omega), hk.keep [3, 5, 13] rfl, hh⟩
        · replace c12 : ¬ (((ff.getD i 0).toNat : Int) = 115) := (c_ef c12)
          refine wp_region_lit ?_
          refine seq_q tabOK (i := 0) (stop := 3) hk hh [(2, .int .i64 x.n)] rfl ?_ (fun a hk => ?_)
          · exact ⟨ob_load tabOK 2 rfl rfl rfl rfl rfl, trivial⟩
          refine seq_eff hk hh rfl rfl (eff_call Tryz.func30 rfl rfl rfl rfl (fun w hh => fmt_spec x.n (by first | assumption | (unfold I64; omega)) (by exact (((hR.cons _).cons _).cons _)) hh)) (fun v L a w hp hk hh => ?_)
          obtain ⟨rfl, hL⟩ := hp; rw [hL] at hh; clear hL
          refine seq_eff hk hh rfl rfl (eff_lit tabOK rfl rfl rfl (by decide) rfl) (fun v L a w hp hk hh => ?_)
          obtain ⟨b15, rfl, hL⟩ := hp; rw [hL] at hh; clear hL
          refine seq_eff hk hh rfl rfl (eff_append tabOK 2 rfl rfl rfl rfl rfl rfl rfl (.inl ⟨_, rfl⟩) (fun _ => rfl) (fun w hh => src_row (j := 1) hh rfl rfl) rfl rfl (by show (O.length + 1) * 16 ≤ 140737488355328; omega) (by show 0 < 16; omega)) (fun u16 L a w hp hk hh => ?_)
          rw [hp] at hh; clear hp
          refine rest_q tabOK (i := 6) hk hh [] [3, 5, 13] rfl trivial (fun a hk => ?_)
          refine blk_nm ?_
          refine blk_nm ?_
          rw [len_snoc (x := (Lib.itoa x.n)), map_snoc] at hh
          replace hh := (hh.at_ 1 rfl).drop
          refine then_nm ?_
          exact ⟨_, _, _, ⟨i + 1, O ++ [(Lib.itoa x.n)], u16, rfl, rfl, (by omega), (by simp only [List.length_append, List.length_cons, List.length_nil]; omega), (words_step inv (by omega) (fld_n c6 c9 c12)), rfl⟩, (by simp only [id]; omega), hk.keep [3, 5, 13] rfl, hh⟩
  · refine wp_region_lit ?_
    refine seq_eff hk hh rfl rfl (eff_next_end 1 rfl rfl (by omega)) (fun v L a w hp hk hh => ?_)
    obtain ⟨rfl, hL⟩ := hp; rw [hL] at hh; clear hL
    refine rest_q tabOK (i := 1) hk hh [] [3, 5, 13, 14, 15] rfl trivial (fun a hk => ?_)
    refine hK5 a w ?_; try clear hK5 K5
    refine wp_seq_k fun K12 hK12 => ?_
    refine code_cond hk rfl (fun h => by cases h) (fun _ => ?_)
    refine wp_exit ?_
    refine then_exit ?_
    refine then_exit ?_
    refine blk_out ?_
    refine hK3 a w ?_; try clear hK3 K3
    refine wp_seq_k fun K13 hK13 => ?_
    have hfin := words_fin inv (by omega)
    subst hfin
    clear inv
    have hsl := show_len (x := x) (fw := fw) (ff := ff) hx hff hfw
    have hjl : ([32].intercalate (wordsT fw ff x)).length ≤ 140737488355328 := Nat.le_trans hsl (by decide)
    have hjn : (wordsT fw ff x).length ≤ 140737488355328 := by omega
    refine wp_region_lit ?_
    refine seq_q tabOK (i := 0) (stop := 1) hk hh [] rfl trivial (fun a hk => ?_)
    refine seq_eff hk hh rfl rfl (eff_call Tryz.func31 rfl rfl rfl rfl (fun w hh => join_spec 32 (wordsT fw ff x) rfl hjl hjn (hh.at_ 0 rfl))) (fun v L a w hp hk hh => ?_)
    obtain ⟨rfl, hL⟩ := hp; rw [hL] at hh; clear hL
    refine rest_q tabOK (i := 2) hk hh [] [4] rfl trivial (fun a hk => ?_)
    refine hK13 a w ?_; try clear hK13 K13
    refine wp_ret ?_
    refine fin_ret hk (show Tryz.f17.results = ⟨[.tmp 4]⟩ from rfl) (by exact (res_tmp hk rfl .nil)) ?_
    replace hh := (hh.at_ 0 rfl).drop
    replace hh := (hh.at_ 0 rfl).drop
    exact ⟨_, _, rfl, ⟨rfl, rfl⟩, hh⟩

end Go.Hop
