/- What is proved here: what a function of the text computes. Printed by program. -/
import Derived.Test.YtompaigbpfekhaaGreatDoorSt0
import Derived.Test.YtompaigbpfekhaaGreatDoorSt2
import Derived.Test.YtompaigbpfekhaaGreatDoorSt6
import Derived.Test.YtompaigbpfekhaaGreatDoorSt7
namespace Go.Hop
open Go.Proofs
set_option maxRecDepth 4000
theorem text_spec (x : ActL) (hx : ActOK x) {σ : Sg} {w : World} {R : List Assn} (hR : Lay R) (hh : Holds σ w (R)) :
    Calls Tryz.prog 8 ⟨[.agg ⟨[.int .i64 x.k, .int .i64 x.a, .int .i64 x.b, .int .i64 x.n, S x.s]⟩]⟩ w fun e w' => ∃ v L', e = .returned v ∧ (v = S (textO x) ∧ L' = R) ∧ Holds σ w' L' := by
  refine enter Tryz.func8 rfl Tryz.ntmps8 rfl fun a hk => ?_
  refine wp_seq_k fun K1 hK1 => ?_
  refine wp_region_lit ?_
  refine seq_eff hk hh rfl rfl (eff_box rfl rfl) (fun v L a w hp hk hh => ?_)
  obtain ⟨b1, rfl, hL⟩ := hp; rw [hL] at hh; clear hL
  refine rest_q tabOK (i := 1) hk hh [] [1] rfl trivial (fun a hk => ?_)
  refine hK1 a w ?_; try clear hK1 K1
  refine wp_seq_k fun K2 hK2 => ?_
  refine reg_q tabOK hk hh [] [1, 3] rfl trivial (fun a hk => ?_)
  refine hK2 a w ?_; try clear hK2 K2
  refine wp_seq_k fun K3 hK3 => ?_
  refine wp_seq_k fun K4 hK4 => ?_
  refine wp_region_lit ?_
  refine seq_eff hk hh rfl rfl (eff_call Tryz.func18 rfl rfl rfl rfl (fun w hh => forms_spec σ w _ hh)) (fun v L a w hp hk hh => ?_)
  obtain ⟨b2, rfl, hL⟩ := hp; rw [hL] at hh; clear hL
  refine rest_q tabOK (i := 1) hk hh [] [1, 3, 7, 8, 9] rfl trivial (fun a hk => ?_)
  refine hK4 a w ?_; try clear hK4 K4
  refine wp_block ?_
  replace hh := hh.picks [1, 0] rfl
  replace hk := hk.keep [1, 3, 7, 8, 9] rfl
  refine code_loop (α := Nat) (fun (m : Nat) (E : Env) (L : List Assn) => ∃ (i : Nat), E = [(1, .pointer (some ⟨b1, 0, none⟩)), (3, .func (.func 17) ⟨[]⟩ ⟨[]⟩), (7, .slice (some ⟨b2, 0, none⟩) 13 13), (8, .int .i64 13), (9, .int .i64 (i : Int))] ∧ L = [row b1 26 [.int .i64 x.k, .int .i64 x.a, .int .i64 x.b, .int .i64 x.n, S x.s], row b2 44 formsC] ++ R ∧ (i ≤ 13) ∧ (∀ j, j < i → ¬ ((F j).k = x.k ∧ lineO (showT (F j).w (F j).f x) = some x)) ∧ m = 13 - i) id _ hk hh ⟨0, rfl, rfl, (by omega), (fun j hj => by omega), rfl⟩ ?_
  clear hk hh
  rintro _ _ _ a w ⟨i, rfl, hL, hi, inv, rfl⟩ hk hh; rw [hL] at hh; clear hL
  refine wp_seq_k fun K5 hK5 => ?_
  refine reg_q tabOK hk hh [] [1, 3, 7, 8, 9, 10] rfl trivial (fun a hk => ?_)
  refine hK5 a w ?_; try clear hK5 K5
  refine wp_seq_k fun K6 hK6 => ?_
  refine code_cond hk rfl (fun c3 => ?_) (fun c3 => ?_)
  · replace c3 : (i : Int) < 13 := (of_decide_eq_true c3)
    refine wp_skip ?_
    refine hK6 a w ?_; try clear hK6 K6
    refine wp_seq_k fun K7 hK7 => ?_
    refine wp_block ?_
    refine wp_seq_k fun K8 hK8 => ?_
    refine wp_region_lit ?_
    refine seq_q tabOK (i := 0) (stop := 2) hk hh [(0, .pointer (some ⟨b2, i * 3, none⟩)), (1, .agg ⟨[S ((F i).w), .int .i64 ((F i).k), S ((F i).f)]⟩)] rfl ?_ (fun a hk => ?_)
    · exact ⟨ob_indexAddr tabOK (i * 3) rfl rfl rfl rfl (by omega) (by omega) (by show 0 + ((i : Int) : Int).toNat * 3 = i * 3; omega), ob_loadN tabOK 1 rfl rfl rfl rfl (forms_at (by omega)), trivial⟩
    refine seq_eff hk hh rfl rfl (eff_alloc tabOK rfl) (fun v L a w hp hk hh => ?_)
    obtain ⟨b4, rfl, hL⟩ := hp; rw [hL] at hh; clear hL
    refine seq_eff hk hh rfl rfl (eff_store tabOK 0 rfl rfl rfl rfl rfl rfl rfl (by simp)) (fun v L a w hp hk hh => ?_)
    obtain ⟨rfl, hL⟩ := hp; rw [hL] at hh; clear hL
    refine rest_q tabOK (i := 4) hk hh [] [1, 3, 5, 7, 8, 9] rfl trivial (fun a hk => ?_)
    refine hK8 a w ?_; try clear hK8 K8
    refine wp_seq_k fun K9 hK9 => ?_
    refine wp_seq_k fun K10 hK10 => ?_
    refine reg_q tabOK hk hh [(1, .int .i64 ((F i).k)), (3, .int .i64 x.k)] [1, 3, 5, 7, 8, 9, 17] rfl ?_ (fun a hk => ?_)
    · exact ⟨ob_load tabOK 0 rfl rfl rfl rfl rfl, ob_load tabOK 1 rfl rfl rfl rfl rfl, trivial⟩
    refine hK10 a w ?_; try clear hK10 K10
    refine code_cond hk rfl (fun c5 => ?_) (fun c5 => ?_)
    · replace c5 : ¬ ((F i).k = x.k) := (c_nt c5)
      refine wp_exit ?_
      refine then_exit ?_
      refine blk_out ?_
      refine hK7 a w ?_; try clear hK7 K7
      refine reg_q tabOK hk hh [(0, .int .i64 ((i : Int) + 1))] [1, 3, 7, 8, 9] rfl ?_ (fun a hk => ?_)
      · exact ⟨ob_eq tabOK rfl (eq_i64 (by omega)), trivial⟩
      replace hh := (hh.at_ 0 rfl).drop
      refine then_nm ?_
      exact ⟨_, _, _, ⟨i + 1, rfl, rfl, (by omega), (fun j hj => (Nat.lt_succ_iff_lt_or_eq.1 hj).elim (fun h => inv j h) (fun h => by rw [h]; exact (fun e => c5 e.1))), rfl⟩, (by simp only [id]; omega), hk.keep [1, 3, 7, 8, 9] rfl, hh⟩
    · replace c5 : (F i).k = x.k := (c_nf c5)
      refine wp_skip ?_
      refine hK9 a w ?_; try clear hK9 K9
      refine wp_seq_k fun K11 hK11 => ?_
      have hfl := forms_len (i := i) (by omega)
      have hasc : ∀ k, ((F i).f.getD k 0).toNat < 128 := getD_ascii (forms_ascii (by omega))
      have hs := Nat.le_trans (show_len hx hfl.1 hfl.2) (show 3700000000 ≤ 4000000000 by omega)
      refine wp_region_lit ?_
      refine seq_q tabOK (i := 0) (stop := 3) hk hh [(1, .agg ⟨[S ((F i).w), .int .i64 ((F i).k), S ((F i).f)]⟩), (2, .agg ⟨[.int .i64 x.k, .int .i64 x.a, .int .i64 x.b, .int .i64 x.n, S x.s]⟩)] rfl ?_ (fun a hk => ?_)
      · exact ⟨ob_loadN tabOK 0 rfl rfl rfl rfl rfl, ob_loadN tabOK 1 rfl rfl rfl rfl rfl, trivial⟩
      refine seq_eff hk hh rfl rfl (eff_callv (f := 17) Tryz.func17 rfl rfl rfl rfl rfl (fun w hh => ftext_spec ((F i).w) ((F i).f) ((F i).k) x hx hfl.1 hfl.2 hasc (by exact (((hR.cons _).cons _).cons _)) hh)) (fun v L a w hp hk hh => ?_)
      obtain ⟨rfl, hL⟩ := hp; rw [hL] at hh; clear hL
      refine rest_q tabOK (i := 4) hk hh [] [1, 3, 6, 7, 8, 9] rfl trivial (fun a hk => ?_)
      refine hK11 a w ?_; try clear hK11 K11
      refine wp_seq_k fun K12 hK12 => ?_
      refine wp_region_lit ?_
      refine seq_q tabOK (i := 0) (stop := 2) hk hh [(1, .agg ⟨[.int .i64 x.k, .int .i64 x.a, .int .i64 x.b, .int .i64 x.n, S x.s]⟩)] rfl ?_ (fun a hk => ?_)
      · exact ⟨ob_loadN tabOK 1 rfl rfl rfl rfl rfl, trivial⟩
      refine seq_eff hk hh rfl rfl (eff_call Tryz.func19 rfl rfl rfl rfl (fun w hh => again_spec (showT ((F i).w) ((F i).f) x) x (by first | exact hs | exact hw0 _ | omega) (by exact (((hR.cons _).cons _).cons _)) hh)) (fun v L a w hp hk hh => ?_)
      obtain ⟨rfl, hL⟩ := hp; rw [hL] at hh; clear hL
      refine rest_q tabOK (i := 3) hk hh [] [1, 3, 6, 7, 8, 9, 24] rfl trivial (fun a hk => ?_)
      refine hK12 a w ?_; try clear hK12 K12
      refine code_cond hk rfl (fun c6 => ?_) (fun c6 => ?_)
      · replace c6 : lineO (showT ((F i).w) ((F i).f) x) = some x := (of_decide_eq_true c6)
        refine wp_seq_k fun K13 hK13 => ?_
        refine reg_q tabOK hk hh [] [1, 2, 3, 7, 8, 9] rfl trivial (fun a hk => ?_)
        refine hK13 a w ?_; try clear hK13 K13
        refine wp_ret ?_
        refine blk_ret ?_
        refine then_ret ?_
        refine then_ret ?_
        refine blk_ret ?_
        refine then_ret ?_
        refine fin_ret hk (show Tryz.f8.results = ⟨[.tmp 2]⟩ from rfl) (by exact (res_tmp hk rfl .nil)) ?_
        replace hh := (hh.at_ 0 rfl).drop
        replace hh := (hh.at_ 0 rfl).drop
        replace hh := (hh.at_ 0 rfl).drop
        refine ⟨_, _, rfl, ⟨?_, rfl⟩, hh⟩
        rw [text_hit inv (by omega) c5 c6]; rfl
      · replace c6 : ¬ (lineO (showT ((F i).w) ((F i).f) x) = some x) := (of_decide_eq_false c6)
        refine wp_skip ?_
        refine blk_nm ?_
        refine hK7 a w ?_; try clear hK7 K7
        refine reg_q tabOK hk hh [(0, .int .i64 ((i : Int) + 1))] [1, 3, 7, 8, 9] rfl ?_ (fun a hk => ?_)
        · exact ⟨ob_eq tabOK rfl (eq_i64 (by omega)), trivial⟩
        replace hh := (hh.at_ 0 rfl).drop
        refine then_nm ?_
        exact ⟨_, _, _, ⟨i + 1, rfl, rfl, (by omega), (fun j hj => (Nat.lt_succ_iff_lt_or_eq.1 hj).elim (fun h => inv j h) (fun h => by rw [h]; exact (fun e => c6 e.2))), rfl⟩, (by simp only [id]; omega), hk.keep [1, 3, 7, 8, 9] rfl, hh⟩
  · replace c3 : ¬ ((i : Int) < 13) := (of_decide_eq_false c3)
    refine wp_exit ?_
    refine then_exit ?_
    refine then_exit ?_
    refine blk_out ?_
    refine hK3 a w ?_; try clear hK3 K3
    refine wp_seq_k fun K14 hK14 => ?_
    refine reg_q tabOK hk hh [] [2] rfl trivial (fun a hk => ?_)
    refine hK14 a w ?_; try clear hK14 K14
    refine wp_ret ?_
    refine fin_ret hk (show Tryz.f8.results = ⟨[.tmp 2]⟩ from rfl) (by exact (res_tmp hk rfl .nil)) ?_
    replace hh := (hh.at_ 0 rfl).drop
    replace hh := (hh.at_ 0 rfl).drop
    refine ⟨_, _, rfl, ⟨?_, rfl⟩, hh⟩
    rw [text_none (fun j hj => inv j (by omega))]; rfl

end Go.Hop
/- What is proved here: the acts of two texts put together, in plain Lean. -/
namespace Go.Hop
theorem spA_both {c : UInt8} : ∀ {l acc r : List UInt8}, spA c acc (l ++ c :: r) = spA c acc l ++ spA c [] r
  | [], acc, r => by simp [spA]
  | x :: l, acc, r => by
    rw [List.cons_append, spA, spA]
    split
    · rw [spA_both]; rfl
    · rw [spA_both]
theorem spl_both {c : UInt8} {l r : List UInt8} : spl c (l ++ [c] ++ r) = spl c l ++ spl c r := by
  rw [spl, List.append_assoc]
  exact spA_both
theorem spA_count {c : UInt8} : ∀ {l acc : List UInt8}, (spA c acc l).length = 1 + l.count c
  | [], _ => rfl
  | x :: l, acc => by
    rw [spA]
    by_cases h : x = c
    · rw [if_pos h, List.length_cons, spA_count, h, List.count_cons_self]; omega
    · rw [if_neg h, spA_count, List.count_cons_of_ne h]
theorem count_hit {l : List UInt8} {i : Nat} (h : i < l.length) (hc : ((l.getD i 0).toNat : Int) = 10) : (l.take (i + 1)).count 10 = (l.take i).count 10 + 1 := by
  have hg : l.getD i 0 = l[i] := by simp [List.getD, List.getElem?_eq_getElem h]
  have this : l.getD i 0 = 10 := byte_eq (n := 10) (by omega) hc
  rw [List.take_succ_eq_append_getElem h, List.count_append, ← hg, this]
  simp
theorem count_miss {l : List UInt8} {i : Nat} (h : i < l.length) (hc : ¬ ((l.getD i 0).toNat : Int) = 10) : (l.take (i + 1)).count 10 = (l.take i).count 10 := by
  have hg : l.getD i 0 = l[i] := by simp [List.getD, List.getElem?_eq_getElem h]
  have hne : ¬ l[i] = 10 := fun e => hc (by rw [hg, e]; rfl)
  rw [List.take_succ_eq_append_getElem h, List.count_append]
  simp [hne]
theorem count_end {l : List UInt8} {i : Nat} (h : ¬ i < l.length) : 1 + (l.take i).count 10 = (spl 10 l).length := by
  rw [List.take_of_length_le (by omega), spl, spA_count]
/-- So few lines are all seen; their numbers go on. -/
theorem parseL_move : ∀ (ls : List (List UInt8)) (n seen m : Nat), seen + ls.length ≤ 400 → m + ls.length ≤ 400 → parseL ls n seen = ((parseL ls 0 m).1, (parseL ls 0 m).2.map (· + (n : Int)))
  | [], n, seen, m, _, _ => rfl
  | x :: ls, n, seen, m, h, h' => by
    simp only [List.length_cons] at h h'
    have e : ∀ s k, s + ls.length ≤ 400 → k + ls.length ≤ 400 → parseL ls (n + 1) s = ((parseL ls (0 + 1) k).1, (parseL ls (0 + 1) k).2.map (· + (n : Int))) := by
      intro s k hs hk
      rw [parseL_move ls (n + 1) s 0 hs (by omega), parseL_move ls (0 + 1) k 0 hk (by omega)]
      simp only [List.map_map]
      congr 1
      apply List.map_congr_left
      intro y _
      simp only [Function.comp_apply]
      push_cast; omega
    rw [parseL, parseL]
    by_cases hx : x = []
    · rw [if_pos hx, if_pos hx]
      exact e seen m (by omega) (by omega)
    · rw [if_neg hx, if_neg hx, if_neg (by omega), if_neg (by omega)]
      have e2 := e (seen + 1) (m + 1) (by omega) (by omega)
      cases hl : lineO x with
      | some y => simp only [e2]
      | none =>
        simp only [e2, List.map_cons]
        congr 2
        omega
theorem parseL_app : ∀ (la lb : List (List UInt8)) (n seen : Nat), seen + la.length + lb.length ≤ 400 →
    parseL (la ++ lb) n seen = ((parseL la n seen).1 ++ (parseL lb 0 0).1, (parseL la n seen).2 ++ (parseL lb 0 0).2.map (· + ((n + la.length : Nat) : Int)))
  | [], lb, n, seen, h => by
    rw [List.nil_append, parseL_move lb n seen 0 (by simpa using h) (by simp at h; omega)]
    simp [parseL]
  | x :: la, lb, n, seen, h => by
    simp only [List.length_cons] at h
    rw [List.cons_append, parseL, parseL]
    have hn : n + 1 + la.length = n + (la.length + 1) := by omega
    by_cases hx : x = []
    · rw [if_pos hx, if_pos hx, parseL_app la lb (n + 1) seen (by omega), List.length_cons, hn]
    · rw [if_neg hx, if_neg hx, if_neg (by omega), if_neg (by omega)]
      have ih := parseL_app la lb (n + 1) (seen + 1) (by omega)
      rw [hn] at ih
      cases lineO x with
      | some y => simp only [ih, List.cons_append, List.length_cons]
      | none => simp only [ih, List.cons_append, List.length_cons]
theorem parse_both {l r : List UInt8} (h1 : l.length ≤ 60) (h2 : r.length ≤ 60) : parseO (l ++ [10] ++ r) = ((parseO l).1 ++ (parseO r).1, (parseO l).2 ++ (parseO r).2.map (· + ((spl 10 l).length : Int))) := by
  have e1 := spl_len (c := 10) (l := l)
  have e2 := spl_len (c := 10) (l := r)
  rw [parseO, spl_both, parseL_app _ _ 0 0 (by omega), Nat.zero_add]
  rfl
theorem parseL_len : ∀ (ls : List (List UInt8)) (n seen : Nat), (parseL ls n seen).1.length ≤ ls.length ∧ (parseL ls n seen).2.length ≤ ls.length ∧ ∀ y ∈ (parseL ls n seen).2, 0 ≤ y ∧ y ≤ (n + ls.length : Nat)
  | [], n, seen => by simp [parseL]
  | x :: ls, n, seen => by
    rw [parseL]
    have h1 := parseL_len ls (n + 1) seen
    have h2 := parseL_len ls (n + 1) (seen + 1)
    simp only [List.length_cons]
    split
    · exact ⟨by omega, by omega, fun y hy => by have := h1.2.2 y hy; omega⟩
    · split
      · simp
      · split
        · simp only [List.length_cons]
          exact ⟨by omega, by omega, fun y hy => by have := h2.2.2 y hy; omega⟩
        · simp only [List.length_cons]
          refine ⟨by omega, by omega, fun y hy => ?_⟩
          rcases List.mem_cons.1 hy with rfl | hy
          · omega
          · have := h2.2.2 y hy; omega
theorem parse_len {l : List UInt8} : (parseO l).1.length ≤ l.length + 1 ∧ (parseO l).2.length ≤ l.length + 1 ∧ ∀ y ∈ (parseO l).2, 0 ≤ y ∧ y ≤ (l.length + 1 : Nat) := by
  have h := parseL_len (spl 10 l) 0 0
  have e := spl_len (c := 10) (l := l)
  refine ⟨Nat.le_trans h.1 e, Nat.le_trans h.2.1 e, fun y hy => ?_⟩
  have := h.2.2 y hy
  omega
theorem getD_range {B : List Int} {m : Nat} (h : ∀ y ∈ B, 0 ≤ y ∧ y ≤ (m : Nat)) (j : Nat) : 0 ≤ B.getD j 0 ∧ B.getD j 0 ≤ m := by
  rcases Nat.lt_or_ge j B.length with hj | hj
  · have hm : B.getD j 0 ∈ B := by simp [List.getD, List.getElem?_eq_getElem hj]
    exact h _ hm
  · simp [List.getD, List.getElem?_eq_none hj]
theorem app_left {α : Type} {A B : List α} {d : α} {i : Nat} (h : i < A.length) : (A ++ B).getD i d = A.getD i d := by
  simp [List.getD, List.getElem?_append_left h]
theorem app_right {α : Type} {A B : List α} {d : α} {i j : Nat} (h : A.length ≤ i) (hj : j = i - A.length) : (A ++ B).getD i d = B.getD j d := by
  subst hj
  simp [List.getD, List.getElem?_append_right h]
theorem map_add {B : List Int} {n : Int} {j : Nat} (h : j < B.length) : (B.map (· + n)).getD j 0 = B.getD j 0 + n := by
  simp [List.getD, List.getElem?_eq_getElem h]
theorem line_same {o : Option ActL} {x y : ActL} {p q : Bool} (h : o = if p = true then some x else none) (hz : p = false → x = zA) (k : o = if q = true then some y else none) (kz : q = false → y = zA) : p = q ∧ x = y := by
  cases p <;> cases q <;> simp_all
/-! the document's own way to write an act -/
theorem form_at {i : Nat} (hi : i < 13) {k : Int} {lk : List UInt8} (h : FormIs (F i).w k lk) : k = (F i).k ∧ lk = upL (F i).f := by
  rcases h with ⟨j, hj, hw, rfl, rfl⟩ | ⟨_, _, hno⟩
  · have := forms_inj hj hi hw
    subst this; exact ⟨rfl, rfl⟩
  · exact absurd rfl (hno i hi)
def tailT (x : ActL) (l : List UInt8) : List UInt8 := l.flatMap fun c => 32 :: fldT x c
theorem inter_tail {w : List UInt8} : ∀ {ws : List (List UInt8)}, [32].intercalate (w :: ws) = w ++ ws.flatMap fun y => 32 :: y
  | [] => by simp [List.intercalate]
  | y :: ws => by
    have e : [32].intercalate (w :: y :: ws) = w ++ ([32] ++ [32].intercalate (y :: ws)) := by simp [List.intercalate, List.intersperse]
    rw [e, inter_tail (w := y)]
    simp
theorem show_tail {w f : List UInt8} {x : ActL} : showT w f x = w ++ tailT x f := by
  rw [showT, wordsT, inter_tail, tailT, List.flatMap_map]
theorem tail_step {x : ActL} {w f t s : List UInt8} {j : Nat} (inv : s = w ++ tailT x (f.take j)) (h : j < f.length) (ht : fldT x (f.getD j 0) = t) : s ++ ([32] ++ t) = w ++ tailT x (f.take (j + 1)) := by
  have hg : f.getD j 0 = f[j] := by simp [List.getD, List.getElem?_eq_getElem h]
  rw [List.take_succ_eq_append_getElem h, inv, ← ht, hg]
  simp only [tailT, List.flatMap_append, List.flatMap_cons, List.flatMap_nil, List.append_assoc, List.append_nil, List.singleton_append]
theorem tail_end {x : ActL} {w f s : List UInt8} {j : Nat} (inv : s = w ++ tailT x (f.take j)) (h : ¬ j < f.length) : s = showT w f x := by
  rw [show_tail, inv, List.take_of_length_le (by omega)]
theorem tail_len {x : ActL} (hx : ActOK x) : ∀ {l : List UInt8}, (tailT x l).length ≤ l.length * 900000001
  | [] => by simp [tailT]
  | c :: l => by
    have := fld_len hx c
    have ih := tail_len hx (l := l)
    simp only [tailT, List.flatMap_cons, List.length_append, List.length_cons] at ih ⊢
    omega
end Go.Hop
/- What is proved here: what a function of the text computes. Printed by program. -/
namespace Go.Hop
open Go.Proofs
set_option maxRecDepth 4000
theorem words_spec (s : List UInt8) (hs : s.length ≤ 4000000000) (σ : Sg) (w : World) (R : List Assn) (hh : Holds σ w (R)) :
    Calls Tryz.prog 27 ⟨[S s]⟩ w fun e w' => ∃ v L', e = .returned v ∧ (∃ b cap sp, v = .slice (some ⟨b, 0, none⟩) (spl 32 s).length cap ∧ L' = row b 9 ((spl 32 s).map S ++ sp) :: R) ∧ Holds σ w' L' := by
  refine enter Tryz.func27 rfl Tryz.ntmps27 rfl fun a hk => ?_
  refine wp_seq_k fun K1 hK1 => ?_
  refine reg_q tabOK hk hh [] [0] rfl trivial (fun a hk => ?_)
  refine hK1 a w ?_; try clear hK1 K1
  refine wp_seq_k fun K2 hK2 => ?_
  refine reg_q tabOK hk hh [] [0, 3] rfl trivial (fun a hk => ?_)
  refine hK2 a w ?_; try clear hK2 K2
  refine wp_seq_k fun K3 hK3 => ?_
  refine reg_q tabOK hk hh [] [0, 3, 4] rfl trivial (fun a hk => ?_)
  refine hK3 a w ?_; try clear hK3 K3
  refine wp_seq_k fun K4 hK4 => ?_
  refine wp_seq_k fun K5 hK5 => ?_
  refine reg_q tabOK hk hh [] [0, 3, 4, 5] rfl trivial (fun a hk => ?_)
  refine hK5 a w ?_; try clear hK5 K5
  refine wp_block ?_
  replace hh := own_nil 9 1 hh
  replace hk := hk.keep [0, 3, 4, 5] rfl
  refine code_loop (α := Nat) (fun (m : Nat) (E : Env) (L : List Assn) => ∃ (i : Nat) (p : Nat) (O : List (List UInt8)) (u : Value), E = [(0, S s), (3, u), (4, .int .i64 (p : Int)), (5, .int .i64 (i : Int))] ∧ L = [Own 9 1 u O.length (O.map S)] ++ R ∧ (p ≤ i) ∧ (i ≤ s.length) ∧ (O.length ≤ i) ∧ (O ++ spA 32 ((s.take i).drop p) (s.drop i) = spl 32 s) ∧ m = s.length - i) id _ hk hh ⟨0, 0, [], (.slice none 0 0), rfl, rfl, (by omega), (by omega), (by simp), rfl, rfl⟩ ?_
  clear hk hh
  rintro _ _ _ a w ⟨i, p, O, u, rfl, hL, hp, hi, hO, inv, rfl⟩ hk hh; rw [hL] at hh; clear hL
  refine wp_seq_k fun K6 hK6 => ?_
  refine wp_seq_k fun K7 hK7 => ?_
  refine reg_q tabOK hk hh [] [0, 3, 4, 5, 9] rfl trivial (fun a hk => ?_)
  refine hK7 a w ?_; try clear hK7 K7
  refine code_cond hk rfl (fun c1 => ?_) (fun c1 => ?_)
  · replace c1 : (i : Int) < (s.length : Int) := (of_decide_eq_true c1)
    refine wp_skip ?_
    refine hK6 a w ?_; try clear hK6 K6
    refine wp_seq_k fun K8 hK8 => ?_
    refine wp_block ?_
    refine wp_seq_k fun K9 hK9 => ?_
    refine reg_q tabOK hk hh [(2, .int .u8 ((s.getD i 0).toNat : Int))] [0, 3, 4, 5, 15] rfl ?_ (fun a hk => ?_)
    · exact ⟨ob_index tabOK rfl rfl rfl (by omega) (getD_at (by omega)), trivial⟩
    refine hK9 a w ?_; try clear hK9 K9
    refine code_cond hk rfl (fun c2 => ?_) (fun c2 => ?_)
    · replace c2 : ((s.getD i 0).toNat : Int) = 32 := (c_et c2)
      refine wp_seq_k fun K10 hK10 => ?_
      refine wp_region_lit ?_
      refine seq_q tabOK (i := 0) (stop := 5) hk hh [(4, S ((s.take i).drop p))] rfl ?_ (fun a hk => ?_)
      · exact ⟨ob_slice_str tabOK rfl rfl rfl rfl (by omega) (by omega) (by omega) (by simp), trivial⟩
      refine seq_eff hk hh rfl rfl (eff_lit tabOK rfl rfl rfl (by decide) rfl) (fun v L a w hp hk hh => ?_)
      obtain ⟨b3, rfl, hL⟩ := hp; rw [hL] at hh; clear hL
      refine seq_eff hk hh rfl rfl (eff_append tabOK 1 rfl rfl rfl rfl rfl rfl rfl (.inl ⟨_, rfl⟩) (fun _ => rfl) (fun w hh => src_row (j := 1) hh rfl rfl) rfl rfl (by show (O.length + 1) * 16 ≤ 140737488355328; omega) (by show 0 < 16; omega)) (fun u4 L a w hp hk hh => ?_)
      rw [hp] at hh; clear hp
      refine rest_q tabOK (i := 7) hk hh [] [0, 3, 5] rfl trivial (fun a hk => ?_)
      refine hK10 a w ?_; try clear hK10 K10
      refine reg_q tabOK hk hh [(1, .int .i64 ((i : Int) + 1))] [0, 3, 4, 5] rfl ?_ (fun a hk => ?_)
      · exact ⟨ob_eq tabOK rfl (eq_i64 (by omega)), trivial⟩
      refine blk_nm ?_
      refine hK8 a w ?_; try clear hK8 K8
      refine reg_q tabOK hk hh [(1, .int .i64 ((i : Int) + 1))] [0, 3, 4, 5] rfl ?_ (fun a hk => ?_)
      · exact ⟨ob_eq tabOK rfl (eq_i64 (by omega)), trivial⟩
      rw [len_snoc (x := (s.take i).drop p), map_snoc] at hh
      replace hh := (hh.at_ 1 rfl).drop
      refine then_nm ?_
      exact ⟨_, _, _, ⟨i + 1, i + 1, O ++ [(s.take i).drop p], u4, rfl, rfl, (by omega), (by omega), (by simp only [List.length_append, List.length_cons, List.length_nil]; omega), (words_hit inv (by omega) (by omega)), rfl⟩, (by simp only [id]; omega), hk.keep [0, 3, 4, 5] rfl, hh⟩
    · replace c2 : ¬ (((s.getD i 0).toNat : Int) = 32) := (c_ef c2)
      refine wp_skip ?_
      refine blk_nm ?_
      refine hK8 a w ?_; try clear hK8 K8
      refine reg_q tabOK hk hh [(1, .int .i64 ((i : Int) + 1))] [0, 3, 4, 5] rfl ?_ (fun a hk => ?_)
      · exact ⟨ob_eq tabOK rfl (eq_i64 (by omega)), trivial⟩
      refine then_nm ?_
      exact ⟨_, _, _, ⟨i + 1, p, O, u, rfl, rfl, (by omega), (by omega), (by omega), (words_miss inv (by omega) (by omega) (by omega)), rfl⟩, (by simp only [id]; omega), hk.keep [0, 3, 4, 5] rfl, hh⟩
  · replace c1 : ¬ ((i : Int) < (s.length : Int)) := (of_decide_eq_false c1)
    refine wp_exit ?_
    refine then_exit ?_
    refine then_exit ?_
    refine blk_out ?_
    refine hK4 a w ?_; try clear hK4 K4
    refine wp_seq_k fun K11 hK11 => ?_
    refine wp_region_lit ?_
    refine seq_q tabOK (i := 0) (stop := 4) hk hh [(3, S (s.drop p))] rfl ?_ (fun a hk => ?_)
    · exact ⟨ob_slice_str tabOK rfl rfl rfl rfl (by omega) (by omega) (by omega) (by simp), trivial⟩
    refine seq_eff hk hh rfl rfl (eff_lit tabOK rfl rfl rfl (by decide) rfl) (fun v L a w hp hk hh => ?_)
    obtain ⟨b5, rfl, hL⟩ := hp; rw [hL] at hh; clear hL
    refine seq_eff hk hh rfl rfl (eff_append tabOK 1 rfl rfl rfl rfl rfl rfl rfl (.inl ⟨_, rfl⟩) (fun _ => rfl) (fun w hh => src_row (j := 1) hh rfl rfl) rfl rfl (by show (O.length + 1) * 16 ≤ 140737488355328; omega) (by show 0 < 16; omega)) (fun u6 L a w hp hk hh => ?_)
    rw [hp] at hh; clear hp
    refine rest_q tabOK (i := 6) hk hh [] [2] rfl trivial (fun a hk => ?_)
    refine hK11 a w ?_; try clear hK11 K11
    refine wp_ret ?_
    refine fin_ret hk (show Tryz.f27.results = ⟨[.tmp 2]⟩ from rfl) (by exact (res_tmp hk rfl .nil)) ?_
    replace hh := (hh.at_ 1 rfl).drop
    have e := words_end inv (by omega)
    rcases own_open.1 hh with ⟨_, h0, _, _⟩ | ⟨b, cap, sp, hv, _, _, _, H⟩
    · omega
    · rw [len_snoc (x := s.drop p), e] at hv
      rw [map_snoc, e] at H
      exact ⟨_, _, rfl, ⟨b, cap, sp, hv, rfl⟩, H⟩

end Go.Hop
/- What is proved here: what a function of the text computes. Printed by program. -/
namespace Go.Hop
open Go.Proofs
set_option maxRecDepth 4000
theorem form_spec (w0 : List UInt8) (σ : Sg) (w : World) (R : List Assn) (hh : Holds σ w (R)) :
    Calls Tryz.prog 20 ⟨[S w0]⟩ w fun e w' => ∃ v L', e = .returned v ∧ (∃ k lk, v = .tuple ⟨[.int .i64 k, S lk]⟩ ∧ L' = R ∧ FormIs w0 k lk) ∧ Holds σ w' L' := by
  refine enter Tryz.func20 rfl Tryz.ntmps20 rfl fun a hk => ?_
  refine wp_seq_k fun K1 hK1 => ?_
  refine reg_q tabOK hk hh [] [0] rfl trivial (fun a hk => ?_)
  refine hK1 a w ?_; try clear hK1 K1
  refine wp_seq_k fun K2 hK2 => ?_
  refine wp_region_lit ?_
  refine seq_eff hk hh rfl rfl (eff_lit tabOK rfl rfl rfl (by decide) rfl) (fun v L a w hp hk hh => ?_)
  obtain ⟨b1, rfl, hL⟩ := hp; rw [hL] at hh; clear hL
  refine rest_q tabOK (i := 1) hk hh [] [0, 4] rfl trivial (fun a hk => ?_)
  refine hK2 a w ?_; try clear hK2 K2
  refine wp_seq_k fun K3 hK3 => ?_
  refine wp_region_lit ?_
  refine seq_eff hk hh rfl rfl (eff_lit tabOK rfl rfl rfl (by decide) rfl) (fun v L a w hp hk hh => ?_)
  obtain ⟨b2, rfl, hL⟩ := hp; rw [hL] at hh; clear hL
  refine rest_q tabOK (i := 1) hk hh [] [0, 4, 5] rfl trivial (fun a hk => ?_)
  refine hK3 a w ?_; try clear hK3 K3
  refine wp_seq_k fun K4 hK4 => ?_
  refine wp_region_lit ?_
  refine seq_eff hk hh rfl rfl (eff_lit tabOK rfl rfl rfl (by decide) rfl) (fun v L a w hp hk hh => ?_)
  obtain ⟨b3, rfl, hL⟩ := hp; rw [hL] at hh; clear hL
  refine rest_q tabOK (i := 1) hk hh [] [0, 4, 5, 6] rfl trivial (fun a hk => ?_)
  refine hK4 a w ?_; try clear hK4 K4
  refine wp_seq_k fun K5 hK5 => ?_
  refine wp_seq_k fun K6 hK6 => ?_
  refine reg_q tabOK hk hh [] [0, 4, 5, 6, 12, 13] rfl trivial (fun a hk => ?_)
  refine hK6 a w ?_; try clear hK6 K6
  refine wp_block ?_
  replace hh := hh.picks [2, 1, 0] rfl
  replace hk := hk.keep [0, 4, 5, 6, 12, 13] rfl
  refine code_loop (α := Nat) (fun (m : Nat) (E : Env) (L : List Assn) => ∃ (i : Nat), E = [(0, S w0), (4, .slice (some ⟨b1, 0, none⟩) 13 13), (5, .slice (some ⟨b2, 0, none⟩) 13 13), (6, .slice (some ⟨b3, 0, none⟩) 13 13), (12, .int .i64 13), (13, .int .i64 (i : Int))] ∧ L = [row b1 9 (formsL.map fun f => S f.w), row b2 3 (formsL.map fun f => Value.int .i64 f.k), row b3 9 (formsL.map fun f => S (upL f.f))] ++ R ∧ (i ≤ 13) ∧ (∀ j, j < i → (F j).w ≠ w0) ∧ m = 13 - i) id _ hk hh ⟨0, rfl, rfl, (by omega), (fun j hj => by omega), rfl⟩ ?_
  clear hk hh
  rintro _ _ _ a w ⟨i, rfl, hL, hi, inv, rfl⟩ hk hh; rw [hL] at hh; clear hL
  refine wp_seq_k fun K7 hK7 => ?_
  refine reg_q tabOK hk hh [] [0, 4, 5, 6, 12, 13, 14] rfl trivial (fun a hk => ?_)
  refine hK7 a w ?_; try clear hK7 K7
  refine wp_seq_k fun K8 hK8 => ?_
  refine code_cond hk rfl (fun c4 => ?_) (fun c4 => ?_)
  · replace c4 : (i : Int) < 13 := (of_decide_eq_true c4)
    refine wp_skip ?_
    refine hK8 a w ?_; try clear hK8 K8
    refine wp_seq_k fun K9 hK9 => ?_
    refine wp_block ?_
    refine wp_seq_k fun K10 hK10 => ?_
    refine reg_q tabOK hk hh [] [0, 4, 5, 6, 7, 12, 13] rfl trivial (fun a hk => ?_)
    refine hK10 a w ?_; try clear hK10 K10
    refine wp_seq_k fun K11 hK11 => ?_
    refine reg_q tabOK hk hh [(2, .pointer (some ⟨b1, i, none⟩)), (3, S ((F i).w))] [0, 4, 5, 6, 7, 12, 13, 21] rfl ?_ (fun a hk => ?_)
    · exact ⟨ob_indexAddr tabOK (i) rfl rfl rfl rfl (by omega) (by omega) (by show 0 + ((i : Int) : Int).toNat * 1 = i; omega), ob_load tabOK 0 rfl rfl rfl rfl (names_at (by omega)), trivial⟩
    refine hK11 a w ?_; try clear hK11 K11
    refine code_cond hk rfl (fun c5 => ?_) (fun c5 => ?_)
    · replace c5 : (F i).w = w0 := (c_et c5)
      refine wp_seq_k fun K12 hK12 => ?_
      refine reg_d tabOK (by kernel_rfl) hk hh [] [0, 2, 3, 4, 5, 6, 12, 13] rfl 0 [(2, .pointer (some ⟨b2, i, none⟩)), (3, .int .i64 ((F i).k)), (6, .pointer (some ⟨b3, i, none⟩)), (7, S (upL (F i).f))] ?_
      refine chain_fin rfl ?_ (fun a w hk hh => ?_)
      · exact ⟨ob_indexAddr tabOK (i) rfl rfl rfl rfl (by omega) (by omega) (by show 0 + ((i : Int) : Int).toNat * 1 = i; omega), ob_load tabOK 1 rfl rfl rfl rfl (kinds_at (by omega)), ob_indexAddr tabOK (i) rfl rfl rfl rfl (by omega) (by omega) (by show 0 + ((i : Int) : Int).toNat * 1 = i; omega), ob_load tabOK 2 rfl rfl rfl rfl (likes_at (by omega)), trivial⟩
      refine hK12 a w ?_; try clear hK12 K12
      refine wp_ret ?_
      refine blk_ret ?_
      refine then_ret ?_
      refine then_ret ?_
      refine blk_ret ?_
      refine then_ret ?_
      refine fin_ret hk (show Tryz.f20.results = ⟨[.tmp 2, .tmp 3]⟩ from rfl) (by exact (res_tmp hk rfl (res_tmp hk rfl .nil))) ?_
      replace hh := (hh.at_ 0 rfl).drop
      replace hh := (hh.at_ 0 rfl).drop
      replace hh := (hh.at_ 0 rfl).drop
      exact ⟨_, _, rfl, ⟨_, _, rfl, rfl, .inl ⟨i, by omega, c5, rfl, rfl⟩⟩, hh⟩
    · replace c5 : ¬ ((F i).w = w0) := (c_ef c5)
      refine wp_skip ?_
      refine blk_nm ?_
      refine hK9 a w ?_; try clear hK9 K9
      refine reg_q tabOK hk hh [(0, .int .i64 ((i : Int) + 1))] [0, 4, 5, 6, 12, 13] rfl ?_ (fun a hk => ?_)
      · exact ⟨ob_eq tabOK rfl (eq_i64 (by omega)), trivial⟩
      refine then_nm ?_
      exact ⟨_, _, _, ⟨i + 1, rfl, rfl, (by omega), (fun j hj => (Nat.lt_succ_iff_lt_or_eq.1 hj).elim (fun h => inv j h) (fun h => by rw [h]; exact c5)), rfl⟩, (by simp only [id]; omega), hk.keep [0, 4, 5, 6, 12, 13] rfl, hh⟩
  · replace c4 : ¬ ((i : Int) < 13) := (of_decide_eq_false c4)
    refine wp_exit ?_
    refine then_exit ?_
    refine then_exit ?_
    refine blk_out ?_
    refine hK5 a w ?_; try clear hK5 K5
    refine wp_seq_k fun K13 hK13 => ?_
    refine reg_q tabOK hk hh [] [2, 3] rfl trivial (fun a hk => ?_)
    refine hK13 a w ?_; try clear hK13 K13
    refine wp_ret ?_
    refine fin_ret hk (show Tryz.f20.results = ⟨[.tmp 2, .tmp 3]⟩ from rfl) (by exact (res_tmp hk rfl (res_tmp hk rfl .nil))) ?_
    replace hh := (hh.at_ 0 rfl).drop
    replace hh := (hh.at_ 0 rfl).drop
    replace hh := (hh.at_ 0 rfl).drop
    exact ⟨_, _, rfl, ⟨_, _, rfl, rfl, .inr ⟨rfl, rfl, fun i hi => inv i (by omega)⟩⟩, hh⟩

end Go.Hop
/- What is proved here: what a function of the text computes. Printed by program. -/
namespace Go.Hop
open Go.Proofs
set_option maxRecDepth 4000
theorem number_spec (n : Int) (hn : I64 n) (σ : Sg) (w : World) (R : List Assn) (hh : Holds σ w (R)) :
    Calls Tryz.prog 7 ⟨[.int .i64 n]⟩ w fun e w' => ∃ v L', e = .returned v ∧ (v = S (Lib.itoa n) ∧ L' = R) ∧ Holds σ w' L' := by
  refine enter Tryz.func7 rfl Tryz.ntmps7 rfl fun a hk => ?_
  have hn64 := hn
  unfold I64 at hn64
  refine wp_seq_k fun K1 hK1 => ?_
  refine reg_q tabOK hk hh [] [0] rfl trivial (fun a hk => ?_)
  refine hK1 a w ?_; try clear hK1 K1
  refine wp_seq_k fun K2 hK2 => ?_
  refine wp_seq_k fun K3 hK3 => ?_
  refine reg_q tabOK hk hh [] [0, 7] rfl trivial (fun a hk => ?_)
  refine hK3 a w ?_; try clear hK3 K3
  refine code_cond hk rfl (fun c1 => ?_) (fun c1 => ?_)
  · replace c1 : n = 0 := (c_et c1)
    refine wp_seq_k fun K4 hK4 => ?_
    refine reg_q tabOK hk hh [] [0, 2] rfl trivial (fun a hk => ?_)
    refine hK4 a w ?_; try clear hK4 K4
    refine wp_ret ?_
    refine then_ret ?_
    refine fin_ret hk (show Tryz.f7.results = ⟨[.tmp 2]⟩ from rfl) (by exact (res_tmp hk rfl .nil)) ?_
    refine ⟨_, _, rfl, ⟨?_, rfl⟩, hh⟩
    exact number_zero c1
  · replace c1 : ¬ (n = 0) := (c_ef c1)
    refine wp_skip ?_
    refine hK2 a w ?_; try clear hK2 K2
    refine wp_seq_k fun K5 hK5 => ?_
    refine reg_q tabOK hk hh [] [0, 3] rfl trivial (fun a hk => ?_)
    refine hK5 a w ?_; try clear hK5 K5
    refine wp_seq_k fun K6 hK6 => ?_
    refine wp_seq_k fun K7 hK7 => ?_
    refine reg_q tabOK hk hh [] [0, 3, 4] rfl trivial (fun a hk => ?_)
    refine hK7 a w ?_; try clear hK7 K7
    refine wp_block ?_
    replace hk := hk.keep [0, 3, 4] rfl
    refine code_loop (α := Nat) (fun (m : Nat) (E : Env) (L : List Assn) => ∃ (k : Int) (s : List UInt8), E = [(0, .int .i64 n), (3, S s), (4, .int .i64 k)] ∧ L = R ∧ (I64 k) ∧ (NumInv n k s) ∧ m = k.natAbs) id _ hk hh ⟨n, [], rfl, rfl, hn, (NumInv.start (by omega)), rfl⟩ ?_
    clear hk hh
    rintro _ _ _ a w ⟨k, s, rfl, hL, hk64, inv, rfl⟩ hk hh; rw [hL] at hh; clear hL
    have hlen := inv.len hn
    have hm := tmod10 k
    have hq := tdiv10 k
    unfold I64 at hk64
    refine wp_seq_k fun K8 hK8 => ?_
    refine wp_seq_k fun K9 hK9 => ?_
    refine reg_q tabOK hk hh [] [0, 3, 4, 10] rfl trivial (fun a hk => ?_)
    refine hK9 a w ?_; try clear hK9 K9
    refine code_cond hk rfl (fun c2 => ?_) (fun c2 => ?_)
    · replace c2 : ¬ (k = 0) := (c_nt c2)
      refine wp_skip ?_
      refine hK8 a w ?_; try clear hK8 K8
      refine wp_seq_k fun K10 hK10 => ?_
      refine wp_block ?_
      refine wp_seq_k fun K11 hK11 => ?_
      refine reg_q tabOK hk hh [(1, .int .i64 (k.tmod 10))] [0, 3, 4, 5] rfl ?_ (fun a hk => ?_)
      · exact ⟨ob_rem rfl rfl (by omega), trivial⟩
      refine hK11 a w ?_; try clear hK11 K11
      refine wp_seq_k fun K12 hK12 => ?_
      refine wp_seq_k fun K13 hK13 => ?_
      refine reg_q tabOK hk hh [] [0, 3, 4, 5, 16] rfl trivial (fun a hk => ?_)
      refine hK13 a w ?_; try clear hK13 K13
      refine code_cond hk rfl (fun c3 => ?_) (fun c3 => ?_)
      · replace c3 : k.tmod 10 < 0 := (of_decide_eq_true c3)
        refine reg_q tabOK hk hh [(1, .int .i64 (0 - (k.tmod 10)))] [0, 3, 4, 5] rfl ?_ (fun a hk => ?_)
        · exact ⟨ob_eq tabOK rfl (eq_i64 (by omega)), trivial⟩
        refine hK12 a w ?_; try clear hK12 K12
        refine reg_q tabOK hk hh [(1, .int .i64 (48 + (0 - (k.tmod 10)))), (2, .int .i32 (48 + (0 - (k.tmod 10)))), (3, S [UInt8.ofNat ((48 + (0 - (k.tmod 10))).toNat)]), (5, S ([UInt8.ofNat ((48 + (0 - (k.tmod 10))).toNat)] ++ s))] [0, 3, 4] rfl ?_ (fun a hk => ?_)
        · exact ⟨ob_eq tabOK rfl (eq_i64 (by omega)), ob_eq tabOK rfl (eq_i32 (by omega)), ob_letter tabOK rfl rfl rfl (by omega) (by omega), ob_concat rfl rfl (by simp only [List.length_append, List.length_cons, List.length_nil]; omega), trivial⟩
        refine blk_nm ?_
        refine hK10 a w ?_; try clear hK10 K10
        refine reg_q tabOK hk hh [(1, .int .i64 (k.tdiv 10))] [0, 3, 4] rfl ?_ (fun a hk => ?_)
        · exact ⟨ob_quo rfl rfl (by omega) (wrap_i64 (by unfold I64; omega)), trivial⟩
        refine then_nm ?_
        exact ⟨_, _, _, ⟨k.tdiv 10, [UInt8.ofNat ((48 + (0 - (k.tmod 10))).toNat)] ++ s, rfl, rfl, (by unfold I64; have := tdiv10 k; omega), (inv.step (by omega) (by have := tmod10 k; omega)), rfl⟩, (by have := tdiv10 k; simp only [id]; omega), hk.keep [0, 3, 4] rfl, hh⟩
      · replace c3 : ¬ (k.tmod 10 < 0) := (of_decide_eq_false c3)
        refine wp_skip ?_
        refine hK12 a w ?_; try clear hK12 K12
        refine reg_q tabOK hk hh [(1, .int .i64 (48 + (k.tmod 10))), (2, .int .i32 (48 + (k.tmod 10))), (3, S [UInt8.ofNat ((48 + (k.tmod 10)).toNat)]), (5, S ([UInt8.ofNat ((48 + (k.tmod 10)).toNat)] ++ s))] [0, 3, 4] rfl ?_ (fun a hk => ?_)
        · exact ⟨ob_eq tabOK rfl (eq_i64 (by omega)), ob_eq tabOK rfl (eq_i32 (by omega)), ob_letter tabOK rfl rfl rfl (by omega) (by omega), ob_concat rfl rfl (by simp only [List.length_append, List.length_cons, List.length_nil]; omega), trivial⟩
        refine blk_nm ?_
        refine hK10 a w ?_; try clear hK10 K10
        refine reg_q tabOK hk hh [(1, .int .i64 (k.tdiv 10))] [0, 3, 4] rfl ?_ (fun a hk => ?_)
        · exact ⟨ob_quo rfl rfl (by omega) (wrap_i64 (by unfold I64; omega)), trivial⟩
        refine then_nm ?_
        exact ⟨_, _, _, ⟨k.tdiv 10, [UInt8.ofNat ((48 + (k.tmod 10)).toNat)] ++ s, rfl, rfl, (by unfold I64; have := tdiv10 k; omega), (inv.step (by omega) (by have := tmod10 k; omega)), rfl⟩, (by have := tdiv10 k; simp only [id]; omega), hk.keep [0, 3, 4] rfl, hh⟩
    · replace c2 : k = 0 := (c_nf c2)
      refine wp_exit ?_
      refine then_exit ?_
      refine then_exit ?_
      refine blk_out ?_
      refine hK6 a w ?_; try clear hK6 K6
      refine wp_seq_k fun K14 hK14 => ?_
      refine wp_seq_k fun K15 hK15 => ?_
      refine reg_q tabOK hk hh [] [3, 26] rfl trivial (fun a hk => ?_)
      refine hK15 a w ?_; try clear hK15 K15
      refine code_cond hk rfl (fun c4 => ?_) (fun c4 => ?_)
      · replace c4 : n < 0 := (of_decide_eq_true c4)
        refine wp_seq_k fun K16 hK16 => ?_
        refine reg_q tabOK hk hh [(1, S ([45] ++ s))] [2, 3] rfl ?_ (fun a hk => ?_)
        · exact ⟨ob_concat rfl rfl (by simp only [List.length_append, List.length_cons, List.length_nil]; omega), trivial⟩
        refine hK16 a w ?_; try clear hK16 K16
        refine wp_ret ?_
        refine then_ret ?_
        refine fin_ret hk (show Tryz.f7.results = ⟨[.tmp 2]⟩ from rfl) (by exact (res_tmp hk rfl .nil)) ?_
        refine ⟨_, _, rfl, ⟨?_, rfl⟩, hh⟩
        exact number_neg (by omega) (inv.1 (by omega))
      · replace c4 : ¬ (n < 0) := (of_decide_eq_false c4)
        refine wp_skip ?_
        refine hK14 a w ?_; try clear hK14 K14
        refine wp_seq_k fun K17 hK17 => ?_
        refine reg_q tabOK hk hh [] [2] rfl trivial (fun a hk => ?_)
        refine hK17 a w ?_; try clear hK17 K17
        refine wp_ret ?_
        refine fin_ret hk (show Tryz.f7.results = ⟨[.tmp 2]⟩ from rfl) (by exact (res_tmp hk rfl .nil)) ?_
        refine ⟨_, _, rfl, ⟨?_, rfl⟩, hh⟩
        exact number_pos (by omega) (inv.1 (by omega))

end Go.Hop
/- What is proved here: what a function of the text computes. Printed by program. -/
namespace Go.Hop
open Go.Proofs
set_option maxRecDepth 4000
theorem value_spec (s : List UInt8) (hs : s.length ≤ 9000000000000000000) (σ : Sg) (w : World) (R : List Assn) (hh : Holds σ w (R)) :
    Calls Tryz.prog 28 ⟨[S s]⟩ w fun e w' => ∃ v L', e = .returned v ∧ (v = .tuple ⟨[.int .i64 (valS s), .bool (Lib.itoa (valS s) == s)]⟩ ∧ L' = R) ∧ Holds σ w' L' := by
  refine enter Tryz.func28 rfl Tryz.ntmps28 rfl fun a hk => ?_
  refine wp_seq_k fun K1 hK1 => ?_
  refine reg_q tabOK hk hh [] [0] rfl trivial (fun a hk => ?_)
  refine hK1 a w ?_; try clear hK1 K1
  refine wp_seq_k fun K2 hK2 => ?_
  refine reg_q tabOK hk hh [] [0, 4] rfl trivial (fun a hk => ?_)
  refine hK2 a w ?_; try clear hK2 K2
  refine wp_seq_k fun K3 hK3 => ?_
  refine wp_seq_k fun K4 hK4 => ?_
  refine reg_q tabOK hk hh [] [0, 4, 5] rfl trivial (fun a hk => ?_)
  refine hK4 a w ?_; try clear hK4 K4
  refine wp_block ?_
  replace hk := hk.keep [0, 4, 5] rfl
  refine code_loop (α := Nat) (fun (m : Nat) (E : Env) (L : List Assn) => ∃ (n : Int) (i : Nat), E = [(0, S s), (4, .int .i64 n), (5, .int .i64 (i : Int))] ∧ L = R ∧ (i ≤ 20) ∧ (i ≤ s.length) ∧ (n = (s.take i).foldl valStep 0) ∧ m = s.length - i) id _ hk hh ⟨0, 0, rfl, rfl, (by omega), (by omega), rfl, rfl⟩ ?_
  clear hk hh
  rintro _ _ _ a w ⟨n, i, rfl, hL, h20, hil, en, rfl⟩ hk hh; rw [hL] at hh; clear hL
  have hb := (s.getD i 0).toNat_lt
  refine wp_seq_k fun K5 hK5 => ?_
  refine wp_seq_k fun K6 hK6 => ?_
  by_cases c1 : (i : Int) < (s.length : Int)
  · refine reg_q tabOK hk hh [(3, .bool true)] [0, 4, 5, 13] rfl ?_ (fun a hk => ?_)
    · exact ⟨ob_eq tabOK rfl (v_dt c1), trivial⟩
    refine hK6 a w ?_; try clear hK6 K6
    refine code_cond hk rfl (fun c2 => ?_) (fun c2 => ?_)
    · replace c2 : (i : Int) < 20 := (of_decide_eq_true c2)
      refine wp_skip ?_
      refine hK5 a w ?_; try clear hK5 K5
      refine wp_seq_k fun K7 hK7 => ?_
      refine wp_block ?_
      refine wp_seq_k fun K8 hK8 => ?_
      by_cases c3 : ((s.getD i 0).toNat : Int) ≥ 48
      · refine reg_q tabOK hk hh [(2, .int .u8 ((s.getD i 0).toNat : Int)), (3, .bool true), (7, .int .u8 ((s.getD i 0).toNat : Int))] [0, 4, 5, 25] rfl ?_ (fun a hk => ?_)
        · exact ⟨ob_index tabOK rfl rfl rfl (by omega) (getD_at (by omega)), ob_eq tabOK rfl (v_dt c3), ob_index tabOK rfl rfl rfl (by omega) (getD_at (by omega)), trivial⟩
        refine hK8 a w ?_; try clear hK8 K8
        refine code_cond hk rfl (fun c4 => ?_) (fun c4 => ?_)
        · replace c4 : ((s.getD i 0).toNat : Int) ≤ 57 := (of_decide_eq_true c4)
          refine reg_q tabOK hk hh [(4, .int .u8 ((s.getD i 0).toNat : Int)), (5, .int .u8 (((s.getD i 0).toNat : Int) - 48)), (6, .int .i64 (((s.getD i 0).toNat : Int) - 48))] [0, 4, 5] rfl ?_ (fun a hk => ?_)
          · exact ⟨ob_index tabOK rfl rfl rfl (by omega) (getD_at (by omega)), ob_eq tabOK rfl (eq_u8 (by omega)), ob_eq tabOK rfl (eq_i64 (by omega)), trivial⟩
          refine blk_nm ?_
          refine hK7 a w ?_; try clear hK7 K7
          refine reg_q tabOK hk hh [(1, .int .i64 ((i : Int) + 1))] [0, 4, 5] rfl ?_ (fun a hk => ?_)
          · exact ⟨ob_eq tabOK rfl (eq_i64 (by omega)), trivial⟩
          refine then_nm ?_
          exact ⟨_, _, _, ⟨IntKind.i64.wrap (IntKind.i64.wrap (n * 10) - (((s.getD i 0).toNat : Int) - 48)), i + 1, rfl, rfl, (by omega), (by omega), (val_hit en (by omega) (by omega) (by omega)), rfl⟩, (by simp only [id]; omega), hk.keep [0, 4, 5] rfl, hh⟩
        · replace c4 : ¬ (((s.getD i 0).toNat : Int) ≤ 57) := (of_decide_eq_false c4)
          refine wp_skip ?_
          refine blk_nm ?_
          refine hK7 a w ?_; try clear hK7 K7
          refine reg_q tabOK hk hh [(1, .int .i64 ((i : Int) + 1))] [0, 4, 5] rfl ?_ (fun a hk => ?_)
          · exact ⟨ob_eq tabOK rfl (eq_i64 (by omega)), trivial⟩
          refine then_nm ?_
          exact ⟨_, _, _, ⟨n, i + 1, rfl, rfl, (by omega), (by omega), (val_miss en (by omega) (by omega)), rfl⟩, (by simp only [id]; omega), hk.keep [0, 4, 5] rfl, hh⟩
      · refine reg_q tabOK hk hh [(2, .int .u8 ((s.getD i 0).toNat : Int)), (3, .bool false)] [0, 4, 5, 25] rfl ?_ (fun a hk => ?_)
        · exact ⟨ob_index tabOK rfl rfl rfl (by omega) (getD_at (by omega)), ob_eq tabOK rfl (v_df c3), trivial⟩
        refine hK8 a w ?_; try clear hK8 K8
        refine code_cond hk rfl (fun h => by cases h) (fun _ => ?_)
        refine wp_skip ?_
        refine blk_nm ?_
        refine hK7 a w ?_; try clear hK7 K7
        refine reg_q tabOK hk hh [(1, .int .i64 ((i : Int) + 1))] [0, 4, 5] rfl ?_ (fun a hk => ?_)
        · exact ⟨ob_eq tabOK rfl (eq_i64 (by omega)), trivial⟩
        refine then_nm ?_
        exact ⟨_, _, _, ⟨n, i + 1, rfl, rfl, (by omega), (by omega), (val_miss en (by omega) (by omega)), rfl⟩, (by simp only [id]; omega), hk.keep [0, 4, 5] rfl, hh⟩
    · replace c2 : ¬ ((i : Int) < 20) := (of_decide_eq_false c2)
      refine wp_exit ?_
      refine then_exit ?_
      refine then_exit ?_
      refine blk_out ?_
      refine hK3 a w ?_; try clear hK3 K3
      refine wp_seq_k fun K9 hK9 => ?_
      refine wp_seq_k fun K10 hK10 => ?_
      by_cases c5 : (s.length : Int) = 0
      · have ev := val_end en (by omega)
        refine reg_q tabOK hk hh [(2, .bool true)] [0, 4, 41] rfl ?_ (fun a hk => ?_)
        · exact ⟨ob_eq tabOK rfl (v_et c5), trivial⟩
        refine hK10 a w ?_; try clear hK10 K10
        refine code_cond hk rfl (fun _ => ?_) (fun h => by cases h)
        refine reg_q tabOK hk hh [] [0, 4] rfl trivial (fun a hk => ?_)
        refine hK9 a w ?_; try clear hK9 K9
        refine wp_seq_k fun K11 hK11 => ?_
        have ez := val_plus ev (by omega)
        have hz : I64 (IntKind.i64.wrap (0 - n)) := by rw [ez]; exact valS_I64 s
        refine wp_region_lit ?_
        refine seq_q tabOK (i := 0) (stop := 2) hk hh [] rfl trivial (fun a hk => ?_)
        refine seq_eff hk hh rfl rfl (eff_call Tryz.func7 rfl rfl rfl rfl (fun w hh => number_spec (IntKind.i64.wrap (0 - n)) (by first | assumption | (unfold I64; omega)) σ w _ hh)) (fun v L a w hp hk hh => ?_)
        obtain ⟨rfl, hL⟩ := hp; rw [hL] at hh; clear hL
        refine rest_q tabOK (i := 3) hk hh [] [2, 3] rfl trivial (fun a hk => ?_)
        refine hK11 a w ?_; try clear hK11 K11
        refine wp_ret ?_
        refine fin_ret hk (show Tryz.f28.results = ⟨[.tmp 2, .tmp 3]⟩ from rfl) (by exact (res_tmp hk rfl (res_tmp hk rfl .nil))) ?_
        refine ⟨_, _, rfl, ⟨?_, rfl⟩, hh⟩
        simp only [retV, ez]
      · have ev := val_end en (by omega)
        refine reg_q tabOK hk hh [(2, .bool false), (5, .int .u8 ((s.getD 0 0).toNat : Int))] [0, 4, 41] rfl ?_ (fun a hk => ?_)
        · exact ⟨ob_eq tabOK rfl (v_ef c5), ob_index tabOK rfl rfl rfl (by omega) (getD_at (by omega)), trivial⟩
        refine hK10 a w ?_; try clear hK10 K10
        refine code_cond hk rfl (fun c6 => ?_) (fun c6 => ?_)
        · replace c6 : ¬ (((s.getD 0 0).toNat : Int) = 45) := (c_nt c6)
          refine reg_q tabOK hk hh [] [0, 4] rfl trivial (fun a hk => ?_)
          refine hK9 a w ?_; try clear hK9 K9
          refine wp_seq_k fun K12 hK12 => ?_
          have ez := val_plus ev (by omega)
          have hz : I64 (IntKind.i64.wrap (0 - n)) := by rw [ez]; exact valS_I64 s
          refine wp_region_lit ?_
          refine seq_q tabOK (i := 0) (stop := 2) hk hh [] rfl trivial (fun a hk => ?_)
          refine seq_eff hk hh rfl rfl (eff_call Tryz.func7 rfl rfl rfl rfl (fun w hh => number_spec (IntKind.i64.wrap (0 - n)) (by first | assumption | (unfold I64; omega)) σ w _ hh)) (fun v L a w hp hk hh => ?_)
          obtain ⟨rfl, hL⟩ := hp; rw [hL] at hh; clear hL
          refine rest_q tabOK (i := 3) hk hh [] [2, 3] rfl trivial (fun a hk => ?_)
          refine hK12 a w ?_; try clear hK12 K12
          refine wp_ret ?_
          refine fin_ret hk (show Tryz.f28.results = ⟨[.tmp 2, .tmp 3]⟩ from rfl) (by exact (res_tmp hk rfl (res_tmp hk rfl .nil))) ?_
          refine ⟨_, _, rfl, ⟨?_, rfl⟩, hh⟩
          simp only [retV, ez]
        · replace c6 : ((s.getD 0 0).toNat : Int) = 45 := (c_nf c6)
          refine wp_skip ?_
          refine hK9 a w ?_; try clear hK9 K9
          refine wp_seq_k fun K13 hK13 => ?_
          have ez := val_minus ev (by omega) (by omega)
          have hz : I64 (n) := by rw [ez]; exact valS_I64 s
          refine wp_region_lit ?_
          refine seq_q tabOK (i := 0) (stop := 2) hk hh [] rfl trivial (fun a hk => ?_)
          refine seq_eff hk hh rfl rfl (eff_call Tryz.func7 rfl rfl rfl rfl (fun w hh => number_spec n (by first | assumption | (unfold I64; omega)) σ w _ hh)) (fun v L a w hp hk hh => ?_)
          obtain ⟨rfl, hL⟩ := hp; rw [hL] at hh; clear hL
          refine rest_q tabOK (i := 3) hk hh [] [2, 3] rfl trivial (fun a hk => ?_)
          refine hK13 a w ?_; try clear hK13 K13
          refine wp_ret ?_
          refine fin_ret hk (show Tryz.f28.results = ⟨[.tmp 2, .tmp 3]⟩ from rfl) (by exact (res_tmp hk rfl (res_tmp hk rfl .nil))) ?_
          refine ⟨_, _, rfl, ⟨?_, rfl⟩, hh⟩
          simp only [retV, ez]
  · refine reg_q tabOK hk hh [(3, .bool false)] [0, 4, 5, 13] rfl ?_ (fun a hk => ?_)
    · exact ⟨ob_eq tabOK rfl (v_df c1), trivial⟩
    refine hK6 a w ?_; try clear hK6 K6
    refine code_cond hk rfl (fun h => by cases h) (fun _ => ?_)
    refine wp_exit ?_
    refine then_exit ?_
    refine then_exit ?_
    refine blk_out ?_
    refine hK3 a w ?_; try clear hK3 K3
    refine wp_seq_k fun K14 hK14 => ?_
    refine wp_seq_k fun K15 hK15 => ?_
    by_cases c7 : (s.length : Int) = 0
    · have ev := val_end en (by omega)
      refine reg_q tabOK hk hh [(2, .bool true)] [0, 4, 41] rfl ?_ (fun a hk => ?_)
      · exact ⟨ob_eq tabOK rfl (v_et c7), trivial⟩
      refine hK15 a w ?_; try clear hK15 K15
      refine code_cond hk rfl (fun _ => ?_) (fun h => by cases h)
      refine reg_q tabOK hk hh [] [0, 4] rfl trivial (fun a hk => ?_)
      refine hK14 a w ?_; try clear hK14 K14
      refine wp_seq_k fun K16 hK16 => ?_
      have ez := val_plus ev (by omega)
      have hz : I64 (IntKind.i64.wrap (0 - n)) := by rw [ez]; exact valS_I64 s
      refine wp_region_lit ?_
      refine seq_q tabOK (i := 0) (stop := 2) hk hh [] rfl trivial (fun a hk => ?_)
      refine seq_eff hk hh rfl rfl (eff_call Tryz.func7 rfl rfl rfl rfl (fun w hh => number_spec (IntKind.i64.wrap (0 - n)) (by first | assumption | (unfold I64; omega)) σ w _ hh)) (fun v L a w hp hk hh => ?_)
      obtain ⟨rfl, hL⟩ := hp; rw [hL] at hh; clear hL
      refine rest_q tabOK (i := 3) hk hh [] [2, 3] rfl trivial (fun a hk => ?_)
      refine hK16 a w ?_; try clear hK16 K16
      refine wp_ret ?_
      refine fin_ret hk (show Tryz.f28.results = ⟨[.tmp 2, .tmp 3]⟩ from rfl) (by exact (res_tmp hk rfl (res_tmp hk rfl .nil))) ?_
      refine ⟨_, _, rfl, ⟨?_, rfl⟩, hh⟩
      simp only [retV, ez]
    · have ev := val_end en (by omega)
      refine reg_q tabOK hk hh [(2, .bool false), (5, .int .u8 ((s.getD 0 0).toNat : Int))] [0, 4, 41] rfl ?_ (fun a hk => ?_)
      · exact ⟨ob_eq tabOK rfl (v_ef c7), ob_index tabOK rfl rfl rfl (by omega) (getD_at (by omega)), trivial⟩
      refine hK15 a w ?_; try clear hK15 K15
      refine code_cond hk rfl (fun c8 => ?_) (fun c8 => ?_)
      · replace c8 : ¬ (((s.getD 0 0).toNat : Int) = 45) := (c_nt c8)
        refine reg_q tabOK hk hh [] [0, 4] rfl trivial (fun a hk => ?_)
        refine hK14 a w ?_; try clear hK14 K14
        refine wp_seq_k fun K17 hK17 => ?_
        have ez := val_plus ev (by omega)
        have hz : I64 (IntKind.i64.wrap (0 - n)) := by rw [ez]; exact valS_I64 s
        refine wp_region_lit ?_
        refine seq_q tabOK (i := 0) (stop := 2) hk hh [] rfl trivial (fun a hk => ?_)
        refine seq_eff hk hh rfl rfl (eff_call Tryz.func7 rfl rfl rfl rfl (fun w hh => number_spec (IntKind.i64.wrap (0 - n)) (by first | assumption | (unfold I64; omega)) σ w _ hh)) (fun v L a w hp hk hh => ?_)
        obtain ⟨rfl, hL⟩ := hp; rw [hL] at hh; clear hL
        refine rest_q tabOK (i := 3) hk hh [] [2, 3] rfl trivial (fun a hk => ?_)
        refine hK17 a w ?_; try clear hK17 K17
        refine wp_ret ?_
        refine fin_ret hk (show Tryz.f28.results = ⟨[.tmp 2, .tmp 3]⟩ from rfl) (by exact (res_tmp hk rfl (res_tmp hk rfl .nil))) ?_
        refine ⟨_, _, rfl, ⟨?_, rfl⟩, hh⟩
        simp only [retV, ez]
      · replace c8 : ((s.getD 0 0).toNat : Int) = 45 := (c_nf c8)
        refine wp_skip ?_
        refine hK14 a w ?_; try clear hK14 K14
        refine wp_seq_k fun K18 hK18 => ?_
        have ez := val_minus ev (by omega) (by omega)
        have hz : I64 (n) := by rw [ez]; exact valS_I64 s
        refine wp_region_lit ?_
        refine seq_q tabOK (i := 0) (stop := 2) hk hh [] rfl trivial (fun a hk => ?_)
        refine seq_eff hk hh rfl rfl (eff_call Tryz.func7 rfl rfl rfl rfl (fun w hh => number_spec n (by first | assumption | (unfold I64; omega)) σ w _ hh)) (fun v L a w hp hk hh => ?_)
        obtain ⟨rfl, hL⟩ := hp; rw [hL] at hh; clear hL
        refine rest_q tabOK (i := 3) hk hh [] [2, 3] rfl trivial (fun a hk => ?_)
        refine hK18 a w ?_; try clear hK18 K18
        refine wp_ret ?_
        refine fin_ret hk (show Tryz.f28.results = ⟨[.tmp 2, .tmp 3]⟩ from rfl) (by exact (res_tmp hk rfl (res_tmp hk rfl .nil))) ?_
        refine ⟨_, _, rfl, ⟨?_, rfl⟩, hh⟩
        simp only [retV, ez]

end Go.Hop
/- What is proved here: what a function of the text computes. Printed by program. -/
namespace Go.Hop
open Go.Proofs
set_option maxRecDepth 4000
theorem lline_spec (s : List UInt8) (hs : s.length ≤ 4000000000) (σ : Sg) (w : World) (R : List Assn) (hh : Holds σ w (R)) :
    Calls Tryz.prog 16 ⟨[S s]⟩ w fun e w' => ∃ v L', e = .returned v ∧ (∃ x ok, v = .tuple ⟨[.agg ⟨x.cs⟩, .bool ok]⟩ ∧ L' = R ∧ lineO s = (if ok = true then some x else none) ∧ (ok = false → x = zA)) ∧ Holds σ w' L' := by
  refine enter Tryz.func16 rfl Tryz.ntmps16 rfl fun a hk => ?_
  refine wp_seq_k fun K1 hK1 => ?_
  refine wp_region_lit ?_
  refine seq_eff hk hh rfl rfl (eff_alloc tabOK rfl) (fun v L a w hp hk hh => ?_)
  obtain ⟨b1, rfl, hL⟩ := hp; rw [hL] at hh; clear hL
  refine rest_q tabOK (i := 1) hk hh [] [0, 2] rfl trivial (fun a hk => ?_)
  refine hK1 a w ?_; try clear hK1 K1
  refine wp_seq_k fun K2 hK2 => ?_
  refine wp_seq_k fun K3 hK3 => ?_
  refine reg_q tabOK hk hh [] [0, 2, 4] rfl trivial (fun a hk => ?_)
  refine hK3 a w ?_; try clear hK3 K3
  refine wp_block ?_
  replace hk := hk.keep [0, 2, 4] rfl
  refine code_loop (α := Nat) (fun (m : Nat) (E : Env) (L : List Assn) => ∃ (i : Nat), E = [(0, S s), (2, .pointer (some ⟨b1, 0, none⟩)), (4, .int .i64 (i : Int))] ∧ L = [row b1 26 [.int .i64 0, .int .i64 0, .int .i64 0, .int .i64 0, S []]] ++ R ∧ (i ≤ s.length) ∧ (10 ∉ s.take i) ∧ m = s.length - i) id _ hk hh ⟨0, rfl, rfl, (by omega), (by simp), rfl⟩ ?_
  clear hk hh
  rintro _ _ _ a w ⟨i, rfl, hL, hi, inv, rfl⟩ hk hh; rw [hL] at hh; clear hL
  refine wp_seq_k fun K4 hK4 => ?_
  refine wp_seq_k fun K5 hK5 => ?_
  refine reg_q tabOK hk hh [] [0, 2, 4, 15] rfl trivial (fun a hk => ?_)
  refine hK5 a w ?_; try clear hK5 K5
  refine code_cond hk rfl (fun c2 => ?_) (fun c2 => ?_)
  · replace c2 : (i : Int) < (s.length : Int) := (of_decide_eq_true c2)
    refine wp_skip ?_
    refine hK4 a w ?_; try clear hK4 K4
    refine wp_seq_k fun K6 hK6 => ?_
    refine wp_block ?_
    refine wp_seq_k fun K7 hK7 => ?_
    refine reg_q tabOK hk hh [(2, .int .u8 ((s.getD i 0).toNat : Int))] [0, 2, 4, 21] rfl ?_ (fun a hk => ?_)
    · exact ⟨ob_index tabOK rfl rfl rfl (by omega) (getD_at (by omega)), trivial⟩
    refine hK7 a w ?_; try clear hK7 K7
    refine code_cond hk rfl (fun c3 => ?_) (fun c3 => ?_)
    · replace c3 : ((s.getD i 0).toNat : Int) = 10 := (c_et c3)
      refine wp_seq_k fun K8 hK8 => ?_
      refine wp_region_lit ?_
      refine seq_q tabOK (i := 0) (stop := 1) hk hh [] rfl trivial (fun a hk => ?_)
      refine seq_eff hk hh rfl rfl (eff_store tabOK 0 rfl rfl rfl rfl rfl rfl rfl (by simp)) (fun v L a w hp hk hh => ?_)
      obtain ⟨rfl, hL⟩ := hp; rw [hL] at hh; clear hL
      refine rest_q tabOK (i := 2) hk hh [] [0, 2, 3, 4] rfl trivial (fun a hk => ?_)
      refine hK8 a w ?_; try clear hK8 K8
      refine wp_ret ?_
      refine blk_ret ?_
      refine then_ret ?_
      refine then_ret ?_
      refine blk_ret ?_
      refine then_ret ?_
      refine fin_ret hk (show Tryz.f16.results = ⟨[.cell 2 26, .tmp 3]⟩ from rfl) (by exact (res_cellN tabOK hk hh 0 rfl rfl rfl rfl rfl (res_tmp hk rfl .nil))) ?_
      replace hh := (hh.at_ 0 rfl).drop
      refine ⟨_, _, rfl, ⟨zA, false, rfl, rfl, ?_, (fun _ => rfl)⟩, hh⟩
      exact line_bad (mem_nl (by omega) c3)
    · replace c3 : ¬ (((s.getD i 0).toNat : Int) = 10) := (c_ef c3)
      refine wp_skip ?_
      refine blk_nm ?_
      refine hK6 a w ?_; try clear hK6 K6
      refine reg_q tabOK hk hh [(1, .int .i64 ((i : Int) + 1))] [0, 2, 4] rfl ?_ (fun a hk => ?_)
      · exact ⟨ob_eq tabOK rfl (eq_i64 (by omega)), trivial⟩
      refine then_nm ?_
      exact ⟨_, _, _, ⟨i + 1, rfl, rfl, (by omega), (nl_step inv (by omega) c3), rfl⟩, (by simp only [id]; omega), hk.keep [0, 2, 4] rfl, hh⟩
  · replace c2 : ¬ ((i : Int) < (s.length : Int)) := (of_decide_eq_false c2)
    refine wp_exit ?_
    refine then_exit ?_
    refine then_exit ?_
    refine blk_out ?_
    refine hK2 a w ?_; try clear hK2 K2
    refine wp_seq_k fun K9 hK9 => ?_
    have hnl := nl_end inv (by omega)
    clear inv
    have hl1 : 1 ≤ (spl 32 s).length := spl_pos
    have hl2 : (spl 32 s).length ≤ 5000000000 := Nat.le_trans spl_len (by omega)
    have hlen0 : ∀ i, ((spl 32 s).getD i []).length ≤ 4000000000 := fun i => Nat.le_trans spl_word hs
    refine wp_region_lit ?_
    refine seq_q tabOK (i := 0) (stop := 1) hk hh [] rfl trivial (fun a hk => ?_)
    refine seq_eff hk hh rfl rfl (eff_call Tryz.func27 rfl rfl rfl rfl (fun w hh => words_spec s (by omega) σ w _ hh)) (fun v L a w hp hk hh => ?_)
    obtain ⟨b4, cap5, sp6, rfl, hL⟩ := hp; rw [hL] at hh; clear hL
    refine rest_q tabOK (i := 2) hk hh [] [2, 5] rfl trivial (fun a hk => ?_)
    refine hK9 a w ?_; try clear hK9 K9
    refine wp_seq_k fun K10 hK10 => ?_
    refine wp_region_lit ?_
    refine seq_q tabOK (i := 0) (stop := 3) hk hh [(1, .pointer (some ⟨b4, 0, none⟩)), (2, S ((spl 32 s).getD 0 []))] rfl ?_ (fun a hk => ?_)
    · exact ⟨ob_indexAddr tabOK (0) rfl rfl rfl rfl (by omega) (by omega) (by show 0 + (0 : Int).toNat * 1 = 0; omega), ob_load tabOK 0 rfl rfl rfl rfl (map_S_at2 (by omega)), trivial⟩
    refine seq_eff hk hh rfl rfl (eff_call Tryz.func20 rfl rfl rfl rfl (fun w hh => form_spec ((spl 32 s).getD 0 []) σ w _ hh)) (fun v L a w hp hk hh => ?_)
    obtain ⟨kd, lk, rfl, hL, hform⟩ := hp; rw [hL] at hh; clear hL
    have hlk3 := hform.len
    refine rest_q tabOK (i := 4) hk hh [] [2, 5, 6, 7] rfl trivial (fun a hk => ?_)
    refine hK10 a w ?_; try clear hK10 K10
    refine wp_seq_k fun K11 hK11 => ?_
    refine wp_seq_k fun K12 hK12 => ?_
    by_cases c7 : kd = 0
    · refine reg_q tabOK hk hh [(1, .bool true)] [2, 5, 6, 7, 41] rfl ?_ (fun a hk => ?_)
      · exact ⟨ob_eq tabOK rfl (v_et c7), trivial⟩
      refine hK12 a w ?_; try clear hK12 K12
      refine code_cond hk rfl (fun _ => ?_) (fun h => by cases h)
      refine wp_seq_k fun K13 hK13 => ?_
      refine wp_region_lit ?_
      refine seq_q tabOK (i := 0) (stop := 1) hk hh [] rfl trivial (fun a hk => ?_)
      refine seq_eff hk hh rfl rfl (eff_store tabOK 1 rfl rfl rfl rfl rfl rfl rfl (by simp)) (fun v L a w hp hk hh => ?_)
      obtain ⟨rfl, hL⟩ := hp; rw [hL] at hh; clear hL
      refine rest_q tabOK (i := 2) hk hh [] [2, 3, 5, 6, 7] rfl trivial (fun a hk => ?_)
      refine hK13 a w ?_; try clear hK13 K13
      refine wp_ret ?_
      refine then_ret ?_
      refine fin_ret hk (show Tryz.f16.results = ⟨[.cell 2 26, .tmp 3]⟩ from rfl) (by exact (res_cellN tabOK hk hh 0 rfl rfl rfl rfl rfl (res_tmp hk rfl .nil))) ?_
      replace hh := (hh.at_ 0 rfl).drop
      replace hh := (hh.at_ 0 rfl).drop
      refine ⟨_, _, rfl, ⟨zA, false, rfl, rfl, ?_, (fun _ => rfl)⟩, hh⟩
      rcases hform with ⟨f0, hf0, hw0, rfl, rfl⟩ | ⟨_, _, hno⟩
      · have hul : (upL (F f0).f).length = (F f0).f.length := upL_len
        have hk0 := forms_k hf0
        exact line_form hnl hf0 hw0 (readF_len (by omega))
      · exact line_noform hnl hno
    · refine reg_q tabOK hk hh [(1, .bool false), (7, .int .i64 ((lk.length : Int) + 1))] [2, 5, 6, 7, 41] rfl ?_ (fun a hk => ?_)
      · exact ⟨ob_eq tabOK rfl (v_ef c7), ob_eq tabOK rfl (eq_i64 (by omega)), trivial⟩
      refine hK12 a w ?_; try clear hK12 K12
      refine code_cond hk rfl (fun c8 => ?_) (fun c8 => ?_)
      · replace c8 : ¬ (((spl 32 s).length : Int) = (lk.length : Int) + 1) := (c_nt c8)
        refine wp_seq_k fun K14 hK14 => ?_
        refine wp_region_lit ?_
        refine seq_q tabOK (i := 0) (stop := 1) hk hh [] rfl trivial (fun a hk => ?_)
        refine seq_eff hk hh rfl rfl (eff_store tabOK 1 rfl rfl rfl rfl rfl rfl rfl (by simp)) (fun v L a w hp hk hh => ?_)
        obtain ⟨rfl, hL⟩ := hp; rw [hL] at hh; clear hL
        refine rest_q tabOK (i := 2) hk hh [] [2, 3, 5, 6, 7] rfl trivial (fun a hk => ?_)
        refine hK14 a w ?_; try clear hK14 K14
        refine wp_ret ?_
        refine then_ret ?_
        refine fin_ret hk (show Tryz.f16.results = ⟨[.cell 2 26, .tmp 3]⟩ from rfl) (by exact (res_cellN tabOK hk hh 0 rfl rfl rfl rfl rfl (res_tmp hk rfl .nil))) ?_
        replace hh := (hh.at_ 0 rfl).drop
        replace hh := (hh.at_ 0 rfl).drop
        refine ⟨_, _, rfl, ⟨zA, false, rfl, rfl, ?_, (fun _ => rfl)⟩, hh⟩
        rcases hform with ⟨f0, hf0, hw0, rfl, rfl⟩ | ⟨_, _, hno⟩
        · have hul : (upL (F f0).f).length = (F f0).f.length := upL_len
          have hk0 := forms_k hf0
          exact line_form hnl hf0 hw0 (readF_len (by omega))
        · exact line_noform hnl hno
      · replace c8 : ((spl 32 s).length : Int) = (lk.length : Int) + 1 := (c_nf c8)
        refine wp_skip ?_
        refine hK11 a w ?_; try clear hK11 K11
        refine wp_seq_k fun K15 hK15 => ?_
        obtain ⟨f0, hf0, hw0, hkd, hlk⟩ : ∃ i, i < 13 ∧ (F i).w = (spl 32 s).getD 0 [] ∧ kd = (F i).k ∧ lk = upL (F i).f := hform.resolve_right (fun h => by have := h.1; omega)
        subst hkd; subst hlk
        have hul : (upL (F f0).f).length = (F f0).f.length := upL_len
        have hread := readF_fill hw0 (by omega)
        refine wp_region_lit ?_
        refine seq_q tabOK (i := 0) (stop := 2) hk hh [] rfl trivial (fun a hk => ?_)
        refine seq_eff hk hh rfl rfl (eff_alloc tabOK rfl) (fun v L a w hp hk hh => ?_)
        obtain ⟨b9, rfl, hL⟩ := hp; rw [hL] at hh; clear hL
        refine seq_eff hk hh rfl rfl (eff_store tabOK 0 rfl rfl rfl rfl rfl rfl rfl (by simp)) (fun v L a w hp hk hh => ?_)
        obtain ⟨rfl, hL⟩ := hp; rw [hL] at hh; clear hL
        refine rest_q tabOK (i := 4) hk hh [] [2, 5, 7, 8] rfl trivial (fun a hk => ?_)
        refine hK15 a w ?_; try clear hK15 K15
        refine wp_seq_k fun K16 hK16 => ?_
        refine wp_seq_k fun K17 hK17 => ?_
        refine reg_q tabOK hk hh [] [2, 5, 7, 8, 9] rfl trivial (fun a hk => ?_)
        refine hK17 a w ?_; try clear hK17 K17
        refine wp_block ?_
        replace hh := hh.picks [0, 1, 0] rfl
        replace hk := hk.keep [2, 5, 7, 8, 9] rfl
        refine code_loop (α := Nat) (fun (m : Nat) (E : Env) (L : List Assn) => ∃ (i : Nat) (x : ActL), E = [(2, .pointer (some ⟨b1, 0, none⟩)), (5, .slice (some ⟨b4, 0, none⟩) ((spl 32 s).length) cap5), (7, S (upL (F f0).f)), (8, .pointer (some ⟨b9, 0, none⟩)), (9, .int .i64 (i : Int))] ∧ L = [row b9 26 [.int .i64 x.k, .int .i64 x.a, .int .i64 x.b, .int .i64 x.n, S x.s], row b1 26 [.int .i64 0, .int .i64 0, .int .i64 0, .int .i64 0, S []], row b4 9 ((spl 32 s).map S ++ sp6)] ++ R ∧ (1 ≤ i) ∧ (i ≤ (spl 32 s).length) ∧ (fillF x ((F f0).f.drop (i - 1)) ((spl 32 s).drop i) = fillF ⟨(F f0).k, 0, 0, 0, []⟩ (F f0).f ((spl 32 s).drop 1)) ∧ m = (spl 32 s).length - i) id _ hk hh ⟨1, ⟨(F f0).k, 0, 0, 0, []⟩, rfl, rfl, (by omega), (by omega), rfl, rfl⟩ ?_
        clear hk hh
        rintro _ _ _ a w ⟨i, x, rfl, hL, hi1, hi, inv, rfl⟩ hk hh; rw [hL] at hh; clear hL
        refine wp_seq_k fun K18 hK18 => ?_
        refine wp_seq_k fun K19 hK19 => ?_
        refine reg_q tabOK hk hh [] [2, 5, 7, 8, 9, 48] rfl trivial (fun a hk => ?_)
        refine hK19 a w ?_; try clear hK19 K19
        refine code_cond hk rfl (fun c10 => ?_) (fun c10 => ?_)
        · replace c10 : (i : Int) < ((spl 32 s).length : Int) := (of_decide_eq_true c10)
          refine wp_skip ?_
          refine hK18 a w ?_; try clear hK18 K18
          refine wp_seq_k fun K20 hK20 => ?_
          refine wp_block ?_
          refine wp_seq_k fun K21 hK21 => ?_
          refine wp_seq_k fun K22 hK22 => ?_
          refine reg_q tabOK hk hh [(2, .int .i64 ((i : Int) - 1)), (3, .int .u8 (((upL (F f0).f).getD (((i : Int) - 1).toNat) 0).toNat : Int))] [2, 5, 7, 8, 9, 55] rfl ?_ (fun a hk => ?_)
          · exact ⟨ob_eq tabOK rfl (eq_i64 (by omega)), ob_index tabOK rfl rfl rfl (by omega) (getD_at (by omega)), trivial⟩
          refine hK22 a w ?_; try clear hK22 K22
          refine code_cond hk rfl (fun c11 => ?_) (fun c11 => ?_)
          · replace c11 : (((upL (F f0).f).getD (((i : Int) - 1).toNat) 0).toNat : Int) = 115 := (c_et c11)
            refine wp_seq_k fun K23 hK23 => ?_
            refine wp_seq_k fun K24 hK24 => ?_
            refine reg_q tabOK hk hh [(2, .pointer (some ⟨b4, i, none⟩)), (3, S ((spl 32 s).getD i []))] [2, 5, 7, 8, 9, 60] rfl ?_ (fun a hk => ?_)
            · exact ⟨ob_indexAddr tabOK (i) rfl rfl rfl rfl (by omega) (by omega) (by show 0 + ((i : Int) : Int).toNat * 1 = i; omega), ob_load tabOK 2 rfl rfl rfl rfl (map_S_at2 (by omega)), trivial⟩
            refine hK24 a w ?_; try clear hK24 K24
            refine code_cond hk rfl (fun c12 => ?_) (fun c12 => ?_)
            · replace c12 : (spl 32 s).getD i [] = [] := (c_et c12)
              refine wp_seq_k fun K25 hK25 => ?_
              refine wp_region_lit ?_
              refine seq_q tabOK (i := 0) (stop := 1) hk hh [] rfl trivial (fun a hk => ?_)
              refine seq_eff hk hh rfl rfl (eff_store tabOK 1 rfl rfl rfl rfl rfl rfl rfl (by simp)) (fun v L a w hp hk hh => ?_)
              obtain ⟨rfl, hL⟩ := hp; rw [hL] at hh; clear hL
              refine rest_q tabOK (i := 2) hk hh [] [2, 3, 5, 7, 8, 9] rfl trivial (fun a hk => ?_)
              refine hK25 a w ?_; try clear hK25 K25
              refine wp_ret ?_
              refine then_ret ?_
              refine then_ret ?_
              refine blk_ret ?_
              refine then_ret ?_
              refine then_ret ?_
              refine blk_ret ?_
              refine then_ret ?_
              refine fin_ret hk (show Tryz.f16.results = ⟨[.cell 2 26, .tmp 3]⟩ from rfl) (by exact (res_cellN tabOK hk hh 0 rfl rfl rfl rfl rfl (res_tmp hk rfl .nil))) ?_
              replace hh := (hh.at_ 0 rfl).drop
              replace hh := (hh.at_ 0 rfl).drop
              replace hh := (hh.at_ 0 rfl).drop
              refine ⟨_, _, rfl, ⟨zA, false, rfl, rfl, ?_, (fun _ => rfl)⟩, hh⟩
              exact line_form hnl hf0 hw0 (by rw [hread]; exact fill_miss2 (j := i) inv (by omega) (by omega) (by omega) (set_s0 (m := ((i : Int) - 1).toNat) (by omega) c11 c12))
            · replace c12 : ¬ ((spl 32 s).getD i [] = []) := (c_ef c12)
              refine wp_skip ?_
              refine hK23 a w ?_; try clear hK23 K23
              refine wp_seq_k fun K26 hK26 => ?_
              refine wp_region_lit ?_
              refine seq_q tabOK (i := 0) (stop := 5) hk hh [(2, .pointer (some ⟨b4, i, none⟩)), (3, S ((spl 32 s).getD i []))] rfl ?_ (fun a hk => ?_)
              · exact ⟨ob_indexAddr tabOK (i) rfl rfl rfl rfl (by omega) (by omega) (by show 0 + ((i : Int) : Int).toNat * 1 = i; omega), ob_load tabOK 2 rfl rfl rfl rfl (map_S_at2 (by omega)), trivial⟩
              refine seq_eff hk hh rfl rfl (eff_store tabOK 0 rfl rfl rfl rfl rfl rfl rfl (by simp)) (fun v L a w hp hk hh => ?_)
              obtain ⟨rfl, hL⟩ := hp; rw [hL] at hh; clear hL
              refine rest_q tabOK (i := 6) hk hh [] [2, 5, 7, 8, 9] rfl trivial (fun a hk => ?_)
              refine hK26 a w ?_; try clear hK26 K26
              refine wp_exit ?_
              refine then_exit ?_
              refine blk_out ?_
              refine hK20 a w ?_; try clear hK20 K20
              refine reg_q tabOK hk hh [(1, .int .i64 ((i : Int) + 1))] [2, 5, 7, 8, 9] rfl ?_ (fun a hk => ?_)
              · exact ⟨ob_eq tabOK rfl (eq_i64 (by omega)), trivial⟩
              refine then_nm ?_
              exact ⟨_, _, _, ⟨i + 1, ⟨x.k, x.a, x.b, x.n, (spl 32 s).getD i []⟩, rfl, rfl, (by omega), (by omega), (fill_hit2 (j := i) inv (by omega) (by omega) (by omega) (set_s (m := ((i : Int) - 1).toNat) (by omega) c11 c12)), rfl⟩, (by simp only [id]; omega), hk.keep [2, 5, 7, 8, 9] rfl, hh⟩
          · replace c11 : ¬ ((((upL (F f0).f).getD (((i : Int) - 1).toNat) 0).toNat : Int) = 115) := (c_ef c11)
            refine wp_skip ?_
            refine hK21 a w ?_; try clear hK21 K21
            refine wp_seq_k fun K27 hK27 => ?_
            refine wp_region_lit ?_
            refine seq_q tabOK (i := 0) (stop := 4) hk hh [(2, .pointer (some ⟨b4, i, none⟩)), (3, S ((spl 32 s).getD i []))] rfl ?_ (fun a hk => ?_)
            · exact ⟨ob_indexAddr tabOK (i) rfl rfl rfl rfl (by omega) (by omega) (by show 0 + ((i : Int) : Int).toNat * 1 = i; omega), ob_load tabOK 2 rfl rfl rfl rfl (map_S_at2 (by omega)), trivial⟩
            refine seq_eff hk hh rfl rfl (eff_call Tryz.func28 rfl rfl rfl rfl (fun w hh => value_spec ((spl 32 s).getD i []) (Nat.le_trans (hlen0 _) (by omega)) σ w _ hh)) (fun v L a w hp hk hh => ?_)
            obtain ⟨hv0, hL⟩ := hp; rw [hL] at hh; clear hL
            obtain ⟨n13, hn0⟩ : ∃ n, n = valS ((spl 32 s).getD i []) := ⟨_, rfl⟩
            obtain ⟨ok14, hok0⟩ : ∃ b, b = (Lib.itoa (valS ((spl 32 s).getD i [])) == ((spl 32 s).getD i [])) := ⟨_, rfl⟩
            have hnum := valS_is ((spl 32 s).getD i [])
            rw [← hn0] at hv0 hnum hok0
            rw [← hok0] at hv0 hnum; subst hv0
            refine rest_q tabOK (i := 5) hk hh [] [2, 5, 7, 8, 9, 10, 11] rfl trivial (fun a hk => ?_)
            refine hK27 a w ?_; try clear hK27 K27
            refine wp_seq_k fun K28 hK28 => ?_
            refine wp_seq_k fun K29 hK29 => ?_
            refine reg_q tabOK hk hh [] [2, 5, 7, 8, 9, 10, 76] rfl trivial (fun a hk => ?_)
            refine hK29 a w ?_; try clear hK29 K29
            refine code_cond hk rfl (fun c15 => ?_) (fun c15 => ?_)
            · replace c15 : ¬ (ok14 = true) := (by simp [(c_it c15)])
              refine wp_seq_k fun K30 hK30 => ?_
              refine wp_region_lit ?_
              refine seq_q tabOK (i := 0) (stop := 1) hk hh [] rfl trivial (fun a hk => ?_)
              refine seq_eff hk hh rfl rfl (eff_store tabOK 1 rfl rfl rfl rfl rfl rfl rfl (by simp)) (fun v L a w hp hk hh => ?_)
              obtain ⟨rfl, hL⟩ := hp; rw [hL] at hh; clear hL
              refine rest_q tabOK (i := 2) hk hh [] [2, 3, 5, 7, 8, 9, 10] rfl trivial (fun a hk => ?_)
              refine hK30 a w ?_; try clear hK30 K30
              refine wp_ret ?_
              refine then_ret ?_
              refine blk_ret ?_
              refine then_ret ?_
              refine then_ret ?_
              refine blk_ret ?_
              refine then_ret ?_
              refine fin_ret hk (show Tryz.f16.results = ⟨[.cell 2 26, .tmp 3]⟩ from rfl) (by exact (res_cellN tabOK hk hh 0 rfl rfl rfl rfl rfl (res_tmp hk rfl .nil))) ?_
              replace hh := (hh.at_ 0 rfl).drop
              replace hh := (hh.at_ 0 rfl).drop
              replace hh := (hh.at_ 0 rfl).drop
              refine ⟨_, _, rfl, ⟨zA, false, rfl, rfl, ?_, (fun _ => rfl)⟩, hh⟩
              exact line_form hnl hf0 hw0 (by rw [hread]; exact fill_miss2 (j := i) inv (by omega) (by omega) (by omega) (set_no (m := ((i : Int) - 1).toNat) (by omega) c11 (by rw [hnum.2, if_neg c15])))
            · replace c15 : ok14 = true := (c_if c15)
              refine wp_skip ?_
              refine hK28 a w ?_; try clear hK28 K28
              refine wp_seq_k fun K31 hK31 => ?_
              refine reg_q tabOK hk hh [(2, .int .i64 ((i : Int) - 1)), (3, .int .u8 (((upL (F f0).f).getD (((i : Int) - 1).toNat) 0).toNat : Int))] [2, 5, 7, 8, 9, 10, 81] rfl ?_ (fun a hk => ?_)
              · exact ⟨ob_eq tabOK rfl (eq_i64 (by omega)), ob_index tabOK rfl rfl rfl (by omega) (getD_at (by omega)), trivial⟩
              refine hK31 a w ?_; try clear hK31 K31
              refine wp_block ?_
              refine wp_seq_k fun K32 hK32 => ?_
              refine reg_q tabOK hk hh [] [2, 5, 7, 8, 9, 10, 81, 84] rfl trivial (fun a hk => ?_)
              refine hK32 a w ?_; try clear hK32 K32
              refine code_cond hk rfl (fun c16 => ?_) (fun c16 => ?_)
              · replace c16 : (((upL (F f0).f).getD (((i : Int) - 1).toNat) 0).toNat : Int) = 65 := (c_et c16)
                refine wp_region_lit ?_
                refine seq_q tabOK (i := 0) (stop := 2) hk hh [] rfl trivial (fun a hk => ?_)
                refine seq_eff hk hh rfl rfl (eff_store tabOK 0 rfl rfl rfl rfl rfl rfl rfl (by simp)) (fun v L a w hp hk hh => ?_)
                obtain ⟨rfl, hL⟩ := hp; rw [hL] at hh; clear hL
                refine rest_q tabOK (i := 3) hk hh [] [2, 5, 7, 8, 9] rfl trivial (fun a hk => ?_)
                refine blk_nm ?_
                refine blk_nm ?_
                refine hK20 a w ?_; try clear hK20 K20
                refine reg_q tabOK hk hh [(1, .int .i64 ((i : Int) + 1))] [2, 5, 7, 8, 9] rfl ?_ (fun a hk => ?_)
                · exact ⟨ob_eq tabOK rfl (eq_i64 (by omega)), trivial⟩
                refine then_nm ?_
                exact ⟨_, _, _, ⟨i + 1, ⟨x.k, n13, x.b, x.n, x.s⟩, rfl, rfl, (by omega), (by omega), (fill_hit2 (j := i) inv (by omega) (by omega) (by omega) (set_a (m := ((i : Int) - 1).toNat) (by omega) (forms_up hf0) c11 c16 (by rw [hnum.2, if_pos c15]))), rfl⟩, (by simp only [id]; omega), hk.keep [2, 5, 7, 8, 9] rfl, hh⟩
              · replace c16 : ¬ ((((upL (F f0).f).getD (((i : Int) - 1).toNat) 0).toNat : Int) = 65) := (c_ef c16)
                refine wp_seq_k fun K33 hK33 => ?_
                refine reg_q tabOK hk hh [] [2, 5, 7, 8, 9, 10, 88] rfl trivial (fun a hk => ?_)
                refine hK33 a w ?_; try clear hK33 K33
                refine code_cond hk rfl (fun c17 => ?_) (fun c17 => ?_)
                · replace c17 : (((upL (F f0).f).getD (((i : Int) - 1).toNat) 0).toNat : Int) = 66 := (c_et c17)
                  refine wp_region_lit ?_
                  refine seq_q tabOK (i := 0) (stop := 2) hk hh [] rfl trivial (fun a hk => ?_)
                  refine seq_eff hk hh rfl rfl (eff_store tabOK 0 rfl rfl rfl rfl rfl rfl rfl (by simp)) (fun v L a w hp hk hh => ?_)
                  obtain ⟨rfl, hL⟩ := hp; rw [hL] at hh; clear hL
                  refine rest_q tabOK (i := 3) hk hh [] [2, 5, 7, 8, 9] rfl trivial (fun a hk => ?_)
                  refine blk_nm ?_
                  refine blk_nm ?_
                  refine hK20 a w ?_; try clear hK20 K20
                  refine reg_q tabOK hk hh [(1, .int .i64 ((i : Int) + 1))] [2, 5, 7, 8, 9] rfl ?_ (fun a hk => ?_)
                  · exact ⟨ob_eq tabOK rfl (eq_i64 (by omega)), trivial⟩
                  refine then_nm ?_
                  exact ⟨_, _, _, ⟨i + 1, ⟨x.k, x.a, n13, x.n, x.s⟩, rfl, rfl, (by omega), (by omega), (fill_hit2 (j := i) inv (by omega) (by omega) (by omega) (set_b (m := ((i : Int) - 1).toNat) (by omega) (forms_up hf0) c11 c16 c17 (by rw [hnum.2, if_pos c15]))), rfl⟩, (by simp only [id]; omega), hk.keep [2, 5, 7, 8, 9] rfl, hh⟩
                · replace c17 : ¬ ((((upL (F f0).f).getD (((i : Int) - 1).toNat) 0).toNat : Int) = 66) := (c_ef c17)
                  refine wp_region_lit ?_
                  refine seq_q tabOK (i := 0) (stop := 2) hk hh [] rfl trivial (fun a hk => ?_)
                  refine seq_eff hk hh rfl rfl (eff_store tabOK 0 rfl rfl rfl rfl rfl rfl rfl (by simp)) (fun v L a w hp hk hh => ?_)
                  obtain ⟨rfl, hL⟩ := hp; rw [hL] at hh; clear hL
                  refine rest_q tabOK (i := 3) hk hh [] [2, 5, 7, 8, 9] rfl trivial (fun a hk => ?_)
                  refine blk_nm ?_
                  refine blk_nm ?_
                  refine hK20 a w ?_; try clear hK20 K20
                  refine reg_q tabOK hk hh [(1, .int .i64 ((i : Int) + 1))] [2, 5, 7, 8, 9] rfl ?_ (fun a hk => ?_)
                  · exact ⟨ob_eq tabOK rfl (eq_i64 (by omega)), trivial⟩
                  refine then_nm ?_
                  exact ⟨_, _, _, ⟨i + 1, ⟨x.k, x.a, x.b, n13, x.s⟩, rfl, rfl, (by omega), (by omega), (fill_hit2 (j := i) inv (by omega) (by omega) (by omega) (set_n (m := ((i : Int) - 1).toNat) (by omega) c11 c16 c17 (by rw [hnum.2, if_pos c15]))), rfl⟩, (by simp only [id]; omega), hk.keep [2, 5, 7, 8, 9] rfl, hh⟩
        · replace c10 : ¬ ((i : Int) < ((spl 32 s).length : Int)) := (of_decide_eq_false c10)
          refine wp_exit ?_
          refine then_exit ?_
          refine then_exit ?_
          refine blk_out ?_
          refine hK16 a w ?_; try clear hK16 K16
          refine wp_seq_k fun K34 hK34 => ?_
          refine wp_region_lit ?_
          refine seq_q tabOK (i := 0) (stop := 1) hk hh [(0, .agg ⟨[.int .i64 x.k, .int .i64 x.a, .int .i64 x.b, .int .i64 x.n, S x.s]⟩)] rfl ?_ (fun a hk => ?_)
          · exact ⟨ob_loadN tabOK 0 rfl rfl rfl rfl rfl, trivial⟩
          refine seq_eff hk hh rfl rfl (eff_store tabOK 1 rfl rfl rfl rfl rfl rfl rfl (by simp)) (fun v L a w hp hk hh => ?_)
          obtain ⟨rfl, hL⟩ := hp; rw [hL] at hh; clear hL
          refine rest_q tabOK (i := 2) hk hh [] [2, 3] rfl trivial (fun a hk => ?_)
          refine hK34 a w ?_; try clear hK34 K34
          refine wp_ret ?_
          refine fin_ret hk (show Tryz.f16.results = ⟨[.cell 2 26, .tmp 3]⟩ from rfl) (by exact (res_cellN tabOK hk hh 0 rfl rfl rfl rfl rfl (res_tmp hk rfl .nil))) ?_
          replace hh := (hh.at_ 0 rfl).drop
          replace hh := (hh.at_ 0 rfl).drop
          replace hh := (hh.at_ 0 rfl).drop
          refine ⟨_, _, rfl, ⟨x, true, rfl, rfl, ?_, (fun h => by cases h)⟩, hh⟩
          exact line_form hnl hf0 hw0 (by rw [hread]; exact fill_end2 inv (by omega))

end Go.Hop
