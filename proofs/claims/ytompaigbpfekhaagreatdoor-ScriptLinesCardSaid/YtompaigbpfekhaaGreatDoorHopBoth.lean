/- What is proved here: the acts of two texts put together, in plain Lean. -/
import Derived.Test.YtompaigbpfekhaaGreatDoorHopParse
namespace Go.Hop
theorem spA_both {c : UInt8} : ∀ {l acc r : List UInt8}, spA c acc (l ++ c :: r) = spA c acc l ++ spA c [] r
  | [], acc, r => by simp [spA]
  | x :: l, acc, r => by
    rw [List.cons_append, spA, spA]
    split
    · rw [spA_both]; rfl
    · rw [spA_both]
theorem spl_both {c : UInt8} {l r : List UInt8} : spl c (l ++ [c] ++ r) = spl c l ++ spl c r := by
  rw [spl, List.append_assoc]
  exact spA_both
theorem spA_count {c : UInt8} : ∀ {l acc : List UInt8}, (spA c acc l).length = 1 + l.count c
  | [], _ => rfl
  | x :: l, acc => by
    rw [spA]
    by_cases h : x = c
    · rw [if_pos h, List.length_cons, spA_count, h, List.count_cons_self]; omega
    · rw [if_neg h, spA_count, List.count_cons_of_ne h]
theorem count_hit {l : List UInt8} {i : Nat} (h : i < l.length) (hc : ((l.getD i 0).toNat : Int) = 10) : (l.take (i + 1)).count 10 = (l.take i).count 10 + 1 := by
  have hg : l.getD i 0 = l[i] := by simp [List.getD, List.getElem?_eq_getElem h]
  have this : l.getD i 0 = 10 := byte_eq (n := 10) (by omega) hc
  rw [List.take_succ_eq_append_getElem h, List.count_append, ← hg, this]
  simp
theorem count_miss {l : List UInt8} {i : Nat} (h : i < l.length) (hc : ¬ ((l.getD i 0).toNat : Int) = 10) : (l.take (i + 1)).count 10 = (l.take i).count 10 := by
  have hg : l.getD i 0 = l[i] := by simp [List.getD, List.getElem?_eq_getElem h]
  have hne : ¬ l[i] = 10 := fun e => hc (by rw [hg, e]; rfl)
  rw [List.take_succ_eq_append_getElem h, List.count_append]
  simp [hne]
theorem count_end {l : List UInt8} {i : Nat} (h : ¬ i < l.length) : 1 + (l.take i).count 10 = (spl 10 l).length := by
  rw [List.take_of_length_le (by omega), spl, spA_count]
/-- So few lines are all seen; their numbers go on. -/
theorem parseL_move : ∀ (ls : List (List UInt8)) (n seen m : Nat), seen + ls.length ≤ 400 → m + ls.length ≤ 400 → parseL ls n seen = ((parseL ls 0 m).1, (parseL ls 0 m).2.map (· + (n : Int)))
  | [], n, seen, m, _, _ => rfl
  | x :: ls, n, seen, m, h, h' => by
    simp only [List.length_cons] at h h'
    have e : ∀ s k, s + ls.length ≤ 400 → k + ls.length ≤ 400 → parseL ls (n + 1) s = ((parseL ls (0 + 1) k).1, (parseL ls (0 + 1) k).2.map (· + (n : Int))) := by
      intro s k hs hk
      rw [parseL_move ls (n + 1) s 0 hs (by omega), parseL_move ls (0 + 1) k 0 hk (by omega)]
      simp only [List.map_map]
      congr 1
      apply List.map_congr_left
      intro y _
      simp only [Function.comp_apply]
      push_cast; omega
    rw [parseL, parseL]
    by_cases hx : x = []
    · rw [if_pos hx, if_pos hx]
      exact e seen m (by omega) (by omega)
    · rw [if_neg hx, if_neg hx, if_neg (by omega), if_neg (by omega)]
      have e2 := e (seen + 1) (m + 1) (by omega) (by omega)
      cases hl : lineO x with
      | some y => simp only [e2]
      | none =>
        simp only [e2, List.map_cons]
        congr 2
        omega
theorem parseL_app : ∀ (la lb : List (List UInt8)) (n seen : Nat), seen + la.length + lb.length ≤ 400 →
    parseL (la ++ lb) n seen = ((parseL la n seen).1 ++ (parseL lb 0 0).1, (parseL la n seen).2 ++ (parseL lb 0 0).2.map (· + ((n + la.length : Nat) : Int)))
  | [], lb, n, seen, h => by
    rw [List.nil_append, parseL_move lb n seen 0 (by simpa using h) (by simp at h; omega)]
    simp [parseL]
  | x :: la, lb, n, seen, h => by
    simp only [List.length_cons] at h
    rw [List.cons_append, parseL, parseL]
    have hn : n + 1 + la.length = n + (la.length + 1) := by omega
    by_cases hx : x = []
    · rw [if_pos hx, if_pos hx, parseL_app la lb (n + 1) seen (by omega), List.length_cons, hn]
    · rw [if_neg hx, if_neg hx, if_neg (by omega), if_neg (by omega)]
      have ih := parseL_app la lb (n + 1) (seen + 1) (by omega)
      rw [hn] at ih
      cases lineO x with
      | some y => simp only [ih, List.cons_append, List.length_cons]
      | none => simp only [ih, List.cons_append, List.length_cons]
theorem parse_both {l r : List UInt8} (h1 : l.length ≤ 60) (h2 : r.length ≤ 60) : parseO (l ++ [10] ++ r) = ((parseO l).1 ++ (parseO r).1, (parseO l).2 ++ (parseO r).2.map (· + ((spl 10 l).length : Int))) := by
  have e1 := spl_len (c := 10) (l := l)
  have e2 := spl_len (c := 10) (l := r)
  rw [parseO, spl_both, parseL_app _ _ 0 0 (by omega), Nat.zero_add]
  rfl
theorem parseL_len : ∀ (ls : List (List UInt8)) (n seen : Nat), (parseL ls n seen).1.length ≤ ls.length ∧ (parseL ls n seen).2.length ≤ ls.length ∧ ∀ y ∈ (parseL ls n seen).2, 0 ≤ y ∧ y ≤ (n + ls.length : Nat)
  | [], n, seen => by simp [parseL]
  | x :: ls, n, seen => by
    rw [parseL]
    have h1 := parseL_len ls (n + 1) seen
    have h2 := parseL_len ls (n + 1) (seen + 1)
    simp only [List.length_cons]
    split
    · exact ⟨by omega, by omega, fun y hy => by have := h1.2.2 y hy; omega⟩
    · split
      · simp
      · split
        · simp only [List.length_cons]
          exact ⟨by omega, by omega, fun y hy => by have := h2.2.2 y hy; omega⟩
        · simp only [List.length_cons]
          refine ⟨by omega, by omega, fun y hy => ?_⟩
          rcases List.mem_cons.1 hy with rfl | hy
          · omega
          · have := h2.2.2 y hy; omega
theorem parse_len {l : List UInt8} : (parseO l).1.length ≤ l.length + 1 ∧ (parseO l).2.length ≤ l.length + 1 ∧ ∀ y ∈ (parseO l).2, 0 ≤ y ∧ y ≤ (l.length + 1 : Nat) := by
  have h := parseL_len (spl 10 l) 0 0
  have e := spl_len (c := 10) (l := l)
  refine ⟨Nat.le_trans h.1 e, Nat.le_trans h.2.1 e, fun y hy => ?_⟩
  have := h.2.2 y hy
  omega
theorem getD_range {B : List Int} {m : Nat} (h : ∀ y ∈ B, 0 ≤ y ∧ y ≤ (m : Nat)) (j : Nat) : 0 ≤ B.getD j 0 ∧ B.getD j 0 ≤ m := by
  rcases Nat.lt_or_ge j B.length with hj | hj
  · have hm : B.getD j 0 ∈ B := by simp [List.getD, List.getElem?_eq_getElem hj]
    exact h _ hm
  · simp [List.getD, List.getElem?_eq_none hj]
theorem app_left {α : Type} {A B : List α} {d : α} {i : Nat} (h : i < A.length) : (A ++ B).getD i d = A.getD i d := by
  simp [List.getD, List.getElem?_append_left h]
theorem app_right {α : Type} {A B : List α} {d : α} {i j : Nat} (h : A.length ≤ i) (hj : j = i - A.length) : (A ++ B).getD i d = B.getD j d := by
  subst hj
  simp [List.getD, List.getElem?_append_right h]
theorem map_add {B : List Int} {n : Int} {j : Nat} (h : j < B.length) : (B.map (· + n)).getD j 0 = B.getD j 0 + n := by
  simp [List.getD, List.getElem?_eq_getElem h]
theorem line_same {o : Option ActL} {x y : ActL} {p q : Bool} (h : o = if p = true then some x else none) (hz : p = false → x = zA) (k : o = if q = true then some y else none) (kz : q = false → y = zA) : p = q ∧ x = y := by
  cases p <;> cases q <;> simp_all
/-! the document's own way to write an act -/
theorem form_at {i : Nat} (hi : i < 13) {k : Int} {lk : List UInt8} (h : FormIs (F i).w k lk) : k = (F i).k ∧ lk = upL (F i).f := by
  rcases h with ⟨j, hj, hw, rfl, rfl⟩ | ⟨_, _, hno⟩
  · have := forms_inj hj hi hw
    subst this; exact ⟨rfl, rfl⟩
  · exact absurd rfl (hno i hi)
def tailT (x : ActL) (l : List UInt8) : List UInt8 := l.flatMap fun c => 32 :: fldT x c
theorem inter_tail {w : List UInt8} : ∀ {ws : List (List UInt8)}, [32].intercalate (w :: ws) = w ++ ws.flatMap fun y => 32 :: y
  | [] => by simp [List.intercalate]
  | y :: ws => by
    have e : [32].intercalate (w :: y :: ws) = w ++ ([32] ++ [32].intercalate (y :: ws)) := by simp [List.intercalate, List.intersperse]
    rw [e, inter_tail (w := y)]
    simp
theorem show_tail {w f : List UInt8} {x : ActL} : showT w f x = w ++ tailT x f := by
  rw [showT, wordsT, inter_tail, tailT, List.flatMap_map]
theorem tail_step {x : ActL} {w f t s : List UInt8} {j : Nat} (inv : s = w ++ tailT x (f.take j)) (h : j < f.length) (ht : fldT x (f.getD j 0) = t) : s ++ ([32] ++ t) = w ++ tailT x (f.take (j + 1)) := by
  have hg : f.getD j 0 = f[j] := by simp [List.getD, List.getElem?_eq_getElem h]
  rw [List.take_succ_eq_append_getElem h, inv, ← ht, hg]
  simp only [tailT, List.flatMap_append, List.flatMap_cons, List.flatMap_nil, List.append_assoc, List.append_nil, List.singleton_append]
theorem tail_end {x : ActL} {w f s : List UInt8} {j : Nat} (inv : s = w ++ tailT x (f.take j)) (h : ¬ j < f.length) : s = showT w f x := by
  rw [show_tail, inv, List.take_of_length_le (by omega)]
theorem tail_len {x : ActL} (hx : ActOK x) : ∀ {l : List UInt8}, (tailT x l).length ≤ l.length * 900000001
  | [] => by simp [tailT]
  | c :: l => by
    have := fld_len hx c
    have ih := tail_len hx (l := l)
    simp only [tailT, List.flatMap_cons, List.length_append, List.length_cons] at ih ⊢
    omega
end Go.Hop
