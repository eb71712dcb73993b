/- What is proved here: acts as lines, lines as acts, in plain Lean. -/
import Derived.Test.YtompaigbpfekhaaGreatDoorHopNum
namespace Go.Hop

/-- An act. -/
structure ActL where
  k : Int
  a : Int
  b : Int
  n : Int
  s : List UInt8
instance : DecidableEq ActL := fun x y =>
  if h : x.k = y.k ∧ x.a = y.a ∧ x.b = y.b ∧ x.n = y.n ∧ x.s = y.s then .isTrue (by
    cases x; cases y; simp only at h; obtain ⟨rfl, rfl, rfl, rfl, rfl⟩ := h; rfl)
  else .isFalse (fun e => h (by subst e; exact ⟨rfl, rfl, rfl, rfl, rfl⟩))
abbrev ActL.cs (x : ActL) : List Value := [.int .i64 x.k, .int .i64 x.a, .int .i64 x.b, .int .i64 x.n, S x.s]
def zA : ActL := ⟨0, 0, 0, 0, []⟩
/-- How an act is written. -/
structure Frm where
  w : List UInt8
  k : Int
  f : List UInt8
abbrev Frm.cs (x : Frm) : List Value := [S x.w, .int .i64 x.k, S x.f]
def zF : Frm := ⟨[], 0, []⟩
def formsL : List Frm := [⟨[116, 105, 99, 107], 1, [97, 110]⟩, ⟨[100, 101, 108, 105, 118, 101, 114], 2, [110]⟩, ⟨[100, 114, 111, 112], 3, [110]⟩, ⟨[116, 119, 105, 99, 101], 4, [110]⟩, ⟨[99, 117, 116], 5, [97, 98]⟩,
  ⟨[104, 101, 97, 108], 6, [97, 98]⟩, ⟨[99, 114, 97, 115, 104], 7, [97, 110]⟩, ⟨[108, 101, 97, 100], 8, [97]⟩, ⟨[105, 110, 103, 101, 115, 116], 9, [97, 115, 110]⟩, ⟨[98, 97, 116, 99, 104], 10, [97]⟩,
  ⟨[115, 121, 110, 99], 11, [97]⟩, ⟨[115, 104, 97, 114, 100, 115], 12, [97, 110]⟩, ⟨[108, 111, 111, 107], 13, [97, 115]⟩]
def formsC : List Value := formsL.flatMap Frm.cs
def F (i : Nat) : Frm := formsL.getD i zF
theorem forms_at {i : Nat} (h : i < 13) : cut formsC (i * 3) 3 = some (F i).cs := by
  rcases i with _ | _ | _ | _ | _ | _ | _ | _ | _ | _ | _ | _ | _ | i
  all_goals first | rfl | (exfalso; omega)
theorem forms_ascii {i : Nat} (h : i < 13) : ∀ c ∈ (F i).f, c.toNat < 128 := by
  rcases i with _ | _ | _ | _ | _ | _ | _ | _ | _ | _ | _ | _ | _ | i
  all_goals first | (exfalso; omega) | (simp only [F, formsL]; decide)
theorem forms_len {i : Nat} (h : i < 13) : (F i).f.length ≤ 3 ∧ (F i).w.length ≤ 10 := by
  rcases i with _ | _ | _ | _ | _ | _ | _ | _ | _ | _ | _ | _ | _ | i
  all_goals first | (exfalso; omega) | (simp only [F, formsL]; decide)

/-- A word, put into a field. -/
def setF (x : ActL) (c : Int) (w : List UInt8) : Option ActL :=
  if c = 115 then (if w = [] then none else some { x with s := w }) else
  match numO w with
  | none => none
  | some n => some (if c = 97 then { x with a := n } else if c = 98 then { x with b := n } else { x with n := n })
def fillF : ActL → List UInt8 → List (List UInt8) → Option ActL
  | x, [], _ => some x
  | x, c :: cs, w :: ws => match setF x (c.toNat : Int) w with
    | some y => fillF y cs ws
    | none => none
  | _, _ :: _, [] => none
def readF (f : Frm) (l : List (List UInt8)) : Option ActL :=
  if l.getD 0 [] = f.w ∧ l.length = 1 + f.f.length then fillF ⟨f.k, 0, 0, 0, []⟩ f.f (l.drop 1) else none
def lineO (s : List UInt8) : Option ActL := if 10 ∈ s then none else formsL.findSome? fun f => readF f (spl 32 s)

theorem drop_getD {α : Type} {l : List α} {d : α} {i : Nat} (h : i < l.length) : l.drop i = l.getD i d :: l.drop (i + 1) := by
  rw [List.drop_eq_getElem_cons h]
  simp [List.getD, List.getElem?_eq_getElem h]
theorem getD_ascii {l : List UInt8} (h : ∀ c ∈ l, c.toNat < 128) (k : Nat) : (l.getD k 0).toNat < 128 := by
  rcases Nat.lt_or_ge k l.length with hk | hk
  · apply h
    simp [List.getD, List.getElem?_eq_getElem hk]
  · simp [List.getD, List.getElem?_eq_none hk]
theorem spl_pos {c : UInt8} {s : List UInt8} : 1 ≤ (spl c s).length := by
  rcases h : spl c s with _ | ⟨a, b⟩
  · exact absurd h spA_ne
  · simp
theorem spA_word {c : UInt8} : ∀ {l acc : List UInt8}, ∀ x ∈ spA c acc l, x.length ≤ acc.length + l.length
  | [], acc, x, h => by
    rw [spA, List.mem_singleton] at h
    subst h; simp
  | y :: l, acc, x, h => by
    rw [spA] at h
    split at h
    · rcases List.mem_cons.1 h with rfl | h
      · simp
      · have := spA_word x h
        simp at this ⊢; omega
    · have := spA_word x h
      simp at this ⊢; omega
theorem spl_word {c : UInt8} {s : List UInt8} {i : Nat} : ((spl c s).getD i []).length ≤ s.length := by
  rcases Nat.lt_or_ge i (spl c s).length with hk | hk
  · have hm : (spl c s).getD i [] ∈ spl c s := by simp [List.getD, List.getElem?_eq_getElem hk]
    have := spA_word (acc := []) _ hm
    simpa using this
  · simp [List.getD, List.getElem?_eq_none hk]
theorem fill_hit {x y : ActL} {f : List UInt8} {l : List (List UInt8)} {i j : Nat} {o : Option ActL} (inv : fillF x (f.drop i) (l.drop (1 + i)) = o) (hi : i < f.length) (hl : l.length = 1 + f.length) (hj : j = 1 + i)
    (h : setF x ((f.getD i 0).toNat : Int) (l.getD j []) = some y) : fillF y (f.drop (i + 1)) (l.drop (1 + (i + 1))) = o := by
  subst hj
  rw [drop_getD (d := 0) hi, drop_getD (d := []) (l := l) (by omega)] at inv
  simp only [fillF, h] at inv
  exact inv
theorem fill_miss {x : ActL} {f : List UInt8} {l : List (List UInt8)} {i j : Nat} {o : Option ActL} (inv : fillF x (f.drop i) (l.drop (1 + i)) = o) (hi : i < f.length) (hl : l.length = 1 + f.length) (hj : j = 1 + i)
    (h : setF x ((f.getD i 0).toNat : Int) (l.getD j []) = none) : o = none := by
  subst hj
  rw [drop_getD (d := 0) hi, drop_getD (d := []) (l := l) (by omega)] at inv
  simp only [fillF, h] at inv
  exact inv.symm
theorem fill_end {x : ActL} {f : List UInt8} {l : List (List UInt8)} {i : Nat} {o : Option ActL} (inv : fillF x (f.drop i) (l.drop (1 + i)) = o) (hi : ¬ i < f.length) : o = some x := by
  rw [List.drop_of_length_le (by omega)] at inv
  exact inv.symm
theorem find_hit {l : List (List UInt8)} : ∀ {fs : List Frm} {i : Nat} {x : ActL}, (∀ j, j < i → readF (fs.getD j zF) l = none) → i < fs.length → readF (fs.getD i zF) l = some x → fs.findSome? (fun f => readF f l) = some x
  | [], i, x, _, h, _ => by cases h
  | f :: fs, 0, x, _, _, h => by
    have : readF f l = some x := h
    simp [List.findSome?_cons, this]
  | f :: fs, i + 1, x, hb, hi, h => by
    have h0 : readF f l = none := hb 0 (by omega)
    simp only [List.findSome?_cons, h0]
    exact find_hit (fs := fs) (i := i) (fun j hj => hb (j + 1) (by omega)) (by simpa using hi) h
theorem find_none {l : List (List UInt8)} : ∀ {fs : List Frm}, (∀ j, j < fs.length → readF (fs.getD j zF) l = none) → fs.findSome? (fun f => readF f l) = none
  | [], _ => rfl
  | f :: fs, hb => by
    have h0 : readF f l = none := hb 0 (by simp)
    simp only [List.findSome?_cons, h0]
    exact find_none (fs := fs) fun j hj => hb (j + 1) (by simpa using hj)
theorem line_bad {s : List UInt8} (h : 10 ∈ s) : lineO s = none := by rw [lineO, if_pos h]
theorem line_hit {s : List UInt8} {i : Nat} {x : ActL} (h : ¬ 10 ∈ s) (hb : ∀ j, j < i → readF (F j) (spl 32 s) = none) (hi : i < 13) (hx : readF (F i) (spl 32 s) = some x) : lineO s = some x := by
  rw [lineO, if_neg h]; exact find_hit hb hi hx
theorem line_none {s : List UInt8} (h : ¬ 10 ∈ s) (hb : ∀ j, j < 13 → readF (F j) (spl 32 s) = none) : lineO s = none := by
  rw [lineO, if_neg h]; exact find_none hb

theorem fill_hit2 {x y : ActL} {f : List UInt8} {l : List (List UInt8)} {i m j : Nat} {o : Option ActL} (inv : fillF x (f.drop (i - 1)) (l.drop i) = o) (hi : 1 ≤ i ∧ i < l.length) (hl : l.length = 1 + f.length) (hj : m = i - 1 ∧ j = i)
    (h : setF x ((f.getD m 0).toNat : Int) (l.getD j []) = some y) : fillF y (f.drop (i + 1 - 1)) (l.drop (i + 1)) = o := by
  obtain ⟨rfl, rfl⟩ := hj
  obtain ⟨n, rfl⟩ : ∃ n, j = n + 1 := ⟨j - 1, by omega⟩
  simp only [Nat.add_sub_cancel] at inv h ⊢
  rw [drop_getD (d := 0) (l := f) (by omega), drop_getD (d := []) (l := l) hi.2] at inv
  simp only [fillF, h] at inv
  exact inv
theorem fill_miss2 {x : ActL} {f : List UInt8} {l : List (List UInt8)} {i m j : Nat} {o : Option ActL} (inv : fillF x (f.drop (i - 1)) (l.drop i) = o) (hi : 1 ≤ i ∧ i < l.length) (hl : l.length = 1 + f.length) (hj : m = i - 1 ∧ j = i)
    (h : setF x ((f.getD m 0).toNat : Int) (l.getD j []) = none) : o = none := by
  obtain ⟨rfl, rfl⟩ := hj
  obtain ⟨n, rfl⟩ : ∃ n, j = n + 1 := ⟨j - 1, by omega⟩
  simp only [Nat.add_sub_cancel] at inv h
  rw [drop_getD (d := 0) (l := f) (by omega), drop_getD (d := []) (l := l) hi.2] at inv
  simp only [fillF, h] at inv
  exact inv.symm
theorem fill_end2 {x : ActL} {f : List UInt8} {l : List (List UInt8)} {i : Nat} {o : Option ActL} (inv : fillF x (f.drop (i - 1)) (l.drop i) = o) (hi : f.length ≤ i - 1) : o = some x := by
  rw [List.drop_of_length_le hi] at inv
  exact inv.symm
/-! the document's own -/
theorem byte_eq {c : UInt8} {n : Nat} (hn : n < 256) (h : ((c.toNat : Nat) : Int) = n) : c = UInt8.ofNat n := by
  apply UInt8.toNat.inj
  rw [UInt8.toNat_ofNat']
  omega
theorem words_hit {s : List UInt8} {i p : Nat} {O : List (List UInt8)} {r : List (List UInt8)} (inv : O ++ spA 32 ((s.take i).drop p) (s.drop i) = r) (h : i < s.length) (hc : ((s.getD i 0).toNat : Int) = 32) :
    (O ++ [(s.take i).drop p]) ++ spA 32 ((s.take (i + 1)).drop (i + 1)) (s.drop (i + 1)) = r := by
  have h32 : s.getD i 0 = 32 := byte_eq (n := 32) (by omega) hc
  rw [drop_getD (d := 0) h, spA, if_pos h32] at inv
  rw [← inv, List.append_assoc]
  have : (s.take (i + 1)).drop (i + 1) = [] := by simp
  rw [this]; rfl
theorem words_miss {s : List UInt8} {i p : Nat} {O : List (List UInt8)} {r : List (List UInt8)} (inv : O ++ spA 32 ((s.take i).drop p) (s.drop i) = r) (h : i < s.length) (hp : p ≤ i) (hc : ¬ ((s.getD i 0).toNat : Int) = 32) :
    O ++ spA 32 ((s.take (i + 1)).drop p) (s.drop (i + 1)) = r := by
  have h32 : ¬ s.getD i 0 = 32 := fun e => hc (by rw [e]; rfl)
  rw [drop_getD (d := 0) h, spA, if_neg h32] at inv
  rw [← inv]
  congr 2
  have hg : s.getD i 0 = s[i] := by simp [List.getD, List.getElem?_eq_getElem h]
  rw [List.take_succ_eq_append_getElem h, List.drop_append_of_le_length (by simp; omega), hg]
theorem words_end {s : List UInt8} {i p : Nat} {O : List (List UInt8)} {r : List (List UInt8)} (inv : O ++ spA 32 ((s.take i).drop p) (s.drop i) = r) (h : ¬ i < s.length) : O ++ [s.drop p] = r := by
  rw [List.drop_of_length_le (l := s) (i := i) (by omega), List.take_of_length_le (by omega)] at inv
  exact inv
theorem len_snoc {α : Type} {O : List α} {x : α} : O.length + 1 = (O ++ [x]).length := by simp
theorem map_snoc {α β : Type} {f : α → β} {O : List α} {x : α} : O.map f ++ [f x] = (O ++ [x]).map f := by simp
theorem map_S_at2 {l : List (List UInt8)} {sp : List Value} {i : Nat} (h : i < l.length) : (l.map S ++ sp)[i]? = some (S (l.getD i [])) := by
  rw [List.getElem?_append_left (by simpa using h)]
  exact map_S_at h
def up (c : UInt8) : UInt8 := if c = 97 then 65 else if c = 98 then 66 else c
def upL (l : List UInt8) : List UInt8 := l.map up
theorem names_at {i : Nat} (h : i < 13) : (formsL.map fun f => S f.w)[i]? = some (S (F i).w) := by
  rw [List.getElem?_map, F, List.getD, List.getElem?_eq_getElem (show i < formsL.length from h)]; rfl
theorem kinds_at {i : Nat} (h : i < 13) : (formsL.map fun f => Value.int .i64 f.k)[i]? = some (.int .i64 (F i).k) := by
  rw [List.getElem?_map, F, List.getD, List.getElem?_eq_getElem (show i < formsL.length from h)]; rfl
theorem likes_at {i : Nat} (h : i < 13) : (formsL.map fun f => S (upL f.f))[i]? = some (S (upL (F i).f)) := by
  rw [List.getElem?_map, F, List.getD, List.getElem?_eq_getElem (show i < formsL.length from h)]; rfl
/-- What the document's table tells of a word. -/
def FormIs (w : List UInt8) (k : Int) (lk : List UInt8) : Prop :=
  (∃ i, i < 13 ∧ (F i).w = w ∧ k = (F i).k ∧ lk = upL (F i).f) ∨ (k = 0 ∧ lk = [] ∧ ∀ i, i < 13 → (F i).w ≠ w)
theorem forms_k {i : Nat} (h : i < 13) : 1 ≤ (F i).k ∧ (F i).k ≤ 13 := by
  rcases i with _ | _ | _ | _ | _ | _ | _ | _ | _ | _ | _ | _ | _ | i
  all_goals first | (exfalso; omega) | (simp only [F, formsL]; decide)
theorem forms_up {i : Nat} (h : i < 13) : ∀ c ∈ (F i).f, c ≠ 65 ∧ c ≠ 66 := by
  rcases i with _ | _ | _ | _ | _ | _ | _ | _ | _ | _ | _ | _ | _ | i
  all_goals first | (exfalso; omega) | (simp only [F, formsL]; decide)
theorem forms_inj {i j : Nat} (hi : i < 13) (hj : j < 13) (h : (F i).w = (F j).w) : i = j := by
  revert h
  have : ∀ i j : Fin 13, (F i.val).w = (F j.val).w → i.val = j.val := by decide
  exact this ⟨i, hi⟩ ⟨j, hj⟩
theorem upL_at {f : List UInt8} {m : Nat} (h : m < f.length) : (upL f).getD m 0 = up (f.getD m 0) := by
  simp [upL, List.getD, List.getElem?_eq_getElem h]
theorem upL_len {f : List UInt8} : (upL f).length = f.length := by simp [upL]
section
variable {x : ActL} {f : List UInt8} {w : List UInt8} {m : Nat}
theorem memD (hm : m < f.length) : f.getD m 0 ∈ f := by simp [List.getD, List.getElem?_eq_getElem hm]
theorem up_s (hm : m < f.length) (h : (((upL f).getD m 0).toNat : Int) = 115) : ((f.getD m 0).toNat : Int) = 115 := by
  have := byte_eq (n := 115) (by omega) h
  rw [upL_at hm, up] at this
  split at this
  · cases this
  · split at this
    · cases this
    · rw [this]; rfl
theorem up_s_not (hm : m < f.length) (h : ¬ (((upL f).getD m 0).toNat : Int) = 115) : ¬ ((f.getD m 0).toNat : Int) = 115 := by
  intro e
  have := byte_eq (n := 115) (by omega) e
  apply h
  rw [upL_at hm, this]; rfl
theorem up_a (hm : m < f.length) (hu : ∀ c ∈ f, c ≠ 65 ∧ c ≠ 66) (h : (((upL f).getD m 0).toNat : Int) = 65) : ((f.getD m 0).toNat : Int) = 97 := by
  have := byte_eq (n := 65) (by omega) h
  rw [upL_at hm, up] at this
  split at this
  · rename_i e; rw [e]; rfl
  · split at this
    · cases this
    · exact absurd this (hu _ (memD hm)).1
theorem up_b (hm : m < f.length) (hu : ∀ c ∈ f, c ≠ 65 ∧ c ≠ 66) (h : (((upL f).getD m 0).toNat : Int) = 66) : ((f.getD m 0).toNat : Int) = 98 := by
  have := byte_eq (n := 66) (by omega) h
  rw [upL_at hm, up] at this
  split at this
  · cases this
  · split at this
    · rename_i e; rw [e]; rfl
    · exact absurd this (hu _ (memD hm)).2
theorem up_a_not (hm : m < f.length) (h : ¬ (((upL f).getD m 0).toNat : Int) = 65) : ¬ ((f.getD m 0).toNat : Int) = 97 := by
  intro e
  have := byte_eq (n := 97) (by omega) e
  apply h
  rw [upL_at hm, this]; rfl
theorem up_b_not (hm : m < f.length) (h : ¬ (((upL f).getD m 0).toNat : Int) = 66) : ¬ ((f.getD m 0).toNat : Int) = 98 := by
  intro e
  have := byte_eq (n := 98) (by omega) e
  apply h
  rw [upL_at hm, this]; rfl
theorem set_s (hm : m < f.length) (h : (((upL f).getD m 0).toNat : Int) = 115) (hw : ¬ w = []) : setF x ((f.getD m 0).toNat : Int) w = some { x with s := w } := by
  rw [setF, if_pos (up_s hm h), if_neg hw]
theorem set_s0 (hm : m < f.length) (h : (((upL f).getD m 0).toNat : Int) = 115) (hw : w = []) : setF x ((f.getD m 0).toNat : Int) w = none := by
  rw [setF, if_pos (up_s hm h), if_pos hw]
theorem set_no (hm : m < f.length) (h : ¬ (((upL f).getD m 0).toNat : Int) = 115) (hw : numO w = none) : setF x ((f.getD m 0).toNat : Int) w = none := by
  rw [setF, if_neg (up_s_not hm h), hw]
theorem set_n {n : Int} (hm : m < f.length) (h : ¬ (((upL f).getD m 0).toNat : Int) = 115) (h1 : ¬ (((upL f).getD m 0).toNat : Int) = 65) (h2 : ¬ (((upL f).getD m 0).toNat : Int) = 66) (hw : numO w = some n) : setF x ((f.getD m 0).toNat : Int) w = some { x with n := n } := by
  rw [setF, if_neg (up_s_not hm h), hw]
  simp only
  rw [if_neg (up_a_not hm h1), if_neg (up_b_not hm h2)]
theorem set_a {n : Int} (hm : m < f.length) (hu : ∀ c ∈ f, c ≠ 65 ∧ c ≠ 66) (h : ¬ (((upL f).getD m 0).toNat : Int) = 115) (h1 : (((upL f).getD m 0).toNat : Int) = 65) (hw : numO w = some n) : setF x ((f.getD m 0).toNat : Int) w = some { x with a := n } := by
  rw [setF, if_neg (up_s_not hm h), hw]
  simp only
  rw [if_pos (up_a hm hu h1)]
theorem set_b {n : Int} (hm : m < f.length) (hu : ∀ c ∈ f, c ≠ 65 ∧ c ≠ 66) (h : ¬ (((upL f).getD m 0).toNat : Int) = 115) (h1 : ¬ (((upL f).getD m 0).toNat : Int) = 65) (h2 : (((upL f).getD m 0).toNat : Int) = 66) (hw : numO w = some n) : setF x ((f.getD m 0).toNat : Int) w = some { x with b := n } := by
  rw [setF, if_neg (up_s_not hm h), hw]
  simp only
  rw [if_neg (up_a_not hm h1), if_pos (up_b hm hu h2)]
end
theorem mem_nl {s : List UInt8} {i : Nat} (h : i < s.length) (hc : ((s.getD i 0).toNat : Int) = 10) : 10 ∈ s := by
  have := byte_eq (n := 10) (by omega) hc
  have hm : s.getD i 0 ∈ s := by simp [List.getD, List.getElem?_eq_getElem h]
  rw [this] at hm; exact hm
theorem nl_step {s : List UInt8} {i : Nat} (inv : 10 ∉ s.take i) (h : i < s.length) (hc : ¬ ((s.getD i 0).toNat : Int) = 10) : 10 ∉ s.take (i + 1) := by
  rw [List.take_succ_eq_append_getElem h, List.mem_append, List.mem_singleton]
  rintro (hh | hh)
  · exact inv hh
  · apply hc
    have hg : s.getD i 0 = s[i] := by simp [List.getD, List.getElem?_eq_getElem h]
    rw [hg, ← hh]; rfl
theorem nl_end {s : List UInt8} {i : Nat} (inv : 10 ∉ s.take i) (h : ¬ i < s.length) : ¬ 10 ∈ s := by
  rw [List.take_of_length_le (by omega)] at inv; exact inv
theorem FormIs.len {w lk : List UInt8} {k : Int} (h : FormIs w k lk) : lk.length ≤ 3 := by
  rcases h with ⟨i, hi, _, _, rfl⟩ | ⟨_, rfl, _⟩
  · rw [upL_len]; exact (forms_len hi).1
  · simp
/-- No form has this word. -/
theorem line_noform {s : List UInt8} (h : ¬ 10 ∈ s) (hf : ∀ i, i < 13 → (F i).w ≠ (spl 32 s).getD 0 []) : lineO s = none :=
  line_none h fun j hj => by rw [readF, if_neg (fun e => hf j hj e.1.symm)]
theorem line_form {s : List UInt8} {i : Nat} {o : Option ActL} (h : ¬ 10 ∈ s) (hi : i < 13) (hw : (F i).w = (spl 32 s).getD 0 []) (ho : readF (F i) (spl 32 s) = o) : lineO s = o := by
  have hb : ∀ j, j < 13 → j ≠ i → readF (F j) (spl 32 s) = none := fun j hj hne => by
    rw [readF, if_neg (fun e => hne (forms_inj hj hi (by rw [hw, e.1])))]
  cases o with
  | some x => exact line_hit h (fun j hj => hb j (by omega) (by omega)) hi ho
  | none =>
    refine line_none h fun j hj => ?_
    by_cases e : j = i
    · rw [e]; exact ho
    · exact hb j hj e
theorem readF_len {f : Frm} {l : List (List UInt8)} (h : ¬ l.length = 1 + f.f.length) : readF f l = none := by rw [readF, if_neg (fun e => h e.2)]
theorem readF_fill {f : Frm} {l : List (List UInt8)} (hw : f.w = l.getD 0 []) (h : l.length = 1 + f.f.length) : readF f l = fillF ⟨f.k, 0, 0, 0, []⟩ f.f (l.drop 1) := by rw [readF, if_pos ⟨hw.symm, h⟩]

/-! acts as lines -/
def fldT (x : ActL) (c : UInt8) : List UInt8 := if c = 97 then Lib.itoa x.a else if c = 98 then Lib.itoa x.b else if c = 115 then x.s else Lib.itoa x.n
def wordsT (fw ff : List UInt8) (x : ActL) : List (List UInt8) := fw :: ff.map (fldT x)
def showT (fw ff : List UInt8) (x : ActL) : List UInt8 := [32].intercalate (wordsT fw ff x)
/-- The line that is the act, or nothing. -/
def textO (x : ActL) : List UInt8 := (formsL.findSome? fun f => if f.k = x.k ∧ lineO (showT f.w f.f x) = some x then some (showT f.w f.f x) else none).getD []
theorem fld_a {x : ActL} {c : UInt8} (h : (c.toNat : Int) = 97) : fldT x c = Lib.itoa x.a := by
  have this : c = 97 := byte_eq (n := 97) (by omega) h
  rw [fldT, if_pos this]
theorem not_b {c : UInt8} {n : Nat} (h : ¬ (c.toNat : Int) = n) (d : UInt8) (hd : d.toNat = n) : ¬ c = d := fun e => h (by rw [e, hd])
theorem fld_b {x : ActL} {c : UInt8} (h1 : ¬ (c.toNat : Int) = 97) (h : (c.toNat : Int) = 98) : fldT x c = Lib.itoa x.b := by
  have this : c = 98 := byte_eq (n := 98) (by omega) h
  rw [fldT, if_neg (not_b h1 97 rfl), if_pos this]
theorem fld_s {x : ActL} {c : UInt8} (h1 : ¬ (c.toNat : Int) = 97) (h2 : ¬ (c.toNat : Int) = 98) (h : (c.toNat : Int) = 115) : fldT x c = x.s := by
  have this : c = 115 := byte_eq (n := 115) (by omega) h
  rw [fldT, if_neg (not_b h1 97 rfl), if_neg (not_b h2 98 rfl), if_pos this]
theorem fld_n {x : ActL} {c : UInt8} (h1 : ¬ (c.toNat : Int) = 97) (h2 : ¬ (c.toNat : Int) = 98) (h : ¬ (c.toNat : Int) = 115) : fldT x c = Lib.itoa x.n := by
  rw [fldT, if_neg (not_b h1 97 rfl), if_neg (not_b h2 98 rfl), if_neg (not_b h 115 rfl)]
theorem words_step {x : ActL} {fw ff t : List UInt8} {i : Nat} {O : List (List UInt8)} (inv : O = fw :: (ff.take i).map (fldT x)) (h : i < ff.length) (ht : fldT x (ff.getD i 0) = t) : O ++ [t] = fw :: (ff.take (i + 1)).map (fldT x) := by
  have hg : ff.getD i 0 = ff[i] := by simp [List.getD, List.getElem?_eq_getElem h]
  rw [List.take_succ_eq_append_getElem h, List.map_append, inv, ← ht, hg]
  rfl
theorem words_fin {x : ActL} {fw ff : List UInt8} {i : Nat} {O : List (List UInt8)} (inv : O = fw :: (ff.take i).map (fldT x)) (h : ¬ i < ff.length) : O = wordsT fw ff x := by
  rw [inv, List.take_of_length_le (by omega)]; rfl
theorem inter_len {c : UInt8} {m : Nat} : ∀ {l : List (List UInt8)}, (∀ x ∈ l, x.length ≤ m) → ([c].intercalate l).length ≤ l.length * (m + 1)
  | [], _ => by simp [List.intercalate]
  | [x], h => by
    have := h x (List.mem_cons_self ..)
    simp [List.intercalate]; omega
  | x :: y :: l, h => by
    have h1 := h x (List.mem_cons_self ..)
    have ih := inter_len (c := c) (l := y :: l) fun z hz => h z (List.mem_cons_of_mem _ hz)
    have e : [c].intercalate (x :: y :: l) = x ++ ([c] ++ [c].intercalate (y :: l)) := by simp [List.intercalate, List.intersperse]
    rw [e, List.length_append, List.length_append]
    simp only [List.length_cons, List.length_nil] at ih ⊢
    rw [Nat.succ_mul]
    omega
/-- What can be written. -/
structure ActOK (x : ActL) : Prop where
  a : I64 x.a
  b : I64 x.b
  n : I64 x.n
  s : x.s.length ≤ 900000000
theorem fld_len {x : ActL} (h : ActOK x) (c : UInt8) : (fldT x c).length ≤ 900000000 := by
  unfold fldT
  split
  · exact Nat.le_trans (itoa_len h.a) (by omega)
  · split
    · exact Nat.le_trans (itoa_len h.b) (by omega)
    · split
      · exact h.s
      · exact Nat.le_trans (itoa_len h.n) (by omega)
theorem show_len {x : ActL} {fw ff : List UInt8} (h : ActOK x) (hf : ff.length ≤ 3) (hw : fw.length ≤ 10) : (showT fw ff x).length ≤ 3700000000 := by
  have := inter_len (c := 32) (m := 900000000) (l := wordsT fw ff x) (by
    intro y hy
    rcases List.mem_cons.1 hy with rfl | hy
    · omega
    · obtain ⟨c, _, rfl⟩ := List.mem_map.1 hy
      exact fld_len h c)
  have hl : (wordsT fw ff x).length ≤ 4 := by simp [wordsT]; omega
  have := Nat.le_trans this (Nat.mul_le_mul_right 900000001 hl)
  exact Nat.le_trans this (by decide)
theorem text_hit {x : ActL} {i : Nat} (hb : ∀ j, j < i → ¬ ((F j).k = x.k ∧ lineO (showT (F j).w (F j).f x) = some x)) (hi : i < 13) (hk : (F i).k = x.k) (hl : lineO (showT (F i).w (F i).f x) = some x) : textO x = showT (F i).w (F i).f x := by
  have key : ∀ {fs : List Frm} {i : Nat}, (∀ j, j < i → ¬ ((fs.getD j zF).k = x.k ∧ lineO (showT (fs.getD j zF).w (fs.getD j zF).f x) = some x)) → i < fs.length → ((fs.getD i zF).k = x.k ∧ lineO (showT (fs.getD i zF).w (fs.getD i zF).f x) = some x) →
      fs.findSome? (fun f => if f.k = x.k ∧ lineO (showT f.w f.f x) = some x then some (showT f.w f.f x) else none) = some (showT (fs.getD i zF).w (fs.getD i zF).f x) := by
    intro fs
    induction fs with
    | nil => intro i _ h _; cases h
    | cons f fs ih =>
      intro i hb hi hx
      cases i with
      | zero =>
        have h1 : f.k = x.k ∧ lineO (showT f.w f.f x) = some x := hx
        simp only [List.findSome?_cons]
        rw [if_pos h1]; rfl
      | succ i =>
        have h0 : ¬ (f.k = x.k ∧ lineO (showT f.w f.f x) = some x) := hb 0 (by omega)
        simp only [List.findSome?_cons]
        rw [if_neg h0]
        exact ih (i := i) (fun j hj => hb (j + 1) (by omega)) (by simpa using hi) hx
  rw [textO, key (fs := formsL) (i := i) hb hi ⟨hk, hl⟩]; rfl
theorem text_none {x : ActL} (hb : ∀ j, j < 13 → ¬ ((F j).k = x.k ∧ lineO (showT (F j).w (F j).f x) = some x)) : textO x = [] := by
  have key : ∀ {fs : List Frm}, (∀ j, j < fs.length → ¬ ((fs.getD j zF).k = x.k ∧ lineO (showT (fs.getD j zF).w (fs.getD j zF).f x) = some x)) →
      fs.findSome? (fun f => if f.k = x.k ∧ lineO (showT f.w f.f x) = some x then some (showT f.w f.f x) else none) = none := by
    intro fs
    induction fs with
    | nil => intro _; rfl
    | cons f fs ih =>
      intro hb
      have h0 : ¬ (f.k = x.k ∧ lineO (showT f.w f.f x) = some x) := hb 0 (by simp)
      simp only [List.findSome?_cons]
      rw [if_neg h0]
      exact ih fun j hj => hb (j + 1) (by simpa using hj)
  rw [textO, key (fs := formsL) hb]; rfl
end Go.Hop
