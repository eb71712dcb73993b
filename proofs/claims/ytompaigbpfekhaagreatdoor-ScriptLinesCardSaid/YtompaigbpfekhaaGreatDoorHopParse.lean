/- What is proved here: a text's acts, and the numbers of lines that are none, in plain Lean. -/
import Derived.Test.YtompaigbpfekhaaGreatDoorHopForms
import Derived.Test.YtompaigbpfekhaaGreatDoorHopOwn
namespace Go.Hop
/-- The acts of lines, from a line on, with so many seen; and the numbers of the others. -/
def parseL : List (List UInt8) → Nat → Nat → List ActL × List Int
  | [], _, _ => ([], [])
  | x :: ls, n, seen =>
    if x = [] then parseL ls (n + 1) seen else
    if 400 < seen + 1 then ([], []) else
    match lineO x with
    | some a => (a :: (parseL ls (n + 1) (seen + 1)).1, (parseL ls (n + 1) (seen + 1)).2)
    | none => ((parseL ls (n + 1) (seen + 1)).1, ((n : Int) + 1) :: (parseL ls (n + 1) (seen + 1)).2)
def parseO (s : List UInt8) : List ActL × List Int := parseL (spl 10 s) 0 0
abbrev actC (A : List ActL) : List Value := A.flatMap ActL.cs
abbrev intC (B : List Int) : List Value := B.map fun n => Value.int .i64 n
/-- What is still to come, put behind what there is. -/
def PInv (ls : List (List UInt8)) (i seen : Nat) (A : List ActL) (B : List Int) (r : List ActL × List Int) : Prop := (A ++ (parseL (ls.drop i) i seen).1, B ++ (parseL (ls.drop i) i seen).2) = r
variable {ls : List (List UInt8)} {i seen : Nat} {A : List ActL} {B : List Int} {r : List ActL × List Int} {x : ActL}
theorem PInv.start : PInv ls 0 0 [] [] (parseL ls 0 0) := by simp [PInv]
theorem PInv.empty (h : PInv ls i seen A B r) (hi : i < ls.length) (hx : ls.getD i [] = []) : PInv ls (i + 1) seen A B r := by
  unfold PInv at h ⊢
  rw [drop_getD (d := []) hi, parseL, if_pos hx] at h
  exact h
theorem PInv.act (h : PInv ls i seen A B r) (hi : i < ls.length) (hx : ¬ ls.getD i [] = []) (hs : ¬ 400 < seen + 1) (hl : lineO (ls.getD i []) = some x) : PInv ls (i + 1) (seen + 1) (A ++ [x]) B r := by
  unfold PInv at h ⊢
  rw [drop_getD (d := []) hi, parseL, if_neg hx, if_neg hs, hl] at h
  rw [← h, List.append_assoc]; rfl
theorem PInv.none (h : PInv ls i seen A B r) (hi : i < ls.length) (hx : ¬ ls.getD i [] = []) (hs : ¬ 400 < seen + 1) (hl : lineO (ls.getD i []) = Option.none) : PInv ls (i + 1) (seen + 1) A (B ++ [(i : Int) + 1]) r := by
  unfold PInv at h ⊢
  rw [drop_getD (d := []) hi, parseL, if_neg hx, if_neg hs, hl] at h
  rw [← h, List.append_assoc]; rfl
theorem PInv.full (h : PInv ls i seen A B r) (hi : i < ls.length) (hx : ¬ ls.getD i [] = []) (hs : 400 < seen + 1) : r = (A, B) := by
  unfold PInv at h
  rw [drop_getD (d := []) hi, parseL, if_neg hx, if_pos hs] at h
  rw [← h]; simp
theorem PInv.fin (h : PInv ls i seen A B r) (hi : ¬ i < ls.length) : r = (A, B) := by
  unfold PInv at h
  rw [List.drop_of_length_le (by omega)] at h
  rw [← h]; simp [parseL]
theorem flat_snoc {A : List ActL} {k a b n : Int} {s : List UInt8} : actC A ++ [.int .i64 k, .int .i64 a, .int .i64 b, .int .i64 n, S s] = actC (A ++ [⟨k, a, b, n, s⟩]) := by
  simp [actC]
theorem ints_snoc {B : List Int} {n : Int} : intC B ++ [.int .i64 n] = intC (B ++ [n]) := by simp [intC]
theorem cut_of {cs : List Value} : ∀ {o n : Nat}, o + n ≤ cs.length → cut cs o n = some ((cs.drop o).take n) := by
  intro o n h
  induction cs generalizing o n with
  | nil =>
    have h1 : o = 0 := by simp at h; omega
    have h2 : n = 0 := by simp at h; omega
    subst h1; subst h2; rfl
  | cons c cs ih =>
    cases o with
    | zero =>
      cases n with
      | zero => rfl
      | succ n => simp only [cut]; rw [ih (by simp at h ⊢; omega)]; simp
    | succ o =>
      have : cut (c :: cs) (o + 1) n = cut cs o n := by cases n <;> rfl
      rw [this, ih (by simp at h ⊢; omega)]; simp
theorem acts_len {A : List ActL} : (actC A).length = A.length * 5 := by
  induction A with
  | nil => rfl
  | cons a A ih => simp only [actC, List.flatMap_cons, List.length_append, List.length_cons, List.length_nil] at ih ⊢; omega
theorem acts_drop {A : List ActL} {sp : List Value} : ∀ {k : Nat}, k < A.length → ((actC A ++ sp).drop (k * 5)).take 5 = (A.getD k zA).cs := by
  induction A with
  | nil => intro k h; cases h
  | cons a A ih =>
    intro k h
    cases k with
    | zero => simp [actC]
    | succ k =>
      have := ih (k := k) (by simpa using h)
      have e : (actC (a :: A) ++ sp).drop ((k + 1) * 5) = (actC A ++ sp).drop (k * 5) := by
        rw [show (k + 1) * 5 = 5 + k * 5 by omega, ← List.drop_drop]
        simp [actC]
      rw [e, this]
      simp [List.getD]
theorem acts_at {A : List ActL} {sp : List Value} {k : Nat} (h : k < A.length) : cut (actC A ++ sp) (k * 5) 5 = some (A.getD k zA).cs := by
  rw [cut_of (by rw [List.length_append, acts_len]; omega), acts_drop h]
theorem ints_at {B : List Int} {sp : List Value} {k : Nat} (h : k < B.length) : (intC B ++ sp)[k]? = some (.int .i64 (B.getD k 0)) := by
  rw [List.getElem?_append_left (by simpa using h)]
  simp [intC, List.getD, List.getElem?_eq_getElem h]
theorem act_beq (p q : ActL) : (p.k == q.k && (p.a == q.a && (p.b == q.b && (p.n == q.n && (p.s == q.s && true))))) = decide (p = q) := by
  by_cases h : p = q
  · subst h; simp
  · rw [decide_eq_false h]
    cases p; cases q
    simp only [ActL.mk.injEq, not_and] at h
    apply Bool.eq_false_iff.2
    intro e
    simp only [Bool.and_eq_true, beq_iff_eq, and_true] at e
    exact h e.1 e.2.1 e.2.2.1 e.2.2.2.1 e.2.2.2.2
theorem act_eq (p q : ActL) : Value.bool (p.k == q.k && (p.a == q.a && (p.b == q.b && (p.n == q.n && (p.s == q.s && true))))) = .bool (decide (p = q)) := by rw [act_beq]
theorem act_ne (p q : ActL) : Value.bool (!(p.k == q.k && (p.a == q.a && (p.b == q.b && (p.n == q.n && (p.s == q.s && true)))))) = .bool (!(decide (p = q))) := by rw [act_beq]

theorem line_known {o : Option ActL} {x y : ActL} {ok : Bool} (h : o = if ok = true then some x else none) (e : o = some y) : ok = true ∧ x = y := by
  cases ok <;> simp_all
theorem line_unknown {o : Option ActL} {x : ActL} {ok : Bool} (h : o = if ok = true then some x else none) (hz : ok = false → x = zA) (e : o = none) : ok = false ∧ x = zA := by
  cases ok <;> simp_all
theorem itoa_one {n : Int} (h : 0 ≤ n ∧ n < 10) : Lib.itoa n = [UInt8.ofNat (48 + n.toNat)] := by
  rw [Lib.itoa, if_neg (by omega), Lib.decDigits_one (by omega)]
theorem num0 : numO [48] = some 0 := by have := numO_itoa (m := 0) (by unfold I64; omega); rwa [itoa_one (by omega)] at this
theorem num1 : numO [49] = some 1 := by have := numO_itoa (m := 1) (by unfold I64; omega); rwa [itoa_one (by omega)] at this
theorem num2 : numO [50] = some 2 := by have := numO_itoa (m := 2) (by unfold I64; omega); rwa [itoa_one (by omega)] at this
theorem num5 : numO [53] = some 5 := by have := numO_itoa (m := 5) (by unfold I64; omega); rwa [itoa_one (by omega)] at this
theorem spl_lead0 : spl 32 [108, 101, 97, 100, 32, 48] = [[108, 101, 97, 100], [48]] := by decide
theorem spl_lead : spl 32 [108, 101, 97, 100] = [[108, 101, 97, 100]] := by decide
def ingT : List UInt8 := [105, 110, 103, 101, 115, 116, 32, 49, 32, 97, 61, 49, 32, 53]
def nonT : List UInt8 := [110, 111, 110, 115, 101, 110, 115, 101]
def tikT : List UInt8 := [116, 105, 99, 107, 32, 49, 32, 50]
def ingA : ActL := ⟨9, 1, 0, 5, [97, 61, 49]⟩
def tikA : ActL := ⟨1, 1, 0, 2, []⟩
theorem spl_ing : spl 32 ingT = [[105, 110, 103, 101, 115, 116], [49], [97, 61, 49], [53]] := by decide
theorem spl_non : spl 32 nonT = [nonT] := by decide
theorem spl_tik : spl 32 tikT = [[116, 105, 99, 107], [49], [50]] := by decide
theorem line_lead0 : lineO [108, 101, 97, 100, 32, 48] = some ⟨8, 0, 0, 0, []⟩ := by
  refine line_form (i := 7) (by decide) (by omega) (by rw [spl_lead0]; rfl) ?_
  rw [spl_lead0, readF_fill (by rfl) (by rfl)]
  show fillF ⟨8, 0, 0, 0, []⟩ [97] [[48]] = _
  simp [fillF, setF, num0]
theorem line_lead : lineO [108, 101, 97, 100] = none := by
  refine line_form (i := 7) (by decide) (by omega) (by rw [spl_lead]; rfl) ?_
  rw [spl_lead]
  exact readF_len (by decide)
theorem line_ing : lineO ingT = some ingA := by
  refine line_form (i := 8) (by decide) (by omega) (by rw [spl_ing]; rfl) ?_
  rw [spl_ing, readF_fill (by rfl) (by rfl)]
  show fillF ⟨9, 0, 0, 0, []⟩ [97, 115, 110] [[49], [97, 61, 49], [53]] = _
  simp [fillF, setF, num1, num5, ingA]
theorem line_non : lineO nonT = none := by
  refine line_none (by decide) fun j hj => ?_
  rw [spl_non, readF, if_neg]
  intro h
  have h1 := h.1
  revert h1
  have : ∀ j : Fin 13, ¬ ([nonT].getD 0 [] = (F j.val).w) := by decide
  exact this ⟨j, hj⟩
theorem line_tik : lineO tikT = some tikA := by
  refine line_form (i := 0) (by decide) (by omega) (by rw [spl_tik]; rfl) ?_
  rw [spl_tik, readF_fill (by rfl) (by rfl)]
  show fillF ⟨1, 0, 0, 0, []⟩ [97, 110] [[49], [50]] = _
  simp [fillF, setF, num1, num2, tikA]
def knownT : List UInt8 := ingT ++ [10, 10] ++ nonT ++ [10] ++ tikT
theorem parse_known : parseO knownT = ([ingA, tikA], [3]) := by
  have e : spl 10 knownT = [ingT, [], nonT, tikT] := by decide
  have h1 : ingT ≠ [] := by decide
  have h2 : nonT ≠ [] := by decide
  have h3 : tikT ≠ [] := by decide
  rw [parseO, e]
  simp [parseL, h1, h2, h3, line_ing, line_non, line_tik]
theorem text_zero : textO ⟨0, 0, 0, 0, []⟩ = [] := by
  refine text_none fun j hj => ?_
  have hk := forms_k hj
  intro h
  have : (F j).k = 0 := h.1
  omega
theorem show_ing : showT (F 8).w (F 8).f ingA = ingT := by
  show [32].intercalate [[105, 110, 103, 101, 115, 116], fldT ingA 97, fldT ingA 115, fldT ingA 110] = _
  have h1 : fldT ingA 97 = [49] := by rw [fld_a rfl]; exact itoa_one (by decide)
  have h2 : fldT ingA 115 = [97, 61, 49] := fld_s (by decide) (by decide) rfl
  have h3 : fldT ingA 110 = [53] := by rw [fld_n (by decide) (by decide) (by decide)]; exact itoa_one (by decide)
  rw [h1, h2, h3]; rfl
theorem text_ing : textO ingA = ingT := by
  have := text_hit (x := ingA) (i := 8) ?_ (by omega) rfl (by rw [show_ing]; exact line_ing)
  · rw [this, show_ing]
  · intro j hj h
    have h1 := h.1
    revert h1
    have : ∀ j : Fin 8, ¬ ((F j.val).k = ingA.k) := by decide
    exact this ⟨j, hj⟩
theorem ing_ok : ActOK ingA := ⟨by unfold I64; decide, by unfold I64; decide, by unfold I64; decide, by decide⟩
theorem zero_ok : ActOK ⟨0, 0, 0, 0, []⟩ := ⟨by unfold I64; decide, by unfold I64; decide, by unfold I64; decide, by decide⟩
theorem list_ext0 {A B : List Int} {i : Nat} (h : A.length = B.length) (inv : ∀ j, j < i → A.getD j 0 = B.getD j 0) (hi : ¬ i < A.length) : A = B := by
  apply List.ext_getElem h
  intro j h1 h2
  have := inv j (by omega)
  simpa [List.getD, List.getElem?_eq_getElem h1, List.getElem?_eq_getElem h2] using this
end Go.Hop
