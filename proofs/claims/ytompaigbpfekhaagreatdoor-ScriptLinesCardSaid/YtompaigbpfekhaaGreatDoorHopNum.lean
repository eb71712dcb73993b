/- What is proved here: decimal numbers and parts of lines, in plain Lean. -/
import Derived.Test.YtompaigbpfekhaaGreatDoorHopEq
import Derived.Lib.Split
import Derived.Lib.CountLaws
import Derived.Lib.IndexBytes
import Derived.Lib.ParseIntBTie
import Derived.Lib.ParseIntBCases
import Derived.Lib.ItoaLen
import Derived.Lib.SplitLaws
namespace Go.Hop
open Go

/-! parts of a line -/
def spA (c : UInt8) : List UInt8 → List UInt8 → List (List UInt8)
  | acc, [] => [acc]
  | acc, x :: xs => if x = c then acc :: spA c [] xs else spA c (acc ++ [x]) xs
/-- A text, cut at each letter c. -/
def spl (c : UInt8) (l : List UInt8) : List (List UInt8) := spA c [] l
theorem spA_miss {c : UInt8} : ∀ {t acc r : List UInt8}, c ∉ t → spA c acc (t ++ r) = spA c (acc ++ t) r
  | [], acc, r, _ => by simp
  | x :: t, acc, r, h => by
    have hx : x ≠ c := fun e => h (by simp [e])
    have ht : c ∉ t := fun e => h (List.mem_cons_of_mem _ e)
    rw [List.cons_append, spA, if_neg hx, spA_miss ht, List.append_assoc]
    rfl
theorem spA_none {c : UInt8} {t acc : List UInt8} (h : c ∉ t) : spA c acc t = [acc ++ t] := by
  have := spA_miss (r := []) (acc := acc) h
  rw [List.append_nil] at this
  rw [this]; rfl
theorem spA_hit {c : UInt8} {t acc r : List UInt8} (h : c ∉ t) : spA c acc (t ++ c :: r) = (acc ++ t) :: spA c [] r := by
  rw [spA_miss h, spA, if_pos rfl]
theorem spA_ne {c : UInt8} : ∀ {l acc : List UInt8}, spA c acc l ≠ []
  | [], _ => by simp [spA]
  | x :: xs, acc => by
    rw [spA]
    split
    · simp
    · exact spA_ne
theorem indexByte_cases (c : UInt8) : ∀ l : List UInt8, (Lib.indexByte l c = -1 ∧ c ∉ l) ∨ ∃ t r, l = t ++ c :: r ∧ c ∉ t ∧ Lib.indexByte l c = t.length
  | [] => .inl ⟨rfl, by simp⟩
  | b :: l => by
    by_cases hb : b = c
    · exact .inr ⟨[], l, by simp [hb], by simp, by simp [Lib.indexByte, hb]⟩
    · have hb' : (b == c) = false := by simpa using hb
      rcases indexByte_cases c l with ⟨h1, h2⟩ | ⟨t, r, h1, h2, h3⟩
      · left
        refine ⟨by simp [Lib.indexByte, hb', h1], ?_⟩
        simp only [List.mem_cons, not_or]
        exact ⟨fun e => hb e.symm, h2⟩
      · right
        refine ⟨b :: t, r, by rw [h1]; rfl, ?_, ?_⟩
        · simp only [List.mem_cons, not_or]
          exact ⟨fun e => hb e.symm, h2⟩
        · have hne : ¬ (Lib.indexByte l c == -1) = true := by rw [h3]; simp
          rw [Lib.indexByte, hb']
          simp only [Bool.false_eq_true, if_false]
          rw [if_neg hne, h3]
          simp
theorem contains_one (l : List UInt8) (c : UInt8) : decide (0 ≤ Lib.indexByte l c) = decide (c ∈ l) := by
  rcases indexByte_cases c l with ⟨h1, h2⟩ | ⟨t, r, h1, h2, h3⟩
  · rw [h1]; simp [h2]
  · rw [h3, h1]; simp
theorem splitK_spl (c : UInt8) : ∀ (n : Nat) (l : List UInt8), l.length ≤ n → Lib.splitK [c] 0 (Lib.count l [c]) l = spl c l
  | n, l, hn => by
    rcases indexByte_cases c l with ⟨h1, h2⟩ | ⟨t, r, h1, h2, h3⟩
    · have hi : Lib.index l [c] = -1 := by rw [Lib.index_one]; exact h1
      rw [Lib.count_miss hi, spl, spA_none h2]
      rfl
    · have hi : Lib.index l [c] = (t.length : Nat) := by rw [Lib.index_one]; exact h3
      have hd : l.drop (t.length + 1) = r := by rw [h1]; simp
      have ht : l.take t.length = t := by rw [h1]; simp
      have hlen : l.length = t.length + (r.length + 1) := by rw [h1]; simp
      match n, hn with
      | 0, hn => omega
      | n + 1, hn =>
        have ih := splitK_spl c n r (by omega)
        have hc : Lib.count l [c] = Lib.count r [c] + 1 := by
          rw [Lib.count_hit (by simp) hi]
          simp only [List.length_cons, List.length_nil, hd]
          omega
        have hne : ¬ (Lib.index l [c] == -1) = true := by rw [hi]; simp
        rw [hc, Lib.splitK, if_neg hne, hi]
        simp only [Int.toNat_natCast, Nat.add_zero, List.length_cons, List.length_nil, Nat.zero_add, hd, ht, ih]
        rw [spl, spl, h1, spA_hit h2]
        simp
theorem splitB_spl (c : UInt8) (s : List UInt8) : (Lib.splitB ⟨⟨[c]⟩⟩ 0 (Lib.countB ⟨⟨s⟩⟩ ⟨⟨[c]⟩⟩) ⟨⟨s⟩⟩).map (·.data.toList) = spl c s := by
  rw [Lib.splitB_data]
  exact splitK_spl c _ _ (Nat.le_refl _)
theorem splitB_vals (c : UInt8) (s : List UInt8) : (Lib.splitB ⟨⟨[c]⟩⟩ 0 (Lib.countB ⟨⟨s⟩⟩ ⟨⟨[c]⟩⟩) ⟨⟨s⟩⟩).map Value.string = (spl c s).map S := by
  rw [← splitB_spl, List.map_map]
  rfl
theorem spl_length (c : UInt8) (s : List UInt8) : (spl c s).length = Lib.countB ⟨⟨s⟩⟩ ⟨⟨[c]⟩⟩ + 1 := by
  rw [← splitB_spl, List.length_map]
  exact Lib.splitB_all ⟨⟨[c]⟩⟩ (Nat.le_refl 1) 0 _ _ rfl
theorem spA_len {c : UInt8} : ∀ {l acc : List UInt8}, (spA c acc l).length ≤ l.length + 1
  | [], _ => by simp [spA]
  | x :: xs, acc => by
    rw [spA]
    split
    · have := spA_len (c := c) (l := xs) (acc := [])
      simp; omega
    · have := spA_len (c := c) (l := xs) (acc := acc ++ [x])
      simp; omega
theorem spl_len {c : UInt8} {l : List UInt8} : (spl c l).length ≤ l.length + 1 := spA_len

/-! numbers -/
def I64 (n : Int) : Prop := -9223372036854775808 ≤ n ∧ n ≤ 9223372036854775807
theorem wrap_i64 {x : Int} (h : I64 x) : IntKind.i64.wrap x = x := by
  have := eq_i64 h
  injection this
theorem wrap_I64 (x : Int) : I64 (IntKind.i64.wrap x) := by
  simp only [I64, IntKind.wrap, IntKind.bits, IntKind.signed]
  simp
  omega
theorem dig_toNat {u : Nat} (h : u < 10) : (UInt8.ofNat (48 + u)).toNat = 48 + u := by
  rw [UInt8.toNat_ofNat']; omega
theorem decDigits_big {u : Nat} (h : ¬ u < 10) : Lib.decDigits u = Lib.decDigits (u / 10) ++ [UInt8.ofNat (48 + u % 10)] := by
  rw [Lib.decDigits, dif_neg h]
theorem decDigits_digit : ∀ (n u : Nat), u ≤ n → ∀ c ∈ Lib.decDigits u, 48 ≤ c.toNat ∧ c.toNat ≤ 57
  | n, u, hn, c, hc => by
    by_cases h : u < 10
    · rw [Lib.decDigits_one h, List.mem_singleton] at hc
      subst hc
      rw [dig_toNat h]; omega
    · rw [decDigits_big h, List.mem_append, List.mem_singleton] at hc
      rcases hc with hc | rfl
      · match n, hn with
        | 0, hn => omega
        | n + 1, hn => exact decDigits_digit n (u / 10) (by omega) c hc
      · rw [dig_toNat (by omega)]; omega
theorem decDigits_cons (u : Nat) : ∃ c r, Lib.decDigits u = c :: r ∧ 48 ≤ c.toNat ∧ c.toNat ≤ 57 := by
  have hl : 1 ≤ (Lib.decDigits u).length := by rw [Lib.decDigits_length]; exact Lib.nDigits_pos u
  match hd : Lib.decDigits u, hl with
  | c :: r, _ => exact ⟨c, r, rfl, decDigits_digit u u (Nat.le_refl _) c (by rw [hd]; exact List.mem_cons_self ..)⟩
theorem parseUint10_append : ∀ {l r : List UInt8} {acc n : Nat}, Lib.parseUint10 acc l = .ok n → Lib.parseUint10 acc (l ++ r) = Lib.parseUint10 n r
  | [], r, acc, n, h => by simp only [Lib.parseUint10] at h; cases h; rfl
  | c :: l, r, acc, n, h => by
    simp only [Lib.parseUint10] at h
    rw [List.cons_append, Lib.parseUint10]
    split at h
    · rename_i h1
      rw [if_pos h1]
      split at h
      · cases h
      · rename_i h2
        rw [if_neg h2]
        split at h
        · cases h
        · rename_i h3
          rw [if_neg h3]
          exact parseUint10_append h
    · cases h
theorem parseUint10_dec : ∀ (n u : Nat), u ≤ n → u < 18446744073709551616 → Lib.parseUint10 0 (Lib.decDigits u) = .ok u
  | n, u, hn, hu => by
    by_cases h : u < 10
    · rw [Lib.decDigits_one h, Lib.parseUint10, dig_toNat h, if_pos (by omega), if_neg (by omega), if_neg (by omega)]
      simp [Lib.parseUint10]
    · rw [decDigits_big h]
      match n, hn with
      | 0, hn => omega
      | n + 1, hn =>
        rw [parseUint10_append (parseUint10_dec n (u / 10) (by omega) (by omega)), Lib.parseUint10, dig_toNat (by omega), if_pos (by omega), if_neg (by omega), if_neg (by omega)]
        simp only [Lib.parseUint10]
        congr 1
        omega
theorem parseIntB_itoa {m : Int} (h : I64 m) : Lib.parseIntB 64 (Lib.itoa m) = .ok m := by
  unfold I64 at h
  by_cases hm : m < 0
  · rw [Lib.itoa, if_pos hm, Lib.parseIntB_minus, Lib.parseUintB_64, Lib.parseMag]
    obtain ⟨c, r, hd, _⟩ := decDigits_cons m.natAbs
    rw [if_neg (by rw [hd]; simp), parseUint10_dec _ _ (Nat.le_refl _) (by omega)]
    simp only [Lib.signedC]
    rw [if_neg (by omega)]
    congr 1; omega
  · obtain ⟨c, r, hd, h1, h2⟩ := decDigits_cons m.toNat
    have e : Lib.itoa m = c :: r := by rw [Lib.itoa, if_neg hm, hd]
    rw [e, Lib.parseIntB_plain 64 c r (by omega) (by omega), Lib.parseUintB_64, Lib.parseMag, if_neg (by simp), ← hd, parseUint10_dec _ _ (Nat.le_refl _) (by omega)]
    simp only [Lib.signlessC]
    rw [if_neg (by omega)]
    congr 1; omega
/-- The number that a text is, if it is one. -/
def numO (s : List UInt8) : Option Int :=
  match Lib.parseIntB 64 s with
  | .ok v => if Lib.itoa v = s then some v else none
  | _ => none
theorem numO_itoa {m : Int} (h : I64 m) : numO (Lib.itoa m) = some m := by
  rw [numO, parseIntB_itoa h]
  simp
theorem numO_some {s : List UInt8} {v : Int} (h : numO s = some v) : I64 v ∧ Lib.itoa v = s := by
  unfold numO at h
  split at h
  · rename_i u hu
    split at h
    · rename_i he
      cases h
      have := Lib.parseIntB_bounds hu
      refine ⟨?_, he⟩
      unfold I64
      omega
    · cases h
  · cases h
theorem numO_of {s : List UInt8} {n : Int} (hn : I64 n) : (Lib.itoa n = s → numO s = some n) := by
  rintro rfl; exact numO_itoa hn
theorem numO_ne {s : List UInt8} (h : ∀ m, I64 m → Lib.itoa m ≠ s) : numO s = none := by
  cases e : numO s with
  | none => rfl
  | some v => exact absurd (numO_some e).2 (h v (numO_some e).1)

def valStep (n : Int) (c : UInt8) : Int := if 48 ≤ c.toNat ∧ c.toNat ≤ 57 then IntKind.i64.wrap (IntKind.i64.wrap (n * 10) - ((c.toNat - 48 : Nat) : Int)) else n
def valL (s : List UInt8) : Int := (s.take 20).foldl valStep 0
def valS (s : List UInt8) : Int := if s[0]? = some 45 then valL s else IntKind.i64.wrap (0 - valL s)
theorem foldl_valStep_I64 : ∀ {l : List UInt8} {n : Int}, I64 n → I64 (l.foldl valStep n)
  | [], _, h => h
  | c :: l, n, h => by
    rw [List.foldl_cons]
    apply foldl_valStep_I64
    unfold valStep
    split
    · exact wrap_I64 _
    · exact h
theorem foldl_dec : ∀ (n u : Nat), u ≤ n → u ≤ 9223372036854775808 → (Lib.decDigits u).foldl valStep 0 = -(u : Int)
  | n, u, hn, hu => by
    have step : ∀ (v d : Nat), v * 10 + d ≤ 9223372036854775808 → d < 10 → valStep (-(v : Int)) (UInt8.ofNat (48 + d)) = -((v * 10 + d : Nat) : Int) := by
      intro v d h1 h2
      unfold valStep
      rw [dig_toNat h2, if_pos (by omega), wrap_i64 (x := -(v : Int) * 10) (by unfold I64; omega), wrap_i64 (by unfold I64; omega)]
      omega
    by_cases h : u < 10
    · rw [Lib.decDigits_one h, List.foldl_cons, List.foldl_nil]
      have := step 0 u (by omega) h
      simpa using this
    · rw [decDigits_big h, List.foldl_append]
      match n, hn with
      | 0, hn => omega
      | n + 1, hn =>
        rw [foldl_dec n (u / 10) (by omega) (by omega), List.foldl_cons, List.foldl_nil, step _ _ (by omega) (by omega)]
        congr 2
        omega
theorem valS_itoa {m : Int} (h : I64 m) : valS (Lib.itoa m) = m := by
  have hlen : ∀ u : Nat, u ≤ 9223372036854775808 → (Lib.decDigits u).length ≤ 19 := by
    intro u hu
    rw [Lib.decDigits_length]
    rcases Nat.lt_or_ge 19 (Lib.nDigits u) with hk | hk
    · exfalso
      have : ∀ k, k ≤ Lib.nDigits u → 1 ≤ k → 10 ^ (k - 1) ≤ u ∨ u < 10 ^ (k - 1) := fun k _ _ => by omega
      by_cases h19 : 10 ^ 19 ≤ u
      · omega
      · have h2 : u < 10 ^ 19 := by omega
        have key : ∀ (k u : Nat), u < 10 ^ (k + 1) → Lib.nDigits u ≤ k + 1 := by
          intro k
          induction k with
          | zero => intro u hu; rw [Lib.nDigits_small (by simpa using hu)]; omega
          | succ k ih =>
            intro u hu
            by_cases h10 : u < 10
            · rw [Lib.nDigits_small h10]; omega
            · rw [Lib.nDigits_big h10]
              have := ih (u / 10) (by rw [Nat.pow_succ] at hu; omega)
              omega
        have := key 18 u h2
        omega
    · exact hk
  unfold I64 at h
  by_cases hm : m < 0
  · have e : Lib.itoa m = 45 :: Lib.decDigits m.natAbs := by rw [Lib.itoa, if_pos hm]
    have hl := hlen m.natAbs (by omega)
    rw [valS, e]
    simp only [List.getElem?_cons_zero, if_true]
    rw [valL, List.take_of_length_le (by rw [List.length_cons]; omega), List.foldl_cons]
    have : valStep 0 45 = 0 := by unfold valStep; rw [if_neg (by decide)]
    rw [this, foldl_dec _ _ (Nat.le_refl _) (by omega)]
    omega
  · obtain ⟨c, r, hd, h1, h2⟩ := decDigits_cons m.toNat
    have e : Lib.itoa m = Lib.decDigits m.toNat := by rw [Lib.itoa, if_neg hm]
    have hl := hlen m.toNat (by omega)
    have hc : c ≠ 45 := by rintro rfl; revert h1; decide
    rw [valS, e, hd]
    simp only [List.getElem?_cons_zero, Option.some.injEq]
    rw [if_neg hc, ← hd, valL, List.take_of_length_le (by omega), foldl_dec _ _ (Nat.le_refl _) (by omega), wrap_i64 (by unfold I64; omega)]
    omega
theorem valS_I64 (s : List UInt8) : I64 (valS s) := by
  unfold valS
  split
  · exact foldl_valStep_I64 (by unfold I64; omega)
  · exact wrap_I64 _
/-- What reading a number tells. -/
def NumIs (s : List UInt8) (n : Int) (b : Bool) : Prop := I64 n ∧ numO s = if b then some n else none
theorem valS_is (s : List UInt8) : NumIs s (valS s) (Lib.itoa (valS s) == s) := by
  refine ⟨valS_I64 s, ?_⟩
  by_cases h : Lib.itoa (valS s) = s
  · rw [if_pos (by simpa using h)]; exact numO_of (valS_I64 s) h
  · rw [if_neg (by simpa using h)]
    refine numO_ne fun m hm e => h ?_
    rw [← e, valS_itoa hm]

theorem tdiv10 (k : Int) : (k.tdiv 10).natAbs = k.natAbs / 10 := Int.natAbs_tdiv k 10
theorem tmod10 (k : Int) : (k.tmod 10).natAbs = k.natAbs % 10 := Int.natAbs_tmod k 10
theorem decDigits_len {u : Nat} (hu : u ≤ 9223372036854775808) : (Lib.decDigits u).length ≤ 19 := by
  rw [Lib.decDigits_length]
  have key : ∀ (k u : Nat), u < 10 ^ (k + 1) → Lib.nDigits u ≤ k + 1 := by
    intro k
    induction k with
    | zero => intro u hu; rw [Lib.nDigits_small (by simpa using hu)]; omega
    | succ k ih =>
      intro u hu
      by_cases h10 : u < 10
      · rw [Lib.nDigits_small h10]; omega
      · rw [Lib.nDigits_big h10]
        have := ih (u / 10) (by rw [Nat.pow_succ] at hu; omega)
        omega
  exact key 18 u (by omega)
theorem itoa_len {n : Int} (h : I64 n) : (Lib.itoa n).length ≤ 20 := by
  unfold I64 at h
  unfold Lib.itoa
  split
  · have := decDigits_len (u := n.natAbs) (by omega)
    rw [List.length_cons]; omega
  · have := decDigits_len (u := n.toNat) (by omega)
    omega
/-- The loop that writes a number. -/
def NumInv (n k : Int) (s : List UInt8) : Prop := (k = 0 → s = Lib.decDigits n.natAbs) ∧ (k ≠ 0 → Lib.decDigits k.natAbs ++ s = Lib.decDigits n.natAbs)
theorem NumInv.start {n : Int} (h : n ≠ 0) : NumInv n n [] := ⟨fun e => absurd e h, fun _ => by simp⟩
theorem NumInv.step {n k : Int} {s : List UInt8} (h : NumInv n k s) (hk : k ≠ 0) {x : Int} (hx : x = 48 + (k.tmod 10).natAbs) : NumInv n (k.tdiv 10) ([UInt8.ofNat x.toNat] ++ s) := by
  have h1 := h.2 hk
  have e1 := tdiv10 k
  have e2 := tmod10 k
  have ex : x.toNat = 48 + k.natAbs % 10 := by omega
  rw [ex]
  by_cases hb : k.natAbs < 10
  · have hz : k.tdiv 10 = 0 := by omega
    refine ⟨fun _ => ?_, fun e => absurd hz e⟩
    rw [← h1, Lib.decDigits_one hb, Nat.mod_eq_of_lt hb]
  · have hz : k.tdiv 10 ≠ 0 := by omega
    refine ⟨fun e => absurd e hz, fun _ => ?_⟩
    rw [← h1, decDigits_big hb, e1, List.append_assoc]
theorem NumInv.len {n k : Int} {s : List UInt8} (h : NumInv n k s) (hn : I64 n) : s.length ≤ 19 := by
  have hl := decDigits_len (u := n.natAbs) (by unfold I64 at hn; omega)
  by_cases hk : k = 0
  · rw [h.1 hk]; exact hl
  · have := h.2 hk
    rw [← this, List.length_append] at hl
    omega
theorem getD_at {l : List UInt8} {i : Nat} (h : i < l.length) : l[i]? = some (l.getD i 0) := by
  simp [List.getD, List.getElem?_eq_getElem h]
theorem val_hit {s : List UInt8} {i : Nat} {n : Int} (e : n = (s.take i).foldl valStep 0) (h : i < s.length) (h1 : ((s.getD i 0).toNat : Int) ≥ 48) (h2 : ((s.getD i 0).toNat : Int) ≤ 57) :
    IntKind.i64.wrap (IntKind.i64.wrap (n * 10) - (((s.getD i 0).toNat : Int) - 48)) = (s.take (i + 1)).foldl valStep 0 := by
  have hg : s.getD i 0 = s[i] := by simp [List.getD, List.getElem?_eq_getElem h]
  rw [List.take_succ_eq_append_getElem h, List.foldl_append, ← e, List.foldl_cons, List.foldl_nil, hg, valStep, if_pos (by rw [hg] at h1 h2; omega)]
  congr 1
  rw [hg] at h1
  omega
theorem val_miss {s : List UInt8} {i : Nat} {n : Int} (e : n = (s.take i).foldl valStep 0) (h : i < s.length) (h1 : ¬ (((s.getD i 0).toNat : Int) ≥ 48 ∧ ((s.getD i 0).toNat : Int) ≤ 57)) :
    n = (s.take (i + 1)).foldl valStep 0 := by
  have hg : s.getD i 0 = s[i] := by simp [List.getD, List.getElem?_eq_getElem h]
  rw [List.take_succ_eq_append_getElem h, List.foldl_append, ← e, List.foldl_cons, List.foldl_nil, valStep, if_neg (by rw [hg] at h1; omega)]
theorem val_end {s : List UInt8} {i : Nat} {n : Int} (e : n = (s.take i).foldl valStep 0) (h : i = 20 ∨ (s.length ≤ i ∧ i ≤ 20)) : n = valL s := by
  rw [valL, e]
  rcases h with rfl | ⟨h, h2⟩
  · rfl
  · rw [List.take_of_length_le h, List.take_of_length_le (by omega)]
theorem val_minus {s : List UInt8} {n : Int} (e : n = valL s) (h : ¬ ((s.length : Int) = 0)) (h1 : ((s.getD 0 0).toNat : Int) = 45) : n = valS s := by
  have h0 : 0 < s.length := by omega
  have hc : s[0]? = some 45 := by
    rw [getD_at h0]
    congr 1
    apply UInt8.toNat.inj
    have : (45 : UInt8).toNat = 45 := rfl
    omega
  rw [valS, if_pos hc, e]
theorem val_plus {s : List UInt8} {n : Int} (e : n = valL s) (h : (s.length : Int) = 0 ∨ ¬ (((s.getD 0 0).toNat : Int) = 45)) : IntKind.i64.wrap (0 - n) = valS s := by
  have hc : ¬ s[0]? = some 45 := by
    intro hs
    have h0 := (List.getElem?_eq_some_iff.1 hs).1
    rcases h with h | h
    · omega
    · apply h
      rw [getD_at h0] at hs
      injection hs with hs
      rw [hs]; rfl
  rw [valS, if_neg hc, e]
theorem number_zero {n : Int} (h : n = 0) : S [48] = S (Lib.itoa n) := by
  subst h
  rw [Lib.itoa, if_neg (by omega), show (0 : Int).toNat = 0 from rfl, Lib.decDigits_one (by omega)]
  rfl
theorem number_neg {n : Int} {s : List UInt8} (h : n < 0) (e : s = Lib.decDigits n.natAbs) : S ([45] ++ s) = S (Lib.itoa n) := by
  subst e
  rw [Lib.itoa, if_pos h]
  rfl
theorem number_pos {n : Int} {s : List UInt8} (h : ¬ n < 0) (e : s = Lib.decDigits n.natAbs) : S s = S (Lib.itoa n) := by
  subst e
  rw [Lib.itoa, if_neg h, show n.natAbs = n.toNat by omega]
theorem map_S_at {l : List (List UInt8)} {i : Nat} (h : i < l.length) : (l.map S)[i]? = some (S (l.getD i [])) := by
  simp [List.getD, List.getElem?_eq_getElem h]
end Go.Hop
