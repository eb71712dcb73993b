/- What is proved here: the library's contracts, over what a world holds. -/
import Derived.Test.YtompaigbpfekhaaGreatDoorSt0
import Derived.Test.YtompaigbpfekhaaGreatDoorSt2
import Derived.Test.YtompaigbpfekhaaGreatDoorSt3
import Derived.Shelf.Vars
import Derived.Lib.LaidTab
import Derived.Stop.LaidErr
namespace Go.Hop
open Go.Proofs Go.RowKit

/-- What the library reads of the variables. -/
structure Laid (w : World) : Prop where
  pow : Lib.TabIs Tryz.prog w "internal/strconv.uint64pow10" .u64 Lib.pow10Tab
  esyn : ∃ tp p, w.var? Tryz.prog "strconv.ErrSyntax" = some #[.iface tp p]
  erng : ∃ tp p, w.var? Tryz.prog "strconv.ErrRange" = some #[.iface tp p]
  maxlen : ∃ m, w.cell? ⟨0, 0, none⟩ = some (.int .i64 m)
def Lay (R : List Assn) : Prop := ∀ σ w, Holds σ w R → Laid w
theorem Lay.cons {R : List Assn} (h : Lay R) (A : Assn) : Lay (A :: R) := fun σ w H => h σ w H.drop

theorem Holds.below {σ : Sg} {w w' : World} {L : List Assn} (H : Holds σ w L) (h : Below w.heap.size w w') : Holds σ w' L := by
  refine H.same h.os h.output h.tape fun b o e => ?_
  have hlt : b < w.heap.size := by
    rcases Nat.lt_or_ge b w.heap.size with h | h
    · exact h
    · rw [Array.getElem?_eq_none h] at e; cases e
  rw [h.block b hlt]; exact e
theorem Holds.grown {σ : Sg} {w : World} {L : List Assn} (H : Holds σ w L) (k : Nat) (os : Array Obj) : Holds σ (Sort.grow (w.drewN k) os) L :=
  H.same rfl rfl rfl fun b o e => by
    have hlt : b < w.heap.size := by
      rcases Nat.lt_or_ge b w.heap.size with h | h
      · exact h
      · rw [Array.getElem?_eq_none h] at e; cases e
    show (w.heap ++ os)[b]? = some o
    rw [Array.getElem?_append_left hlt]; exact e

section
variable {σ : Sg} {w : World} {L : List Assn}
theorem fmt_spec (n : Int) (hn : I64 n) (hR : Lay L) (hh : Holds σ w L) :
    Calls Tryz.prog 30 ⟨[.int .i64 n, .int .i64 10]⟩ w fun e w' => ∃ v L', e = .returned v ∧ (v = S (Lib.itoa n) ∧ L' = L) ∧ Holds σ w' L' := by
  refine (Tryz.strconv_FormatInt_10 n hn.1 hn.2 w (hR σ w hh).pow).mono ?_
  rintro e w' ⟨rfl, k, os, rfl⟩
  exact ⟨_, _, rfl, ⟨rfl, rfl⟩, hh.grown k os⟩
theorem itoa_spec (n : Int) (hn : I64 n) (hR : Lay L) (hh : Holds σ w L) :
    Calls Tryz.prog 29 ⟨[.int .i64 n]⟩ w fun e w' => ∃ v L', e = .returned v ∧ (v = S (Lib.itoa n) ∧ L' = L) ∧ Holds σ w' L' := by
  refine (Tryz.strconv_Itoa n hn.1 hn.2 w (hR σ w hh).pow).mono ?_
  rintro e w' ⟨rfl, k, os, rfl⟩
  exact ⟨_, _, rfl, ⟨rfl, rfl⟩, hh.grown k os⟩
theorem contains_spec (c : UInt8) (s : List UInt8) (hh : Holds σ w L) :
    Calls Tryz.prog 25 ⟨[S s, S [c]]⟩ w fun e w' => ∃ v L', e = .returned v ∧ (v = .bool (decide (c ∈ s)) ∧ L' = L) ∧ Holds σ w' L' := by
  refine (Tryz.strings_Contains_one ⟨⟨s⟩⟩ c w).mono ?_
  rintro e w' ⟨rfl, rfl⟩
  exact ⟨_, _, rfl, ⟨congrArg Value.bool (contains_one s c), rfl⟩, hh⟩
theorem split_spec (c : UInt8) (s : List UInt8) (hs : s.length ≤ 4000000000) (hR : Lay L) (hh : Holds σ w L) :
    Calls Tryz.prog 24 ⟨[S s, S [c]]⟩ w fun e w' => ∃ v L', e = .returned v ∧ (∃ b, v = .slice (some ⟨b, 0, none⟩) (spl c s).length (spl c s).length ∧ L' = row b 9 ((spl c s).map S) :: L) ∧ Holds σ w' L' := by
  obtain ⟨m, hm⟩ := (hR σ w hh).maxlen
  refine (Tryz.strings_Split ⟨⟨s⟩⟩ ⟨⟨[c]⟩⟩ m w (Nat.lt_of_le_of_lt hs (by decide)) hm (Nat.le_refl 1)).mono ?_
  rintro e w' ⟨rfl, rfl⟩
  rw [← spl_length, splitB_vals]
  exact ⟨_, _, rfl, ⟨w.heap.size, rfl, rfl⟩, hh.alloc _⟩
/-- What ParseInt tells. -/
theorem parse_spec (s : List UInt8) (hs : s.length ≤ 4000000000) (hR : Lay L) (hh : Holds σ w L) :
    Calls Tryz.prog 71 ⟨[S s, .int .i64 10, .int .i64 64]⟩ w fun e w' => ∃ v L', e = .returned v ∧ ((∃ n er b, v = .tuple ⟨[.int .i64 n, er]⟩ ∧ I64 n ∧ ErrIs er b ∧ numO s = if b = true ∧ Lib.itoa n = s then some n else none) ∧ L' = L) ∧ Holds σ w' L' := by
  have hlay := hR σ w hh
  have hnum : ∀ r, Lib.parseIntB 64 s = r → numO s = match r with | .ok v => if Lib.itoa v = s then some v else none | _ => none := fun r h => by rw [numO, h]; cases r <;> rfl
  have i64b : ∀ {v : Int}, -((2 ^ (64 - 1) : Nat) : Int) ≤ v ∧ v < ((2 ^ (64 - 1) : Nat) : Int) → I64 v := fun {v} h => by unfold I64; omega
  rcases hp : Lib.parseIntB 64 s with v | _ | _
  ·
    have hb := i64b (Lib.parseIntB_bounds hp)
    refine (Tryz.strconv_ParseInt_10_at64_ok ⟨⟨s⟩⟩ (Nat.le_trans hs (by decide)) v hp w).mono ?_
    rintro e w' ⟨rfl, h⟩
    refine ⟨_, _, rfl, ⟨⟨v, .nilIface, true, rfl, hb, .inl ⟨rfl, rfl⟩, by rw [hnum _ hp]; simp⟩, rfl⟩, ?_⟩
    rcases h with rfl | ⟨t, rfl⟩
    · exact hh
    · exact hh.below (Lib.bytesWorld_below _ _ _)
  ·
    obtain ⟨tp, p, hv⟩ := hlay.esyn
    refine (Tryz.strconv_ParseInt_10_at64_syntax_var ⟨⟨s⟩⟩ (Nat.le_trans hs (by decide)) hp tp p w hv).mono ?_
    rintro e w' ⟨N, rfl, _, _, hb⟩
    exact ⟨_, _, rfl, ⟨⟨0, _, false, rfl, by unfold I64; omega, .inr ⟨⟨_, _, rfl⟩, rfl⟩, by rw [hnum _ hp]; simp⟩, rfl⟩, hh.below hb⟩
  ·
    obtain ⟨tp, p, hv⟩ := hlay.erng
    refine (Tryz.strconv_ParseInt_10_at64_range_var ⟨⟨s⟩⟩ (Nat.le_trans hs (by decide)) hp tp p w hv).mono ?_
    rintro e w' ⟨N, rfl, _, _, hb⟩
    refine ⟨_, _, rfl, ⟨⟨_, _, false, rfl, ?_, .inr ⟨⟨_, _, rfl⟩, rfl⟩, by rw [hnum _ hp]; simp⟩, rfl⟩, hh.below hb⟩
    cases s with
    | nil => cases hp
    | cons c r =>
      by_cases h45 : c.toNat = 45
      · have : c = 45 := UInt8.toNat.inj h45
        subst this
        show I64 (Lib.intSat 64 (45 :: r))
        rw [Lib.intSat_minus]; unfold I64; omega
      · show I64 (Lib.intSat 64 (c :: r))
        rw [Lib.intSat_other 64 c r h45]; unfold I64; omega
/-- Words, put together. -/
theorem join_spec {M : List Assn} (c : UInt8) {v : Value} {n : Nat} (l : List (List UInt8)) (hn : n = l.length) (hl : ([c].intercalate l).length ≤ 140737488355328) (hl2 : l.length ≤ 140737488355328) (hh : Holds σ w (Own 9 1 v n (l.map S) :: M)) :
    Calls Tryz.prog 31 ⟨[v, S [c]]⟩ w fun e w' => ∃ u L', e = .returned u ∧ (u = S ([c].intercalate l) ∧ L' = M) ∧ Holds σ w' L' := by
  rcases own_open.1 hh with ⟨rfl, rfl, h3, H⟩ | ⟨b, cap, sp, rfl, h1, h2, h3, H⟩
  · have hl0 : l = [] := by simpa using h3
    subst hl0
    refine (Tryz.strings_Join_none none 0 ⟨⟨[c]⟩⟩ w).mono ?_
    rintro e w' ⟨rfl, rfl⟩
    exact ⟨_, _, rfl, ⟨rfl, rfl⟩, H⟩
  · subst hn
    have e1 : (l.map fun x => (⟨⟨x⟩⟩ : ByteArray)).length = l.length := List.length_map ..
    have e2 : (l.map fun x => (⟨⟨x⟩⟩ : ByteArray)).map (·.data.toList) = l := by
      rw [List.map_map]; simp [Function.comp_def]
    have key := Tryz.strings_Join b 0 cap (l.map fun x => (⟨⟨x⟩⟩ : ByteArray)) ⟨⟨[c]⟩⟩ w ?_ H.lt (by rw [e1]; exact hl2) (by rw [e1]; exact h1) (by rw [e2]; exact hl)
    · rw [e1, e2] at key
      refine key.mono ?_
      rintro e w' ⟨rfl, hb⟩
      exact ⟨_, _, rfl, ⟨rfl, rfl⟩, (H.below hb).drop⟩
    · intro j x hj
      refine H.cell ?_
      have hlt : j < l.length := by
        have := (List.getElem?_eq_some_iff.1 hj).1
        rwa [e1] at this
      rw [List.getElem?_map] at hj
      simp only [Nat.zero_add, List.getElem?_toArray]
      rw [List.getElem?_append_left (by simpa using hlt), List.getElem?_map]
      cases hx : l[j]? with
      | none => rw [hx] at hj; cases hj
      | some y => rw [hx] at hj; cases hj; rfl
end
end Go.Hop
/- What is proved here: a whole heap that stays as it is; what is read of it. -/
namespace Go.Hop
open Go.Proofs Go.RowKit
/-- All that there was, for good as it is. -/
def Base (W : World) : Assn := fun h => h = fun b => (W.heap[b]?).map fun o => (true, o)
theorem base_pers (W : World) : Pers (Base W) := by
  rintro h rfl b
  show ok2 ((W.heap[b]?).map fun o => (true, o)) ((W.heap[b]?).map fun o => (true, o))
  cases W.heap[b]? with
  | none => exact trivial
  | some o => exact ⟨rfl, rfl⟩
theorem holds_base (W : World) : Holds (Sg.of W) W [Base W] :=
  ⟨rfl, rfl, rfl, _, ⟨_, Hp.emp, rfl, rfl, Hp.sep_emp _, (Hp.join_emp _).symm⟩, fun b f o e => by
    cases hb : W.heap[b]? with
    | none => simp [hb] at e
    | some o' => simp [hb] at e; exact congrArg some e.2⟩
theorem base_get {σ : Sg} {W w : World} {L : List Assn} (H : Holds σ w (Base W :: L)) {b : Nat} {o : Obj} (h : W.heap[b]? = some o) : w.heap[b]? = some o := by
  obtain ⟨hp, ⟨h1, h2, rfl, hl, _, rfl⟩, k⟩ := H.heap
  exact k b true o (by simp [Hp.join, or2, h])
theorem base_im {σ : Sg} {W w : World} {L : List Assn} (H : Holds σ w (Base W :: L)) {b : Nat} {o : Obj} (h : W.heap[b]? = some o) : Holds σ w (ptf true b o :: Base W :: L) := by
  obtain ⟨hp, ⟨h1, h2, rfl, hl, s, rfl⟩, k⟩ := H.heap
  refine ⟨H.os, H.output, H.tape, _, ⟨Hp.one b true o, _, rfl, ⟨_, h2, rfl, hl, s, rfl⟩, ?_, ?_⟩, k⟩
  · refine (Hp.sep_join s).2 ⟨fun x => ?_, fun x => ?_⟩
    · by_cases e : x = b
      · subst e; simp [Hp.one, h, ok2]
      · simp [Hp.one, e, ok2]
    · by_cases e : x = b
      · subst e; have := s x; simp only [h, Option.map_some] at this; simpa [Hp.one] using this
      · simp [Hp.one, e, ok2]
  · funext x
    by_cases e : x = b
    · subst e; simp [Hp.join, or2, Hp.one, h]
    · simp [Hp.join, or2, Hp.one, e]
theorem base_below {W w : World} (H : Holds (Sg.of W) w [Base W]) : Below W.heap.size W w := by
  refine ⟨H.os, H.tape, H.output, ?_, fun k hk => ?_⟩
  · rcases Nat.eq_zero_or_pos W.heap.size with e | e
    · omega
    · have h1 : W.heap[W.heap.size - 1]? = some W.heap[W.heap.size - 1] := Array.getElem?_eq_getElem (by omega)
      have h2 := base_get H h1
      have := (Array.getElem?_eq_some_iff.1 h2).1
      omega
  · have h1 : W.heap[k]? = some W.heap[k] := Array.getElem?_eq_getElem hk
    rw [base_get H h1, h1]
theorem var_same {P : Program} {W w : World} (h : ∀ (b : Nat) (o : Obj), W.heap[b]? = some o → w.heap[b]? = some o) {n : String} {x : Array Value} (hv : W.var? P n = some x) : w.var? P n = some x := by
  unfold World.var? at hv ⊢
  cases hg : P.globalNamed n with
  | none => rw [hg] at hv; cases hv
  | some g =>
    rw [hg] at hv
    simp only [Option.bind_some] at hv ⊢
    cases hb : W.heap[g]? with
    | none => rw [hb] at hv; cases hv
    | some o => rw [h g o hb]; rw [hb] at hv; exact hv
theorem lay_base {W : World} (h : Laid W) : Lay [Base W] := fun σ w H => by
  have hs : ∀ (b : Nat) (o : Obj), W.heap[b]? = some o → w.heap[b]? = some o := fun b o e => base_get H e
  obtain ⟨t1, p1, e1⟩ := h.esyn
  obtain ⟨t2, p2, e2⟩ := h.erng
  obtain ⟨m, hm⟩ := h.maxlen
  refine ⟨var_same hs h.pow, ⟨t1, p1, var_same hs e1⟩, ⟨t2, p2, var_same hs e2⟩, m, ?_⟩
  unfold World.cell? at hm ⊢
  cases hb : W.heap[(⟨0, 0, none⟩ : Addr).block]? with
  | none => rw [hb] at hm; cases hm
  | some o => rw [hb] at hm; rw [hs _ o hb]; exact hm
end Go.Hop
