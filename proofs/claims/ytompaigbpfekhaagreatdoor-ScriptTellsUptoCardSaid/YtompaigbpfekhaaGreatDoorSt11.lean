/- What is proved here: the statement of ScriptTells, where the arguments are of a bounded bulk. -/
import Derived.Test.YtompaigbpfekhaaGreatDoorSt6
import Derived.Test.YtompaigbpfekhaaGreatDoorSt10
import Derived.Deep.DeepHandedRow
import Derived.Deep.DeepWitnessRowRef
import Derived.Carry
namespace Go.Proofs.YtompaigbpfekhaaGreatDoor
open Go Go.Hop Go.ChangeShapes Go.WideShapes Go.ChangeAt Go.RowKit
open Go.ChangeMaps (open_string shut_string)
theorem bulk_one {H : Type} (d : DataW H) : 1 ≤ Rows.uptoBulk d := by
  cases d with
  | lit l => cases l <;> simp [Rows.uptoBulk]
  | _ => simp [Rows.uptoBulk]
theorem bulk_part {H : Type} {d : DataW H} {l : List (DataW H)} (h : d ∈ l) : Rows.uptoBulk d ≤ Rows.uptoBulkAll l := by
  induction l with
  | nil => cases h
  | cons x l ih =>
    simp only [Rows.uptoBulkAll]
    rcases List.mem_cons.1 h with rfl | h
    · omega
    · have := ih h; omega
theorem bulk_len {H : Type} (l : List (DataW H)) : l.length ≤ Rows.uptoBulkAll l := by
  induction l with
  | nil => simp [Rows.uptoBulkAll]
  | cons x l ih => simp only [Rows.uptoBulkAll, List.length_cons]; have := bulk_one x; omega
/-- A field of a struct, read. -/
theorem take_drop_one {cs : List Value} {i : Nat} {u : Value} (h : (cs.drop i).take 1 = [u]) : cs[i]? = some u := by
  have : (cs.drop i)[0]? = some u := by
    cases hc : cs.drop i with
    | nil => rw [hc] at h; cases h
    | cons a r => rw [hc] at h; simp at h; simp [h]
  simpa using this
instance : Inhabited DrawL := ⟨zD⟩
instance : Inhabited ActL := ⟨zA⟩
section
variable {H : Type} {enc : TypeId × Value → H} {W : World} {base : Nat} {sp : Nat → Bool} {held : Bool}
theorem list5 {cs : List Value} {a b c d e : Value} (hl : cs.length = 5) (h0 : cs[0]? = some a) (h1 : cs[1]? = some b) (h2 : cs[2]? = some c) (h3 : cs[3]? = some d) (h4 : cs[4]? = some e) : cs = [a, b, c, d, e] := by
  match cs, hl with
  | [x0, x1, x2, x3, x4], _ => simp at h0 h1 h2 h3 h4; subst h0; subst h1; subst h2; subst h3; subst h4; rfl
theorem list4 {cs : List Value} {a b c d : Value} (hl : cs.length = 4) (h0 : cs[0]? = some a) (h1 : cs[1]? = some b) (h2 : cs[2]? = some c) (h3 : cs[3]? = some d) : cs = [a, b, c, d] := by
  match cs, hl with
  | [x0, x1, x2, x3], _ => simp at h0 h1 h2 h3; subst h0; subst h1; subst h2; subst h3; rfl
theorem i64_of {n : Int} (h : (Lit.int .i64 n).wf = true) : I64 n := by
  simp only [Lit.wf, Bool.and_eq_true, decide_eq_true_eq] at h
  have e1 : IntKind.i64.min = -9223372036854775808 := by decide
  have e2 : IntKind.i64.max = 9223372036854775807 := by decide
  rw [e1, e2] at h
  exact ⟨h.1, h.2⟩
theorem cells3 : Tryz.prog.cellsOf 3 = 1 := by kernel_rfl
theorem cells2 : Tryz.prog.cellsOf 2 = 1 := by kernel_rfl
theorem cells9 : Tryz.prog.cellsOf 9 = 1 := by kernel_rfl
theorem cells33 : Tryz.prog.cellsOf 33 = 4 := by kernel_rfl
theorem cells26 : Tryz.prog.cellsOf 26 = 5 := by kernel_rfl
theorem fld_int {t : TypeId} {k : IntKind} {n i : Nat} {cs : List Value} {xs : List (DataW H × List MemPlace)} {j : Nat} (ht : Tryz.prog.underlying t = some (.int k)) (hc : Tryz.prog.cellsOf t = 1) (hj : j < xs.length)
    (h : DataW.trod enc Tryz.prog W base sp held n t ((cs.drop i).take (Tryz.prog.cellsOf t)) = xs[j]?) : ∃ m, cs[i]? = some (.int k m) ∧ (Lit.int k m).wf = true := by
  rw [List.getElem?_eq_getElem hj, hc] at h
  obtain ⟨m, e, _, hw⟩ := DataW.trod_int ht h
  exact ⟨m, take_drop_one e, hw⟩
theorem fld_str {t : TypeId} {n i : Nat} {cs : List Value} {xs : List (DataW H × List MemPlace)} {j : Nat} (ht : Tryz.prog.underlying t = some .string) (hc : Tryz.prog.cellsOf t = 1) (hj : j < xs.length)
    (h : DataW.trod enc Tryz.prog W base sp held n t ((cs.drop i).take (Tryz.prog.cellsOf t)) = xs[j]?) : ∃ s : ByteArray, cs[i]? = some (.string s) ∧ xs[j]? = some (.lit (.string s.data.toList), []) := by
  rw [List.getElem?_eq_getElem hj, hc] at h
  obtain ⟨s, e, e2, _⟩ := DataW.trod_string ht h
  exact ⟨s, take_drop_one e, by rw [List.getElem?_eq_getElem hj, e2]⟩
theorem read_draw (n : Nat) (cs : List Value) (y : DataW H × List MemPlace) (h : DataW.trod enc Tryz.prog W base sp held n 33 cs = some y) : ∃ z : DrawL, cs = z.cs ∧ True := by
  obtain ⟨xs, m, rfl, rfl, hl, hx, hf⟩ := DataW.trod_struct Tryz.underlying33 h
  have hx' : xs.length = 4 := hx
  rw [cells33] at hl
  obtain ⟨k, e0, _⟩ := fld_int (j := 0) Tryz.underlying3 cells3 (by omega) (hf 0 _ rfl)
  obtain ⟨a, e1, _⟩ := fld_int (j := 1) Tryz.underlying3 cells3 (by omega) (hf 1 _ rfl)
  obtain ⟨b, e2, _⟩ := fld_int (j := 2) Tryz.underlying3 cells3 (by omega) (hf 2 _ rfl)
  obtain ⟨d, e3, _⟩ := fld_int (j := 3) Tryz.underlying2 cells2 (by omega) (hf 3 _ rfl)
  exact ⟨⟨k, a, b, d⟩, list4 hl e0 e1 e2 e3, trivial⟩
theorem read_act (n : Nat) (cs : List Value) (y : DataW H × List MemPlace) (h : DataW.trod enc Tryz.prog W base sp held n 26 cs = some y) : ∃ z : ActL, cs = z.cs ∧ (I64 z.a ∧ I64 z.b ∧ I64 z.n ∧ z.s.length ≤ Rows.uptoBulk y.1) := by
  obtain ⟨xs, m, rfl, rfl, hl, hx, hf⟩ := DataW.trod_struct Tryz.underlying26 h
  have hx' : xs.length = 5 := hx
  rw [cells26] at hl
  obtain ⟨k, e0, _⟩ := fld_int (j := 0) Tryz.underlying3 cells3 (by omega) (hf 0 _ rfl)
  obtain ⟨a, e1, wa⟩ := fld_int (j := 1) Tryz.underlying3 cells3 (by omega) (hf 1 _ rfl)
  obtain ⟨b, e2, wb⟩ := fld_int (j := 2) Tryz.underlying3 cells3 (by omega) (hf 2 _ rfl)
  obtain ⟨d, e3, wd⟩ := fld_int (j := 3) Tryz.underlying2 cells2 (by omega) (hf 3 _ rfl)
  obtain ⟨⟨⟨s⟩⟩, e4, q⟩ := fld_str (j := 4) Tryz.underlying9 cells9 (by omega) (hf 4 _ rfl)
  refine ⟨⟨k, a, b, d, s⟩, list5 hl e0 e1 e2 e3 e4, i64_of wa, i64_of wb, i64_of wd, ?_⟩
  have hm : DataW.lit (H := H) (.string s) ∈ xs.map (·.1) := List.mem_map.2 ⟨_, List.mem_of_getElem? q, rfl⟩
  have h1 := bulk_part hm
  have h2 : Rows.uptoBulk (DataW.lit (H := H) (.string s)) = s.length + 1 := rfl
  have h3 : Rows.uptoBulk (DataW.agg (xs.map (·.1))) = Rows.uptoBulkAll (xs.map (·.1)) + 1 := rfl
  show s.length ≤ Rows.uptoBulk (DataW.agg (xs.map (·.1)))
  omega
end
theorem tells_call (s0 : List UInt8) (a1 a2 : Option Addr) (c1 c2 : Nat) (l : List DrawL) (q : List ActL) (at0 : Int) (hs0 : s0.length ≤ 1000000000) (hl0 : l.length ≤ 9223372036854775807) (hq0 : q.length ≤ 9223372036854775807) (hq : ∀ z ∈ q, ActOK z)
    (W : World) (hl : Laid W) (r1 : ∀ (σ : Sg) (w : World) (L : List Assn), Holds σ w (Base W :: L) → Holds σ w (dat [.slice a1 l.length c1] [.sl (l.map DrawL.ds)] :: Base W :: L))
    (r2 : ∀ (σ : Sg) (w : World) (L : List Assn), Holds σ w (Base W :: L) → Holds σ w (dat [.slice a2 q.length c2] [.sl (q.map ActL.ds)] :: Base W :: L)) :
    Calls Tryz.prog 4 #[.string ⟨⟨s0⟩⟩, .slice a1 l.length c1, .int .i64 at0, .slice a2 q.length c2] W fun e W' => e = .returned (.bool true) ∧ Below W.heap.size W W' := by
  have H1 := r2 _ _ _ (holds_base W)
  have H2 := (r1 _ _ _ (H1.perm (.swap _ _ _))).perm (.cons _ (.swap _ _ _))
  refine (tells_spec s0 a1 a2 c1 c2 l q at0 hs0 hl0 hq0 (fun i hi => ?_) (lay_base hl) H2).mono ?_
  · rw [List.getD, List.getElem?_eq_getElem hi]; exact hq _ (List.getElem_mem hi)
  rintro e w' ⟨v, L', rfl, ⟨rfl, rfl⟩, hh⟩
  exact ⟨rfl, base_below hh⟩
theorem tryzLaid : laidOutB Tryz.prog = true := by kernel_rfl
theorem laid_isT : Rows.scriptTellsUptoRow.laid = seatLaid := rfl
def tellsArgs : Array Value := #[.string ⟨#[]⟩, .slice none 0 0, .int .i64 0, .slice none 0 0]
set_option maxRecDepth 100000 in
theorem start_metT (os : Os) (args : Array Value) : laidMetH Tryz.prog Rows.scriptTellsUptoRow.laid ((startW os).forCall (fun _ _ => 0) ⟨#[], args, []⟩).memory :=
  laidMetH_of_parts3 (fuel := 8) (laidMet_of_run' 8 (by kernel_rfl) (by kernel_rfl)) (by kernel_rfl) (by kernel_rfl)
theorem readsT (os : Os) {H : Type} (enc : TypeId × Value → H) : ∃ places, DataW.whole enc Tryz.prog ((startW os).forCall (fun _ _ => 0) ⟨#[], tellsArgs, []⟩).memory Tryz.f4.params.toList Rows.scriptTellsSpec.vars false tellsArgs.toList 8 = some ([.lit (.string []), .nil, .lit (.int .i64 0), .nil], [], places) :=
  ⟨[], by kernel_rfl⟩
set_option maxHeartbeats 4000000 in
set_option maxRecDepth 100000 in
theorem lifted_tells (os : Os) (started : os.Started) (H : Type) (enc : TypeId × Value → H) (F : Stop.Interp) :
    ReturnsInHanded {} Tryz.checked os 4 .any ((Rows.OpenSpec.upto Rows.scriptTellsSpec).preRow enc Tryz.prog Tryz.f4 Rows.scriptTellsUptoRow.domain false Rows.scriptTellsUptoRow.laid) (((Rows.OpenSpec.upto Rows.scriptTellsSpec).at F).post enc Tryz.prog Tryz.f4 false true false false) := by
  obtain ⟨places, hx⟩ := readsT os enc
  refine returnsInHanded_of_row (C := Tryz.checked) (s := Rows.OpenSpec.upto Rows.scriptTellsSpec) seatOwn started (by kernel_rfl) Tryz.func4
    (witness_row_atRef (enc := enc) (C := Tryz.checked) false (startW os) tellsArgs rfl (by kernel_rfl) (by kernel_rfl) (by kernel_rfl)
      (OpenSpec.preRow_of_cond 8 hx (by kernel_rfl) (fun k hk => by cases hk; kernel_rfl) (by kernel_rfl) (start_metT os _))) ?_
  intro W base args ds gs before hval0 hW _ hcond _ hL hsh _
  have hval : ∀ (j : Nat) t v, Tryz.f4.params[j]? = some t → args[j]? = some v → Value.okWide Tryz.prog W .any base t v := hval0
  clear hval0
  have hW' := hW
  obtain ⟨p, q, hA0, hV, rfl, hfz, hnd⟩ := hW
  have hA : DataW.TrodAll enc Tryz.prog W 0 (fun _ => true) true Tryz.f4.params.toList args.toList ds p := hA0
  rw [Tryz.params4] at hA hval
  obtain ⟨v0, vs0, d0, ds0, p0, q0, hargs, rfl, rfl, h0, r0⟩ := trodAll_cons hA
  obtain ⟨v1, vs1, d1, ds1, p1, q1, rfl, rfl, rfl, h1, r1⟩ := trodAll_cons r0
  obtain ⟨v2, vs2, d2, ds2, p2, q2, rfl, rfl, rfl, h2, r2⟩ := trodAll_cons r1
  obtain ⟨v3, vs3, d3, ds3, p3, q3, rfl, rfl, rfl, h3, r3⟩ := trodAll_cons r2
  obtain ⟨rfl, rfl, rfl⟩ := trodAll_nil r3
  obtain rfl : args = #[v0, v1, v2, v3] := by cases args; simp_all
  obtain ⟨rfl, rfl⟩ := trodVars_none hV
  have h1k := h1
  have h3k := h3
  obtain ⟨s, rfl, rfl, rfl, hs⟩ := open_string Tryz.underlying9 (hval 0 9 v0 rfl rfl) h0
  obtain ⟨n, rfl, rfl, rfl, hn⟩ := open_int Tryz.underlying3 (hval 2 3 v2 rfl rfl) h2
  obtain ⟨fu1, g1⟩ := h1
  obtain ⟨fu3, g3⟩ := h3
  obtain ⟨l, a1, c1, e1, m1, b1, _, hr1⟩ := read_slice DrawL.cs DrawL.ds (fun _ _ => True) (fun _ => rfl) (fun _ => rfl) (fun _ => rfl) (fun _ => rfl) (by omega) Tryz.underlying29 cells33 read_draw g1
  obtain ⟨l3, a3, c3, e3, m3, b3, hq3, hr3⟩ := read_slice ActL.cs ActL.ds (fun z y => I64 z.a ∧ I64 z.b ∧ I64 z.n ∧ z.s.length ≤ Rows.uptoBulk y) (fun _ => rfl) (fun _ => rfl) (fun _ => rfl) (fun _ => rfl) (by omega) Tryz.underlying30 cells26 read_act g3
  obtain ⟨b1', n1', k1', rfl⟩ := okWide_slice Tryz.underlying29 (hval 1 29 v1 rfl rfl)
  obtain ⟨b3', n3', k3', rfl⟩ := okWide_slice Tryz.underlying30 (hval 3 30 v3 rfl rfl)
  simp only [Value.cells, List.cons.injEq, Value.slice.injEq, and_true] at e1 e3
  obtain ⟨rfl, rfl, rfl⟩ := e1
  obtain ⟨rfl, rfl, rfl⟩ := e3
  clear hA0
  simp only [List.append_nil, List.nil_append] at hW' hcond
  obtain ⟨⟨s0⟩⟩ := s
  have hb : Rows.uptoBulkAll [DataW.lit (H := H) (.string s0), d1, .lit (.int .i64 n), d3] ≤ 1048576 := of_decide_eq_true (hcond _ rfl)
  have hbs := bulk_part (show DataW.lit (H := H) (.string s0) ∈ [DataW.lit (H := H) (.string s0), d1, .lit (.int .i64 n), d3] by simp)
  have hb3 := bulk_part (show d3 ∈ [DataW.lit (H := H) (.string s0), d1, .lit (.int .i64 n), d3] by simp)
  have hsl : Rows.uptoBulk (DataW.lit (H := H) (.string s0)) = s0.length + 1 := rfl
  have hmx : maxLen ≤ 9223372036854775807 := by decide
  have hok : ∀ z ∈ l3, ActOK z := fun z hz => by
    obtain ⟨y, els, sp, e, hy, qa, qb, qn, qs⟩ := hq3 z hz
    have e' : d3 = .slice els sp := e
    have h1 := bulk_part hy
    have h2 : Rows.uptoBulk (DataW.slice els sp) = Rows.uptoBulkAll els + Rows.uptoBulkAll sp + 1 := rfl
    rw [e'] at hb3 hb
    exact ⟨qa, qb, qn, by omega⟩
  have hlt : ∀ x ∈ p1 ++ p3, x.block < W.heap.size := fun x hx => by simpa using hW'.lt x hx
  refine (tells_call s0 b1' b3' k1' k3' l l3 n (by omega) (by omega) (by omega) hok W (of_laid (laid_isT ▸ hL) hsh) hr1 hr3).mono fun e W' ⟨he, hnx⟩ => ?_
  subst he
  have q1 := Below.trod tryzLaid (by kernel_rfl) (of_decide_eq_true (by kernel_rfl)) h1k hnx fun x hx => hlt x (by simp [hx])
  have q3 := Below.trod tryzLaid (by kernel_rfl) (of_decide_eq_true (by kernel_rfl)) h3k hnx fun x hx => hlt x (by simp [hx])
  refine ⟨_, rfl, _, _, _, [], [] ++ (p1 ++ ([] ++ (p3 ++ []))), [], hW', ?_, ?_, rfl, hnx.frame _, fun h => by cases h⟩
  · exact trodAll_mk1 (shut_bool Tryz.underlying4 _)
  · exact trodAll_cons_mk (shut_string Tryz.underlying9 hs) (trodAll_cons_mk q1 (trodAll_cons_mk (shut_int Tryz.underlying3 hn) (trodAll_cons_mk q3 trodAll_mk0)))
end Go.Proofs.YtompaigbpfekhaaGreatDoor
