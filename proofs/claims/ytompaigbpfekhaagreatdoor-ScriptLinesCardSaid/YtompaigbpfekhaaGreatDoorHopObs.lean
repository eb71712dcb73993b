/- What is proved here: loads, places of elements, slices, and other operations that only read, over what a world holds. -/
import Derived.Test.YtompaigbpfekhaaGreatDoorHopDrawn
namespace Go.Hop

/-- A row of cells. -/
abbrev row (b : Nat) (T : TypeId) (cs : List Value) : Assn := pt b (.cells ⟨cs⟩ T (0, 0))
abbrev rowF (b : Nat) (T : TypeId) (cs : List Value) (lo hi : Nat) : Assn := pt b (.cells ⟨cs⟩ T (lo, hi))

section
variable {P : Program} {tab : Tab} {σ : Sg} {L M : List Assn} {E : Env}

/-- Reckoned, and brought into another form. -/
theorem ob_eq (ht : tab.OK P) {o : Oper} {v u : Value} (h : qv tab E o.op = some u) (e : u = v) : Ob P σ L E o v := by
  subst e
  exact fun w ρ ha _ => qv_run ht ha h

/-- A plain slot is read. -/
theorem ob_load (ht : tab.OK P) {d : Option Tmp} {T ty : TypeId} {x : Operand} {pos : String} {af : Array Edge} {g : Option (Nat × Bool)} {v : Value} {b o : Nat} {T' lo hi : Nat} {cs : List Value} {te : TyE}
    (i : Nat) (hx : ev E x = some (.pointer (some ⟨b, o, none⟩))) (hT : tab.get T = some te) (hagg : TypeDesc.isAggB te.desc = false) (hi' : pickAt L i = some (rowF b T' cs lo hi, M)) (hv : cs[o]? = some v) :
    Ob P σ L E ⟨d, .load T x, ty, pos, af, g⟩ v := by
  intro w ρ ha hh
  have hc := (hh.at_ i hi').cell (i := o) (v := v) (by simpa using hv)
  have t1 := ht.get hT
  simp only [execOp, ha x _ hx, Instr.loadAt, Instr.sureAddr, Sem.run_bind, Sem.run_pure, Result.andThen_ok, loadVar, t1.run_isAgg, hagg]
  simp [load, Sem.run, hc]

theorem loadCellsFrom_run {w : World} {b o : Nat} {cs : List Value} {T' lo hi : Nat} (hh : Holds σ w (rowF b T' cs lo hi :: M)) : ∀ (n i : Nat) (acc : Array Value), o + i + n ≤ cs.length →
    (loadCellsFrom ⟨b, o, none⟩ i n acc).run P w = .ok (acc ++ ((cs.drop (o + i)).take n).toArray) w
  | 0, i, acc, _ => by simp [loadCellsFrom]
  | n + 1, i, acc, h => by
    have hlt : o + i < cs.length := by omega
    have hc : w.cell? ⟨b, o + i, none⟩ = some cs[o + i] := hh.cell (i := o + i) (by simp [hlt])
    have ih := loadCellsFrom_run (o := o) hh n (i + 1) (acc.push cs[o + i]) (by omega)
    rw [loadCellsFrom]
    simp only [addr_add, load, Sem.run_bind, Sem.run, hc, Result.andThen_ok]
    rw [ih]
    congr 1
    rw [List.drop_eq_getElem_cons hlt, List.take_succ_cons, ← Nat.add_assoc]
    simp

theorem loadCells_run {w : World} {b o n : Nat} {cs : List Value} {T' lo hi : Nat} (hh : Holds σ w (rowF b T' cs lo hi :: M)) (h : o + n ≤ cs.length) :
    (loadCells ⟨b, o, none⟩ n).run P w = .ok ((cs.drop o).take n).toArray w := by
  have := loadCellsFrom_run (P := P) (o := o) hh n 0 #[] (by simpa using h)
  simpa [loadCells] using this

/-- The cells from place o on, so many. -/
def cut : List Value → Nat → Nat → Option (List Value)
  | _, 0, 0 => some []
  | c :: cs, 0, n + 1 => match cut cs 0 n with
    | some r => some (c :: r)
    | none => none
  | _ :: cs, o + 1, n => cut cs o n
  | [], _, _ => none
theorem cut_spec : ∀ {cs : List Value} {o n : Nat} {r : List Value}, cut cs o n = some r → o + n ≤ cs.length ∧ r = (cs.drop o).take n
  | cs, 0, 0, r, h => by
    have : r = [] := by cases cs <;> (simp only [cut] at h; cases h; rfl)
    subst this; simp
  | c :: cs, 0, n + 1, r, h => by
    simp only [cut] at h
    split at h
    · rename_i q hq
      cases h
      obtain ⟨h1, h2⟩ := cut_spec hq
      refine ⟨by simp; omega, ?_⟩
      simp only [List.drop_zero, List.take_succ_cons] at h2 ⊢
      rw [h2]
    · cases h
  | c :: cs, o + 1, n, r, h => by
    have h' : cut cs o n = some r := by cases n <;> exact h
    obtain ⟨h1, h2⟩ := cut_spec h'
    exact ⟨by simp; omega, by simpa using h2⟩
  | [], o + 1, n, r, h => by cases n <;> cases h
  | [], 0, n + 1, r, h => by cases h

/-- A struct, or an array, is read whole. -/
theorem ob_loadN (ht : tab.OK P) {d : Option Tmp} {T ty : TypeId} {x : Operand} {pos : String} {af : Array Edge} {g : Option (Nat × Bool)} {r : List Value} {b o : Nat} {T' lo hi : Nat} {cs : List Value} {te : TyE}
    (i : Nat) (hx : ev E x = some (.pointer (some ⟨b, o, none⟩))) (hT : tab.get T = some te) (hagg : TypeDesc.isAggB te.desc = true) (hi' : pickAt L i = some (rowF b T' cs lo hi, M)) (hv : cut cs o te.size = some r) :
    Ob P σ L E ⟨d, .load T x, ty, pos, af, g⟩ (.agg ⟨r⟩) := by
  intro w ρ ha hh
  obtain ⟨h1, rfl⟩ := cut_spec hv
  have t1 := ht.get hT
  have := loadCells_run (P := P) (hh.at_ i hi') h1
  simp only [execOp, ha x _ hx, Instr.loadAt, Instr.sureAddr, Sem.run_bind, Sem.run_pure, Result.andThen_ok, loadVar, t1.run_isAgg, hagg, if_true, t1.run_sizeOf, this]

/-- The place of an element of a slice. -/
theorem ob_indexAddr (ht : tab.OK P) {d : Option Tmp} {T ty : TypeId} {x y : Operand} {pos : String} {af : Array Edge} {g : Option (Nat × Bool)} {b o n c : Nat} {k : IntKind} {i : Int} {el : Nat} {te : TyE} {sz by_ : Nat} {z : List Value} (p : Nat)
    (hx : ev E x = some (.slice (some ⟨b, o, none⟩) n c)) (hy : ev E y = some (.int k i)) (hT : tab.get T = some ⟨.slice el, sz, z, by_⟩) (he : tab.get el = some te)
    (h0 : 0 ≤ i) (h1 : i < n) (hp : o + i.toNat * te.size = p) : Ob P σ L E ⟨d, .indexAddr T x y, ty, pos, af, g⟩ (.pointer (some ⟨b, p, none⟩)) := by
  intro w ρ ha hh
  subst hp
  have t1 := ht.get hT
  have t2 := ht.get he
  simp only [execOp, ha x _ hx, ha y _ hy, Instr.indexAt, asIntOf, Sem.run_bind, Sem.run_pure, Result.andThen_ok, t1.run_underlying]
  rw [if_pos ⟨h0, h1⟩]
  simp [t2.run_sizeOf, addr_add]

/-- The place of an element of an array in memory. -/
theorem ob_indexArr (ht : tab.OK P) {d : Option Tmp} {T ty : TypeId} {x y : Operand} {pos : String} {af : Array Edge} {g : Option (Nat × Bool)} {b o n : Nat} {k : IntKind} {i : Int} {el : Nat} {te : TyE} {sz by_ : Nat} {z : List Value} (p : Nat)
    (hx : ev E x = some (.pointer (some ⟨b, o, none⟩))) (hy : ev E y = some (.int k i)) (hT : tab.get T = some ⟨.array n el, sz, z, by_⟩) (he : tab.get el = some te)
    (h0 : 0 ≤ i) (h1 : i < n) (hp : o + i.toNat * te.size = p) : Ob P σ L E ⟨d, .indexAddr T x y, ty, pos, af, g⟩ (.pointer (some ⟨b, p, none⟩)) := by
  intro w ρ ha hh
  subst hp
  have t1 := ht.get hT
  have t2 := ht.get he
  simp only [execOp, ha x _ hx, ha y _ hy, Instr.indexAt, asIntOf, Sem.run_bind, Sem.run_pure, Result.andThen_ok, t1.run_underlying, Instr.sureAddr]
  rw [if_pos ⟨h0, h1⟩]
  simp [t2.run_sizeOf, addr_add]

/-- A byte of a string. -/
theorem ob_index (ht : tab.OK P) {d : Option Tmp} {T ty : TypeId} {x y : Operand} {pos : String} {af : Array Edge} {g : Option (Nat × Bool)} {s : List UInt8} {k : IntKind} {i : Int} {sz by_ : Nat} {z : List Value} {c : UInt8}
    (hx : ev E x = some (.string ⟨⟨s⟩⟩)) (hy : ev E y = some (.int k i)) (hT : tab.get T = some ⟨.string, sz, z, by_⟩) (h0 : 0 ≤ i) (hc : s[i.toNat]? = some c) :
    Ob P σ L E ⟨d, .index T x y, ty, pos, af, g⟩ (.int .u8 (c.toNat : Int)) := by
  intro w ρ ha hh
  have t1 := ht.get hT
  have hb : (ByteArray.mk ⟨s⟩)[i.toNat]? = some c := by
    have hlt := (List.getElem?_eq_some_iff.1 hc).1
    have hs : (ByteArray.mk ⟨s⟩).size = s.length := rfl
    rw [getElem?_pos (ByteArray.mk ⟨s⟩) i.toNat (by rw [hs]; exact hlt)]
    congr 1
    have := (List.getElem?_eq_some_iff.1 hc).2
    exact this
  simp only [execOp, ha x _ hx, ha y _ hy, Instr.index, asIntOf, Sem.run_bind, Sem.run_pure, Result.andThen_ok, t1.run_underlying, h0, if_true, hb]

/-- A bound of a slice expression. -/
def boundV (E : Env) (x : Option Operand) (d : Int) : Option Int :=
  match x with
  | none => some d
  | some y => match ev E y with
    | some (.int _ i) => some i
    | _ => none
theorem boundV_low {ρ : Operand → Value} (ha : Agr E ρ) {x : Option Operand} {d l : Int} (h : boundV E x d = some l) {w : World} {y : Nat} {code : BoundsCode} (h0 : 0 ≤ l) (h1 : l ≤ y) :
    (match x.map ρ with
      | some v => Instr.sliceBound v y code
      | none => pure d.toNat : Sem Nat).run P w = .ok l.toNat w := by
  unfold boundV at h
  split at h
  · cases h; rfl
  · split at h
    · rename_i y' k i hy
      cases h
      simp [ha _ _ hy, Instr.sliceBound, asIntOf, h0, h1]
    · cases h

theorem extract_list {s : List UInt8} {l h : Nat} : (ByteArray.mk ⟨s⟩).extract l h = ⟨⟨(s.take h).drop l⟩⟩ := by
  apply ByteArray.ext
  rw [ByteArray.data_extract]
  apply Array.ext'
  simp [List.drop_take]

/-- A part of a string. -/
theorem ob_slice_str (ht : tab.OK P) {d : Option Tmp} {T ty : TypeId} {x : Operand} {lo hi : Option Operand} {pos : String} {af : Array Edge} {g : Option (Nat × Bool)} {s r : List UInt8} {l h : Int} {sz by_ : Nat} {z : List Value}
    (hx : ev E x = some (.string ⟨⟨s⟩⟩)) (hT : tab.get T = some ⟨.string, sz, z, by_⟩) (hl : boundV E lo 0 = some l) (hh : boundV E hi s.length = some h) (h0 : 0 ≤ l) (h1 : l ≤ h) (h2 : h ≤ s.length) (hr : (s.take h.toNat).drop l.toNat = r) :
    Ob P σ L E ⟨d, .slice T x lo hi none, ty, pos, af, g⟩ (.string ⟨⟨r⟩⟩) := by
  intro w ρ ha _
  subst hr
  have t1 := ht.get hT
  have hs : (ByteArray.mk ⟨s⟩).size = s.length := rfl
  have b1 := boundV_low (P := P) ha hh (w := w) (y := s.length) (code := .sliceAlen) (by omega) (by omega)
  have b2 := boundV_low (P := P) ha hl (w := w) (y := h.toNat) (code := .sliceB) h0 (by omega)
  have hb : (Instr.sliceBounds false s.length s.length (lo.map ρ) (hi.map ρ) none).run P w = .ok (l.toNat, h.toNat, s.length) w := by
    simp only [Instr.sliceBounds, Sem.run_bind, Sem.run_pure, Result.andThen_ok]
    cases hi with
    | none =>
      simp only [boundV] at hh
      cases hh
      cases lo with
      | none => simp only [boundV] at hl; cases hl; simp
      | some y => simp only [Option.map_some, Option.map_none] at b2 ⊢; simp at b2; simp [b2]
    | some z =>
      cases lo with
      | none => simp only [boundV] at hl; cases hl; simp only [Option.map_some, Option.map_none] at b1 ⊢; simp [b1]
      | some y => simp only [Option.map_some] at b1 b2 ⊢; simp [b1, b2]
  simp only [execOp, ha x _ hx, Option.map_none, Instr.sliceAt, Sem.run_bind, t1.run_underlying, Result.andThen_ok, Instr.slice]
  simp [hs, hb, extract_list]

/-- A part of a slice. -/
theorem ob_slice (ht : tab.OK P) {d : Option Tmp} {T ty : TypeId} {x : Operand} {lo hi mx : Option Operand} {pos : String} {af : Array Edge} {g : Option (Nat × Bool)} {a : Option Addr} {n c : Nat} {l h m : Int} {el : Nat} {te : TyE} {sz by_ : Nat} {z : List Value} {v : Value}
    (hx : ev E x = some (.slice a n c)) (hT : tab.get T = some ⟨.slice el, sz, z, by_⟩) (he : tab.get el = some te) (hl : boundV E lo 0 = some l) (hh : boundV E hi n = some h) (hm : boundV E mx c = some m)
    (hmh : hi = none → mx = none) (h0 : 0 ≤ l) (h1 : l ≤ h) (h2 : h ≤ m) (h3 : m ≤ c)
    (hv : Value.slice (if m.toNat = l.toNat then a else a.map (·.add (l.toNat * te.size))) (h.toNat - l.toNat) (m.toNat - l.toNat) = v) :
    Ob P σ L E ⟨d, .slice T x lo hi mx, ty, pos, af, g⟩ v := by
  intro w ρ ha _
  subst hv
  have t1 := ht.get hT
  have t2 := ht.get he
  have b0 := fun code => boundV_low (P := P) ha hm (w := w) (y := c) (code := code) (by omega) (by omega)
  have b1 := fun code => boundV_low (P := P) ha hh (w := w) (y := m.toNat) (code := code) (by omega) (by omega)
  have b2 := fun code => boundV_low (P := P) ha hl (w := w) (y := h.toNat) (code := code) h0 (by omega)
  have hb : (Instr.sliceBounds true n c (lo.map ρ) (hi.map ρ) (mx.map ρ)).run P w = .ok (l.toNat, h.toNat, m.toNat) w := by
    simp only [Instr.sliceBounds, Sem.run_bind, Sem.run_pure, Result.andThen_ok]
    cases mx with
    | none =>
      simp only [boundV] at hm
      cases hm
      cases hi with
      | none =>
        simp only [boundV] at hh
        cases hh
        cases lo with
        | none => simp only [boundV] at hl; cases hl; simp
        | some y => simp only [Option.map_some, Option.map_none] at b2 ⊢; have := b2 .sliceB; simp at this; simp [this]
      | some z =>
        cases lo with
        | none => simp only [boundV] at hl; cases hl; simp only [Option.map_some, Option.map_none] at b1 ⊢; have := b1 .sliceAcap; simp at this; simp [this]
        | some y => simp only [Option.map_some, Option.map_none] at b1 b2 ⊢; have q1 := b1 .sliceAcap; have q2 := b2 .sliceB; simp at q1 q2; simp [q1, q2]
    | some q =>
      cases hi with
      | none => have := hmh rfl; cases this
      | some z =>
        cases lo with
        | none => simp only [boundV] at hl; cases hl; simp only [Option.map_some, Option.map_none] at b0 b1 ⊢; have q0 := b0 .slice3Acap; have q1 := b1 .slice3B; (try simp at q0 q1); simp [q0, q1]
        | some y => simp only [Option.map_some] at b0 b1 b2 ⊢; have q0 := b0 .slice3Acap; have q1 := b1 .slice3B; have q2 := b2 .slice3C; (try simp at q0 q1 q2); simp [q0, q1, q2]
  simp only [execOp, ha x _ hx, Instr.sliceAt, Sem.run_bind, t1.run_underlying, Result.andThen_ok, Instr.slice, hb, t2.run_sizeOf, Sem.run_pure]
end
end Go.Hop
