/- What is proved here: stores, new blocks, appends, calls, and other effects, over what a world holds. -/
import Derived.Test.YtompaigbpfekhaaGreatDoorHopObs
namespace Go.Hop

/-- The value of one cell. -/
def oneB : Value → Bool
  | .agg _ => false
  | .tuple _ => false
  | _ => true
def allOne : List Value → Bool
  | [] => true
  | v :: vs => match oneB v with
    | true => allOne vs
    | false => false

section
variable {P : Program} {tab : Tab} {σ : Sg} {L M : List Assn} {E : Env}

theorem store_run {w : World} {b o : Nat} {v old : Value} {cs : List Value} {T lo hi : Nat} (hh : Holds σ w (rowF b T cs lo hi :: M)) (hv : oneB v = true) (ho : cs[o]? = some old) (hf : o < lo ∨ hi ≤ o) :
    (store ⟨b, o, none⟩ v).run P w = .ok () (w.setCell ⟨b, o, none⟩ v) ∧ Holds σ (w.setCell ⟨b, o, none⟩ v) (rowF b T (cs.set o v) lo hi :: M) := by
  have hc : w.cell? ⟨b, o, none⟩ = some old := hh.cell (i := o) (by simpa using ho)
  have hz : w.frozen? ⟨b, o, none⟩ = false := hh.frozen hf
  refine ⟨?_, ?_⟩
  · have : v.oneCell' = true := by cases v <;> first | rfl | cases hv
    rw [run_store _ _ _ _ _ this]
    simp [hc, hz]
  · have := hh.setCell o v
    simpa using this

theorem storeCells_run : ∀ {vs : List Value} {w : World} {b o i : Nat} {cs r : List Value} {T lo hi : Nat}, Holds σ w (rowF b T cs lo hi :: M) → allOne vs = true → layAt cs (o + i) vs = some r →
    (o + i + vs.length ≤ lo ∨ hi ≤ o + i) → ∃ w', (storeCells ⟨b, o, none⟩ vs i).run P w = .ok () w' ∧ Holds σ w' (rowF b T r lo hi :: M)
  | [], w, b, o, i, cs, r, T, lo, hi, hh, _, hl, _ => by
    obtain ⟨_, h2, h3⟩ := layAt_len hl
    have : r = cs := by
      apply List.ext_getElem?
      intro j
      rw [h3 j, if_neg (by simp only [List.length_nil]; omega)]
    subst this
    exact ⟨w, rfl, hh⟩
  | v :: vs, w, b, o, i, cs, r, T, lo, hi, hh, ha, hl, hf => by
    have hv : oneB v = true := by
      simp only [allOne] at ha
      split at ha
      · assumption
      · cases ha
    have hvs : allOne vs = true := by
      simp only [allOne] at ha
      split at ha
      · exact ha
      · cases ha
    obtain ⟨h1, h2, h3⟩ := layAt_len hl
    simp only [List.length_cons] at h1 hf h3
    have hlt : o + i < cs.length := by omega
    obtain ⟨s1, s2⟩ := store_run (P := P) (o := o + i) hh hv (old := cs[o + i]) (by simp [hlt]) (by omega)
    have hl' : layAt (cs.set (o + i) v) (o + (i + 1)) vs = some r := by
      have key : ∀ (cs r : List Value) (j : Nat), layAt cs j (v :: vs) = some r → layAt (cs.set j v) (j + 1) vs = some r := by
        intro cs
        induction cs with
        | nil => intro r j h; cases j <;> cases h
        | cons c cs ih =>
          intro r j h
          cases j with
          | zero =>
            simp only [layAt] at h
            split at h
            · rename_i q hq
              cases h
              simp only [List.set_cons_zero, layAt, hq]
            · cases h
          | succ j =>
            simp only [layAt] at h
            split at h
            · rename_i q hq
              cases h
              have := ih q j hq
              simp only [List.set_cons_succ, layAt, this]
            · cases h
      exact key cs r (o + i) hl
    obtain ⟨w', r1, r2⟩ := storeCells_run s2 hvs hl' (by omega)
    refine ⟨w', ?_, r2⟩
    rw [storeCells]
    simp only [addr_add, Sem.run_bind, s1, Result.andThen_ok, r1]

/-- A store. -/
theorem eff_store (ht : tab.OK P) {d : Option Tmp} {T ty : TypeId} {x y : Operand} {pos : String} {af : Array Edge} {g : Option (Nat × Bool)} {v : Value} {b o : Nat} {T' lo hi : Nat} {cs r : List Value} {te : TyE}
    (i : Nat) (hx : ev E x = some (.pointer (some ⟨b, o, none⟩))) (hy : ev E y = some v) (hT : tab.get T = some te) (hi' : pickAt L i = some (rowF b T' cs lo hi, M)) (hsz : v.cells.toList.length = te.size)
    (hone : allOne v.cells.toList = true) (hl : layAt cs o v.cells.toList = some r) (hf : o + te.size ≤ lo ∨ hi ≤ o) :
    Eff P σ E ⟨d, .store T x y, ty, pos, af, g⟩ L fun u L' => u = undef ∧ L' = rowF b T' r lo hi :: M := by
  intro w ρ a K Q ha hh hk
  have t1 := ht.get hT
  obtain ⟨w', r1, r2⟩ := storeCells_run (P := P) (o := o) (i := 0) (hh.at_ i hi') hone (by simpa using hl) (by rw [hsz]; simpa using hf)
  have hrun : (Instr.storeAt T (ρ x) (ρ y)).run P w = .ok () w' := by
    simp only [ha x _ hx, ha y _ hy, Instr.storeAt, Instr.sureAddr, Sem.run_bind, Sem.run_pure, Result.andThen_ok, storeVar, t1.run_sizeOf]
    rw [if_neg (by simpa using hsz)]
    exact r1
  simp only [execOp, Sem.run_bind, hrun, Result.andThen_ok, Sem.run_pure]
  exact hk undef w' _ ⟨rfl, rfl⟩ r2

/-- A new variable, zero. -/
theorem eff_alloc (ht : tab.OK P) {d : Option Tmp} {T ty : TypeId} {pos : String} {af : Array Edge} {g : Option (Nat × Bool)} {te : TyE} (hT : tab.get T = some te) :
    Eff P σ E ⟨d, .alloc T, ty, pos, af, g⟩ L fun u L' => ∃ b, u = .pointer (some ⟨b, 0, none⟩) ∧ L' = row b T te.zero :: L := by
  intro w ρ a K Q ha hh hk
  have t1 := ht.get hT
  obtain ⟨z, hz, hzc⟩ := t1.run_zeroValue (w := w)
  have hrun : (Instr.alloc T true (.tuple #[])).run P w = .ok (.pointer (some ⟨w.heap.size, 0, none⟩)) (w.alloc (.cells z.cells T)) := by
    simp [Instr.alloc, hz, newVar, newRow, newObj, Sem.run]
  simp only [execOp, Sem.run_bind, hrun, Result.andThen_ok, Sem.run_pure]
  refine hk _ _ _ ⟨w.heap.size, rfl, rfl⟩ ?_
  have := hh.alloc (.cells z.cells T)
  have e : z.cells = ⟨te.zero⟩ := by rw [← hzc]
  rw [e] at this ⊢
  exact this

/-- A parameter is boxed. -/
theorem eff_box {d : Option Tmp} {T ty : TypeId} {x : Operand} {pos : String} {af : Array Edge} {g : Option (Nat × Bool)} {v : Value} {cs : List Value} (hx : ev E x = some v) (hc : v.cells.toList = cs) :
    Eff P σ E ⟨d, .box T x, ty, pos, af, g⟩ L fun u L' => ∃ b, u = .pointer (some ⟨b, 0, none⟩) ∧ L' = row b T cs :: L := by
  intro w ρ a K Q ha hh hk
  have hrun : (Instr.box T (ρ x)).run P w = .ok (.pointer (some ⟨w.heap.size, 0, none⟩)) (w.alloc (.cells v.cells T)) := by
    simp [ha x _ hx, Instr.box, newVar, newRow, newObj, Sem.run]
  simp only [execOp, Sem.run_bind, hrun, Result.andThen_ok, Sem.run_pure]
  refine hk _ _ _ ⟨w.heap.size, rfl, rfl⟩ ?_
  have := hh.alloc (.cells v.cells T)
  have e : v.cells = ⟨cs⟩ := by rw [← hc]
  rw [e] at this ⊢
  exact this

/-- The cells of a slice literal. -/
def litV (E : Env) (k : Nat) : List (Nat × Operand) → List Value → Option (List Value)
  | [], cs => some cs
  | (i, x) :: ps, cs => match ev E x with
    | some v => match Nat.beq k v.cells.toList.length with
      | true => match layAt cs (i * k) v.cells.toList with
        | some r => litV E k ps r
        | none => none
      | false => none
    | none => none
def reps (z : List Value) : Nat → List Value
  | 0 => []
  | n + 1 => z ++ reps z n

theorem litV_fill {ρ : Operand → Value} (ha : Agr E ρ) {k : Nat} : ∀ {ps : List (Nat × Operand)} {cs r : List Value}, litV E k ps cs = some r →
    Instr.fill (fun i => some (i * k, k)) ⟨cs⟩ (ps.map fun p => (p.1, ρ p.2)) = some ⟨r⟩
  | [], cs, r, h => by cases h; rfl
  | (i, x) :: ps, cs, r, h => by
    simp only [litV] at h
    split at h
    · rename_i v hx
      split at h
      · rename_i hb
        split at h
        · rename_i q hq
          have hs : v.cells.size = k := by have := Nat.eq_of_beq_eq_true hb; simpa using this.symm
          have hl := (layAt_len hq).1
          rw [List.map_cons, Instr.fill]
          simp only [ha x v hx]
          rw [if_neg (by simp [hs]; simp at hl; omega), fill_lay hq]
          exact litV_fill ha h
        · cases h
      · cases h
    · cases h

theorem reps_get {z : List Value} : ∀ {n j : Nat}, j < n * z.length → (reps z n)[j]? = z[j % z.length]?
  | 0, j, h => by simp at h
  | n + 1, j, h => by
    have hz : 0 < z.length := by
      rcases Nat.eq_zero_or_pos z.length with e | e
      · rw [e] at h; simp at h
      · exact e
    simp only [reps]
    by_cases hj : j < z.length
    · rw [List.getElem?_append_left hj, Nat.mod_eq_of_lt hj]
    · rw [List.getElem?_append_right (by omega), reps_get (n := n) (by rw [Nat.succ_mul] at h; omega), ← Nat.mod_eq_sub_mod (by omega)]
theorem reps_length {z : List Value} : ∀ {n : Nat}, (reps z n).length = n * z.length
  | 0 => by simp [reps]
  | n + 1 => by simp only [reps, List.length_append, reps_length, Nat.succ_mul]; omega

theorem zeros_eq {z : List Value} {n : Nat} : (Array.range (n * z.length)).map (fun i => (⟨z⟩ : Array Value)[i % (⟨z⟩ : Array Value).size]!) = ⟨reps z n⟩ := by
  apply Array.ext_getElem?
  intro j
  by_cases h : j < n * z.length
  · have hz : 0 < z.length := by
      rcases Nat.eq_zero_or_pos z.length with e | e
      · rw [e] at h; simp at h
      · exact e
    have hm : j % z.length < z.length := Nat.mod_lt _ hz
    have e := reps_get (z := z) h
    simp only [List.getElem?_toArray, e]
    simp [h, hm]
  · rw [Array.getElem?_eq_none (by simp; omega)]
    simp only [List.getElem?_toArray]
    rw [List.getElem?_eq_none (by rw [reps_length]; omega)]

/-- A slice literal. -/
theorem eff_lit (ht : tab.OK P) {d : Option Tmp} {T ty : TypeId} {n : Nat} {ps : Array (Nat × Operand)} {pos : String} {af : Array Edge} {g : Option (Nat × Bool)} {el : Nat} {te : TyE} {sz by_ : Nat} {z : List Value} {cs : List Value}
    (hT : tab.get T = some ⟨.slice el, sz, z, by_⟩) (he : tab.get el = some te) (hz : te.zero.length = te.size) (hn : n * te.size ≤ 2 ^ 24) (hcs : litV E te.size ps.toList (reps te.zero n) = some cs) :
    Eff P σ E ⟨d, .buildSlice T n ps, ty, pos, af, g⟩ L fun u L' => ∃ b, u = .slice (some ⟨b, 0, none⟩) n n ∧ L' = row b el cs :: L := by
  intro w ρ a K Q ha hh hk
  have t1 := ht.get hT
  have t2 := ht.get he
  obtain ⟨zv, hzv, hzc⟩ := t2.run_zeroValue (w := w)
  have e : zv.cells = ⟨te.zero⟩ := by rw [← hzc]
  have hps : (ps.map fun (i, x) => (i, ρ x)).toList = ps.toList.map fun p => (p.1, ρ p.2) := by rw [Array.toList_map]
  have hfill := litV_fill ha hcs
  have hrun : (Instr.buildSlice T n (ps.map fun (i, x) => (i, ρ x))).run P w = .ok (.slice (some ⟨w.heap.size, 0, none⟩) n n) (w.alloc (.cells ⟨cs⟩ el)) := by
    simp only [Instr.buildSlice, Sem.run_bind, t1.run_underlying, Result.andThen_ok, t2.run_sizeOf]
    rw [if_neg (by omega)]
    by_cases h0 : n * te.size = 0
    · have hr : reps te.zero n = [] := List.eq_nil_of_length_eq_zero (by rw [reps_length, hz]; exact h0)
      rw [hr] at hfill
      have h00 : ∀ f : Nat → Value, (Array.range (n * te.size)).map f = ⟨[]⟩ := by intro f; rw [h0]; simp
      rw [if_pos h0]
      simp only [Sem.run_pure, Result.andThen_ok, h00, hps, hfill]
      simp [newRow, newObj, Sem.run]
    · rw [if_neg h0]
      have hzz : (Array.range (n * te.size)).map (fun i => zv.cells[i % zv.cells.size]!) = ⟨reps te.zero n⟩ := by rw [e, ← hz]; exact zeros_eq
      simp only [Sem.run_bind, hzv, Result.andThen_ok, Sem.run_pure, hps, hzz, hfill]
      simp [newRow, newObj, Sem.run]
  simp only [execOp, Sem.run_bind, hrun, Result.andThen_ok, Sem.run_pure]
  exact hk _ _ _ ⟨w.heap.size, rfl, rfl⟩ (hh.alloc (.cells ⟨cs⟩ el))

/-- A call of a function that has a text: by its contract, over some of what is held; the rest stays. -/
theorem eff_call {d : Option Tmp} {c : Call} {ty : TypeId} {pos : String} {af : Array Edge} {g : Option (Nat × Bool)} {f : FuncId} {fn : Func} {vs : List Value} {post : Value → List Assn → Prop}
    (hf : P.funcs[f]? = some fn) (hb : fn.body.isNone = false) (hng : (fn.name == "runtime.NumGoroutine") = false) (hc : c.callee = .value (.func f)) (hvs : evs E c.args.toList = some vs)
    (hspec : ∀ w, Holds σ w L → Calls P f ⟨vs⟩ w fun e w' => ∃ v L', e = .returned v ∧ post v L' ∧ Holds σ w' L') :
    Eff P σ E ⟨d, .call c, ty, pos, af, g⟩ L post := by
  intro w ρ a K Q ha hh hk
  have hargs : c.args.map ρ = ⟨vs⟩ := by rw [← evs_map ha hvs, ← Array.toList_map]
  have hrun : (execOp ρ ⟨d, .call c, ty, pos, af, g⟩).run P w = .ok (.enter f ⟨vs⟩) w := by
    simp only [execOp, resolve, hc, hargs, Sem.run_bind, ha (.func f) _ rfl, Deferred.ofValue, Sem.run_pure, Result.andThen_ok, invoke, callFunc, run_program, hf]
    simp [hng, hb]
  rw [hrun]
  show Calls P f ⟨vs⟩ w _
  refine (hspec w hh).mono ?_
  rintro e w' ⟨v, L', rfl, hp, hh'⟩
  exact hk v w' L' hp hh'
end
end Go.Hop
