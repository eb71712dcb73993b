/- What is proved here: two structs of plain parts, compared. -/
import Derived.Test.YtompaigbpfekhaaGreatDoorHopIter
import Derived.Laws.StructEq
namespace Go.Hop

def partV (tab : Tab) (t : Nat) (cs : List Value) (off : Nat) : Option Value :=
  match tab.get t with
  | some te => match TypeDesc.isAggB te.desc with
    | true => match cut cs off te.size with
      | some r => some (.agg ⟨r⟩)
      | none => none
    | false => cs[off]?
  | none => none
def eqF (tab : Tab) (f : Nat → Value → Value → Option Bool) (xs ys : List Value) : List Field → Option Bool
  | [] => some true
  | fd :: fs => match partV tab fd.type xs fd.offset, partV tab fd.type ys fd.offset with
    | some u, some v => match f fd.type u v, eqF tab f xs ys fs with
      | some a, some b => some (a && b)
      | _, _ => none
    | _, _ => none
def inB : List Nat → Nat → Bool
  | [], _ => false
  | t :: ts, x => cond (Nat.beq x t) true (inB ts x)
def eqT (tab : Tab) (ok : List Nat) : Nat → Nat → Value → Value → Option Bool
  | 0, _, _, _ => none
  | d + 1, t, x, y => match tab.get t, x, y with
    | some ⟨.int _, _, _, _⟩, .int k a, .int k' b => cond (ikEq k k') (some (a == b)) none
    | some ⟨.string, _, _, _⟩, .string ⟨⟨a⟩⟩, .string ⟨⟨b⟩⟩ => some (a == b)
    | some ⟨.bool, _, _, _⟩, .bool a, .bool b => some (a == b)
    | some ⟨.struct ⟨fs⟩, _, _, _⟩, .agg ⟨xs⟩, .agg ⟨ys⟩ => cond (inB ok t) (eqF tab (eqT tab ok d) xs ys fs) none
    | _, _, _ => none

/-- A struct type that may be compared part by part. -/
structure EqOK (P : Program) (t : Nat) : Prop where
  held : P.stoodInHeld t = false
  names : (match P.underlying t with | some (.struct fs) => fs.toList.all (fun f => f.name != "_") | _ => true) = true
  guard : P.eqGuardType P.depth t = false

section
variable {P : Program} {tab : Tab} {ok : List Nat} {σ : Sg} {L M : List Assn} {E : Env}

theorem inB_mem : ∀ {ts : List Nat} {x : Nat}, inB ts x = true → x ∈ ts
  | t :: ts, x, h => by
    simp only [inB] at h
    cases hb : Nat.beq x t with
    | true => rw [Nat.eq_of_beq_eq_true hb]; exact List.mem_cons_self ..
    | false => rw [hb] at h; exact List.mem_cons_of_mem _ (inB_mem h)

theorem partV_run (ht : tab.OK P) {w : World} {t off : Nat} {cs : List Value} {v : Value} (h : partV tab t cs off = some v) : (part t ⟨cs⟩ off).run P w = .ok v w := by
  unfold partV at h
  split at h
  · rename_i te he
    have t1 := ht.get he
    split at h
    · rename_i hagg
      split at h
      · rename_i r hr
        cases h
        obtain ⟨h1, rfl⟩ := cut_spec hr
        simp only [part, Sem.run_bind, t1.run_isAgg, Result.andThen_ok, hagg, if_true, t1.run_sizeOf, Sem.run_pure]
        congr 2
        simp [List.extract_eq_take_drop]
      · cases h
    · rename_i hagg
      simp only [part, Sem.run_bind, t1.run_isAgg, Result.andThen_ok, hagg, Bool.false_eq_true, if_false]
      simp [h]
  · cases h

theorem eqF_run (ht : tab.OK P) {w : World} {f : Nat → Value → Value → Option Bool} {m : Nat} (hf : ∀ t u v r, f t u v = some r → (Op.equalIn m t u v).run P w = .ok r w) {xs ys : List Value} :
    ∀ {fs : List Field} {r : Bool}, fs.all (fun f => f.name != "_") = true → eqF tab f xs ys fs = some r → (Op.eqFields m ⟨xs⟩ ⟨ys⟩ fs).run P w = .ok r w
  | [], r, _, h => by cases h; rfl
  | fd :: fs, r, hn, h => by
    simp only [eqF] at h
    split at h
    · rename_i u v hu hv
      split at h
      · rename_i a b ha hb
        cases h
        simp only [List.all_cons, Bool.and_eq_true] at hn
        have ih := eqF_run ht hf hn.2 hb
        have hne : fd.name ≠ "_" := by simpa using hn.1
        simp only [Op.eqFields, Sem.run_bind, Sem.run_ite]
        rw [if_pos hne]
        simp only [partV_run ht hu, partV_run ht hv, Result.andThen_ok, hf _ _ _ _ ha]
        cases a
        · simp [Sem.run_pure]
        · simp [ih]
      · cases h
    · cases h

theorem eqT_run (ht : tab.OK P) (hok : ∀ t ∈ ok, EqOK P t) {w : World} : ∀ {d m t : Nat} {x y : Value} {r : Bool}, d ≤ m → eqT tab ok d t x y = some r → (Op.equalIn m t x y).run P w = .ok r w
  | 0, _, _, _, _, _, _, h => by cases h
  | d + 1, m, t, x, y, r, hm, h => by
    obtain ⟨n, rfl⟩ : ∃ n, m = n + 1 := ⟨m - 1, by omega⟩
    simp only [eqT] at h
    split at h
    · rename_i k0 _ _ _ k a k' b hT
      cases hk : ikEq k k' with
      | false => rw [hk] at h; cases h
      | true =>
        rw [hk] at h; cases h
        have := ikEq_eq hk
        subst this
        simp [Op.equalIn, (ht.get hT).run_underlying]
    · rename_i hT
      cases h
      simp only [Op.equalIn, Sem.run_bind, (ht.get hT).run_underlying, Result.andThen_ok, Sem.run_pure]
      rw [beq_toListBytes, bytes_toList, bytes_toList]
    · rename_i hT
      cases h
      simp [Op.equalIn, (ht.get hT).run_underlying]
    · rename_i fs _ _ _ xs ys hT
      cases hb : inB ok t with
      | false => rw [hb] at h; cases h
      | true =>
        rw [hb] at h
        have ho := hok t (inB_mem hb)
        have hu : P.underlying t = some (.struct ⟨fs⟩) := (ht.get hT).desc
        have hfs : P.fieldsOf t = ⟨fs⟩ := by simp [Program.fieldsOf, hu]
        have hn := ho.names
        rw [hu] at hn
        rw [run_equalIn_struct w n t ⟨xs⟩ ⟨ys⟩ (by rw [hfs]; exact hu) ho.held, hfs]
        exact eqF_run ht (fun t u v r hr => eqT_run ht hok (by omega) hr) hn h
    · cases h

theorem ob_eqS (ht : tab.OK P) (hok : ∀ t ∈ ok, EqOK P t) {d : Option Tmp} {T T' ty : TypeId} {x y : Operand} {pos : String} {af : Array Edge} {g : Option (Nat × Bool)} {xs ys : List Value} {r : Bool}
    (hx : ev E x = some (.agg ⟨xs⟩)) (hy : ev E y = some (.agg ⟨ys⟩)) (hin : inB ok T = true) (hr : eqT tab ok 9 T (.agg ⟨xs⟩) (.agg ⟨ys⟩) = some r) : Ob P σ L E ⟨d, .binOp .eql T x y T', ty, pos, af, g⟩ (.bool r) := by
  intro w ρ ha _
  have ho := hok T (inB_mem hin)
  have he : (Op.equal T (.agg ⟨xs⟩) (.agg ⟨ys⟩)).run P w = .ok r w := eqT_run ht hok (by unfold Op.maxDepth; omega) hr
  have hg : (eqGuard .eql T x y (.agg ⟨xs⟩) (.agg ⟨ys⟩)).run P w = .ok () w := by
    simp [eqGuard, run_program, ho.guard]
  simp only [execOp, ha x _ hx, ha y _ hy, Sem.run_bind, hg, Result.andThen_ok, binOp, he, Sem.run_pure]
theorem ob_neS (ht : tab.OK P) (hok : ∀ t ∈ ok, EqOK P t) {d : Option Tmp} {T T' ty : TypeId} {x y : Operand} {pos : String} {af : Array Edge} {g : Option (Nat × Bool)} {xs ys : List Value} {r : Bool}
    (hx : ev E x = some (.agg ⟨xs⟩)) (hy : ev E y = some (.agg ⟨ys⟩)) (hin : inB ok T = true) (hr : eqT tab ok 9 T (.agg ⟨xs⟩) (.agg ⟨ys⟩) = some r) : Ob P σ L E ⟨d, .binOp .neq T x y T', ty, pos, af, g⟩ (.bool (!r)) := by
  intro w ρ ha _
  have ho := hok T (inB_mem hin)
  have he : (Op.equal T (.agg ⟨xs⟩) (.agg ⟨ys⟩)).run P w = .ok r w := eqT_run ht hok (by unfold Op.maxDepth; omega) hr
  have hg : (eqGuard .neq T x y (.agg ⟨xs⟩) (.agg ⟨ys⟩)).run P w = .ok () w := by
    simp [eqGuard, run_program, ho.guard]
  simp only [execOp, ha x _ hx, ha y _ hy, Sem.run_bind, hg, Result.andThen_ok, binOp, he, Sem.run_pure]
theorem ob_conv {o : Oper} {u v : Value} (h : Ob P σ L E o u) (e : u = v) : Ob P σ L E o v := e ▸ h
/-- An error, or none. -/
def ErrIs (er : Value) (b : Bool) : Prop := (er = .nilIface ∧ b = true) ∨ ((∃ T x, er = .iface T x) ∧ b = false)
theorem ob_errnil (ht : tab.OK P) {d : Option Tmp} {T T' ty : TypeId} {x : Operand} {pos : String} {af : Array Edge} {g : Option (Nat × Bool)} {er : Value} {b : Bool} {ms : Array (String × TypeId)} {sz by_ : Nat} {z : List Value}
    (hx : ev E x = some er) (hT : tab.get T = some ⟨.interface ms, sz, z, by_⟩) (he : ErrIs er b) : Ob P σ L E ⟨d, .binOp .eql T x (.const .nilIface) T', ty, pos, af, g⟩ (.bool b) := by
  intro w ρ ha _
  have t1 := ht.get hT
  have hc : ρ (.const .nilIface) = .nilIface := ha _ _ rfl
  rcases he with ⟨rfl, rfl⟩ | ⟨⟨T2, v, rfl⟩, rfl⟩
  · have hg : (eqGuard .eql T x (.const .nilIface) .nilIface .nilIface).run P w = .ok () w := by simp [eqGuard, Sem.run_pure]
    have he : (Op.equal T .nilIface .nilIface).run P w = .ok true w := by
      show (Op.equalIn (9999 + 1) T .nilIface .nilIface).run P w = _
      generalize 9999 = m
      simp only [Op.equalIn, Sem.run_bind, t1.run_underlying, Result.andThen_ok, Sem.run_pure]
    simp only [execOp, ha x _ hx, hc, Sem.run_bind, hg, Result.andThen_ok, binOp, he, Sem.run_pure]
  · have hg : (eqGuard .eql T x (.const .nilIface) (.iface T2 v) .nilIface).run P w = .ok () w := by simp [eqGuard, Sem.run_pure]
    have he : (Op.equal T (.iface T2 v) .nilIface).run P w = .ok false w := by
      show (Op.equalIn (9999 + 1) T (.iface T2 v) .nilIface).run P w = _
      generalize 9999 = m
      simp only [Op.equalIn, Sem.run_bind, t1.run_underlying, Result.andThen_ok, Sem.run_pure]
    simp only [execOp, ha x _ hx, hc, Sem.run_bind, hg, Result.andThen_ok, binOp, he, Sem.run_pure]
end
end Go.Hop
