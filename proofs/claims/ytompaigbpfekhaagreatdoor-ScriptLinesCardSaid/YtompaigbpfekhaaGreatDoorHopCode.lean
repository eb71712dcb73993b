/- What is proved here: tests, loops, the begin and the end of a function, over what is known of the slots and what a world holds. -/
import Derived.Test.YtompaigbpfekhaaGreatDoorHopApp
namespace Go.Hop
section
variable {P : Program} {tab : Tab} {σ : Sg} {L M : List Assn} {E : Env} {n : Nat} {a : Act} {w : World} {Q : Exit → Act → World → Prop}

theorem code_cond {c : Operand} {x y : Code} {b : Bool} (hk : Knows n E a) (hc : ev E c = some (.bool b)) (ht : b = true → x.wp P Q a w) (hf : b = false → y.wp P Q a w) : (Code.cond c x y).wp P Q a w := by
  cases b with
  | true => exact wp_cond (hk.agr c _ hc) (ht rfl)
  | false => exact wp_cond (hk.agr c _ hc) (hf rfl)

/-- A loop: what holds at each round's head, of some x; a number of x that goes down. -/
theorem code_loop {α : Type} {c : Code} (J : α → Env → List Assn → Prop) (μ : α → Nat) (x0 : α) (hk : Knows n E a) (hh : Holds σ w L) (h0 : J x0 E L)
    (round : ∀ x E L a w, J x E L → Knows n E a → Holds σ w L → c.wp P (Exit.then (fun a' w' => ∃ y E' L', J y E' L' ∧ μ y < μ x ∧ Knows n E' a' ∧ Holds σ w' L') Q) a w) : (Code.loop c).wp P Q a w := by
  intro b k cs
  have key : ∀ (m : Nat) (x : α) (E : Env) (L : List Assn) (a : Act) (w : World), μ x = m → J x E L → Knows n E a → Holds σ w L →
      ∃ e a' w', Q e a' w' ∧ Arrives P (lone (b.at a (.code c :: .inLoop c :: k)) cs w) b k cs e a' w' := by
    intro m
    induction m using Nat.strongRecOn with
    | _ m ih =>
      intro x E L a w hm hJ hK hH
      obtain ⟨e, a₁, w₁, hq, harr⟩ := round x E L a w hJ hK hH b (.inLoop c :: k) cs
      cases e with
      | normal =>
        obtain ⟨y, E', L', hJ', hlt, hK', hH'⟩ := hq
        obtain ⟨e₂, a₂, w₂, hq₂, harr₂⟩ := ih (μ y) (hm ▸ hlt) y E' L' a₁ w₁ rfl hJ' hK' hH'
        exact ⟨e₂, a₂, w₂, hq₂, .of_steps (Steps.trans harr (.one step_inLoop)) harr₂⟩
      | exit id => exact ⟨_, a₁, w₁, hq, .pass (x := .inLoop c) rfl (fun _ _ => .inl (by simp)) harr⟩
      | goto l => exact ⟨_, a₁, w₁, hq, .pass (x := .inLoop c) rfl (fun _ _ => .inl (by simp)) harr⟩
      | ret => exact ⟨_, a₁, w₁, hq, .pass (x := .inLoop c) rfl (fun _ _ => .inl (by simp)) harr⟩
      | panic ch => exact ⟨_, a₁, w₁, hq, .pass (x := .inLoop c) rfl (fun _ _ => .inl (by simp)) harr⟩
      | outgrown => exact ⟨_, a₁, w₁, hq, .pass (x := .inLoop c) rfl (fun _ _ => .inl (by simp)) harr⟩
  obtain ⟨e, a', w', hq, harr⟩ := key _ x0 E L a w rfl h0 hk hh
  exact ⟨e, a', w', hq, .of_steps (.one step_loop) harr⟩

/-- Two pieces, with what holds between them. -/
theorem code_cut {x y : Code} (J : Env → List Assn → Prop) (hx : x.wp P (Exit.then (fun a' w' => ∃ E' L', J E' L' ∧ Knows n E' a' ∧ Holds σ w' L') Q) a w)
    (hy : ∀ E' L' a' w', J E' L' → Knows n E' a' → Holds σ w' L' → y.wp P Q a' w') : (Code.seq x y).wp P Q a w :=
  wp_seq (Code.wp_mono (fun e a' w' h => by
    cases e with
    | normal => obtain ⟨E', L', hJ, hK, hH⟩ := h; exact hy E' L' a' w' hJ hK hH
    | _ => exact h) hx)

/-! the ways out -/
theorem then_ret {K : Act → World → Prop} (h : Q .ret a w) : Exit.then K Q .ret a w := h
theorem then_exit {K : Act → World → Prop} {i : Nat} (h : Q (.exit i) a w) : Exit.then K Q (.exit i) a w := h
theorem then_nm {K : Act → World → Prop} (h : K a w) : Exit.then K Q .normal a w := h
theorem blk_ret {i : Nat} (h : Q .ret a w) : Exit.inBlock i Q .ret a w := h
theorem blk_nm {i : Nat} (h : Q .normal a w) : Exit.inBlock i Q .normal a w := h
theorem blk_out {i : Nat} (h : Q .normal a w) : Exit.inBlock i Q (.exit i) a w := by simpa [Exit.inBlock] using h
theorem blk_exit {i j : Nat} (hne : Nat.beq j i = false) (h : Q (.exit j) a w) : Exit.inBlock i Q (.exit j) a w := by
  have : j ≠ i := fun e => by subst e; rw [Nat.beq_refl] at hne; cases hne
  simpa [Exit.inBlock, this] using h

/-! begin and end -/
def paramsE : Nat → List Value → Env
  | _, [] => []
  | i, v :: vs => (i, v) :: paramsE (i + 1) vs
theorem paramsE_lk : ∀ {vs : List Value} {i k : Nat} {v : Value}, lk (paramsE i vs) k = some v → i ≤ k ∧ vs[k - i]? = some v
  | [], i, k, v, h => by cases h
  | u :: vs, i, k, v, h => by
    simp only [paramsE] at h
    rw [lk_cons] at h
    by_cases e : i = k
    · rw [if_pos e] at h; cases h; subst e; simp
    · rw [if_neg e] at h
      obtain ⟨h1, h2⟩ := paramsE_lk h
      refine ⟨by omega, ?_⟩
      rw [show k - i = (k - (i + 1)) + 1 by omega, List.getElem?_cons_succ]; exact h2

theorem enter {f : FuncId} {fn : Func} {c : Code} {vs : List Value} {R : Ending → World → Prop} (hf : P.funcs[f]? = some fn) (hb : fn.body = some c) (hn : fn.ntmps = n) (hle : Nat.ble vs.length n = true)
    (h : ∀ a, Knows n (paramsE 0 vs) a → c.wp P (bodyPost P fn R) a w) : Calls P f ⟨vs⟩ w R := by
  have hle' : vs.length ≤ n := Nat.le_of_ble_eq_true hle
  refine calls_of_wp hf hb (h _ ⟨rfl, ?_, fun k v hk => ?_⟩)
  · simp [hn]; omega
  · obtain ⟨_, h2⟩ := paramsE_lk hk
    simp only [Nat.sub_zero] at h2
    have hlt := (List.getElem?_eq_some_iff.1 h2).1
    rw [Array.getElem?_append_left (by simpa using hlt)]
    simpa using h2

def retV : List Value → Value
  | [v] => v
  | vs => .tuple ⟨vs⟩
/-- The results, read. -/
inductive Res (P : Program) (w : World) (tmps : Array Value) : List ResultVar → List Value → Prop where
  | nil : Res P w tmps [] []
  | tmp {t : Tmp} {v : Value} {rs : List ResultVar} {vs : List Value} (h : tmps.getD t undef = v) (hr : Res P w tmps rs vs) : Res P w tmps (.tmp t :: rs) (v :: vs)
  | cell {t : Tmp} {T : TypeId} {ad : Addr} {v : Value} {rs : List ResultVar} {vs : List Value} (h : tmps.getD t undef = .pointer (some ad)) (hl : (loadVar T ad).run P w = .ok v w) (hr : Res P w tmps rs vs) : Res P w tmps (.cell t T :: rs) (v :: vs)

theorem Res.run {tmps : Array Value} {rs : List ResultVar} {vs : List Value} (h : Res P w tmps rs vs) :
    (rs.mapM fun (r : ResultVar) => (match r with | .tmp t => pure (tmps.getD t undef) | .cell a t => do loadVar t (← asAddr (tmps.getD a undef)) : Sem Value)).run P w = .ok vs w := by
  induction h with
  | nil => rfl
  | @tmp t v rs vs h hr ih => simp only [List.mapM_cons, Sem.run_bind, Sem.run_pure, Result.andThen_ok, h, ih]
  | @cell t T ad v rs vs h hl hr ih =>
    have e : (asAddr (.pointer (some ad))).run P w = .ok ad w := rfl
    simp only [List.mapM_cons, Sem.run_bind, Sem.run_pure, Result.andThen_ok, h, e, hl, ih]

theorem fin_ret {fn : Func} {R : Ending → World → Prop} {rs : List ResultVar} {vs : List Value} (hk : Knows n E a) (hrs : fn.results = ⟨rs⟩) (h : Res P w a.tmps rs vs) (hR : R (.returned (retV vs)) w) : bodyPost P fn R .ret a w := by
  refine ⟨hk.defers, retV vs, ?_, hR⟩
  have := h.run
  unfold results
  rw [hrs, Array.mapM_eq_mapM_toList]
  simp only [Sem.run_bind, Sem.run_map, Sem.run_pure]
  refine Eq.trans (congrArg (fun r => Result.andThen (Result.andThen r _) _) this) ?_
  simp only [Result.andThen_ok]
  match vs with
  | [] => rfl
  | [v] => rfl
  | v :: u :: vs => rfl
theorem fin_end {fn : Func} {R : Ending → World → Prop} {rs : List ResultVar} {vs : List Value} (hk : Knows n E a) (hrs : fn.results = ⟨rs⟩) (h : Res P w a.tmps rs vs) (hR : R (.returned (retV vs)) w) : bodyPost P fn R .normal a w :=
  fin_ret (n := n) (E := E) hk hrs h hR

theorem res_tmp {rs : List ResultVar} {vs : List Value} {t : Tmp} {v : Value} (hk : Knows n E a) (h : lk E t = some v) (hr : Res P w a.tmps rs vs) : Res P w a.tmps (.tmp t :: rs) (v :: vs) :=
  .tmp (by rw [Array.getD_eq_getD_getElem?, hk.val t v h]; rfl) hr
theorem res_cell1 (ht : tab.OK P) {rs : List ResultVar} {vs : List Value} {t : Tmp} {T b o T' lo hi : Nat} {cs : List Value} {te : TyE} {v : Value} (hk : Knows n E a) (hh : Holds σ w L) (i : Nat) (h : lk E t = some (.pointer (some ⟨b, o, none⟩)))
    (hT : tab.get T = some te) (hagg : TypeDesc.isAggB te.desc = false) (hi' : pickAt L i = some (rowF b T' cs lo hi, M)) (hv : cs[o]? = some v) (hr : Res P w a.tmps rs vs) : Res P w a.tmps (.cell t T :: rs) (v :: vs) := by
  refine .cell (ad := ⟨b, o, none⟩) (by rw [Array.getD_eq_getD_getElem?, hk.val t _ h]; rfl) ?_ hr
  have hc := (hh.at_ i hi').cell (i := o) (v := v) (by simpa using hv)
  simp only [loadVar, Sem.run_bind, (ht.get hT).run_isAgg, Result.andThen_ok, hagg]
  simp [load, Sem.run, hc]
theorem res_cellN (ht : tab.OK P) {rs : List ResultVar} {vs : List Value} {t : Tmp} {T b o T' lo hi : Nat} {cs r : List Value} {te : TyE} (hk : Knows n E a) (hh : Holds σ w L) (i : Nat) (h : lk E t = some (.pointer (some ⟨b, o, none⟩)))
    (hT : tab.get T = some te) (hagg : TypeDesc.isAggB te.desc = true) (hi' : pickAt L i = some (rowF b T' cs lo hi, M)) (hv : cut cs o te.size = some r) (hr : Res P w a.tmps rs vs) : Res P w a.tmps (.cell t T :: rs) (.agg ⟨r⟩ :: vs) := by
  refine .cell (ad := ⟨b, o, none⟩) (by rw [Array.getD_eq_getD_getElem?, hk.val t _ h]; rfl) ?_ hr
  obtain ⟨h1, rfl⟩ := cut_spec hv
  simp only [loadVar, Sem.run_bind, (ht.get hT).run_isAgg, Result.andThen_ok, hagg, if_true, (ht.get hT).run_sizeOf, loadCells_run (P := P) (hh.at_ i hi') h1, Sem.run_pure]
end
end Go.Hop
