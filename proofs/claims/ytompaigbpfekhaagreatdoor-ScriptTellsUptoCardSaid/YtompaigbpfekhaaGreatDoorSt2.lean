/- What is proved here: append, over a slice that grows in memory of its own. -/
import Derived.Test.YtompaigbpfekhaaGreatDoorSt1
import Derived.Laws.StructEq
import Derived.Lib.Split
import Derived.Lib.CountLaws
import Derived.Lib.IndexBytes
import Derived.Lib.ParseIntBTie
import Derived.Lib.ParseIntBCases
import Derived.Lib.ItoaLen
import Derived.Lib.SplitLaws
namespace Go.Hop

def empA : Assn := fun h => h = Hp.emp
theorem holds_emp {σ : Sg} {w : World} {L : List Assn} : Holds σ w (empA :: L) ↔ Holds σ w L := by
  constructor
  · exact fun H => H.drop
  · intro H
    obtain ⟨h, s, k⟩ := H.heap
    exact ⟨H.os, H.output, H.tape, h, ⟨Hp.emp, h, rfl, s, Hp.emp_sep h, rfl⟩, k⟩

/-- A slice that owns its row: n elements of k cells, 'cs' their cells; behind them what room there is. -/
def Own (T k : Nat) (v : Value) (n : Nat) (cs : List Value) : Assn :=
  exA fun p : Option (Nat × Nat × List Value) => match p with
    | none => andA (v = .slice none 0 0 ∧ n = 0 ∧ cs = []) empA
    | some (b, cap, sp) => andA (v = .slice (some ⟨b, 0, none⟩) n cap ∧ n ≤ cap ∧ cs.length = n * k ∧ sp.length = (cap - n) * k) (row b T (cs ++ sp))

theorem own_open {σ : Sg} {w : World} {L : List Assn} {T k n : Nat} {v : Value} {cs : List Value} : Holds σ w (Own T k v n cs :: L) ↔
    (v = .slice none 0 0 ∧ n = 0 ∧ cs = [] ∧ Holds σ w L) ∨ (∃ b cap sp, v = .slice (some ⟨b, 0, none⟩) n cap ∧ n ≤ cap ∧ cs.length = n * k ∧ sp.length = (cap - n) * k ∧ Holds σ w (row b T (cs ++ sp) :: L)) := by
  unfold Own
  rw [Holds.ex]
  constructor
  · rintro ⟨p, H⟩
    rcases p with _ | ⟨b, cap, sp⟩
    · obtain ⟨⟨h1, h2, h3⟩, H⟩ := Holds.and_.1 H
      exact .inl ⟨h1, h2, h3, holds_emp.1 H⟩
    · obtain ⟨⟨h1, h2, h3, h4⟩, H⟩ := Holds.and_.1 H
      exact .inr ⟨b, cap, sp, h1, h2, h3, h4, H⟩
  · rintro (⟨h1, h2, h3, H⟩ | ⟨b, cap, sp, h1, h2, h3, h4, H⟩)
    · exact ⟨none, Holds.and_.2 ⟨⟨h1, h2, h3⟩, holds_emp.2 H⟩⟩
    · exact ⟨some (b, cap, sp), Holds.and_.2 ⟨⟨h1, h2, h3, h4⟩, H⟩⟩

theorem own_nil {σ : Sg} {w : World} {L : List Assn} (T k : Nat) (H : Holds σ w L) : Holds σ w (Own T k (.slice none 0 0) 0 [] :: L) := own_open.2 (.inl ⟨rfl, rfl, rfl, H⟩)

theorem growBy_le {need : Nat} : ∀ {r c : Nat}, c ≤ need → 256 ≤ c → Builtin.growBy need r c ≤ 2 * need
  | 0, c, h, _ => by simp only [Builtin.growBy]; omega
  | r + 1, c, h, hc => by
    simp only [Builtin.growBy]
    split
    · omega
    · by_cases h2 : c + (c + 768) / 4 ≤ need
      · exact growBy_le h2 (by omega)
      · cases r with
        | zero => simp only [Builtin.growBy]; omega
        | succ r => simp only [Builtin.growBy]; rw [if_pos (by omega)]; omega
theorem nextcap_le {need cap : Nat} (h : cap < need) : Builtin.nextslicecap need cap ≤ 2 * need := by
  unfold Builtin.nextslicecap
  split
  · omega
  · split
    · omega
    · exact growBy_le (by omega) (by omega)

theorem layAt_append {a b c d : List Value} (h : b.length = c.length) : layAt (a ++ (b ++ d)) a.length c = some (a ++ (c ++ d)) := by
  induction a with
  | nil =>
    simp only [List.nil_append, List.length_nil]
    induction c generalizing b with
    | nil =>
      have : b = [] := List.eq_nil_of_length_eq_zero h
      subst this
      cases d <;> rfl
    | cons x c ih =>
      cases b with
      | nil => simp at h
      | cons y b =>
        simp only [List.cons_append, layAt]
        rw [ih (by simpa using h)]
  | cons x a ih =>
    simp only [List.cons_append, List.length_cons, layAt, ih]

section
variable {P : Program} {tab : Tab} {σ : Sg} {L M : List Assn} {E : Env}

theorem drop_take_self {cs sp : List Value} {k : Nat} (h : cs.length = k) : ((cs ++ sp).drop 0).take k = cs := by
  subst h; simp

theorem zeroCells_eq {z : List Value} {n : Nat} : Builtin.zeroCells ⟨z⟩ n = ⟨reps z n⟩ := zeros_eq

theorem own_first {w : World} {T k n : Nat} {v : Value} {cs : List Value} (hh : Holds σ w (Own T k v n cs :: M)) : (Builtin.firstCells k n v).run P w = .ok ⟨cs⟩ w := by
  rcases own_open.1 hh with ⟨rfl, rfl, rfl, H⟩ | ⟨b, cap, sp, rfl, h1, h2, h3, H⟩
  · rfl
  · have := loadCells_run (P := P) (o := 0) (n := n * k) H (by rw [List.length_append]; omega)
    simp only [Builtin.firstCells]
    rw [this, drop_take_self h2]

theorem append_run (ht : tab.OK P) {w : World} {tys : Array TypeId} {S S2 T' el : Nat} {te t2e : TyE} {sz by_ : Nat} {z : List Value} {v y : Value} {n m : Nat} {cs ys : List Value}
    (hS : tys[0]? = some S) (hT : tab.get S = some ⟨.slice el, sz, z, by_⟩) (he : tab.get el = some te) (hz : te.zero.length = te.size)
    (hS2 : tys[1]? = some S2) (hT2 : tab.get S2 = some t2e) (hni : (∃ e2, t2e.desc = .slice e2) ∨ t2e.desc = .string)
    (hlen : ∀ w, (Builtin.lenOf y).run P w = .ok m w) (hsrc : ∀ w, Holds σ w (Own el te.size v n cs :: M) → (Builtin.firstCells te.size m y).run P w = .ok ⟨ys⟩ w) (hone : allOne ys = true) (hys : ys.length = m * te.size)
    (hmax : (n + m) * te.bytes ≤ 2 ^ 47) (hb : 0 < te.bytes)
    (hh : Holds σ w (Own el te.size v n cs :: M)) :
    ∃ u w', (Builtin.append_ tys T' #[v, y]).run P w = .ok u w' ∧ Holds σ w' (Own el te.size u (n + m) (cs ++ ys) :: M) := by
  have t1 := ht.get hT
  have t2 := ht.get he
  have t3 := ht.get hT2
  have hnle : n + m ≤ 2 ^ 47 := Nat.le_trans (Nat.le_mul_of_pos_right _ hb) hmax
  obtain ⟨i, hi, _, hi2, _⟩ := t2.run_typeInfo (w := w)
  -- there is no room: a new row
  have grow : ∀ (a : Option Addr) (cap : Nat), v = .slice a n cap → cap < n + m → cs.length = n * te.size → Holds σ w M →
      ∃ u w', (Builtin.append_ tys T' #[v, y]).run P w = .ok u w' ∧ Holds σ w' (Own el te.size u (n + m) (cs ++ ys) :: M) := by
    intro a cap hv hlt hcs hM
    have hcap : Builtin.nextslicecap (n + m) cap * te.bytes ≤ 2 ^ 48 := by
      have := nextcap_le hlt
      have := Nat.mul_le_mul_right te.bytes this
      rw [Nat.mul_assoc] at this
      omega
    let q : Question := .appendCap (n + m) cap el
    let c := q.cut (w.tape w.drawn q)
    have hc : n + m ≤ c := Nat.le_add_right _ _
    obtain ⟨zv, hzv, hzc⟩ := t2.run_zeroValue (w := w.drew)
    obtain ⟨i', hi', _⟩ := t2.run_typeInfo (w := w.drew)
    have ezv : zv.cells = ⟨te.zero⟩ := by rw [← hzc]
    refine ⟨.slice (some ⟨w.heap.size, 0, none⟩) (n + m) c, w.drew.alloc (.cells ⟨cs ++ ys ++ reps te.zero (c - (n + m))⟩ el), ?_, ?_⟩
    · have hchoose : (choose (.appendCap (n + m) cap el)).run P w = .ok c w.drew := by
        simp only [choose, Sem.run, Question.forced]
        rfl
      have hold' : (Builtin.firstCells te.size n (.slice a n cap)).run P w.drew = .ok ⟨cs⟩ w.drew := by rw [← hv]; exact own_first hh.drew
      have hsrc' := hsrc _ hh.drew
      subst hv
      have hcs2 : (⟨cs⟩ ++ ⟨ys⟩ ++ (⟨reps te.zero (c - (n + m))⟩ : Array Value)) = ⟨cs ++ ys ++ reps te.zero (c - (n + m))⟩ := by simp
      rcases hni with ⟨e2, hd⟩ | hd <;>
      · simp only [Builtin.append_, hS, hS2, List.getElem?_toArray, List.getElem?_cons_zero, List.getElem?_cons_succ, Sem.run_bind, t1.run_underlying, t3.run_underlying, Result.andThen_ok, t2.run_sizeOf, Sem.run_pure, hd, Bool.false_eq_true, if_false, hlen]
        rw [if_neg (Nat.not_le.2 hlt)]
        simp only [Sem.run_bind, hi, Result.andThen_ok]
        rw [if_neg (by rw [hi2]; simp; omega)]
        simp only [Sem.run_bind, hi, Result.andThen_ok]
        rw [if_neg (by rw [hi2]; omega)]
        simp only [Sem.run_bind, hchoose, hi', Result.andThen_ok, run_askRoom, Bool.not_false, if_true, hold', hsrc', hzv, ezv, zeroCells_eq, Sem.run_pure, newRow, run_newObj]
        rw [hcs2]
        rfl
    · refine own_open.2 (.inr ⟨w.heap.size, c, reps te.zero (c - (n + m)), rfl, hc, by rw [List.length_append, hcs, hys, Nat.add_mul], by rw [reps_length, hz], ?_⟩)
      have := hM.drew.alloc (.cells ⟨cs ++ ys ++ reps te.zero (c - (n + m))⟩ el)
      exact this
  rcases own_open.1 hh with ⟨rfl, rfl, rfl, H⟩ | ⟨b, cap, sp, rfl, h1, h2, h3, H⟩
  · by_cases hm : 0 + m ≤ 0
    · have hm0 : m = 0 := by omega
      subst hm0
      have hy0 : ys = [] := List.eq_nil_of_length_eq_zero (by rw [hys]; simp)
      subst hy0
      refine ⟨.slice none 0 0, w, ?_, own_nil _ _ H⟩
      have hsrc' := hsrc _ hh
      rcases hni with ⟨e2, hd⟩ | hd <;>
      · simp only [Builtin.append_, hS, hS2, List.getElem?_toArray, List.getElem?_cons_zero, List.getElem?_cons_succ, Sem.run_bind, t1.run_underlying, t3.run_underlying, Result.andThen_ok, t2.run_sizeOf, Sem.run_pure, hd, Bool.false_eq_true, if_false, hlen]
        rw [if_pos (by omega)]
        simp only [Sem.run_bind, Bool.not_false, if_true, hsrc', Result.andThen_ok, Sem.run_pure]
    · exact grow none 0 rfl (by omega) (by simp) H
  · by_cases hroom : n + m ≤ cap
    · have hsrc' := hsrc _ hh
      have hsp : sp = sp.take (m * te.size) ++ sp.drop (m * te.size) := (List.take_append_drop _ _).symm
      have hlen1 : (sp.take (m * te.size)).length = ys.length := by
        rw [List.length_take, h3, hys]
        exact Nat.min_eq_left (Nat.mul_le_mul_right _ (by omega))
      have hlay : layAt (cs ++ sp) (n * te.size + 0) ys = some (cs ++ (ys ++ sp.drop (m * te.size))) := by
        rw [hsp, Nat.add_zero, ← h2]
        rw [layAt_append hlen1]
        congr 1
        rw [← hsp]
      obtain ⟨w', r1, r2⟩ := storeCells_run (P := P) (o := n * te.size) (i := 0) H hone hlay (by omega)
      refine ⟨.slice (some ⟨b, 0, none⟩) (n + m) cap, w', ?_, own_open.2 (.inr ⟨b, cap, sp.drop (m * te.size), rfl, hroom, by rw [List.length_append, h2, hys, Nat.add_mul], ?_, ?_⟩)⟩
      · rcases hni with ⟨e2, hd⟩ | hd <;>
        · simp only [Builtin.append_, hS, hS2, List.getElem?_toArray, List.getElem?_cons_zero, List.getElem?_cons_succ, Sem.run_bind, t1.run_underlying, t3.run_underlying, Result.andThen_ok, t2.run_sizeOf, Sem.run_pure, hd, Bool.false_eq_true, if_false, hlen]
          rw [if_pos hroom]
          simp only [Sem.run_bind, Bool.not_false, if_true, hsrc', Result.andThen_ok, addr_add, Nat.zero_add, r1, Sem.run_pure]
      · rw [List.length_drop, h3, ← Nat.sub_mul]
        congr 1; omega
      · rw [List.append_assoc]; exact r2
    · exact grow _ cap rfl (by omega) h2 H.drop

/-- Append onto a slice that owns its row. -/
theorem eff_append (ht : tab.OK P) {d : Option Tmp} {x y : Operand} {S S2 ty el : Nat} {rt : List TypeId} {pos : String} {af : Array Edge} {g : Option (Nat × Bool)} {te t2e : TyE} {sz by_ : Nat} {z : List Value} {v yv : Value} {n m : Nat} {cs ys : List Value}
    (i : Nat) (hx : ev E x = some v) (hy : ev E y = some yv) (hi' : pickAt L i = some (Own el te.size v n cs, M)) (hT : tab.get S = some ⟨.slice el, sz, z, by_⟩) (he : tab.get el = some te) (hz : te.zero.length = te.size)
    (hT2 : tab.get S2 = some t2e) (hni : (∃ e2, t2e.desc = .slice e2) ∨ t2e.desc = .string) (hlen : ∀ w, (Builtin.lenOf yv).run P w = .ok m w)
    (hsrc : ∀ w, Holds σ w (Own el te.size v n cs :: M) → (Builtin.firstCells te.size m yv).run P w = .ok ⟨ys⟩ w) (hone : allOne ys = true) (hys : ys.length = m * te.size) (hmax : (n + m) * te.bytes ≤ 2 ^ 47) (hb : 0 < te.bytes) :
    Eff P σ E ⟨d, .call ⟨.builtin .append, ⟨[x, y]⟩, ⟨S :: S2 :: rt⟩⟩, ty, pos, af, g⟩ L fun u L' => L' = Own el te.size u (n + m) (cs ++ ys) :: M := by
  intro w ρ a K Q ha hh hk
  obtain ⟨u, w', r1, r2⟩ := append_run ht (T' := ty) (tys := ⟨S :: S2 :: rt⟩) (y := yv) rfl hT he hz rfl hT2 hni hlen hsrc hone hys hmax hb (hh.at_ i hi')
  have hrun : (execOp ρ ⟨d, .call ⟨.builtin .append, ⟨[x, y]⟩, ⟨S :: S2 :: rt⟩⟩, ty, pos, af, g⟩).run P w = .ok (.value u) w' := by
    have hargs : (⟨[x, y]⟩ : Array Operand).map ρ = #[v, yv] := by simp [ha x _ hx, ha y _ hy]
    simp only [execOp, resolve, hargs, Sem.run_bind, Sem.run_pure, Result.andThen_ok, invoke, builtin, r1]
  rw [hrun]
  exact hk u w' _ rfl r2

theorem src_row {w : World} {fl : Bool} {k m b o c j T lo hi : Nat} {cs ys : List Value} (hh : Holds σ w L) (hj : pickAt L j = some (rowG fl b T cs lo hi, M)) (hc : cut cs o (m * k) = some ys) :
    (Builtin.firstCells k m (.slice (some ⟨b, o, none⟩) m c)).run P w = .ok ⟨ys⟩ w := by
  obtain ⟨h1, rfl⟩ := cut_spec hc
  exact loadCells_run (P := P) (hh.at_ j hj) h1
theorem src_own {w : World} {k m j T : Nat} {v : Value} {ys : List Value} (hh : Holds σ w L) (hj : pickAt L j = some (Own T k v m ys, M)) :
    (Builtin.firstCells k m v).run P w = .ok ⟨ys⟩ w := own_first (hh.at_ j hj)
theorem src_nil {w : World} {k m n c : Nat} : (Builtin.firstCells k m (.slice none n c)).run P w = .ok ⟨[]⟩ w := rfl
def byteV (c : UInt8) : Value := .int .u8 (c.toNat : Int)
theorem src_str {w : World} {k : Nat} {s : List UInt8} : (Builtin.firstCells k s.length (.string ⟨⟨s⟩⟩)).run P w = .ok ⟨s.map byteV⟩ w := by
  simp only [Builtin.firstCells, Sem.run_pure, extract_list]
  congr 1
  simp [byteV]
end
end Go.Hop
/- What is proved here: tests, loops, the begin and the end of a function, over what is known of the slots and what a world holds. -/
namespace Go.Hop
section
variable {P : Program} {tab : Tab} {σ : Sg} {L M : List Assn} {E : Env} {n : Nat} {a : Act} {w : World} {Q : Exit → Act → World → Prop}

theorem code_cond {c : Operand} {x y : Code} {b : Bool} (hk : Knows n E a) (hc : ev E c = some (.bool b)) (ht : b = true → x.wp P Q a w) (hf : b = false → y.wp P Q a w) : (Code.cond c x y).wp P Q a w := by
  cases b with
  | true => exact wp_cond (hk.agr c _ hc) (ht rfl)
  | false => exact wp_cond (hk.agr c _ hc) (hf rfl)

/-- A loop: what holds at each round's head, of some x; a number of x that goes down. -/
theorem code_loop {α : Type} {c : Code} (J : α → Env → List Assn → Prop) (μ : α → Nat) (x0 : α) (hk : Knows n E a) (hh : Holds σ w L) (h0 : J x0 E L)
    (round : ∀ x E L a w, J x E L → Knows n E a → Holds σ w L → c.wp P (Exit.then (fun a' w' => ∃ y E' L', J y E' L' ∧ μ y < μ x ∧ Knows n E' a' ∧ Holds σ w' L') Q) a w) : (Code.loop c).wp P Q a w := by
  intro b k cs
  have key : ∀ (m : Nat) (x : α) (E : Env) (L : List Assn) (a : Act) (w : World), μ x = m → J x E L → Knows n E a → Holds σ w L →
      ∃ e a' w', Q e a' w' ∧ Arrives P (lone (b.at a (.code c :: .inLoop c :: k)) cs w) b k cs e a' w' := by
    intro m
    induction m using Nat.strongRecOn with
    | _ m ih =>
      intro x E L a w hm hJ hK hH
      obtain ⟨e, a₁, w₁, hq, harr⟩ := round x E L a w hJ hK hH b (.inLoop c :: k) cs
      cases e with
      | normal =>
        obtain ⟨y, E', L', hJ', hlt, hK', hH'⟩ := hq
        obtain ⟨e₂, a₂, w₂, hq₂, harr₂⟩ := ih (μ y) (hm ▸ hlt) y E' L' a₁ w₁ rfl hJ' hK' hH'
        exact ⟨e₂, a₂, w₂, hq₂, .of_steps (Steps.trans harr (.one step_inLoop)) harr₂⟩
      | exit id => exact ⟨_, a₁, w₁, hq, .pass (x := .inLoop c) rfl (fun _ _ => .inl (by simp)) harr⟩
      | goto l => exact ⟨_, a₁, w₁, hq, .pass (x := .inLoop c) rfl (fun _ _ => .inl (by simp)) harr⟩
      | ret => exact ⟨_, a₁, w₁, hq, .pass (x := .inLoop c) rfl (fun _ _ => .inl (by simp)) harr⟩
      | panic ch => exact ⟨_, a₁, w₁, hq, .pass (x := .inLoop c) rfl (fun _ _ => .inl (by simp)) harr⟩
      | outgrown => exact ⟨_, a₁, w₁, hq, .pass (x := .inLoop c) rfl (fun _ _ => .inl (by simp)) harr⟩
  obtain ⟨e, a', w', hq, harr⟩ := key _ x0 E L a w rfl h0 hk hh
  exact ⟨e, a', w', hq, .of_steps (.one step_loop) harr⟩

/-- Two pieces, with what holds between them. -/
theorem code_cut {x y : Code} (J : Env → List Assn → Prop) (hx : x.wp P (Exit.then (fun a' w' => ∃ E' L', J E' L' ∧ Knows n E' a' ∧ Holds σ w' L') Q) a w)
    (hy : ∀ E' L' a' w', J E' L' → Knows n E' a' → Holds σ w' L' → y.wp P Q a' w') : (Code.seq x y).wp P Q a w :=
  wp_seq (Code.wp_mono (fun e a' w' h => by
    cases e with
    | normal => obtain ⟨E', L', hJ, hK, hH⟩ := h; exact hy E' L' a' w' hJ hK hH
    | _ => exact h) hx)

/-! the ways out -/
theorem then_ret {K : Act → World → Prop} (h : Q .ret a w) : Exit.then K Q .ret a w := h
theorem then_exit {K : Act → World → Prop} {i : Nat} (h : Q (.exit i) a w) : Exit.then K Q (.exit i) a w := h
theorem then_nm {K : Act → World → Prop} (h : K a w) : Exit.then K Q .normal a w := h
theorem blk_ret {i : Nat} (h : Q .ret a w) : Exit.inBlock i Q .ret a w := h
theorem blk_nm {i : Nat} (h : Q .normal a w) : Exit.inBlock i Q .normal a w := h
theorem blk_out {i : Nat} (h : Q .normal a w) : Exit.inBlock i Q (.exit i) a w := by simpa [Exit.inBlock] using h
theorem blk_exit {i j : Nat} (hne : Nat.beq j i = false) (h : Q (.exit j) a w) : Exit.inBlock i Q (.exit j) a w := by
  have : j ≠ i := fun e => by subst e; rw [Nat.beq_refl] at hne; cases hne
  simpa [Exit.inBlock, this] using h

/-! begin and end -/
def paramsE : Nat → List Value → Env
  | _, [] => []
  | i, v :: vs => (i, v) :: paramsE (i + 1) vs
theorem paramsE_lk : ∀ {vs : List Value} {i k : Nat} {v : Value}, lk (paramsE i vs) k = some v → i ≤ k ∧ vs[k - i]? = some v
  | [], i, k, v, h => by cases h
  | u :: vs, i, k, v, h => by
    simp only [paramsE] at h
    rw [lk_cons] at h
    by_cases e : i = k
    · rw [if_pos e] at h; cases h; subst e; simp
    · rw [if_neg e] at h
      obtain ⟨h1, h2⟩ := paramsE_lk h
      refine ⟨by omega, ?_⟩
      rw [show k - i = (k - (i + 1)) + 1 by omega, List.getElem?_cons_succ]; exact h2

theorem enter {f : FuncId} {fn : Func} {c : Code} {vs : List Value} {R : Ending → World → Prop} (hf : P.funcs[f]? = some fn) (hb : fn.body = some c) (hn : fn.ntmps = n) (hle : Nat.ble vs.length n = true)
    (h : ∀ a, Knows n (paramsE 0 vs) a → c.wp P (bodyPost P fn R) a w) : Calls P f ⟨vs⟩ w R := by
  have hle' : vs.length ≤ n := Nat.le_of_ble_eq_true hle
  refine calls_of_wp hf hb (h _ ⟨rfl, ?_, fun k v hk => ?_⟩)
  · simp [hn]; omega
  · obtain ⟨_, h2⟩ := paramsE_lk hk
    simp only [Nat.sub_zero] at h2
    have hlt := (List.getElem?_eq_some_iff.1 h2).1
    rw [Array.getElem?_append_left (by simpa using hlt)]
    simpa using h2

def retV : List Value → Value
  | [v] => v
  | vs => .tuple ⟨vs⟩
/-- The results, read. -/
inductive Res (P : Program) (w : World) (tmps : Array Value) : List ResultVar → List Value → Prop where
  | nil : Res P w tmps [] []
  | tmp {t : Tmp} {v : Value} {rs : List ResultVar} {vs : List Value} (h : tmps.getD t undef = v) (hr : Res P w tmps rs vs) : Res P w tmps (.tmp t :: rs) (v :: vs)
  | cell {t : Tmp} {T : TypeId} {ad : Addr} {v : Value} {rs : List ResultVar} {vs : List Value} (h : tmps.getD t undef = .pointer (some ad)) (hl : (loadVar T ad).run P w = .ok v w) (hr : Res P w tmps rs vs) : Res P w tmps (.cell t T :: rs) (v :: vs)

theorem Res.run {tmps : Array Value} {rs : List ResultVar} {vs : List Value} (h : Res P w tmps rs vs) :
    (rs.mapM fun (r : ResultVar) => (match r with | .tmp t => pure (tmps.getD t undef) | .cell a t => do loadVar t (← asAddr (tmps.getD a undef)) : Sem Value)).run P w = .ok vs w := by
  induction h with
  | nil => rfl
  | @tmp t v rs vs h hr ih => simp only [List.mapM_cons, Sem.run_bind, Sem.run_pure, Result.andThen_ok, h, ih]
  | @cell t T ad v rs vs h hl hr ih =>
    have e : (asAddr (.pointer (some ad))).run P w = .ok ad w := rfl
    simp only [List.mapM_cons, Sem.run_bind, Sem.run_pure, Result.andThen_ok, h, e, hl, ih]

theorem fin_ret {fn : Func} {R : Ending → World → Prop} {rs : List ResultVar} {vs : List Value} (hk : Knows n E a) (hrs : fn.results = ⟨rs⟩) (h : Res P w a.tmps rs vs) (hR : R (.returned (retV vs)) w) : bodyPost P fn R .ret a w := by
  refine ⟨hk.defers, retV vs, ?_, hR⟩
  have := h.run
  unfold results
  rw [hrs, Array.mapM_eq_mapM_toList]
  simp only [Sem.run_bind, Sem.run_map, Sem.run_pure]
  refine Eq.trans (congrArg (fun r => Result.andThen (Result.andThen r _) _) this) ?_
  simp only [Result.andThen_ok]
  match vs with
  | [] => rfl
  | [v] => rfl
  | v :: u :: vs => rfl
theorem fin_end {fn : Func} {R : Ending → World → Prop} {rs : List ResultVar} {vs : List Value} (hk : Knows n E a) (hrs : fn.results = ⟨rs⟩) (h : Res P w a.tmps rs vs) (hR : R (.returned (retV vs)) w) : bodyPost P fn R .normal a w :=
  fin_ret (n := n) (E := E) hk hrs h hR

theorem res_tmp {rs : List ResultVar} {vs : List Value} {t : Tmp} {v : Value} (hk : Knows n E a) (h : lk E t = some v) (hr : Res P w a.tmps rs vs) : Res P w a.tmps (.tmp t :: rs) (v :: vs) :=
  .tmp (by rw [Array.getD_eq_getD_getElem?, hk.val t v h]; rfl) hr
theorem res_cell1 (ht : tab.OK P) {fl : Bool} {rs : List ResultVar} {vs : List Value} {t : Tmp} {T b o T' lo hi : Nat} {cs : List Value} {te : TyE} {v : Value} (hk : Knows n E a) (hh : Holds σ w L) (i : Nat) (h : lk E t = some (.pointer (some ⟨b, o, none⟩)))
    (hT : tab.get T = some te) (hagg : TypeDesc.isAggB te.desc = false) (hi' : pickAt L i = some (rowG fl b T' cs lo hi, M)) (hv : cs[o]? = some v) (hr : Res P w a.tmps rs vs) : Res P w a.tmps (.cell t T :: rs) (v :: vs) := by
  refine .cell (ad := ⟨b, o, none⟩) (by rw [Array.getD_eq_getD_getElem?, hk.val t _ h]; rfl) ?_ hr
  have hc := (hh.at_ i hi').cell (i := o) (v := v) (by simpa using hv)
  simp only [loadVar, Sem.run_bind, (ht.get hT).run_isAgg, Result.andThen_ok, hagg]
  simp [load, Sem.run, hc]
theorem res_cellN (ht : tab.OK P) {fl : Bool} {rs : List ResultVar} {vs : List Value} {t : Tmp} {T b o T' lo hi : Nat} {cs r : List Value} {te : TyE} (hk : Knows n E a) (hh : Holds σ w L) (i : Nat) (h : lk E t = some (.pointer (some ⟨b, o, none⟩)))
    (hT : tab.get T = some te) (hagg : TypeDesc.isAggB te.desc = true) (hi' : pickAt L i = some (rowG fl b T' cs lo hi, M)) (hv : cut cs o te.size = some r) (hr : Res P w a.tmps rs vs) : Res P w a.tmps (.cell t T :: rs) (.agg ⟨r⟩ :: vs) := by
  refine .cell (ad := ⟨b, o, none⟩) (by rw [Array.getD_eq_getD_getElem?, hk.val t _ h]; rfl) ?_ hr
  obtain ⟨h1, rfl⟩ := cut_spec hv
  simp only [loadVar, Sem.run_bind, (ht.get hT).run_isAgg, Result.andThen_ok, hagg, if_true, (ht.get hT).run_sizeOf, loadCells_run (P := P) (hh.at_ i hi') h1, Sem.run_pure]
end
end Go.Hop
/- What is proved here: small laws for the printed walks. -/
namespace Go.Hop
/-- A string of these bytes. -/
abbrev S (l : List UInt8) : Value := .string ⟨⟨l⟩⟩
theorem v_dt {p : Prop} [Decidable p] (h : p) : Value.bool (decide p) = .bool true := by rw [decide_eq_true h]
theorem v_df {p : Prop} [Decidable p] (h : ¬ p) : Value.bool (decide p) = .bool false := by rw [decide_eq_false h]
theorem v_et {α : Type} [BEq α] [LawfulBEq α] {a b : α} (h : a = b) : Value.bool (a == b) = .bool true := by rw [beq_iff_eq.2 h]
theorem v_ef {α : Type} [BEq α] [LawfulBEq α] {a b : α} (h : ¬ a = b) : Value.bool (a == b) = .bool false := by rw [beq_eq_false_iff_ne.2 h]
theorem v_nt {α : Type} [BEq α] [LawfulBEq α] {a b : α} (h : ¬ a = b) : Value.bool (a != b) = .bool true := by rw [bne_iff_ne.2 h]
theorem v_nf {α : Type} [BEq α] [LawfulBEq α] {a b : α} (h : a = b) : Value.bool (a != b) = .bool false := by rw [h]; simp
theorem v_not {b c : Bool} (h : Value.bool b = .bool c) : Value.bool (!b) = .bool (!c) := by injection h with h; rw [h]
theorem v_id {b c : Bool} (h : b = c) : Value.bool b = .bool c := by rw [h]
theorem c_et {α : Type} [BEq α] [LawfulBEq α] {a b : α} (h : (a == b) = true) : a = b := beq_iff_eq.1 h
theorem c_ef {α : Type} [BEq α] [LawfulBEq α] {a b : α} (h : (a == b) = false) : ¬ a = b := beq_eq_false_iff_ne.1 h
theorem c_nt {α : Type} [BEq α] [LawfulBEq α] {a b : α} (h : (a != b) = true) : ¬ a = b := bne_iff_ne.1 h
theorem c_nf {α : Type} [BEq α] [LawfulBEq α] {a b : α} (h : (a != b) = false) : a = b := by simpa using h
theorem c_it {b : Bool} (h : (!b) = true) : b = false := by simpa using h
theorem c_if {b : Bool} (h : (!b) = false) : b = true := by simpa using h
section
variable {P : Program} {tab : Tab} {σ : Sg} {L M : List Assn} {E : Env}
theorem eq_i64 {x : Int} (h : -9223372036854775808 ≤ x ∧ x ≤ 9223372036854775807) : Value.int .i64 (IntKind.i64.wrap x) = .int .i64 x := by
  congr 1
  simp only [IntKind.wrap, IntKind.bits, IntKind.signed]
  simp
  omega
theorem eq_u64 {x : Int} (h : 0 ≤ x ∧ x ≤ 18446744073709551615) : Value.int .u64 (IntKind.u64.wrap x) = .int .u64 x := by
  congr 1
  simp only [IntKind.wrap, IntKind.bits, IntKind.signed]
  simp
  omega
theorem eq_u8 {x : Int} (h : 0 ≤ x ∧ x ≤ 255) : Value.int .u8 (IntKind.u8.wrap x) = .int .u8 x := by
  congr 1
  simp only [IntKind.wrap, IntKind.bits, IntKind.signed]
  simp
  omega
theorem eq_i32 {x : Int} (h : -2147483648 ≤ x ∧ x ≤ 2147483647) : Value.int .i32 (IntKind.i32.wrap x) = .int .i32 x := by
  congr 1
  simp only [IntKind.wrap, IntKind.bits, IntKind.signed]
  simp
  omega
theorem ob_rem {d : Option Tmp} {T T' ty : TypeId} {x y : Operand} {pos : String} {af : Array Edge} {g : Option (Nat × Bool)} {k : IntKind} {m n : Int}
    (hx : ev E x = some (.int k m)) (hy : ev E y = some (.int k n)) (h0 : n ≠ 0) : Ob P σ L E ⟨d, .binOp .rem T x y T', ty, pos, af, g⟩ (.int k (m.tmod n)) := by
  intro w ρ ha _
  simp [execOp, ha x _ hx, ha y _ hy, eqGuard, binOp, Op.intDiv, h0]
theorem ob_quo {d : Option Tmp} {T T' ty : TypeId} {x y : Operand} {pos : String} {af : Array Edge} {g : Option (Nat × Bool)} {k : IntKind} {m n r : Int}
    (hx : ev E x = some (.int k m)) (hy : ev E y = some (.int k n)) (h0 : n ≠ 0) (hr : k.wrap (m.tdiv n) = r) : Ob P σ L E ⟨d, .binOp .quo T x y T', ty, pos, af, g⟩ (.int k r) := by
  intro w ρ ha _
  subst hr
  simp [execOp, ha x _ hx, ha y _ hy, eqGuard, binOp, Op.intDiv, h0]
theorem ob_concat {d : Option Tmp} {T T' ty : TypeId} {x y : Operand} {pos : String} {af : Array Edge} {g : Option (Nat × Bool)} {s t : List UInt8}
    (hx : ev E x = some (S s)) (hy : ev E y = some (S t)) (h : s.length + t.length ≤ 9223372036854775807) : Ob P σ L E ⟨d, .binOp .add T x y T', ty, pos, af, g⟩ (S (s ++ t)) := by
  intro w ρ ha _
  have h1 : (ByteArray.mk ⟨s⟩).size = s.length := rfl
  have h2 : (ByteArray.mk ⟨t⟩).size = t.length := rfl
  have h3 : ByteArray.mk ⟨s⟩ ++ ByteArray.mk ⟨t⟩ = ByteArray.mk ⟨s ++ t⟩ := by
    apply ByteArray.ext
    rw [ByteArray.data_append]
    simp
  have h4 : ¬ (((s.length + t.length : Nat) : Int) > IntKind.i64.max) := by
    have : IntKind.i64.max = 9223372036854775807 := by decide
    rw [this]; omega
  simp only [execOp, ha x _ hx, ha y _ hy, Sem.run_bind]
  rw [eqGuard_run (by rfl)]
  simp only [Result.andThen_ok, binOp, Op.stringOp, h1, h2]
  rw [if_neg h4]
  simp [h3]
end
end Go.Hop
/- What is proved here: a range over a string, letter by letter, and calls of function values, over what a world holds. -/
namespace Go.Hop
/-- An iterator over a string, at a place. -/
abbrev iterS (b : Nat) (s : List UInt8) (p : Nat) : Assn := pt b (.stringIter ⟨⟨s⟩⟩ p)
section
variable {P : Program} {tab : Tab} {σ : Sg} {L M : List Assn} {E : Env}

theorem eff_range_str (ht : tab.OK P) {d : Option Tmp} {T ty : TypeId} {x : Operand} {pos : String} {af : Array Edge} {g : Option (Nat × Bool)} {s : List UInt8} {sz by_ : Nat} {z : List Value}
    (hx : ev E x = some (S s)) (hT : tab.get T = some ⟨.string, sz, z, by_⟩) :
    Eff P σ E ⟨d, .range T x, ty, pos, af, g⟩ L fun u L' => ∃ b, u = .pointer (some ⟨b, 0, none⟩) ∧ L' = iterS b s 0 :: L := by
  intro w ρ a K Q ha hh hk
  have t1 := ht.get hT
  have hrun : (Instr.range T (ρ x)).run P w = .ok (.pointer (some ⟨w.heap.size, 0, none⟩)) (w.alloc (.stringIter ⟨⟨s⟩⟩ 0)) := by
    simp only [ha x _ hx, Instr.range, Sem.run_bind, t1.run_underlying, Result.andThen_ok, Sem.run_pure]
    simp [newObj, Sem.run]
  simp only [execOp, Sem.run_bind, hrun, Result.andThen_ok, Sem.run_pure]
  exact hk _ _ _ ⟨w.heap.size, rfl, rfl⟩ (hh.alloc _)

theorem eff_next_end {d : Option Tmp} {ty : TypeId} {x : Operand} {pos : String} {af : Array Edge} {g : Option (Nat × Bool)} {s : List UInt8} {b p : Nat}
    (i : Nat) (hx : ev E x = some (.pointer (some ⟨b, 0, none⟩))) (hi : pickAt L i = some (iterS b s p, M)) (hp : s.length ≤ p) :
    Eff P σ E ⟨d, .next x true, ty, pos, af, g⟩ L fun u L' => u = .tuple ⟨[.bool false]⟩ ∧ L' = L := by
  intro w ρ a K Q ha hh hk
  have hb := (hh.at_ i hi).block
  have hs : (ByteArray.mk ⟨s⟩).size = s.length := rfl
  have hrun : (Instr.next (ρ x) true ty).run P w = .ok (.tuple ⟨[.bool false]⟩) w := by
    simp only [ha x _ hx, Instr.next, Sem.run_bind]
    simp only [getObj, Sem.run, hb, Result.andThen_ok, hs]
    rw [if_neg (by omega)]
    rfl
  simp only [execOp, Sem.run_bind, hrun, Result.andThen_ok, Sem.run_pure]
  exact hk _ _ _ ⟨rfl, rfl⟩ hh

theorem decode_ascii {s : List UInt8} {p : Nat} {c : UInt8} (h : s[p]? = some c) (hc : c.toNat < 128) : Utf8.decode ⟨⟨s⟩⟩ p = (c.toNat, 1) := by
  have hlt := (List.getElem?_eq_some_iff.1 h).1
  have hg : (ByteArray.mk ⟨s⟩).get! p = c := by
    have := (List.getElem?_eq_some_iff.1 h).2
    simp [ByteArray.get!, hlt, this]
  unfold Utf8.decode
  simp [hg, hc]

theorem eff_next_ascii {d : Option Tmp} {ty : TypeId} {x : Operand} {pos : String} {af : Array Edge} {g : Option (Nat × Bool)} {s : List UInt8} {b p : Nat} {c : UInt8}
    (i : Nat) (hx : ev E x = some (.pointer (some ⟨b, 0, none⟩))) (hi : pickAt L i = some (iterS b s p, M)) (hp : s[p]? = some c) (hc : c.toNat < 128) :
    Eff P σ E ⟨d, .next x true, ty, pos, af, g⟩ L fun u L' => u = .tuple ⟨[.bool true, .int .i64 (p : Int), .int .i32 (c.toNat : Int)]⟩ ∧ L' = iterS b s (p + 1) :: M := by
  intro w ρ a K Q ha hh hk
  have hb := (hh.at_ i hi).block
  have hs : (ByteArray.mk ⟨s⟩).size = s.length := rfl
  have hlt := (List.getElem?_eq_some_iff.1 hp).1
  have hrun : (Instr.next (ρ x) true ty).run P w = .ok (.tuple ⟨[.bool true, .int .i64 (p : Int), .int .i32 (c.toNat : Int)]⟩) { w with heap := w.heap.setIfInBounds b (.stringIter ⟨⟨s⟩⟩ (p + 1)) } := by
    simp only [ha x _ hx, Instr.next, Sem.run_bind]
    simp only [getObj, Sem.run, hb, Result.andThen_ok, hs]
    rw [if_pos hlt]
    simp only [decode_ascii hp hc, setObj, Sem.run_bind, Sem.run, Result.andThen_ok, hb]
    rfl
  simp only [execOp, Sem.run_bind, hrun, Result.andThen_ok, Sem.run_pure]
  exact hk _ _ _ ⟨rfl, rfl⟩ ((hh.at_ i hi).setObj _)

/-- A call of a function value that holds nothing. -/
theorem eff_callv {d : Option Tmp} {c : Call} {ty : TypeId} {pos : String} {af : Array Edge} {g : Option (Nat × Bool)} {f : FuncId} {fn : Func} {vs : List Value} {post : Value → List Assn → Prop} {x : Operand}
    (hf : P.funcs[f]? = some fn) (hb : fn.body.isNone = false) (hng : (fn.name == "runtime.NumGoroutine") = false) (hc : c.callee = .value x) (hx : ev E x = some (.func (.func f) ⟨[]⟩ ⟨[]⟩)) (hvs : evs E c.args.toList = some vs)
    (hspec : ∀ w, Holds σ w L → Calls P f ⟨vs⟩ w fun e w' => ∃ v L', e = .returned v ∧ post v L' ∧ Holds σ w' L') :
    Eff P σ E ⟨d, .call c, ty, pos, af, g⟩ L post := by
  intro w ρ a K Q ha hh hk
  have hargs : c.args.map ρ = ⟨vs⟩ := by rw [← evs_map ha hvs, ← Array.toList_map]
  have hrun : (execOp ρ ⟨d, .call c, ty, pos, af, g⟩).run P w = .ok (.enter f ⟨vs⟩) w := by
    simp only [execOp, resolve, hc, hargs, Sem.run_bind, ha x _ hx, Deferred.ofValue, Sem.run_pure, Result.andThen_ok, invoke, callFunc, run_program, hf]
    simp [hng, hb]
  rw [hrun]
  show Calls P f ⟨vs⟩ w _
  refine (hspec w hh).mono ?_
  rintro e w' ⟨v, L', rfl, hp, hh'⟩
  exact hk v w' L' hp hh'

/-- A letter as a string. -/
theorem ob_letter (ht : tab.OK P) {d : Option Tmp} {T T' ty : TypeId} {x : Operand} {pos : String} {af : Array Edge} {g : Option (Nat × Bool)} {k : IntKind} {n : Int} {t1 : TyE} {sz by_ : Nat} {z : List Value}
    (hx : ev E x = some (.int k n)) (hT : tab.get T = some t1) (hT' : tab.get T' = some ⟨.string, sz, z, by_⟩) (h0 : 0 ≤ n) (h1 : n < 128) : Ob P σ L E ⟨d, .convert T T' x, ty, pos, af, g⟩ (S [UInt8.ofNat n.toNat]) := by
  intro w ρ ha _
  have a1 := ht.get hT
  have a2 := ht.get hT'
  have hv : Utf8.valid n = true := by unfold Utf8.valid; simp; omega
  have he : Utf8.encode n = ⟨⟨[UInt8.ofNat n.toNat]⟩⟩ := by
    unfold Utf8.encode
    simp only [hv, if_true]
    rw [if_pos (by omega)]
  have hrun : (convert T T' (.int k n)).run P w = .ok (S [UInt8.ofNat n.toNat]) w := by
    simp only [convert, Sem.run_bind, a1.run_underlying, a2.run_underlying, Result.andThen_ok]
    cases t1.desc <;> simp [Conv.intToString, he, Sem.run_pure]
  simp only [execOp, ha x _ hx, Sem.run_bind, hrun, Result.andThen_ok, Sem.run_pure]
end
end Go.Hop
/- What is proved here: two structs of plain parts, compared. -/
namespace Go.Hop

def partV (tab : Tab) (t : Nat) (cs : List Value) (off : Nat) : Option Value :=
  match tab.get t with
  | some te => match TypeDesc.isAggB te.desc with
    | true => match cut cs off te.size with
      | some r => some (.agg ⟨r⟩)
      | none => none
    | false => cs[off]?
  | none => none
def eqF (tab : Tab) (f : Nat → Value → Value → Option Bool) (xs ys : List Value) : List Field → Option Bool
  | [] => some true
  | fd :: fs => match partV tab fd.type xs fd.offset, partV tab fd.type ys fd.offset with
    | some u, some v => match f fd.type u v, eqF tab f xs ys fs with
      | some a, some b => some (a && b)
      | _, _ => none
    | _, _ => none
def inB : List Nat → Nat → Bool
  | [], _ => false
  | t :: ts, x => cond (Nat.beq x t) true (inB ts x)
def eqT (tab : Tab) (ok : List Nat) : Nat → Nat → Value → Value → Option Bool
  | 0, _, _, _ => none
  | d + 1, t, x, y => match tab.get t, x, y with
    | some ⟨.int _, _, _, _⟩, .int k a, .int k' b => cond (ikEq k k') (some (a == b)) none
    | some ⟨.string, _, _, _⟩, .string ⟨⟨a⟩⟩, .string ⟨⟨b⟩⟩ => some (a == b)
    | some ⟨.bool, _, _, _⟩, .bool a, .bool b => some (a == b)
    | some ⟨.struct ⟨fs⟩, _, _, _⟩, .agg ⟨xs⟩, .agg ⟨ys⟩ => cond (inB ok t) (eqF tab (eqT tab ok d) xs ys fs) none
    | _, _, _ => none

/-- A struct type that may be compared part by part. -/
structure EqOK (P : Program) (t : Nat) : Prop where
  held : P.stoodInHeld t = false
  names : (match P.underlying t with | some (.struct fs) => fs.toList.all (fun f => f.name != "_") | _ => true) = true
  guard : P.eqGuardType P.depth t = false

section
variable {P : Program} {tab : Tab} {ok : List Nat} {σ : Sg} {L M : List Assn} {E : Env}

theorem inB_mem : ∀ {ts : List Nat} {x : Nat}, inB ts x = true → x ∈ ts
  | t :: ts, x, h => by
    simp only [inB] at h
    cases hb : Nat.beq x t with
    | true => rw [Nat.eq_of_beq_eq_true hb]; exact List.mem_cons_self ..
    | false => rw [hb] at h; exact List.mem_cons_of_mem _ (inB_mem h)

theorem partV_run (ht : tab.OK P) {w : World} {t off : Nat} {cs : List Value} {v : Value} (h : partV tab t cs off = some v) : (part t ⟨cs⟩ off).run P w = .ok v w := by
  unfold partV at h
  split at h
  · rename_i te he
    have t1 := ht.get he
    split at h
    · rename_i hagg
      split at h
      · rename_i r hr
        cases h
        obtain ⟨h1, rfl⟩ := cut_spec hr
        simp only [part, Sem.run_bind, t1.run_isAgg, Result.andThen_ok, hagg, if_true, t1.run_sizeOf, Sem.run_pure]
        congr 2
        simp [List.extract_eq_take_drop]
      · cases h
    · rename_i hagg
      simp only [part, Sem.run_bind, t1.run_isAgg, Result.andThen_ok, hagg, Bool.false_eq_true, if_false]
      simp [h]
  · cases h

theorem eqF_run (ht : tab.OK P) {w : World} {f : Nat → Value → Value → Option Bool} {m : Nat} (hf : ∀ t u v r, f t u v = some r → (Op.equalIn m t u v).run P w = .ok r w) {xs ys : List Value} :
    ∀ {fs : List Field} {r : Bool}, fs.all (fun f => f.name != "_") = true → eqF tab f xs ys fs = some r → (Op.eqFields m ⟨xs⟩ ⟨ys⟩ fs).run P w = .ok r w
  | [], r, _, h => by cases h; rfl
  | fd :: fs, r, hn, h => by
    simp only [eqF] at h
    split at h
    · rename_i u v hu hv
      split at h
      · rename_i a b ha hb
        cases h
        simp only [List.all_cons, Bool.and_eq_true] at hn
        have ih := eqF_run ht hf hn.2 hb
        have hne : fd.name ≠ "_" := by simpa using hn.1
        simp only [Op.eqFields, Sem.run_bind, Sem.run_ite]
        rw [if_pos hne]
        simp only [partV_run ht hu, partV_run ht hv, Result.andThen_ok, hf _ _ _ _ ha]
        cases a
        · simp [Sem.run_pure]
        · simp [ih]
      · cases h
    · cases h

theorem eqT_run (ht : tab.OK P) (hok : ∀ t ∈ ok, EqOK P t) {w : World} : ∀ {d m t : Nat} {x y : Value} {r : Bool}, d ≤ m → eqT tab ok d t x y = some r → (Op.equalIn m t x y).run P w = .ok r w
  | 0, _, _, _, _, _, _, h => by cases h
  | d + 1, m, t, x, y, r, hm, h => by
    obtain ⟨n, rfl⟩ : ∃ n, m = n + 1 := ⟨m - 1, by omega⟩
    simp only [eqT] at h
    split at h
    · rename_i k0 _ _ _ k a k' b hT
      cases hk : ikEq k k' with
      | false => rw [hk] at h; cases h
      | true =>
        rw [hk] at h; cases h
        have := ikEq_eq hk
        subst this
        simp [Op.equalIn, (ht.get hT).run_underlying]
    · rename_i hT
      cases h
      simp only [Op.equalIn, Sem.run_bind, (ht.get hT).run_underlying, Result.andThen_ok, Sem.run_pure]
      rw [beq_toListBytes, bytes_toList, bytes_toList]
    · rename_i hT
      cases h
      simp [Op.equalIn, (ht.get hT).run_underlying]
    · rename_i fs _ _ _ xs ys hT
      cases hb : inB ok t with
      | false => rw [hb] at h; cases h
      | true =>
        rw [hb] at h
        have ho := hok t (inB_mem hb)
        have hu : P.underlying t = some (.struct ⟨fs⟩) := (ht.get hT).desc
        have hfs : P.fieldsOf t = ⟨fs⟩ := by simp [Program.fieldsOf, hu]
        have hn := ho.names
        rw [hu] at hn
        rw [run_equalIn_struct w n t ⟨xs⟩ ⟨ys⟩ (by rw [hfs]; exact hu) ho.held, hfs]
        exact eqF_run ht (fun t u v r hr => eqT_run ht hok (by omega) hr) hn h
    · cases h

theorem ob_eqS (ht : tab.OK P) (hok : ∀ t ∈ ok, EqOK P t) {d : Option Tmp} {T T' ty : TypeId} {x y : Operand} {pos : String} {af : Array Edge} {g : Option (Nat × Bool)} {xs ys : List Value} {r : Bool}
    (hx : ev E x = some (.agg ⟨xs⟩)) (hy : ev E y = some (.agg ⟨ys⟩)) (hin : inB ok T = true) (hr : eqT tab ok 9 T (.agg ⟨xs⟩) (.agg ⟨ys⟩) = some r) : Ob P σ L E ⟨d, .binOp .eql T x y T', ty, pos, af, g⟩ (.bool r) := by
  intro w ρ ha _
  have ho := hok T (inB_mem hin)
  have he : (Op.equal T (.agg ⟨xs⟩) (.agg ⟨ys⟩)).run P w = .ok r w := eqT_run ht hok (by unfold Op.maxDepth; omega) hr
  have hg : (eqGuard .eql T x y (.agg ⟨xs⟩) (.agg ⟨ys⟩)).run P w = .ok () w := by
    simp [eqGuard, run_program, ho.guard]
  simp only [execOp, ha x _ hx, ha y _ hy, Sem.run_bind, hg, Result.andThen_ok, binOp, he, Sem.run_pure]
theorem ob_neS (ht : tab.OK P) (hok : ∀ t ∈ ok, EqOK P t) {d : Option Tmp} {T T' ty : TypeId} {x y : Operand} {pos : String} {af : Array Edge} {g : Option (Nat × Bool)} {xs ys : List Value} {r : Bool}
    (hx : ev E x = some (.agg ⟨xs⟩)) (hy : ev E y = some (.agg ⟨ys⟩)) (hin : inB ok T = true) (hr : eqT tab ok 9 T (.agg ⟨xs⟩) (.agg ⟨ys⟩) = some r) : Ob P σ L E ⟨d, .binOp .neq T x y T', ty, pos, af, g⟩ (.bool (!r)) := by
  intro w ρ ha _
  have ho := hok T (inB_mem hin)
  have he : (Op.equal T (.agg ⟨xs⟩) (.agg ⟨ys⟩)).run P w = .ok r w := eqT_run ht hok (by unfold Op.maxDepth; omega) hr
  have hg : (eqGuard .neq T x y (.agg ⟨xs⟩) (.agg ⟨ys⟩)).run P w = .ok () w := by
    simp [eqGuard, run_program, ho.guard]
  simp only [execOp, ha x _ hx, ha y _ hy, Sem.run_bind, hg, Result.andThen_ok, binOp, he, Sem.run_pure]
theorem ob_conv {o : Oper} {u v : Value} (h : Ob P σ L E o u) (e : u = v) : Ob P σ L E o v := e ▸ h
/-- An error, or none. -/
def ErrIs (er : Value) (b : Bool) : Prop := (er = .nilIface ∧ b = true) ∨ ((∃ T x, er = .iface T x) ∧ b = false)
theorem ob_errnil (ht : tab.OK P) {d : Option Tmp} {T T' ty : TypeId} {x : Operand} {pos : String} {af : Array Edge} {g : Option (Nat × Bool)} {er : Value} {b : Bool} {ms : Array (String × TypeId)} {sz by_ : Nat} {z : List Value}
    (hx : ev E x = some er) (hT : tab.get T = some ⟨.interface ms, sz, z, by_⟩) (he : ErrIs er b) : Ob P σ L E ⟨d, .binOp .eql T x (.const .nilIface) T', ty, pos, af, g⟩ (.bool b) := by
  intro w ρ ha _
  have t1 := ht.get hT
  have hc : ρ (.const .nilIface) = .nilIface := ha _ _ rfl
  rcases he with ⟨rfl, rfl⟩ | ⟨⟨T2, v, rfl⟩, rfl⟩
  · have hg : (eqGuard .eql T x (.const .nilIface) .nilIface .nilIface).run P w = .ok () w := by simp [eqGuard, Sem.run_pure]
    have he : (Op.equal T .nilIface .nilIface).run P w = .ok true w := by
      show (Op.equalIn (9999 + 1) T .nilIface .nilIface).run P w = _
      generalize 9999 = m
      simp only [Op.equalIn, Sem.run_bind, t1.run_underlying, Result.andThen_ok, Sem.run_pure]
    simp only [execOp, ha x _ hx, hc, Sem.run_bind, hg, Result.andThen_ok, binOp, he, Sem.run_pure]
  · have hg : (eqGuard .eql T x (.const .nilIface) (.iface T2 v) .nilIface).run P w = .ok () w := by simp [eqGuard, Sem.run_pure]
    have he : (Op.equal T (.iface T2 v) .nilIface).run P w = .ok false w := by
      show (Op.equalIn (9999 + 1) T (.iface T2 v) .nilIface).run P w = _
      generalize 9999 = m
      simp only [Op.equalIn, Sem.run_bind, t1.run_underlying, Result.andThen_ok, Sem.run_pure]
    simp only [execOp, ha x _ hx, hc, Sem.run_bind, hg, Result.andThen_ok, binOp, he, Sem.run_pure]
end
end Go.Hop
/- What is proved here: decimal numbers and parts of lines, in plain Lean. -/
namespace Go.Hop
open Go

/-! parts of a line -/
def spA (c : UInt8) : List UInt8 → List UInt8 → List (List UInt8)
  | acc, [] => [acc]
  | acc, x :: xs => if x = c then acc :: spA c [] xs else spA c (acc ++ [x]) xs
/-- A text, cut at each letter c. -/
def spl (c : UInt8) (l : List UInt8) : List (List UInt8) := spA c [] l
theorem spA_miss {c : UInt8} : ∀ {t acc r : List UInt8}, c ∉ t → spA c acc (t ++ r) = spA c (acc ++ t) r
  | [], acc, r, _ => by simp
  | x :: t, acc, r, h => by
    have hx : x ≠ c := fun e => h (by simp [e])
    have ht : c ∉ t := fun e => h (List.mem_cons_of_mem _ e)
    rw [List.cons_append, spA, if_neg hx, spA_miss ht, List.append_assoc]
    rfl
theorem spA_none {c : UInt8} {t acc : List UInt8} (h : c ∉ t) : spA c acc t = [acc ++ t] := by
  have := spA_miss (r := []) (acc := acc) h
  rw [List.append_nil] at this
  rw [this]; rfl
theorem spA_hit {c : UInt8} {t acc r : List UInt8} (h : c ∉ t) : spA c acc (t ++ c :: r) = (acc ++ t) :: spA c [] r := by
  rw [spA_miss h, spA, if_pos rfl]
theorem spA_ne {c : UInt8} : ∀ {l acc : List UInt8}, spA c acc l ≠ []
  | [], _ => by simp [spA]
  | x :: xs, acc => by
    rw [spA]
    split
    · simp
    · exact spA_ne
theorem indexByte_cases (c : UInt8) : ∀ l : List UInt8, (Lib.indexByte l c = -1 ∧ c ∉ l) ∨ ∃ t r, l = t ++ c :: r ∧ c ∉ t ∧ Lib.indexByte l c = t.length
  | [] => .inl ⟨rfl, by simp⟩
  | b :: l => by
    by_cases hb : b = c
    · exact .inr ⟨[], l, by simp [hb], by simp, by simp [Lib.indexByte, hb]⟩
    · have hb' : (b == c) = false := by simpa using hb
      rcases indexByte_cases c l with ⟨h1, h2⟩ | ⟨t, r, h1, h2, h3⟩
      · left
        refine ⟨by simp [Lib.indexByte, hb', h1], ?_⟩
        simp only [List.mem_cons, not_or]
        exact ⟨fun e => hb e.symm, h2⟩
      · right
        refine ⟨b :: t, r, by rw [h1]; rfl, ?_, ?_⟩
        · simp only [List.mem_cons, not_or]
          exact ⟨fun e => hb e.symm, h2⟩
        · have hne : ¬ (Lib.indexByte l c == -1) = true := by rw [h3]; simp
          rw [Lib.indexByte, hb']
          simp only [Bool.false_eq_true, if_false]
          rw [if_neg hne, h3]
          simp
theorem contains_one (l : List UInt8) (c : UInt8) : decide (0 ≤ Lib.indexByte l c) = decide (c ∈ l) := by
  rcases indexByte_cases c l with ⟨h1, h2⟩ | ⟨t, r, h1, h2, h3⟩
  · rw [h1]; simp [h2]
  · rw [h3, h1]; simp
theorem splitK_spl (c : UInt8) : ∀ (n : Nat) (l : List UInt8), l.length ≤ n → Lib.splitK [c] 0 (Lib.count l [c]) l = spl c l
  | n, l, hn => by
    rcases indexByte_cases c l with ⟨h1, h2⟩ | ⟨t, r, h1, h2, h3⟩
    · have hi : Lib.index l [c] = -1 := by rw [Lib.index_one]; exact h1
      rw [Lib.count_miss hi, spl, spA_none h2]
      rfl
    · have hi : Lib.index l [c] = (t.length : Nat) := by rw [Lib.index_one]; exact h3
      have hd : l.drop (t.length + 1) = r := by rw [h1]; simp
      have ht : l.take t.length = t := by rw [h1]; simp
      have hlen : l.length = t.length + (r.length + 1) := by rw [h1]; simp
      match n, hn with
      | 0, hn => omega
      | n + 1, hn =>
        have ih := splitK_spl c n r (by omega)
        have hc : Lib.count l [c] = Lib.count r [c] + 1 := by
          rw [Lib.count_hit (by simp) hi]
          simp only [List.length_cons, List.length_nil, hd]
          omega
        have hne : ¬ (Lib.index l [c] == -1) = true := by rw [hi]; simp
        rw [hc, Lib.splitK, if_neg hne, hi]
        simp only [Int.toNat_natCast, Nat.add_zero, List.length_cons, List.length_nil, Nat.zero_add, hd, ht, ih]
        rw [spl, spl, h1, spA_hit h2]
        simp
theorem splitB_spl (c : UInt8) (s : List UInt8) : (Lib.splitB ⟨⟨[c]⟩⟩ 0 (Lib.countB ⟨⟨s⟩⟩ ⟨⟨[c]⟩⟩) ⟨⟨s⟩⟩).map (·.data.toList) = spl c s := by
  rw [Lib.splitB_data]
  exact splitK_spl c _ _ (Nat.le_refl _)
theorem splitB_vals (c : UInt8) (s : List UInt8) : (Lib.splitB ⟨⟨[c]⟩⟩ 0 (Lib.countB ⟨⟨s⟩⟩ ⟨⟨[c]⟩⟩) ⟨⟨s⟩⟩).map Value.string = (spl c s).map S := by
  rw [← splitB_spl, List.map_map]
  rfl
theorem spl_length (c : UInt8) (s : List UInt8) : (spl c s).length = Lib.countB ⟨⟨s⟩⟩ ⟨⟨[c]⟩⟩ + 1 := by
  rw [← splitB_spl, List.length_map]
  exact Lib.splitB_all ⟨⟨[c]⟩⟩ (Nat.le_refl 1) 0 _ _ rfl
theorem spA_len {c : UInt8} : ∀ {l acc : List UInt8}, (spA c acc l).length ≤ l.length + 1
  | [], _ => by simp [spA]
  | x :: xs, acc => by
    rw [spA]
    split
    · have := spA_len (c := c) (l := xs) (acc := [])
      simp; omega
    · have := spA_len (c := c) (l := xs) (acc := acc ++ [x])
      simp; omega
theorem spl_len {c : UInt8} {l : List UInt8} : (spl c l).length ≤ l.length + 1 := spA_len

/-! numbers -/
def I64 (n : Int) : Prop := -9223372036854775808 ≤ n ∧ n ≤ 9223372036854775807
theorem wrap_i64 {x : Int} (h : I64 x) : IntKind.i64.wrap x = x := by
  have := eq_i64 h
  injection this
theorem wrap_I64 (x : Int) : I64 (IntKind.i64.wrap x) := by
  simp only [I64, IntKind.wrap, IntKind.bits, IntKind.signed]
  simp
  omega
theorem dig_toNat {u : Nat} (h : u < 10) : (UInt8.ofNat (48 + u)).toNat = 48 + u := by
  rw [UInt8.toNat_ofNat']; omega
theorem decDigits_big {u : Nat} (h : ¬ u < 10) : Lib.decDigits u = Lib.decDigits (u / 10) ++ [UInt8.ofNat (48 + u % 10)] := by
  rw [Lib.decDigits, dif_neg h]
theorem decDigits_digit : ∀ (n u : Nat), u ≤ n → ∀ c ∈ Lib.decDigits u, 48 ≤ c.toNat ∧ c.toNat ≤ 57
  | n, u, hn, c, hc => by
    by_cases h : u < 10
    · rw [Lib.decDigits_one h, List.mem_singleton] at hc
      subst hc
      rw [dig_toNat h]; omega
    · rw [decDigits_big h, List.mem_append, List.mem_singleton] at hc
      rcases hc with hc | rfl
      · match n, hn with
        | 0, hn => omega
        | n + 1, hn => exact decDigits_digit n (u / 10) (by omega) c hc
      · rw [dig_toNat (by omega)]; omega
theorem decDigits_cons (u : Nat) : ∃ c r, Lib.decDigits u = c :: r ∧ 48 ≤ c.toNat ∧ c.toNat ≤ 57 := by
  have hl : 1 ≤ (Lib.decDigits u).length := by rw [Lib.decDigits_length]; exact Lib.nDigits_pos u
  match hd : Lib.decDigits u, hl with
  | c :: r, _ => exact ⟨c, r, rfl, decDigits_digit u u (Nat.le_refl _) c (by rw [hd]; exact List.mem_cons_self ..)⟩
theorem parseUint10_append : ∀ {l r : List UInt8} {acc n : Nat}, Lib.parseUint10 acc l = .ok n → Lib.parseUint10 acc (l ++ r) = Lib.parseUint10 n r
  | [], r, acc, n, h => by simp only [Lib.parseUint10] at h; cases h; rfl
  | c :: l, r, acc, n, h => by
    simp only [Lib.parseUint10] at h
    rw [List.cons_append, Lib.parseUint10]
    split at h
    · rename_i h1
      rw [if_pos h1]
      split at h
      · cases h
      · rename_i h2
        rw [if_neg h2]
        split at h
        · cases h
        · rename_i h3
          rw [if_neg h3]
          exact parseUint10_append h
    · cases h
theorem parseUint10_dec : ∀ (n u : Nat), u ≤ n → u < 18446744073709551616 → Lib.parseUint10 0 (Lib.decDigits u) = .ok u
  | n, u, hn, hu => by
    by_cases h : u < 10
    · rw [Lib.decDigits_one h, Lib.parseUint10, dig_toNat h, if_pos (by omega), if_neg (by omega), if_neg (by omega)]
      simp [Lib.parseUint10]
    · rw [decDigits_big h]
      match n, hn with
      | 0, hn => omega
      | n + 1, hn =>
        rw [parseUint10_append (parseUint10_dec n (u / 10) (by omega) (by omega)), Lib.parseUint10, dig_toNat (by omega), if_pos (by omega), if_neg (by omega), if_neg (by omega)]
        simp only [Lib.parseUint10]
        congr 1
        omega
theorem parseIntB_itoa {m : Int} (h : I64 m) : Lib.parseIntB 64 (Lib.itoa m) = .ok m := by
  unfold I64 at h
  by_cases hm : m < 0
  · rw [Lib.itoa, if_pos hm, Lib.parseIntB_minus, Lib.parseUintB_64, Lib.parseMag]
    obtain ⟨c, r, hd, _⟩ := decDigits_cons m.natAbs
    rw [if_neg (by rw [hd]; simp), parseUint10_dec _ _ (Nat.le_refl _) (by omega)]
    simp only [Lib.signedC]
    rw [if_neg (by omega)]
    congr 1; omega
  · obtain ⟨c, r, hd, h1, h2⟩ := decDigits_cons m.toNat
    have e : Lib.itoa m = c :: r := by rw [Lib.itoa, if_neg hm, hd]
    rw [e, Lib.parseIntB_plain 64 c r (by omega) (by omega), Lib.parseUintB_64, Lib.parseMag, if_neg (by simp), ← hd, parseUint10_dec _ _ (Nat.le_refl _) (by omega)]
    simp only [Lib.signlessC]
    rw [if_neg (by omega)]
    congr 1; omega
/-- The number that a text is, if it is one. -/
def numO (s : List UInt8) : Option Int :=
  match Lib.parseIntB 64 s with
  | .ok v => if Lib.itoa v = s then some v else none
  | _ => none
theorem numO_itoa {m : Int} (h : I64 m) : numO (Lib.itoa m) = some m := by
  rw [numO, parseIntB_itoa h]
  simp
theorem numO_some {s : List UInt8} {v : Int} (h : numO s = some v) : I64 v ∧ Lib.itoa v = s := by
  unfold numO at h
  split at h
  · rename_i u hu
    split at h
    · rename_i he
      cases h
      have := Lib.parseIntB_bounds hu
      refine ⟨?_, he⟩
      unfold I64
      omega
    · cases h
  · cases h
theorem numO_of {s : List UInt8} {n : Int} (hn : I64 n) : (Lib.itoa n = s → numO s = some n) := by
  rintro rfl; exact numO_itoa hn
theorem numO_ne {s : List UInt8} (h : ∀ m, I64 m → Lib.itoa m ≠ s) : numO s = none := by
  cases e : numO s with
  | none => rfl
  | some v => exact absurd (numO_some e).2 (h v (numO_some e).1)

def valStep (n : Int) (c : UInt8) : Int := if 48 ≤ c.toNat ∧ c.toNat ≤ 57 then IntKind.i64.wrap (IntKind.i64.wrap (n * 10) - ((c.toNat - 48 : Nat) : Int)) else n
def valL (s : List UInt8) : Int := (s.take 20).foldl valStep 0
def valS (s : List UInt8) : Int := if s[0]? = some 45 then valL s else IntKind.i64.wrap (0 - valL s)
theorem foldl_valStep_I64 : ∀ {l : List UInt8} {n : Int}, I64 n → I64 (l.foldl valStep n)
  | [], _, h => h
  | c :: l, n, h => by
    rw [List.foldl_cons]
    apply foldl_valStep_I64
    unfold valStep
    split
    · exact wrap_I64 _
    · exact h
theorem foldl_dec : ∀ (n u : Nat), u ≤ n → u ≤ 9223372036854775808 → (Lib.decDigits u).foldl valStep 0 = -(u : Int)
  | n, u, hn, hu => by
    have step : ∀ (v d : Nat), v * 10 + d ≤ 9223372036854775808 → d < 10 → valStep (-(v : Int)) (UInt8.ofNat (48 + d)) = -((v * 10 + d : Nat) : Int) := by
      intro v d h1 h2
      unfold valStep
      rw [dig_toNat h2, if_pos (by omega), wrap_i64 (x := -(v : Int) * 10) (by unfold I64; omega), wrap_i64 (by unfold I64; omega)]
      omega
    by_cases h : u < 10
    · rw [Lib.decDigits_one h, List.foldl_cons, List.foldl_nil]
      have := step 0 u (by omega) h
      simpa using this
    · rw [decDigits_big h, List.foldl_append]
      match n, hn with
      | 0, hn => omega
      | n + 1, hn =>
        rw [foldl_dec n (u / 10) (by omega) (by omega), List.foldl_cons, List.foldl_nil, step _ _ (by omega) (by omega)]
        congr 2
        omega
theorem valS_itoa {m : Int} (h : I64 m) : valS (Lib.itoa m) = m := by
  have hlen : ∀ u : Nat, u ≤ 9223372036854775808 → (Lib.decDigits u).length ≤ 19 := by
    intro u hu
    rw [Lib.decDigits_length]
    rcases Nat.lt_or_ge 19 (Lib.nDigits u) with hk | hk
    · exfalso
      have : ∀ k, k ≤ Lib.nDigits u → 1 ≤ k → 10 ^ (k - 1) ≤ u ∨ u < 10 ^ (k - 1) := fun k _ _ => by omega
      by_cases h19 : 10 ^ 19 ≤ u
      · omega
      · have h2 : u < 10 ^ 19 := by omega
        have key : ∀ (k u : Nat), u < 10 ^ (k + 1) → Lib.nDigits u ≤ k + 1 := by
          intro k
          induction k with
          | zero => intro u hu; rw [Lib.nDigits_small (by simpa using hu)]; omega
          | succ k ih =>
            intro u hu
            by_cases h10 : u < 10
            · rw [Lib.nDigits_small h10]; omega
            · rw [Lib.nDigits_big h10]
              have := ih (u / 10) (by rw [Nat.pow_succ] at hu; omega)
              omega
        have := key 18 u h2
        omega
    · exact hk
  unfold I64 at h
  by_cases hm : m < 0
  · have e : Lib.itoa m = 45 :: Lib.decDigits m.natAbs := by rw [Lib.itoa, if_pos hm]
    have hl := hlen m.natAbs (by omega)
    rw [valS, e]
    simp only [List.getElem?_cons_zero, if_true]
    rw [valL, List.take_of_length_le (by rw [List.length_cons]; omega), List.foldl_cons]
    have : valStep 0 45 = 0 := by unfold valStep; rw [if_neg (by decide)]
    rw [this, foldl_dec _ _ (Nat.le_refl _) (by omega)]
    omega
  · obtain ⟨c, r, hd, h1, h2⟩ := decDigits_cons m.toNat
    have e : Lib.itoa m = Lib.decDigits m.toNat := by rw [Lib.itoa, if_neg hm]
    have hl := hlen m.toNat (by omega)
    have hc : c ≠ 45 := by rintro rfl; revert h1; decide
    rw [valS, e, hd]
    simp only [List.getElem?_cons_zero, Option.some.injEq]
    rw [if_neg hc, ← hd, valL, List.take_of_length_le (by omega), foldl_dec _ _ (Nat.le_refl _) (by omega), wrap_i64 (by unfold I64; omega)]
    omega
theorem valS_I64 (s : List UInt8) : I64 (valS s) := by
  unfold valS
  split
  · exact foldl_valStep_I64 (by unfold I64; omega)
  · exact wrap_I64 _
/-- What reading a number tells. -/
def NumIs (s : List UInt8) (n : Int) (b : Bool) : Prop := I64 n ∧ numO s = if b then some n else none
theorem valS_is (s : List UInt8) : NumIs s (valS s) (Lib.itoa (valS s) == s) := by
  refine ⟨valS_I64 s, ?_⟩
  by_cases h : Lib.itoa (valS s) = s
  · rw [if_pos (by simpa using h)]; exact numO_of (valS_I64 s) h
  · rw [if_neg (by simpa using h)]
    refine numO_ne fun m hm e => h ?_
    rw [← e, valS_itoa hm]

theorem tdiv10 (k : Int) : (k.tdiv 10).natAbs = k.natAbs / 10 := Int.natAbs_tdiv k 10
theorem tmod10 (k : Int) : (k.tmod 10).natAbs = k.natAbs % 10 := Int.natAbs_tmod k 10
theorem decDigits_len {u : Nat} (hu : u ≤ 9223372036854775808) : (Lib.decDigits u).length ≤ 19 := by
  rw [Lib.decDigits_length]
  have key : ∀ (k u : Nat), u < 10 ^ (k + 1) → Lib.nDigits u ≤ k + 1 := by
    intro k
    induction k with
    | zero => intro u hu; rw [Lib.nDigits_small (by simpa using hu)]; omega
    | succ k ih =>
      intro u hu
      by_cases h10 : u < 10
      · rw [Lib.nDigits_small h10]; omega
      · rw [Lib.nDigits_big h10]
        have := ih (u / 10) (by rw [Nat.pow_succ] at hu; omega)
        omega
  exact key 18 u (by omega)
theorem itoa_len {n : Int} (h : I64 n) : (Lib.itoa n).length ≤ 20 := by
  unfold I64 at h
  unfold Lib.itoa
  split
  · have := decDigits_len (u := n.natAbs) (by omega)
    rw [List.length_cons]; omega
  · have := decDigits_len (u := n.toNat) (by omega)
    omega
/-- The loop that writes a number. -/
def NumInv (n k : Int) (s : List UInt8) : Prop := (k = 0 → s = Lib.decDigits n.natAbs) ∧ (k ≠ 0 → Lib.decDigits k.natAbs ++ s = Lib.decDigits n.natAbs)
theorem NumInv.start {n : Int} (h : n ≠ 0) : NumInv n n [] := ⟨fun e => absurd e h, fun _ => by simp⟩
theorem NumInv.step {n k : Int} {s : List UInt8} (h : NumInv n k s) (hk : k ≠ 0) {x : Int} (hx : x = 48 + (k.tmod 10).natAbs) : NumInv n (k.tdiv 10) ([UInt8.ofNat x.toNat] ++ s) := by
  have h1 := h.2 hk
  have e1 := tdiv10 k
  have e2 := tmod10 k
  have ex : x.toNat = 48 + k.natAbs % 10 := by omega
  rw [ex]
  by_cases hb : k.natAbs < 10
  · have hz : k.tdiv 10 = 0 := by omega
    refine ⟨fun _ => ?_, fun e => absurd hz e⟩
    rw [← h1, Lib.decDigits_one hb, Nat.mod_eq_of_lt hb]
  · have hz : k.tdiv 10 ≠ 0 := by omega
    refine ⟨fun e => absurd e hz, fun _ => ?_⟩
    rw [← h1, decDigits_big hb, e1, List.append_assoc]
theorem NumInv.len {n k : Int} {s : List UInt8} (h : NumInv n k s) (hn : I64 n) : s.length ≤ 19 := by
  have hl := decDigits_len (u := n.natAbs) (by unfold I64 at hn; omega)
  by_cases hk : k = 0
  · rw [h.1 hk]; exact hl
  · have := h.2 hk
    rw [← this, List.length_append] at hl
    omega
theorem getD_at {l : List UInt8} {i : Nat} (h : i < l.length) : l[i]? = some (l.getD i 0) := by
  simp [List.getD, List.getElem?_eq_getElem h]
theorem val_hit {s : List UInt8} {i : Nat} {n : Int} (e : n = (s.take i).foldl valStep 0) (h : i < s.length) (h1 : ((s.getD i 0).toNat : Int) ≥ 48) (h2 : ((s.getD i 0).toNat : Int) ≤ 57) :
    IntKind.i64.wrap (IntKind.i64.wrap (n * 10) - (((s.getD i 0).toNat : Int) - 48)) = (s.take (i + 1)).foldl valStep 0 := by
  have hg : s.getD i 0 = s[i] := by simp [List.getD, List.getElem?_eq_getElem h]
  rw [List.take_succ_eq_append_getElem h, List.foldl_append, ← e, List.foldl_cons, List.foldl_nil, hg, valStep, if_pos (by rw [hg] at h1 h2; omega)]
  congr 1
  rw [hg] at h1
  omega
theorem val_miss {s : List UInt8} {i : Nat} {n : Int} (e : n = (s.take i).foldl valStep 0) (h : i < s.length) (h1 : ¬ (((s.getD i 0).toNat : Int) ≥ 48 ∧ ((s.getD i 0).toNat : Int) ≤ 57)) :
    n = (s.take (i + 1)).foldl valStep 0 := by
  have hg : s.getD i 0 = s[i] := by simp [List.getD, List.getElem?_eq_getElem h]
  rw [List.take_succ_eq_append_getElem h, List.foldl_append, ← e, List.foldl_cons, List.foldl_nil, valStep, if_neg (by rw [hg] at h1; omega)]
theorem val_end {s : List UInt8} {i : Nat} {n : Int} (e : n = (s.take i).foldl valStep 0) (h : i = 20 ∨ (s.length ≤ i ∧ i ≤ 20)) : n = valL s := by
  rw [valL, e]
  rcases h with rfl | ⟨h, h2⟩
  · rfl
  · rw [List.take_of_length_le h, List.take_of_length_le (by omega)]
theorem val_minus {s : List UInt8} {n : Int} (e : n = valL s) (h : ¬ ((s.length : Int) = 0)) (h1 : ((s.getD 0 0).toNat : Int) = 45) : n = valS s := by
  have h0 : 0 < s.length := by omega
  have hc : s[0]? = some 45 := by
    rw [getD_at h0]
    congr 1
    apply UInt8.toNat.inj
    have : (45 : UInt8).toNat = 45 := rfl
    omega
  rw [valS, if_pos hc, e]
theorem val_plus {s : List UInt8} {n : Int} (e : n = valL s) (h : (s.length : Int) = 0 ∨ ¬ (((s.getD 0 0).toNat : Int) = 45)) : IntKind.i64.wrap (0 - n) = valS s := by
  have hc : ¬ s[0]? = some 45 := by
    intro hs
    have h0 := (List.getElem?_eq_some_iff.1 hs).1
    rcases h with h | h
    · omega
    · apply h
      rw [getD_at h0] at hs
      injection hs with hs
      rw [hs]; rfl
  rw [valS, if_neg hc, e]
theorem number_zero {n : Int} (h : n = 0) : S [48] = S (Lib.itoa n) := by
  subst h
  rw [Lib.itoa, if_neg (by omega), show (0 : Int).toNat = 0 from rfl, Lib.decDigits_one (by omega)]
  rfl
theorem number_neg {n : Int} {s : List UInt8} (h : n < 0) (e : s = Lib.decDigits n.natAbs) : S ([45] ++ s) = S (Lib.itoa n) := by
  subst e
  rw [Lib.itoa, if_pos h]
  rfl
theorem number_pos {n : Int} {s : List UInt8} (h : ¬ n < 0) (e : s = Lib.decDigits n.natAbs) : S s = S (Lib.itoa n) := by
  subst e
  rw [Lib.itoa, if_neg h, show n.natAbs = n.toNat by omega]
theorem map_S_at {l : List (List UInt8)} {i : Nat} (h : i < l.length) : (l.map S)[i]? = some (S (l.getD i [])) := by
  simp [List.getD, List.getElem?_eq_getElem h]
end Go.Hop
