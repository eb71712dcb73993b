/- What is proved here: append, over a slice that grows in memory of its own. -/
import Derived.Test.YtompaigbpfekhaaGreatDoorHopEff
namespace Go.Hop

def empA : Assn := fun h => h = Hp.emp
theorem holds_emp {σ : Sg} {w : World} {L : List Assn} : Holds σ w (empA :: L) ↔ Holds σ w L := by
  constructor
  · exact fun H => H.drop
  · intro H
    obtain ⟨h, s, k⟩ := H.heap
    exact ⟨H.os, H.output, H.tape, h, ⟨Hp.emp, h, rfl, s, Hp.emp_sep h, rfl⟩, k⟩

/-- A slice that owns its row: n elements of k cells, 'cs' their cells; behind them what room there is. -/
def Own (T k : Nat) (v : Value) (n : Nat) (cs : List Value) : Assn :=
  exA fun p : Option (Nat × Nat × List Value) => match p with
    | none => andA (v = .slice none 0 0 ∧ n = 0 ∧ cs = []) empA
    | some (b, cap, sp) => andA (v = .slice (some ⟨b, 0, none⟩) n cap ∧ n ≤ cap ∧ cs.length = n * k ∧ sp.length = (cap - n) * k) (row b T (cs ++ sp))

theorem own_open {σ : Sg} {w : World} {L : List Assn} {T k n : Nat} {v : Value} {cs : List Value} : Holds σ w (Own T k v n cs :: L) ↔
    (v = .slice none 0 0 ∧ n = 0 ∧ cs = [] ∧ Holds σ w L) ∨ (∃ b cap sp, v = .slice (some ⟨b, 0, none⟩) n cap ∧ n ≤ cap ∧ cs.length = n * k ∧ sp.length = (cap - n) * k ∧ Holds σ w (row b T (cs ++ sp) :: L)) := by
  unfold Own
  rw [Holds.ex]
  constructor
  · rintro ⟨p, H⟩
    rcases p with _ | ⟨b, cap, sp⟩
    · obtain ⟨⟨h1, h2, h3⟩, H⟩ := Holds.and_.1 H
      exact .inl ⟨h1, h2, h3, holds_emp.1 H⟩
    · obtain ⟨⟨h1, h2, h3, h4⟩, H⟩ := Holds.and_.1 H
      exact .inr ⟨b, cap, sp, h1, h2, h3, h4, H⟩
  · rintro (⟨h1, h2, h3, H⟩ | ⟨b, cap, sp, h1, h2, h3, h4, H⟩)
    · exact ⟨none, Holds.and_.2 ⟨⟨h1, h2, h3⟩, holds_emp.2 H⟩⟩
    · exact ⟨some (b, cap, sp), Holds.and_.2 ⟨⟨h1, h2, h3, h4⟩, H⟩⟩

theorem own_nil {σ : Sg} {w : World} {L : List Assn} (T k : Nat) (H : Holds σ w L) : Holds σ w (Own T k (.slice none 0 0) 0 [] :: L) := own_open.2 (.inl ⟨rfl, rfl, rfl, H⟩)

theorem growBy_le {need : Nat} : ∀ {r c : Nat}, c ≤ need → 256 ≤ c → Builtin.growBy need r c ≤ 2 * need
  | 0, c, h, _ => by simp only [Builtin.growBy]; omega
  | r + 1, c, h, hc => by
    simp only [Builtin.growBy]
    split
    · omega
    · by_cases h2 : c + (c + 768) / 4 ≤ need
      · exact growBy_le h2 (by omega)
      · cases r with
        | zero => simp only [Builtin.growBy]; omega
        | succ r => simp only [Builtin.growBy]; rw [if_pos (by omega)]; omega
theorem nextcap_le {need cap : Nat} (h : cap < need) : Builtin.nextslicecap need cap ≤ 2 * need := by
  unfold Builtin.nextslicecap
  split
  · omega
  · split
    · omega
    · exact growBy_le (by omega) (by omega)

theorem layAt_append {a b c d : List Value} (h : b.length = c.length) : layAt (a ++ (b ++ d)) a.length c = some (a ++ (c ++ d)) := by
  induction a with
  | nil =>
    simp only [List.nil_append, List.length_nil]
    induction c generalizing b with
    | nil =>
      have : b = [] := List.eq_nil_of_length_eq_zero h
      subst this
      cases d <;> rfl
    | cons x c ih =>
      cases b with
      | nil => simp at h
      | cons y b =>
        simp only [List.cons_append, layAt]
        rw [ih (by simpa using h)]
  | cons x a ih =>
    simp only [List.cons_append, List.length_cons, layAt, ih]

section
variable {P : Program} {tab : Tab} {σ : Sg} {L M : List Assn} {E : Env}

theorem drop_take_self {cs sp : List Value} {k : Nat} (h : cs.length = k) : ((cs ++ sp).drop 0).take k = cs := by
  subst h; simp

theorem zeroCells_eq {z : List Value} {n : Nat} : Builtin.zeroCells ⟨z⟩ n = ⟨reps z n⟩ := zeros_eq

theorem own_first {w : World} {T k n : Nat} {v : Value} {cs : List Value} (hh : Holds σ w (Own T k v n cs :: M)) : (Builtin.firstCells k n v).run P w = .ok ⟨cs⟩ w := by
  rcases own_open.1 hh with ⟨rfl, rfl, rfl, H⟩ | ⟨b, cap, sp, rfl, h1, h2, h3, H⟩
  · rfl
  · have := loadCells_run (P := P) (o := 0) (n := n * k) H (by rw [List.length_append]; omega)
    simp only [Builtin.firstCells]
    rw [this, drop_take_self h2]

theorem append_run (ht : tab.OK P) {w : World} {tys : Array TypeId} {S S2 T' el : Nat} {te t2e : TyE} {sz by_ : Nat} {z : List Value} {v y : Value} {n m : Nat} {cs ys : List Value}
    (hS : tys[0]? = some S) (hT : tab.get S = some ⟨.slice el, sz, z, by_⟩) (he : tab.get el = some te) (hz : te.zero.length = te.size)
    (hS2 : tys[1]? = some S2) (hT2 : tab.get S2 = some t2e) (hni : (∃ e2, t2e.desc = .slice e2) ∨ t2e.desc = .string)
    (hlen : ∀ w, (Builtin.lenOf y).run P w = .ok m w) (hsrc : ∀ w, Holds σ w (Own el te.size v n cs :: M) → (Builtin.firstCells te.size m y).run P w = .ok ⟨ys⟩ w) (hone : allOne ys = true) (hys : ys.length = m * te.size)
    (hmax : (n + m) * te.bytes ≤ 2 ^ 47) (hb : 0 < te.bytes)
    (hh : Holds σ w (Own el te.size v n cs :: M)) :
    ∃ u w', (Builtin.append_ tys T' #[v, y]).run P w = .ok u w' ∧ Holds σ w' (Own el te.size u (n + m) (cs ++ ys) :: M) := by
  have t1 := ht.get hT
  have t2 := ht.get he
  have t3 := ht.get hT2
  have hnle : n + m ≤ 2 ^ 47 := Nat.le_trans (Nat.le_mul_of_pos_right _ hb) hmax
  obtain ⟨i, hi, _, hi2, _⟩ := t2.run_typeInfo (w := w)
  -- there is no room: a new row
  have grow : ∀ (a : Option Addr) (cap : Nat), v = .slice a n cap → cap < n + m → cs.length = n * te.size → Holds σ w M →
      ∃ u w', (Builtin.append_ tys T' #[v, y]).run P w = .ok u w' ∧ Holds σ w' (Own el te.size u (n + m) (cs ++ ys) :: M) := by
    intro a cap hv hlt hcs hM
    have hcap : Builtin.nextslicecap (n + m) cap * te.bytes ≤ 2 ^ 48 := by
      have := nextcap_le hlt
      have := Nat.mul_le_mul_right te.bytes this
      rw [Nat.mul_assoc] at this
      omega
    let q : Question := .appendCap (n + m) cap el
    let c := q.cut (w.tape w.drawn q)
    have hc : n + m ≤ c := Nat.le_add_right _ _
    obtain ⟨zv, hzv, hzc⟩ := t2.run_zeroValue (w := w.drew)
    obtain ⟨i', hi', _⟩ := t2.run_typeInfo (w := w.drew)
    have ezv : zv.cells = ⟨te.zero⟩ := by rw [← hzc]
    refine ⟨.slice (some ⟨w.heap.size, 0, none⟩) (n + m) c, w.drew.alloc (.cells ⟨cs ++ ys ++ reps te.zero (c - (n + m))⟩ el), ?_, ?_⟩
    · have hchoose : (choose (.appendCap (n + m) cap el)).run P w = .ok c w.drew := by
        simp only [choose, Sem.run, Question.forced]
        rfl
      have hold' : (Builtin.firstCells te.size n (.slice a n cap)).run P w.drew = .ok ⟨cs⟩ w.drew := by rw [← hv]; exact own_first hh.drew
      have hsrc' := hsrc _ hh.drew
      subst hv
      have hcs2 : (⟨cs⟩ ++ ⟨ys⟩ ++ (⟨reps te.zero (c - (n + m))⟩ : Array Value)) = ⟨cs ++ ys ++ reps te.zero (c - (n + m))⟩ := by simp
      rcases hni with ⟨e2, hd⟩ | hd <;>
      · simp only [Builtin.append_, hS, hS2, List.getElem?_toArray, List.getElem?_cons_zero, List.getElem?_cons_succ, Sem.run_bind, t1.run_underlying, t3.run_underlying, Result.andThen_ok, t2.run_sizeOf, Sem.run_pure, hd, Bool.false_eq_true, if_false, hlen]
        rw [if_neg (Nat.not_le.2 hlt)]
        simp only [Sem.run_bind, hi, Result.andThen_ok]
        rw [if_neg (by rw [hi2]; simp; omega)]
        simp only [Sem.run_bind, hi, Result.andThen_ok]
        rw [if_neg (by rw [hi2]; omega)]
        simp only [Sem.run_bind, hchoose, hi', Result.andThen_ok, run_askRoom, Bool.not_false, if_true, hold', hsrc', hzv, ezv, zeroCells_eq, Sem.run_pure, newRow, run_newObj]
        rw [hcs2]
        rfl
    · refine own_open.2 (.inr ⟨w.heap.size, c, reps te.zero (c - (n + m)), rfl, hc, by rw [List.length_append, hcs, hys, Nat.add_mul], by rw [reps_length, hz], ?_⟩)
      have := hM.drew.alloc (.cells ⟨cs ++ ys ++ reps te.zero (c - (n + m))⟩ el)
      exact this
  rcases own_open.1 hh with ⟨rfl, rfl, rfl, H⟩ | ⟨b, cap, sp, rfl, h1, h2, h3, H⟩
  · by_cases hm : 0 + m ≤ 0
    · have hm0 : m = 0 := by omega
      subst hm0
      have hy0 : ys = [] := List.eq_nil_of_length_eq_zero (by rw [hys]; simp)
      subst hy0
      refine ⟨.slice none 0 0, w, ?_, own_nil _ _ H⟩
      have hsrc' := hsrc _ hh
      rcases hni with ⟨e2, hd⟩ | hd <;>
      · simp only [Builtin.append_, hS, hS2, List.getElem?_toArray, List.getElem?_cons_zero, List.getElem?_cons_succ, Sem.run_bind, t1.run_underlying, t3.run_underlying, Result.andThen_ok, t2.run_sizeOf, Sem.run_pure, hd, Bool.false_eq_true, if_false, hlen]
        rw [if_pos (by omega)]
        simp only [Sem.run_bind, Bool.not_false, if_true, hsrc', Result.andThen_ok, Sem.run_pure]
    · exact grow none 0 rfl (by omega) (by simp) H
  · by_cases hroom : n + m ≤ cap
    · have hsrc' := hsrc _ hh
      have hsp : sp = sp.take (m * te.size) ++ sp.drop (m * te.size) := (List.take_append_drop _ _).symm
      have hlen1 : (sp.take (m * te.size)).length = ys.length := by
        rw [List.length_take, h3, hys]
        exact Nat.min_eq_left (Nat.mul_le_mul_right _ (by omega))
      have hlay : layAt (cs ++ sp) (n * te.size + 0) ys = some (cs ++ (ys ++ sp.drop (m * te.size))) := by
        rw [hsp, Nat.add_zero, ← h2]
        rw [layAt_append hlen1]
        congr 1
        rw [← hsp]
      obtain ⟨w', r1, r2⟩ := storeCells_run (P := P) (o := n * te.size) (i := 0) H hone hlay (by omega)
      refine ⟨.slice (some ⟨b, 0, none⟩) (n + m) cap, w', ?_, own_open.2 (.inr ⟨b, cap, sp.drop (m * te.size), rfl, hroom, by rw [List.length_append, h2, hys, Nat.add_mul], ?_, ?_⟩)⟩
      · rcases hni with ⟨e2, hd⟩ | hd <;>
        · simp only [Builtin.append_, hS, hS2, List.getElem?_toArray, List.getElem?_cons_zero, List.getElem?_cons_succ, Sem.run_bind, t1.run_underlying, t3.run_underlying, Result.andThen_ok, t2.run_sizeOf, Sem.run_pure, hd, Bool.false_eq_true, if_false, hlen]
          rw [if_pos hroom]
          simp only [Sem.run_bind, Bool.not_false, if_true, hsrc', Result.andThen_ok, addr_add, Nat.zero_add, r1, Sem.run_pure]
      · rw [List.length_drop, h3, ← Nat.sub_mul]
        congr 1; omega
      · rw [List.append_assoc]; exact r2
    · exact grow _ cap rfl (by omega) h2 H.drop

/-- Append onto a slice that owns its row. -/
theorem eff_append (ht : tab.OK P) {d : Option Tmp} {x y : Operand} {S S2 ty el : Nat} {rt : List TypeId} {pos : String} {af : Array Edge} {g : Option (Nat × Bool)} {te t2e : TyE} {sz by_ : Nat} {z : List Value} {v yv : Value} {n m : Nat} {cs ys : List Value}
    (i : Nat) (hx : ev E x = some v) (hy : ev E y = some yv) (hi' : pickAt L i = some (Own el te.size v n cs, M)) (hT : tab.get S = some ⟨.slice el, sz, z, by_⟩) (he : tab.get el = some te) (hz : te.zero.length = te.size)
    (hT2 : tab.get S2 = some t2e) (hni : (∃ e2, t2e.desc = .slice e2) ∨ t2e.desc = .string) (hlen : ∀ w, (Builtin.lenOf yv).run P w = .ok m w)
    (hsrc : ∀ w, Holds σ w (Own el te.size v n cs :: M) → (Builtin.firstCells te.size m yv).run P w = .ok ⟨ys⟩ w) (hone : allOne ys = true) (hys : ys.length = m * te.size) (hmax : (n + m) * te.bytes ≤ 2 ^ 47) (hb : 0 < te.bytes) :
    Eff P σ E ⟨d, .call ⟨.builtin .append, ⟨[x, y]⟩, ⟨S :: S2 :: rt⟩⟩, ty, pos, af, g⟩ L fun u L' => L' = Own el te.size u (n + m) (cs ++ ys) :: M := by
  intro w ρ a K Q ha hh hk
  obtain ⟨u, w', r1, r2⟩ := append_run ht (T' := ty) (tys := ⟨S :: S2 :: rt⟩) (y := yv) rfl hT he hz rfl hT2 hni hlen hsrc hone hys hmax hb (hh.at_ i hi')
  have hrun : (execOp ρ ⟨d, .call ⟨.builtin .append, ⟨[x, y]⟩, ⟨S :: S2 :: rt⟩⟩, ty, pos, af, g⟩).run P w = .ok (.value u) w' := by
    have hargs : (⟨[x, y]⟩ : Array Operand).map ρ = #[v, yv] := by simp [ha x _ hx, ha y _ hy]
    simp only [execOp, resolve, hargs, Sem.run_bind, Sem.run_pure, Result.andThen_ok, invoke, builtin, r1]
  rw [hrun]
  exact hk u w' _ rfl r2

theorem src_row {w : World} {k m b o c j T lo hi : Nat} {cs ys : List Value} (hh : Holds σ w L) (hj : pickAt L j = some (rowF b T cs lo hi, M)) (hc : cut cs o (m * k) = some ys) :
    (Builtin.firstCells k m (.slice (some ⟨b, o, none⟩) m c)).run P w = .ok ⟨ys⟩ w := by
  obtain ⟨h1, rfl⟩ := cut_spec hc
  exact loadCells_run (P := P) (hh.at_ j hj) h1
theorem src_own {w : World} {k m j T : Nat} {v : Value} {ys : List Value} (hh : Holds σ w L) (hj : pickAt L j = some (Own T k v m ys, M)) :
    (Builtin.firstCells k m v).run P w = .ok ⟨ys⟩ w := own_first (hh.at_ j hj)
theorem src_nil {w : World} {k m n c : Nat} : (Builtin.firstCells k m (.slice none n c)).run P w = .ok ⟨[]⟩ w := rfl
def byteV (c : UInt8) : Value := .int .u8 (c.toNat : Int)
theorem src_str {w : World} {k : Nat} {s : List UInt8} : (Builtin.firstCells k s.length (.string ⟨⟨s⟩⟩)).run P w = .ok ⟨s.map byteV⟩ w := by
  simp only [Builtin.firstCells, Sem.run_pure, extract_list]
  congr 1
  simp [byteV]
end
end Go.Hop
