/- What is proved here: small laws on parts of a heap that lie apart, and what a world holds of them. -/
import Derived.Orders
import Derived.Laws.Sem
import Derived.Laws.World
import Derived.Laws.Cells
import Derived.Tactics
namespace Go.Hop
universe u

abbrev Hp := Nat → Option Obj
abbrev Assn := Hp → Prop

def Hp.emp : Hp := fun _ => none
def Hp.sep (h k : Hp) : Prop := ∀ b, h b = none ∨ k b = none
def Hp.join (h k : Hp) : Hp := fun b => match h b with | some o => some o | none => k b

theorem Hp.sep.symm {h k : Hp} (s : h.sep k) : k.sep h := fun b => (s b).symm
theorem Hp.join_comm {h k : Hp} (s : h.sep k) : h.join k = k.join h := by
  funext b
  simp only [Hp.join]
  rcases s b with e | e <;> rw [e]
  · cases k b <;> rfl
  · cases h b <;> rfl
theorem Hp.join_assoc (a b c : Hp) : (a.join b).join c = a.join (b.join c) := by
  funext x
  simp only [Hp.join]
  cases a x <;> rfl
theorem Hp.emp_join (h : Hp) : Hp.emp.join h = h := rfl
theorem Hp.join_emp (h : Hp) : h.join Hp.emp = h := by
  funext x
  simp only [Hp.join, Hp.emp]
  cases h x <;> rfl
theorem Hp.emp_sep (h : Hp) : Hp.emp.sep h := fun _ => .inl rfl
theorem Hp.sep_join {a b c : Hp} : a.sep (b.join c) ↔ a.sep b ∧ a.sep c := by
  constructor
  · intro s
    refine ⟨fun x => ?_, fun x => ?_⟩
    · rcases s x with e | e
      · exact .inl e
      · right; simp only [Hp.join] at e; cases hb : b x with
        | none => rfl
        | some o => rw [hb] at e; cases e
    · rcases s x with e | e
      · exact .inl e
      · right; simp only [Hp.join] at e; cases hb : b x with
        | none => rw [hb] at e; exact e
        | some o => rw [hb] at e; cases e
  · rintro ⟨s, t⟩ x
    rcases s x with e | e
    · exact .inl e
    · rcases t x with e' | e'
      · exact .inl e'
      · right; simp only [Hp.join, e, e']
theorem Hp.join_sep {a b c : Hp} : (a.join b).sep c ↔ a.sep c ∧ b.sep c :=
  ⟨fun s => let ⟨x, y⟩ := Hp.sep_join.1 s.symm; ⟨x.symm, y.symm⟩, fun ⟨x, y⟩ => (Hp.sep_join.2 ⟨x.symm, y.symm⟩).symm⟩

/-- All of them, each in a part of its own. -/
def stars : List Assn → Assn
  | [] => fun h => h = Hp.emp
  | A :: L => fun h => ∃ h1 h2, A h1 ∧ stars L h2 ∧ h1.sep h2 ∧ h = h1.join h2

theorem stars_swap {A B : Assn} {L : List Assn} {h : Hp} (s : stars (A :: B :: L) h) : stars (B :: A :: L) h := by
  obtain ⟨h1, h2, ha, ⟨h3, h4, hb, hl, s34, rfl⟩, s12, rfl⟩ := s
  obtain ⟨s13, s14⟩ := Hp.sep_join.1 s12
  refine ⟨h3, h1.join h4, hb, ⟨h1, h4, ha, hl, s14, rfl⟩, Hp.sep_join.2 ⟨s13.symm, s34⟩, ?_⟩
  rw [← Hp.join_assoc, Hp.join_comm s13, Hp.join_assoc]

theorem stars_perm {L M : List Assn} (p : L.Perm M) : ∀ {h : Hp}, stars L h → stars M h := by
  induction p with
  | nil => exact fun s => s
  | cons A _ ih => rintro h ⟨h1, h2, ha, hl, s, rfl⟩; exact ⟨h1, h2, ha, ih hl, s, rfl⟩
  | swap A B L => exact fun s => stars_swap s
  | trans _ _ ih1 ih2 => exact fun s => ih2 (ih1 s)

theorem stars_append {L M : List Assn} {h : Hp} : stars (L ++ M) h ↔ ∃ h1 h2, stars L h1 ∧ stars M h2 ∧ h1.sep h2 ∧ h = h1.join h2 := by
  induction L generalizing h with
  | nil =>
    constructor
    · exact fun s => ⟨Hp.emp, h, rfl, s, Hp.emp_sep h, rfl⟩
    · rintro ⟨h1, h2, rfl, s, _, rfl⟩; exact s
  | cons A L ih =>
    constructor
    · rintro ⟨h1, h2, ha, hl, s, rfl⟩
      obtain ⟨h3, h4, hl3, hm, s34, rfl⟩ := ih.1 hl
      obtain ⟨s13, s14⟩ := Hp.sep_join.1 s
      exact ⟨h1.join h3, h4, ⟨h1, h3, ha, hl3, s13, rfl⟩, hm, Hp.join_sep.2 ⟨s14, s34⟩, (Hp.join_assoc _ _ _).symm⟩
    · rintro ⟨h1, h2, ⟨h3, h4, ha, hl, s34, rfl⟩, hm, s, rfl⟩
      obtain ⟨s32, s42⟩ := Hp.join_sep.1 s
      exact ⟨h3, h4.join h2, ha, ih.2 ⟨h4, h2, hl, hm, s42, rfl⟩, Hp.sep_join.2 ⟨s34, s32⟩, Hp.join_assoc _ _ _⟩

theorem stars_one {A : Assn} {h : Hp} : stars [A] h ↔ A h := by
  constructor
  · rintro ⟨h1, h2, ha, rfl, _, rfl⟩; rw [Hp.join_emp]; exact ha
  · exact fun ha => ⟨h, Hp.emp, ha, rfl, (Hp.emp_sep h).symm, (Hp.join_emp h).symm⟩

/-- One block. -/
def Hp.one (b : Nat) (o : Obj) : Hp := fun x => if x = b then some o else none
def pt (b : Nat) (o : Obj) : Assn := fun h => h = Hp.one b o
/-- A row of plain cells. -/
def cells (b : Nat) (T : TypeId) (cs : List Value) : Assn := pt b (.cells ⟨cs⟩ T (0, 0))
def exA {α : Sort u} (A : α → Assn) : Assn := fun h => ∃ x, A x h
def andA (p : Prop) (A : Assn) : Assn := fun h => p ∧ A h

/-- What of the outside stays. -/
structure Sg where
  os : Os
  output : Array (Nat × ByteArray)
  tape : Nat → Question → Nat
def Sg.of (w : World) : Sg := ⟨w.os, w.output, w.tape⟩

/-- The world holds all of these, each in blocks of its own. -/
structure Holds (σ : Sg) (w : World) (L : List Assn) : Prop where
  os : w.os = σ.os
  output : w.output = σ.output
  tape : w.tape = σ.tape
  heap : ∃ h, stars L h ∧ ∀ b o, h b = some o → w.heap[b]? = some o

namespace Holds
variable {σ : Sg} {w : World} {L M R : List Assn} {A B : Assn}

theorem perm (H : Holds σ w L) (p : L.Perm M) : Holds σ w M :=
  let ⟨h, s, k⟩ := H.heap
  ⟨H.os, H.output, H.tape, h, stars_perm p s, k⟩

theorem drop (H : Holds σ w (A :: L)) : Holds σ w L := by
  obtain ⟨h, ⟨h1, h2, ha, hl, s, rfl⟩, k⟩ := H.heap
  refine ⟨H.os, H.output, H.tape, h2, hl, fun b o e => k b o ?_⟩
  simp only [Hp.join]
  rcases s b with e1 | e1
  · rw [e1]; exact e
  · rw [e1] at e; cases e

theorem weaken (H : Holds σ w (A :: L)) (f : ∀ h, A h → B h) : Holds σ w (B :: L) := by
  obtain ⟨h, ⟨h1, h2, ha, hl, s, rfl⟩, k⟩ := H.heap
  exact ⟨H.os, H.output, H.tape, _, ⟨h1, h2, f _ ha, hl, s, rfl⟩, k⟩

theorem flat : Holds σ w (stars M :: L) ↔ Holds σ w (M ++ L) := by
  constructor
  · intro H
    obtain ⟨h, ⟨h1, h2, ha, hl, s, rfl⟩, k⟩ := H.heap
    exact ⟨H.os, H.output, H.tape, _, stars_append.2 ⟨h1, h2, ha, hl, s, rfl⟩, k⟩
  · intro H
    obtain ⟨h, hs, k⟩ := H.heap
    obtain ⟨h1, h2, ha, hl, s, rfl⟩ := stars_append.1 hs
    exact ⟨H.os, H.output, H.tape, _, ⟨h1, h2, ha, hl, s, rfl⟩, k⟩

theorem ex {α : Sort u} {P : α → Assn} : Holds σ w (exA P :: L) ↔ ∃ x, Holds σ w (P x :: L) := by
  constructor
  · intro H
    obtain ⟨h, ⟨h1, h2, ⟨x, ha⟩, hl, s, rfl⟩, k⟩ := H.heap
    exact ⟨x, H.os, H.output, H.tape, _, ⟨h1, h2, ha, hl, s, rfl⟩, k⟩
  · rintro ⟨x, H⟩
    obtain ⟨h, ⟨h1, h2, ha, hl, s, rfl⟩, k⟩ := H.heap
    exact ⟨H.os, H.output, H.tape, _, ⟨h1, h2, ⟨x, ha⟩, hl, s, rfl⟩, k⟩

theorem and_ {p : Prop} : Holds σ w (andA p A :: L) ↔ p ∧ Holds σ w (A :: L) := by
  constructor
  · intro H
    obtain ⟨h, ⟨h1, h2, ⟨x, ha⟩, hl, s, rfl⟩, k⟩ := H.heap
    exact ⟨x, H.os, H.output, H.tape, _, ⟨h1, h2, ha, hl, s, rfl⟩, k⟩
  · rintro ⟨x, H⟩
    obtain ⟨h, ⟨h1, h2, ha, hl, s, rfl⟩, k⟩ := H.heap
    exact ⟨H.os, H.output, H.tape, _, ⟨h1, h2, ⟨x, ha⟩, hl, s, rfl⟩, k⟩

theorem block {b : Nat} {o : Obj} (H : Holds σ w (pt b o :: L)) : w.heap[b]? = some o := by
  obtain ⟨h, ⟨h1, h2, rfl, hl, s, rfl⟩, k⟩ := H.heap
  exact k b o (by simp [Hp.join, Hp.one])

theorem lt {b : Nat} {o : Obj} (H : Holds σ w (pt b o :: L)) : b < w.heap.size := by
  have := H.block
  rcases Nat.lt_or_ge b w.heap.size with h | h
  · exact h
  · rw [Array.getElem?_eq_none h] at this; cases this

theorem ne {b c : Nat} {o p : Obj} (H : Holds σ w (pt b o :: pt c p :: L)) : b ≠ c := by
  rintro rfl
  obtain ⟨h, ⟨h1, h2, rfl, ⟨h3, h4, rfl, _, _, rfl⟩, s, rfl⟩, k⟩ := H.heap
  have := s b
  simp [Hp.join, Hp.one] at this

/-- Another world whose heap reads the same. -/
theorem same (H : Holds σ w L) {w' : World} (h1 : w'.os = w.os) (h2 : w'.output = w.output) (h3 : w'.tape = w.tape) (h4 : ∀ (b : Nat) (o : Obj), w.heap[b]? = some o → w'.heap[b]? = some o) : Holds σ w' L :=
  let ⟨h, s, k⟩ := H.heap
  ⟨h1.trans H.os, h2.trans H.output, h3.trans H.tape, h, s, fun b o e => h4 b o (k b o e)⟩

theorem drew (H : Holds σ w L) : Holds σ w.drew L := H.same rfl rfl rfl fun _ _ e => e
theorem drawn (H : Holds σ w L) (n : Nat) : Holds σ { w with drawn := n } L := H.same rfl rfl rfl fun _ _ e => e

theorem alloc (H : Holds σ w L) (o : Obj) : Holds σ (w.alloc o) (pt w.heap.size o :: L) := by
  obtain ⟨h, s, k⟩ := H.heap
  have hlt : ∀ b p, h b = some p → b < w.heap.size := fun b p e => by
    have := k b p e
    rcases Nat.lt_or_ge b w.heap.size with h | h
    · exact h
    · rw [Array.getElem?_eq_none h] at this; cases this
  refine ⟨H.os, H.output, H.tape, (Hp.one w.heap.size o).join h, ⟨_, h, rfl, s, fun b => ?_, rfl⟩, fun b p e => ?_⟩
  · by_cases hb : b = w.heap.size
    · right
      cases hh : h b with
      | none => rfl
      | some p => have := hlt b p hh; omega
    · left; simp [Hp.one, hb]
  · by_cases hb : b = w.heap.size
    · subst hb
      have e' : o = p := by simpa [Hp.join, Hp.one] using e
      subst e'
      show (w.heap.push o)[w.heap.size]? = some o
      simp
    · have e' : h b = some p := by simpa [Hp.join, Hp.one, hb] using e
      have := hlt b p e'
      show (w.heap.push o)[b]? = some p
      rw [Array.getElem?_push, if_neg (by omega)]
      exact k b p e'

/-- One block becomes another; all else stays. -/
theorem setBlock {b : Nat} {o : Obj} (H : Holds σ w (pt b o :: L)) (o' : Obj) {w' : World} (h1 : w'.os = w.os) (h2 : w'.output = w.output) (h3 : w'.tape = w.tape)
    (h4 : w'.heap[b]? = some o') (h5 : ∀ c, c ≠ b → w'.heap[c]? = w.heap[c]?) : Holds σ w' (pt b o' :: L) := by
  obtain ⟨h, ⟨g1, g2, rfl, hl, s, rfl⟩, k⟩ := H.heap
  refine ⟨h1.trans H.os, h2.trans H.output, h3.trans H.tape, (Hp.one b o').join g2, ⟨_, g2, rfl, hl, fun c => ?_, rfl⟩, fun c p e => ?_⟩
  · rcases s c with e | e
    · left
      by_cases hc : c = b
      · simp [Hp.one, hc] at e
      · simp [Hp.one, hc]
    · exact .inr e
  · by_cases hc : c = b
    · subst hc
      have e' : o' = p := by simpa [Hp.join, Hp.one] using e
      subst e'; exact h4
    · have e' : g2 c = some p := by simpa [Hp.join, Hp.one, hc] using e
      rw [h5 c hc]
      exact k c p (by simpa [Hp.join, Hp.one, hc] using e')

theorem setCell {b : Nat} {cs : Array Value} {T : TypeId} {fz : Nat × Nat} (H : Holds σ w (pt b (.cells cs T fz) :: L)) (i : Nat) (v : Value) :
    Holds σ (w.setCell ⟨b, i, none⟩ v) (pt b (.cells (cs.setIfInBounds i v) T fz) :: L) := by
  refine H.setBlock _ rfl rfl rfl ?_ ?_
  · simp [World.setCell, Array.getElem?_modify, H.block]
  · intro c hc
    simp only [World.setCell, Array.getElem?_modify]
    rw [if_neg (by simpa using fun e => hc e.symm)]

theorem setObj {b : Nat} {o : Obj} (H : Holds σ w (pt b o :: L)) (o' : Obj) : Holds σ { w with heap := w.heap.setIfInBounds b o' } (pt b o' :: L) := by
  have hb := H.lt
  refine H.setBlock _ rfl rfl rfl ?_ ?_
  · simp [hb]
  · intro c hc
    simp only [Array.getElem?_setIfInBounds]
    rw [if_neg (fun e => hc e.symm)]

theorem cell {b i : Nat} {cs : Array Value} {T : TypeId} {fz : Nat × Nat} {v : Value} (H : Holds σ w (pt b (.cells cs T fz) :: L)) (h : cs[i]? = some v) : w.cell? ⟨b, i, none⟩ = some v := by
  simp [World.cell?, H.block, h]

theorem frozen {b i : Nat} {cs : Array Value} {T : TypeId} {lo hi : Nat} (H : Holds σ w (pt b (.cells cs T (lo, hi)) :: L)) (h : i < lo ∨ hi ≤ i) : w.frozen? ⟨b, i, none⟩ = false := by
  simp only [World.frozen?, H.block]
  rcases h with h | h
  · simp; omega
  · simp; omega

theorem shape {b : Nat} {cs : Array Value} {T : TypeId} {fz : Nat × Nat} (H : Holds σ w (pt b (.cells cs T fz) :: L)) : w.shape? b = some (T, cs.size) := by
  simp [World.shape?, H.block]
end Holds

/-- The i-th taken out, ahead of the others. -/
def pickAt : List Assn → Nat → Option (Assn × List Assn)
  | [], _ => none
  | A :: L, 0 => some (A, L)
  | A :: L, i + 1 => match pickAt L i with
    | some (B, M) => some (B, A :: M)
    | none => none
theorem pickAt_perm : ∀ {L : List Assn} {i : Nat} {A : Assn} {M : List Assn}, pickAt L i = some (A, M) → L.Perm (A :: M)
  | A :: L, 0, _, _, h => by cases h; exact .refl _
  | A :: L, i + 1, B, M, h => by
    simp only [pickAt] at h
    cases hp : pickAt L i with
    | none => rw [hp] at h; cases h
    | some p =>
      obtain ⟨C, N⟩ := p
      rw [hp] at h
      cases h
      exact (List.Perm.cons A (pickAt_perm hp)).trans (.swap _ _ _)
/-- Some taken out (each place as it is behind the earlier takings), and what is left. -/
def picks : List Assn → List Nat → Option (List Assn × List Assn)
  | L, [] => some ([], L)
  | L, i :: is => match pickAt L i with
    | some (A, M) => match picks M is with
      | some (As, R) => some (A :: As, R)
      | none => none
    | none => none
theorem picks_perm : ∀ {is : List Nat} {L As R : List Assn}, picks L is = some (As, R) → L.Perm (As ++ R)
  | [], L, As, R, h => by cases h; exact .refl _
  | i :: is, L, As, R, h => by
    simp only [picks] at h
    cases hp : pickAt L i with
    | none => rw [hp] at h; cases h
    | some p =>
      obtain ⟨A, M⟩ := p
      rw [hp] at h
      simp only at h
      cases hq : picks M is with
      | none => rw [hq] at h; cases h
      | some q =>
        obtain ⟨Bs, S⟩ := q
        rw [hq] at h
        cases h
        exact (pickAt_perm hp).trans (.cons _ (picks_perm hq))
theorem Holds.at_ {σ : Sg} {w : World} {L M : List Assn} {A : Assn} (H : Holds σ w L) (i : Nat) (h : pickAt L i = some (A, M)) : Holds σ w (A :: M) := H.perm (pickAt_perm h)
theorem Holds.picks {σ : Sg} {w : World} {L As R : List Assn} (H : Holds σ w L) (is : List Nat) (h : Hop.picks L is = some (As, R)) : Holds σ w (As ++ R) := H.perm (picks_perm h)

end Go.Hop
