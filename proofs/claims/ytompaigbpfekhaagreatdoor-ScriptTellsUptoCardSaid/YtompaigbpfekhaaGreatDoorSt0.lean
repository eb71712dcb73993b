/- What is proved here: small laws on parts of a heap that lie apart, and what a world holds of them. -/
import Derived.Orders
import Derived.Laws.Sem
import Derived.Laws.World
import Derived.Laws.Cells
import Derived.Tactics
import Derived.Test.YtompaigbpfekhaaGreatDoorProg
import Derived.KernelRfl
import Derived.Laws.Strings
namespace Go.Hop
universe u

/-- Parts of a heap: blocks, each one's own (false), or for good as it is (true). -/
abbrev Hp := Nat → Option (Bool × Obj)
abbrev Assn := Hp → Prop

/-- At one place: apart, or the same for good. -/
def ok2 : Option (Bool × Obj) → Option (Bool × Obj) → Prop
  | none, _ => True
  | some _, none => True
  | some p, some q => p.1 = true ∧ p = q
theorem ok2_none (x : Option (Bool × Obj)) : ok2 x none := by cases x <;> trivial
theorem ok2_symm : ∀ {x y : Option (Bool × Obj)}, ok2 x y → ok2 y x
  | none, y, _ => ok2_none y
  | some _, none, _ => trivial
  | some p, some q, ⟨h1, h2⟩ => by subst h2; exact ⟨h1, rfl⟩
def or2 (x y : Option (Bool × Obj)) : Option (Bool × Obj) := match x with | some o => some o | none => y
theorem or2_comm : ∀ {x y : Option (Bool × Obj)}, ok2 x y → or2 x y = or2 y x
  | none, none, _ => rfl
  | none, some _, _ => rfl
  | some _, none, _ => rfl
  | some _, some _, ⟨_, h⟩ => by rw [h]
theorem or2_ok : ∀ {x y z : Option (Bool × Obj)}, ok2 y z → (ok2 x (or2 y z) ↔ ok2 x y ∧ ok2 x z)
  | none, y, z, _ => ⟨fun _ => ⟨trivial, trivial⟩, fun _ => trivial⟩
  | some p, none, none, _ => ⟨fun _ => ⟨trivial, trivial⟩, fun _ => trivial⟩
  | some p, none, some r, _ => ⟨fun h => ⟨trivial, h⟩, fun h => h.2⟩
  | some p, some q, none, _ => ⟨fun h => ⟨h, trivial⟩, fun h => h.1⟩
  | some p, some q, some r, ⟨_, h⟩ => by subst h; exact ⟨fun h => ⟨h, h⟩, fun h => h.1⟩

def Hp.emp : Hp := fun _ => none
def Hp.sep (h k : Hp) : Prop := ∀ b, ok2 (h b) (k b)
def Hp.join (h k : Hp) : Hp := fun b => or2 (h b) (k b)

theorem Hp.sep.symm {h k : Hp} (s : h.sep k) : k.sep h := fun b => ok2_symm (s b)
theorem Hp.join_comm {h k : Hp} (s : h.sep k) : h.join k = k.join h := funext fun b => or2_comm (s b)
theorem Hp.join_assoc (a b c : Hp) : (a.join b).join c = a.join (b.join c) := by
  funext x
  simp only [Hp.join]
  cases a x <;> rfl
theorem Hp.emp_join (h : Hp) : Hp.emp.join h = h := rfl
theorem Hp.join_emp (h : Hp) : h.join Hp.emp = h := by
  funext x
  simp only [Hp.join, Hp.emp]
  cases h x <;> rfl
theorem Hp.emp_sep (h : Hp) : Hp.emp.sep h := fun _ => trivial
theorem Hp.sep_emp (h : Hp) : h.sep Hp.emp := fun _ => ok2_none _
theorem Hp.sep_join {a b c : Hp} (s : b.sep c) : a.sep (b.join c) ↔ a.sep b ∧ a.sep c :=
  ⟨fun h => ⟨fun x => ((or2_ok (s x)).1 (h x)).1, fun x => ((or2_ok (s x)).1 (h x)).2⟩, fun h x => (or2_ok (s x)).2 ⟨h.1 x, h.2 x⟩⟩
theorem Hp.join_sep {a b c : Hp} (s : a.sep b) : (a.join b).sep c ↔ a.sep c ∧ b.sep c :=
  ⟨fun h => let ⟨x, y⟩ := (Hp.sep_join s).1 h.symm; ⟨x.symm, y.symm⟩, fun ⟨x, y⟩ => ((Hp.sep_join s).2 ⟨x.symm, y.symm⟩).symm⟩
theorem Hp.join_self {h : Hp} : h.join h = h := by
  funext x
  simp only [Hp.join]
  cases h x <;> rfl

/-- All of them, each in a part of its own. -/
def stars : List Assn → Assn
  | [] => fun h => h = Hp.emp
  | A :: L => fun h => ∃ h1 h2, A h1 ∧ stars L h2 ∧ h1.sep h2 ∧ h = h1.join h2

theorem stars_swap {A B : Assn} {L : List Assn} {h : Hp} (s : stars (A :: B :: L) h) : stars (B :: A :: L) h := by
  obtain ⟨h1, h2, ha, ⟨h3, h4, hb, hl, s34, rfl⟩, s12, rfl⟩ := s
  obtain ⟨s13, s14⟩ := (Hp.sep_join s34).1 s12
  refine ⟨h3, h1.join h4, hb, ⟨h1, h4, ha, hl, s14, rfl⟩, (Hp.sep_join s14).2 ⟨s13.symm, s34⟩, ?_⟩
  rw [← Hp.join_assoc, Hp.join_comm s13, Hp.join_assoc]

theorem stars_perm {L M : List Assn} (p : L.Perm M) : ∀ {h : Hp}, stars L h → stars M h := by
  induction p with
  | nil => exact fun s => s
  | cons A _ ih => rintro h ⟨h1, h2, ha, hl, s, rfl⟩; exact ⟨h1, h2, ha, ih hl, s, rfl⟩
  | swap A B L => exact fun s => stars_swap s
  | trans _ _ ih1 ih2 => exact fun s => ih2 (ih1 s)

theorem stars_append {L M : List Assn} {h : Hp} : stars (L ++ M) h ↔ ∃ h1 h2, stars L h1 ∧ stars M h2 ∧ h1.sep h2 ∧ h = h1.join h2 := by
  induction L generalizing h with
  | nil =>
    constructor
    · exact fun s => ⟨Hp.emp, h, rfl, s, Hp.emp_sep h, rfl⟩
    · rintro ⟨h1, h2, rfl, s, _, rfl⟩; exact s
  | cons A L ih =>
    constructor
    · rintro ⟨h1, h2, ha, hl, s, rfl⟩
      obtain ⟨h3, h4, hl3, hm, s34, rfl⟩ := ih.1 hl
      obtain ⟨s13, s14⟩ := (Hp.sep_join s34).1 s
      exact ⟨h1.join h3, h4, ⟨h1, h3, ha, hl3, s13, rfl⟩, hm, (Hp.join_sep s13).2 ⟨s14, s34⟩, (Hp.join_assoc _ _ _).symm⟩
    · rintro ⟨h1, h2, ⟨h3, h4, ha, hl, s34, rfl⟩, hm, s, rfl⟩
      obtain ⟨s32, s42⟩ := (Hp.join_sep s34).1 s
      exact ⟨h3, h4.join h2, ha, ih.2 ⟨h4, h2, hl, hm, s42, rfl⟩, (Hp.sep_join s42).2 ⟨s34, s32⟩, Hp.join_assoc _ _ _⟩

theorem stars_one {A : Assn} {h : Hp} : stars [A] h ↔ A h := by
  constructor
  · rintro ⟨h1, h2, ha, rfl, _, rfl⟩; rw [Hp.join_emp]; exact ha
  · exact fun ha => ⟨h, Hp.emp, ha, rfl, (Hp.emp_sep h).symm, (Hp.join_emp h).symm⟩

/-- One block. -/
def Hp.one (b : Nat) (f : Bool) (o : Obj) : Hp := fun x => if x = b then some (f, o) else none
def ptf (f : Bool) (b : Nat) (o : Obj) : Assn := fun h => h = Hp.one b f o
abbrev pt (b : Nat) (o : Obj) : Assn := ptf false b o
/-- A row of plain cells. -/
def cells (b : Nat) (T : TypeId) (cs : List Value) : Assn := pt b (.cells ⟨cs⟩ T (0, 0))
def exA {α : Sort u} (A : α → Assn) : Assn := fun h => ∃ x, A x h
def andA (p : Prop) (A : Assn) : Assn := fun h => p ∧ A h
/-- All of its blocks are for good as they are. -/
def Pers (A : Assn) : Prop := ∀ h, A h → h.sep h
theorem Pers.im (b : Nat) (o : Obj) : Pers (ptf true b o) := by
  rintro h rfl x
  by_cases e : x = b
  · simp [Hp.one, e, ok2]
  · simp [Hp.one, e, ok2]
theorem Pers.ex {α : Sort u} {A : α → Assn} (h : ∀ x, Pers (A x)) : Pers (exA A) := fun k ⟨x, hx⟩ => h x k hx
theorem Pers.and {p : Prop} {A : Assn} (h : p → Pers A) : Pers (andA p A) := fun k ⟨x, hx⟩ => h x k hx
theorem Pers.stars : ∀ {L : List Assn}, (∀ A ∈ L, Pers A) → Pers (stars L)
  | [], _ => by rintro h rfl; exact Hp.emp_sep _
  | A :: L, hl => by
    rintro h ⟨h1, h2, ha, hs, s, rfl⟩
    have p1 := hl A (List.mem_cons_self ..) _ ha
    have p2 := Pers.stars (L := L) (fun B hB => hl B (List.mem_cons_of_mem _ hB)) _ hs
    exact (Hp.join_sep s).2 ⟨(Hp.sep_join s).2 ⟨p1, s⟩, (Hp.sep_join s).2 ⟨s.symm, p2⟩⟩

/-- What of the outside stays. -/
structure Sg where
  os : Os
  output : Array (Nat × ByteArray)
  tape : Nat → Question → Nat
def Sg.of (w : World) : Sg := ⟨w.os, w.output, w.tape⟩

/-- The world holds all of these, each in blocks of its own. -/
structure Holds (σ : Sg) (w : World) (L : List Assn) : Prop where
  os : w.os = σ.os
  output : w.output = σ.output
  tape : w.tape = σ.tape
  heap : ∃ h, stars L h ∧ ∀ b f o, h b = some (f, o) → w.heap[b]? = some o

namespace Holds
variable {σ : Sg} {w : World} {L M R : List Assn} {A B : Assn}

theorem perm (H : Holds σ w L) (p : L.Perm M) : Holds σ w M :=
  let ⟨h, s, k⟩ := H.heap
  ⟨H.os, H.output, H.tape, h, stars_perm p s, k⟩

theorem drop (H : Holds σ w (A :: L)) : Holds σ w L := by
  obtain ⟨h, ⟨h1, h2, ha, hl, s, rfl⟩, k⟩ := H.heap
  refine ⟨H.os, H.output, H.tape, h2, hl, fun b f o e => ?_⟩
  have hs := s b
  cases hb : h1 b with
  | none => exact k b f o (by simp only [Hp.join, or2, hb]; exact e)
  | some p =>
    rw [hb, e] at hs
    exact k b f o (by simp only [Hp.join, or2, hb]; rw [hs.2])

theorem weaken (H : Holds σ w (A :: L)) (f : ∀ h, A h → B h) : Holds σ w (B :: L) := by
  obtain ⟨h, ⟨h1, h2, ha, hl, s, rfl⟩, k⟩ := H.heap
  exact ⟨H.os, H.output, H.tape, _, ⟨h1, h2, f _ ha, hl, s, rfl⟩, k⟩

theorem flat : Holds σ w (stars M :: L) ↔ Holds σ w (M ++ L) := by
  constructor
  · intro H
    obtain ⟨h, ⟨h1, h2, ha, hl, s, rfl⟩, k⟩ := H.heap
    exact ⟨H.os, H.output, H.tape, _, stars_append.2 ⟨h1, h2, ha, hl, s, rfl⟩, k⟩
  · intro H
    obtain ⟨h, hs, k⟩ := H.heap
    obtain ⟨h1, h2, ha, hl, s, rfl⟩ := stars_append.1 hs
    exact ⟨H.os, H.output, H.tape, _, ⟨h1, h2, ha, hl, s, rfl⟩, k⟩

theorem ex {α : Sort u} {P : α → Assn} : Holds σ w (exA P :: L) ↔ ∃ x, Holds σ w (P x :: L) := by
  constructor
  · intro H
    obtain ⟨h, ⟨h1, h2, ⟨x, ha⟩, hl, s, rfl⟩, k⟩ := H.heap
    exact ⟨x, H.os, H.output, H.tape, _, ⟨h1, h2, ha, hl, s, rfl⟩, k⟩
  · rintro ⟨x, H⟩
    obtain ⟨h, ⟨h1, h2, ha, hl, s, rfl⟩, k⟩ := H.heap
    exact ⟨H.os, H.output, H.tape, _, ⟨h1, h2, ⟨x, ha⟩, hl, s, rfl⟩, k⟩

theorem and_ {p : Prop} : Holds σ w (andA p A :: L) ↔ p ∧ Holds σ w (A :: L) := by
  constructor
  · intro H
    obtain ⟨h, ⟨h1, h2, ⟨x, ha⟩, hl, s, rfl⟩, k⟩ := H.heap
    exact ⟨x, H.os, H.output, H.tape, _, ⟨h1, h2, ha, hl, s, rfl⟩, k⟩
  · rintro ⟨x, H⟩
    obtain ⟨h, ⟨h1, h2, ha, hl, s, rfl⟩, k⟩ := H.heap
    exact ⟨H.os, H.output, H.tape, _, ⟨h1, h2, ⟨x, ha⟩, hl, s, rfl⟩, k⟩

theorem block {b : Nat} {fl : Bool} {o : Obj} (H : Holds σ w (ptf fl b o :: L)) : w.heap[b]? = some o := by
  obtain ⟨h, ⟨h1, h2, rfl, hl, s, rfl⟩, k⟩ := H.heap
  exact k b fl o (by simp [Hp.join, or2, Hp.one])

theorem lt {b : Nat} {fl : Bool} {o : Obj} (H : Holds σ w (ptf fl b o :: L)) : b < w.heap.size := by
  have := H.block
  rcases Nat.lt_or_ge b w.heap.size with h | h
  · exact h
  · rw [Array.getElem?_eq_none h] at this; cases this

theorem ne {b c : Nat} {o p : Obj} (H : Holds σ w (pt b o :: pt c p :: L)) : b ≠ c := by
  rintro rfl
  obtain ⟨h, ⟨h1, h2, rfl, ⟨h3, h4, rfl, _, _, rfl⟩, s, rfl⟩, k⟩ := H.heap
  have := s b
  simp [Hp.join, or2, Hp.one, ok2] at this

/-- Another world whose heap reads the same. -/
theorem same (H : Holds σ w L) {w' : World} (h1 : w'.os = w.os) (h2 : w'.output = w.output) (h3 : w'.tape = w.tape) (h4 : ∀ (b : Nat) (o : Obj), w.heap[b]? = some o → w'.heap[b]? = some o) : Holds σ w' L :=
  let ⟨h, s, k⟩ := H.heap
  ⟨h1.trans H.os, h2.trans H.output, h3.trans H.tape, h, s, fun b f o e => h4 b o (k b f o e)⟩

theorem drew (H : Holds σ w L) : Holds σ w.drew L := H.same rfl rfl rfl fun _ _ e => e
theorem drawn (H : Holds σ w L) (n : Nat) : Holds σ { w with drawn := n } L := H.same rfl rfl rfl fun _ _ e => e

theorem alloc (H : Holds σ w L) (o : Obj) : Holds σ (w.alloc o) (pt w.heap.size o :: L) := by
  obtain ⟨h, s, k⟩ := H.heap
  have hlt : ∀ b f p, h b = some (f, p) → b < w.heap.size := fun b f p e => by
    have := k b f p e
    rcases Nat.lt_or_ge b w.heap.size with h | h
    · exact h
    · rw [Array.getElem?_eq_none h] at this; cases this
  refine ⟨H.os, H.output, H.tape, (Hp.one w.heap.size false o).join h, ⟨_, h, rfl, s, fun b => ?_, rfl⟩, fun b f p e => ?_⟩
  · by_cases hb : b = w.heap.size
    · cases hh : h b with
      | none => exact ok2_none _
      | some p => have := hlt b p.1 p.2 hh; omega
    · simp [Hp.one, hb, ok2]
  · by_cases hb : b = w.heap.size
    · subst hb
      have e' : o = p := by
        have e2 : false = f ∧ o = p := by simpa [Hp.join, or2, Hp.one] using e
        exact e2.2
      subst e'
      show (w.heap.push o)[w.heap.size]? = some o
      simp
    · have e' : h b = some (f, p) := by simpa [Hp.join, or2, Hp.one, hb] using e
      have := hlt b f p e'
      show (w.heap.push o)[b]? = some p
      rw [Array.getElem?_push, if_neg (by omega)]
      exact k b f p e'

/-- One block becomes another; all else stays. -/
theorem setBlock {b : Nat} {o : Obj} (H : Holds σ w (pt b o :: L)) (o' : Obj) {w' : World} (h1 : w'.os = w.os) (h2 : w'.output = w.output) (h3 : w'.tape = w.tape)
    (h4 : w'.heap[b]? = some o') (h5 : ∀ c, c ≠ b → w'.heap[c]? = w.heap[c]?) : Holds σ w' (pt b o' :: L) := by
  obtain ⟨h, ⟨g1, g2, rfl, hl, s, rfl⟩, k⟩ := H.heap
  have gb : g2 b = none := by
    have := s b
    cases hb : g2 b with
    | none => rfl
    | some p => rw [hb] at this; simp [Hp.one, ok2] at this
  refine ⟨h1.trans H.os, h2.trans H.output, h3.trans H.tape, (Hp.one b false o').join g2, ⟨_, g2, rfl, hl, fun c => ?_, rfl⟩, fun c f p e => ?_⟩
  · by_cases hc : c = b
    · subst hc; rw [gb]; exact ok2_none _
    · simp [Hp.one, hc, ok2]
  · by_cases hc : c = b
    · subst hc
      have e' : false = f ∧ o' = p := by simpa [Hp.join, or2, Hp.one] using e
      rw [← e'.2]; exact h4
    · have e' : g2 c = some (f, p) := by simpa [Hp.join, or2, Hp.one, hc] using e
      rw [h5 c hc]
      exact k c f p (by simpa [Hp.join, or2, Hp.one, hc] using e')

/-- From now on for good as it is. -/
theorem freeze {b : Nat} {o : Obj} (H : Holds σ w (pt b o :: L)) : Holds σ w (ptf true b o :: L) := by
  obtain ⟨h, ⟨g1, g2, rfl, hl, s, rfl⟩, k⟩ := H.heap
  have gb : g2 b = none := by
    have := s b
    cases hb : g2 b with
    | none => rfl
    | some p => rw [hb] at this; simp [Hp.one, ok2] at this
  refine ⟨H.os, H.output, H.tape, (Hp.one b true o).join g2, ⟨_, g2, rfl, hl, fun c => ?_, rfl⟩, fun c f p e => ?_⟩
  · by_cases hc : c = b
    · subst hc; rw [gb]; exact ok2_none _
    · simp [Hp.one, hc, ok2]
  · by_cases hc : c = b
    · subst hc
      have e' : true = f ∧ o = p := by simpa [Hp.join, or2, Hp.one] using e
      exact k c false p (by simp [Hp.join, or2, Hp.one, e'.2])
    · exact k c f p (by simpa [Hp.join, or2, Hp.one, hc] using e)

/-- What is for good as it is may be held twice. -/
theorem dup (H : Holds σ w (A :: L)) (p : Pers A) : Holds σ w (A :: A :: L) := by
  obtain ⟨h, ⟨g1, g2, ha, hl, s, rfl⟩, k⟩ := H.heap
  exact ⟨H.os, H.output, H.tape, _, ⟨g1, g1.join g2, ha, ⟨g1, g2, ha, hl, s, rfl⟩, (Hp.sep_join s).2 ⟨p _ ha, s⟩, by rw [← Hp.join_assoc, Hp.join_self]⟩, k⟩

theorem setCell {b : Nat} {cs : Array Value} {T : TypeId} {fz : Nat × Nat} (H : Holds σ w (pt b (.cells cs T fz) :: L)) (i : Nat) (v : Value) :
    Holds σ (w.setCell ⟨b, i, none⟩ v) (pt b (.cells (cs.setIfInBounds i v) T fz) :: L) := by
  refine H.setBlock _ rfl rfl rfl ?_ ?_
  · simp [World.setCell, Array.getElem?_modify, H.block]
  · intro c hc
    simp only [World.setCell, Array.getElem?_modify]
    rw [if_neg (by simpa using fun e => hc e.symm)]

theorem setObj {b : Nat} {o : Obj} (H : Holds σ w (pt b o :: L)) (o' : Obj) : Holds σ { w with heap := w.heap.setIfInBounds b o' } (pt b o' :: L) := by
  have hb := H.lt
  refine H.setBlock _ rfl rfl rfl ?_ ?_
  · simp [hb]
  · intro c hc
    simp only [Array.getElem?_setIfInBounds]
    rw [if_neg (fun e => hc e.symm)]

theorem cell {b i : Nat} {fl : Bool} {cs : Array Value} {T : TypeId} {fz : Nat × Nat} {v : Value} (H : Holds σ w (ptf fl b (.cells cs T fz) :: L)) (h : cs[i]? = some v) : w.cell? ⟨b, i, none⟩ = some v := by
  simp [World.cell?, H.block, h]

theorem frozen {b i : Nat} {cs : Array Value} {T : TypeId} {lo hi : Nat} (H : Holds σ w (pt b (.cells cs T (lo, hi)) :: L)) (h : i < lo ∨ hi ≤ i) : w.frozen? ⟨b, i, none⟩ = false := by
  simp only [World.frozen?, H.block]
  rcases h with h | h
  · simp; omega
  · simp; omega

theorem shape {b : Nat} {fl : Bool} {cs : Array Value} {T : TypeId} {fz : Nat × Nat} (H : Holds σ w (ptf fl b (.cells cs T fz) :: L)) : w.shape? b = some (T, cs.size) := by
  simp [World.shape?, H.block]
end Holds

/-- The i-th taken out, ahead of the others. -/
def pickAt : List Assn → Nat → Option (Assn × List Assn)
  | [], _ => none
  | A :: L, 0 => some (A, L)
  | A :: L, i + 1 => match pickAt L i with
    | some (B, M) => some (B, A :: M)
    | none => none
theorem pickAt_perm : ∀ {L : List Assn} {i : Nat} {A : Assn} {M : List Assn}, pickAt L i = some (A, M) → L.Perm (A :: M)
  | A :: L, 0, _, _, h => by cases h; exact .refl _
  | A :: L, i + 1, B, M, h => by
    simp only [pickAt] at h
    cases hp : pickAt L i with
    | none => rw [hp] at h; cases h
    | some p =>
      obtain ⟨C, N⟩ := p
      rw [hp] at h
      cases h
      exact (List.Perm.cons A (pickAt_perm hp)).trans (.swap _ _ _)
/-- Some taken out (each place as it is behind the earlier takings), and what is left. -/
def picks : List Assn → List Nat → Option (List Assn × List Assn)
  | L, [] => some ([], L)
  | L, i :: is => match pickAt L i with
    | some (A, M) => match picks M is with
      | some (As, R) => some (A :: As, R)
      | none => none
    | none => none
theorem picks_perm : ∀ {is : List Nat} {L As R : List Assn}, picks L is = some (As, R) → L.Perm (As ++ R)
  | [], L, As, R, h => by cases h; exact .refl _
  | i :: is, L, As, R, h => by
    simp only [picks] at h
    cases hp : pickAt L i with
    | none => rw [hp] at h; cases h
    | some p =>
      obtain ⟨A, M⟩ := p
      rw [hp] at h
      simp only at h
      cases hq : picks M is with
      | none => rw [hq] at h; cases h
      | some q =>
        obtain ⟨Bs, S⟩ := q
        rw [hq] at h
        cases h
        exact (pickAt_perm hp).trans (.cons _ (picks_perm hq))
theorem Holds.at_ {σ : Sg} {w : World} {L M : List Assn} {A : Assn} (H : Holds σ w L) (i : Nat) (h : pickAt L i = some (A, M)) : Holds σ w (A :: M) := H.perm (pickAt_perm h)
theorem Holds.picks {σ : Sg} {w : World} {L As R : List Assn} (H : Holds σ w L) (is : List Nat) (h : Hop.picks L is = some (As, R)) : Holds σ w (As ++ R) := H.perm (picks_perm h)

end Go.Hop
/- What is proved here: how a list of operations that only compute and read is run, by a function that reckons their values. -/
namespace Go.Hop

abbrev Env := List (Nat × Value)
def lk : Env → Nat → Option Value
  | [], _ => none
  | (j, v) :: E, k => cond (Nat.beq j k) (some v) (lk E k)

structure Knows (n : Nat) (E : Env) (a : Act) : Prop where
  defers : a.defers = []
  size : a.tmps.size = n
  val : ∀ k v, lk E k = some v → a.tmps[k]? = some v

def ev (E : Env) : Operand → Option Value
  | .tmp t => lk E t
  | .const v => some v
  | .global g => some (.pointer (some ⟨g, 0, none⟩))
  | .func f => some (.func (.func f) #[] #[])

/-- What is known of the slots is so for the operands. -/
def Agr (E : Env) (ρ : Operand → Value) : Prop := ∀ x u, ev E x = some u → ρ x = u

theorem Knows.agr {n : Nat} {E : Env} {a : Act} (h : Knows n E a) : Agr E a.eval := by
  intro x u hx
  cases x with
  | tmp t =>
    have := h.val t u hx
    simp only [Act.eval, Array.getD_eq_getD_getElem?, this, Option.getD_some]
  | const v => cases hx; rfl
  | «global» g => cases hx; rfl
  | func f => cases hx; rfl

theorem lk_cons {j k : Nat} {v : Value} {E : Env} : lk ((j, v) :: E) k = if j = k then some v else lk E k := by
  simp only [lk]
  by_cases h : j = k
  · subst h; simp
  · rw [if_neg h]
    have : Nat.beq j k = false := by
      cases hb : Nat.beq j k with
      | false => rfl
      | true => exact absurd (Nat.eq_of_beq_eq_true hb) h
    rw [this]; rfl

def rm (E : Env) (t : Nat) : Env := match E with
  | [] => []
  | (j, v) :: E' => cond (Nat.beq j t) (rm E' t) ((j, v) :: rm E' t)

def putE (n : Nat) (E : Env) (d : Option Nat) (v : Value) : Option Env := match d with
  | none => some E
  | some d => cond (Nat.blt d n) (some ((d, v) :: E)) none

theorem Knows.put {n : Nat} {E E' : Env} {a : Act} (h : Knows n E a) {d : Option Nat} {v : Value} (hp : putE n E d v = some E') : Knows n E' (a.put d v) := by
  cases d with
  | none => simp only [putE] at hp; cases hp; exact h
  | some d =>
    simp only [putE] at hp
    cases hb : Nat.blt d n with
    | false => rw [hb] at hp; cases hp
    | true =>
      rw [hb] at hp
      cases hp
      have hd : d < n := Nat.le_of_ble_eq_true hb
      refine ⟨h.defers, by simp [Act.put, h.size], fun k u hk => ?_⟩
      rw [lk_cons] at hk
      simp only [Act.put, Array.getElem?_setIfInBounds]
      by_cases e : d = k
      · rw [if_pos e] at hk; cases hk
        rw [if_pos e, if_pos (by rw [h.size]; exact hd)]
      · rw [if_neg e] at hk
        rw [if_neg e]
        exact h.val k u hk

def keepE (E : Env) : List Nat → Option Env
  | [] => some []
  | k :: ks => match lk E k with
    | some v => match keepE E ks with
      | some E' => some ((k, v) :: E')
      | none => none
    | none => none

theorem keepE_lk {E : Env} : ∀ {ks : List Nat} {E' : Env}, keepE E ks = some E' → ∀ k v, lk E' k = some v → lk E k = some v
  | [], E', h, k, v, hk => by cases h; cases hk
  | j :: ks, E', h, k, v, hk => by
    simp only [keepE] at h
    cases hj : lk E j with
    | none => rw [hj] at h; cases h
    | some u =>
      rw [hj] at h
      simp only at h
      cases hr : keepE E ks with
      | none => rw [hr] at h; cases h
      | some E2 =>
        rw [hr] at h
        cases h
        rw [lk_cons] at hk
        by_cases e : j = k
        · rw [if_pos e] at hk; cases hk; rw [← e]; exact hj
        · rw [if_neg e] at hk; exact keepE_lk hr k v hk

theorem Knows.keep {n : Nat} {E E' : Env} {a : Act} (h : Knows n E a) (ks : List Nat) (hk : keepE E ks = some E') : Knows n E' a :=
  ⟨h.defers, h.size, fun k v e => h.val k v (keepE_lk hk k v e)⟩

/-! types -/
structure TyE where
  desc : TypeDesc
  size : Nat
  zero : List Value
  bytes : Nat
inductive Tab where
  | nil
  | node (l : Tab) (t : Nat) (e : TyE) (r : Tab)
def Tab.get : Tab → Nat → Option TyE
  | .nil, _ => none
  | .node l t e r, k => cond (Nat.beq k t) (some e) (cond (Nat.blt k t) (l.get k) (r.get k))
/-- What the table says of a type is what the program says. -/
structure TyOK (P : Program) (t : Nat) (e : TyE) : Prop where
  desc : P.underlying t = some e.desc
  info : ∃ i, P.info? t = some i ∧ i.size = e.size ∧ i.bytes = e.bytes ∧ ∃ z, i.zero = some z ∧ z.cells.toList = e.zero
def Tab.OK (P : Program) : Tab → Prop
  | .nil => True
  | .node l t e r => l.OK P ∧ TyOK P t e ∧ r.OK P
theorem Tab.OK.get {P : Program} : ∀ {tab : Tab}, tab.OK P → ∀ {t : Nat} {e : TyE}, tab.get t = some e → TyOK P t e
  | .nil, _, _, _, h => by cases h
  | .node l k d r, ⟨hl, hd, hr⟩, t, e, h => by
    simp only [Tab.get] at h
    cases hb : Nat.beq t k with
    | true =>
      rw [hb] at h
      have := Nat.eq_of_beq_eq_true hb
      subst this
      cases h; exact hd
    | false =>
      rw [hb] at h
      cases hc : Nat.blt t k with
      | true => rw [hc] at h; exact hl.get h
      | false => rw [hc] at h; exact hr.get h

section
variable {P : Program} {t : Nat} {e : TyE} {w : World}
theorem TyOK.run_underlying (h : TyOK P t e) : (underlying t).run P w = .ok e.desc w := by
  simp [underlying, h.desc]
theorem TyOK.run_typeInfo (h : TyOK P t e) : ∃ i, (typeInfo t).run P w = .ok i w ∧ i.size = e.size ∧ i.bytes = e.bytes ∧ ∃ z, i.zero = some z ∧ z.cells.toList = e.zero := by
  obtain ⟨i, h1, h2, h3, h4⟩ := h.info
  exact ⟨i, by simp [typeInfo, h1], h2, h3, h4⟩
theorem TyOK.run_sizeOf (h : TyOK P t e) : (sizeOf t).run P w = .ok e.size w := by
  obtain ⟨i, h1, h2, _⟩ := h.run_typeInfo (w := w)
  simp [sizeOf, h1, h2]
theorem TyOK.run_zeroValue (h : TyOK P t e) : ∃ z, (zeroValue t).run P w = .ok z w ∧ z.cells.toList = e.zero := by
  obtain ⟨i, h1, _, _, z, h2, h3⟩ := h.run_typeInfo (w := w)
  exact ⟨z, by simp [zeroValue, h1, h2], h3⟩
def TypeDesc.isAggB : TypeDesc → Bool
  | .struct _ | .array _ _ => true
  | _ => false
theorem TyOK.run_isAgg (h : TyOK P t e) : (isAgg t).run P w = .ok (TypeDesc.isAggB e.desc) w := by
  simp only [isAgg, Sem.run_bind, h.run_underlying, Result.andThen_ok]
  cases e.desc <;> rfl
end

/-! values of operations -/
def ikEq : IntKind → IntKind → Bool
  | .i8, .i8 | .i16, .i16 | .i32, .i32 | .i64, .i64 | .u8, .u8 | .u16, .u16 | .u32, .u32 | .u64, .u64 => true
  | _, _ => false
theorem ikEq_eq : ∀ {a b : IntKind}, ikEq a b = true → a = b := by
  intro a b h
  cases a <;> cases b <;> first | rfl | cases h

def bitsV (op : BinOp) (k : IntKind) (m n : Int) : Int :=
  match op with
  | .and => k.wrap (BitVec.ofInt k.bits m &&& BitVec.ofInt k.bits n).toNat
  | .or => k.wrap (BitVec.ofInt k.bits m ||| BitVec.ofInt k.bits n).toNat
  | .xor => k.wrap (BitVec.ofInt k.bits m ^^^ BitVec.ofInt k.bits n).toNat
  | _ => k.wrap (BitVec.ofInt k.bits m &&& ~~~ BitVec.ofInt k.bits n).toNat

def binInt (op : BinOp) (k : IntKind) (m n : Int) : Option Value :=
  match op with
  | .add => some (.int k (k.wrap (m + n)))
  | .sub => some (.int k (k.wrap (m - n)))
  | .mul => some (.int k (k.wrap (m * n)))
  | .eql => some (.bool (m == n))
  | .neq => some (.bool (m != n))
  | .lss => some (.bool (decide (m < n)))
  | .leq => some (.bool (decide (m ≤ n)))
  | .gtr => some (.bool (decide (m > n)))
  | .geq => some (.bool (decide (m ≥ n)))
  | .and => some (.int k (bitsV .and k m n))
  | .or => some (.int k (bitsV .or k m n))
  | .xor => some (.int k (bitsV .xor k m n))
  | .andNot => some (.int k (bitsV .andNot k m n))
  | _ => none

def binStr (op : BinOp) (s t : List UInt8) : Option Value :=
  match op with
  | .eql => some (.bool (s == t))
  | .neq => some (.bool (!(s == t)))
  | .lss => some (.bool (Op.bytesLess s t))
  | .gtr => some (.bool (!(Op.bytesLess s t || s == t)))
  | _ => none

def binEq (op : BinOp) (b : Bool) : Option Value :=
  match op with
  | .eql => some (.bool b)
  | .neq => some (.bool (!b))
  | _ => none

def binV (tab : Tab) (op : BinOp) (T : Nat) (x y : Value) : Option Value :=
  match x, y with
  | .int k m, .int k' n => cond (ikEq k k') (binInt op k m n) none
  | .string ⟨⟨s⟩⟩, .string ⟨⟨t⟩⟩ => binStr op s t
  | .bool p, .bool q => match tab.get T with
    | some ⟨.bool, _, _, _⟩ => binEq op (p == q)
    | _ => none
  | .pointer none, .pointer q => match tab.get T with
    | some ⟨.pointer _, _, _, _⟩ => binEq op q.isNone
    | _ => none
  | .pointer (some _), .pointer none => match tab.get T with
    | some ⟨.pointer _, _, _, _⟩ => binEq op false
    | _ => none
  | .slice none _ _, .slice q _ _ => match tab.get T with
    | some ⟨.slice _, _, _, _⟩ => binEq op q.isNone
    | _ => none
  | .slice (some _) _ _, .slice none _ _ => match tab.get T with
    | some ⟨.slice _, _, _, _⟩ => binEq op false
    | _ => none
  | _, _ => none

def unV (op : UnOp) (x : Value) : Option Value :=
  match op, x with
  | .not, .bool b => some (.bool (!b))
  | .neg, .int k n => some (.int k (k.wrap (0 - n)))
  | .xor, .int k n => some (.int k (bitsV .xor k (if k.signed then -1 else k.max) n))
  | _, _ => none

def convV (tab : Tab) (src dst : Nat) (x : Value) : Option Value :=
  match tab.get src, tab.get dst, x with
  | some _, some ⟨.int k, _, _, _⟩, .int _ n => some (.int k (k.wrap n))
  | some _, some ⟨.string, _, _, _⟩, .string s => some (.string s)
  | _, _, _ => none

def fieldV (tab : Tab) (T : Nat) (x : Value) (f : Nat) : Option Value :=
  match tab.get T, x with
  | some ⟨.struct fs, _, _, _⟩, .pointer (some ⟨b, o, none⟩) => match fs[f]? with
    | some fd => match tab.get fd.type with
      | some te => cond (Nat.beq te.size 0) none (some (.pointer (some ⟨b, o + fd.offset, none⟩)))
      | none => none
    | none => none
  | _, _ => none

def nilV (x : Value) : Option Value :=
  match x with
  | .pointer (some a) => some (.pointer (some a))
  | .func (.func f) fi c => some (.func (.func f) fi c)
  | _ => none

def extV (x : Value) (i : Nat) : Option Value :=
  match x with
  | .tuple ⟨vs⟩ => vs[i]?
  | _ => none

def lenV (tab : Tab) (T : Option Nat) (x : Value) : Option Value :=
  match T with
  | none => none
  | some T => match tab.get T, x with
    | some ⟨.string, _, _, _⟩, .string ⟨⟨s⟩⟩ => some (.int .i64 (s.length : Int))
    | some ⟨.slice _, _, _, _⟩, .slice _ n _ => some (.int .i64 (n : Int))
    | _, _ => none

def evs (E : Env) : List Operand → Option (List Value)
  | [] => some []
  | x :: xs => match ev E x with
    | some v => match evs E xs with
      | some vs => some (v :: vs)
      | none => none
    | none => none

def callV (tab : Tab) (E : Env) (c : Call) : Option Value :=
  match c.callee, c.args with
  | .builtin .len, ⟨[x]⟩ => match ev E x with
    | some v => lenV tab c.argTypes[0]? v
    | none => none
  | .builtin .min, ⟨[x, y]⟩ => match ev E x, ev E y with
    | some (.int k m), some (.int _ n) => some (.int k (if n < m then n else m))
    | _, _ => none
  | .builtin .max, ⟨[x, y]⟩ => match ev E x, ev E y with
    | some (.int k m), some (.int _ n) => some (.int k (if n > m then n else m))
    | _, _ => none
  | _, _ => none

/-- The cells of a built struct: the parts laid into zeros. -/
def layAt : List Value → Nat → List Value → Option (List Value)
  | cs, 0, [] => some cs
  | _ :: cs, 0, v :: vs => match layAt cs 0 vs with
    | some r => some (v :: r)
    | none => none
  | c :: cs, i + 1, vs => match layAt cs i vs with
    | some r => some (c :: r)
    | none => none
  | [], _ + 1, [] => none
  | [], _, _ :: _ => none
def placesV (tab : Tab) : List Field → Option (List (Nat × Nat))
  | [] => some []
  | f :: fs => match tab.get f.type with
    | some te => match placesV tab fs with
      | some r => some ((f.offset, te.size) :: r)
      | none => none
    | none => none
def fillV (E : Env) (pl : List (Nat × Nat)) : List (Nat × Operand) → List Value → Option (List Value)
  | [], cs => some cs
  | (i, x) :: ps, cs => match pl[i]? with
    | some (off, sz) => match ev E x with
      | some v => cond (Nat.beq sz v.cells.toList.length) (match layAt cs off v.cells.toList with
        | some r => fillV E pl ps r
        | none => none) none
      | none => none
    | none => none
def buildV (tab : Tab) (E : Env) (T : Nat) (ps : List (Nat × Operand)) : Option (List Value) :=
  match tab.get T with
  | some ⟨.struct ⟨fs⟩, _, z, _⟩ => match placesV tab fs with
    | some pl => fillV E pl ps z
    | none => none
  | _ => none

def ifaceV (tab : Tab) (T : Nat) (u : Value) : Option Value :=
  match tab.get T with
  | some ⟨.interface _, _, _, _⟩ => none
  | some _ => some (.iface T u)
  | none => none

def qv (tab : Tab) (E : Env) (o : Op) : Option Value :=
  match o with
  | .move x => ev E x
  | .assign x => ev E x
  | .pick c x y => match ev E c with
    | some (.bool true) => ev E x
    | some (.bool false) => ev E y
    | _ => none
  | .binOp op T x y _ => match ev E x, ev E y with
    | some u, some v => binV tab op T u v
    | _, _ => none
  | .unOp op _ x => match ev E x with
    | some u => unV op u
    | none => none
  | .convert src dst x => match ev E x with
    | some u => convV tab src dst u
    | none => none
  | .fieldAddr T x f => match ev E x with
    | some u => fieldV tab T u f
    | none => none
  | .extract x i => match ev E x with
    | some u => extV u i
    | none => none
  | .nilCheck x => match ev E x with
    | some u => nilV u
    | none => none
  | .makeFunc fn f c => match evs E f.toList, evs E c.toList with
    | some fi, some ca => some (.func fn ⟨fi⟩ ⟨ca⟩)
    | _, _ => none
  | .makeInterface T x => match ev E x with
    | some u => ifaceV tab T u
    | none => none
  | .build T ps => match buildV tab E T ps.toList with
    | some cs => some (.agg ⟨cs⟩)
    | none => none
  | .call c => callV tab E c
  | _ => none

end Go.Hop
/- What is proved here: the table of types says what the program says. -/
namespace Go.Hop
open Go.Proofs
def tyE (i : TypeInfo) (d : TypeDesc) : TyE := ⟨d, i.size, match i.zero with | some z => z.cells.toList | none => [], i.bytes⟩
theorem tyOK {P : Program} {t : Nat} {i : TypeInfo} {d : TypeDesc} (h1 : P.underlying t = some d) (h2 : P.info? t = some i) {z : Value} (h3 : i.zero = some z) : TyOK P t (tyE i d) :=
  ⟨h1, i, h2, rfl, rfl, z, h3, by simp [tyE, h3]⟩
noncomputable def tab : Tab := (.node (.node (.node (.node (.node .nil 2 (tyE Tryz.t2 Tryz.t2.desc) .nil) 3 (tyE Tryz.t3 Tryz.t3.desc) (.node .nil 4 (tyE Tryz.t4 Tryz.t4.desc) .nil)) 5 (tyE Tryz.t5 Tryz.t5.desc) (.node (.node .nil 9 (tyE Tryz.t9 Tryz.t9.desc) .nil) 21 (tyE Tryz.t21 Tryz.t21.desc) .nil)) 22 (tyE Tryz.t22 Tryz.t22.desc) (.node (.node (.node .nil 26 (tyE Tryz.t26 Tryz.t25.desc) .nil) 29 (tyE Tryz.t29 Tryz.t29.desc) .nil) 30 (tyE Tryz.t30 Tryz.t30.desc) (.node (.node .nil 33 (tyE Tryz.t33 Tryz.t32.desc) .nil) 36 (tyE Tryz.t36 Tryz.t36.desc) .nil))) 37 (tyE Tryz.t37 Tryz.t37.desc) (.node (.node (.node (.node .nil 40 (tyE Tryz.t40 Tryz.t40.desc) .nil) 44 (tyE Tryz.t44 Tryz.t43.desc) .nil) 45 (tyE Tryz.t45 Tryz.t45.desc) (.node (.node .nil 51 (tyE Tryz.t51 Tryz.t51.desc) .nil) 63 (tyE Tryz.t63 Tryz.t63.desc) .nil)) 64 (tyE Tryz.t64 Tryz.t3.desc) (.node (.node (.node .nil 66 (tyE Tryz.t66 Tryz.t65.desc) .nil) 67 (tyE Tryz.t67 Tryz.t67.desc) .nil) 69 (tyE Tryz.t69 Tryz.t68.desc) (.node (.node .nil 74 (tyE Tryz.t74 Tryz.t74.desc) .nil) 81 (tyE Tryz.t81 Tryz.t80.desc) .nil))))
theorem ty2 : TyOK Tryz.prog 2 (tyE Tryz.t2 Tryz.t2.desc) := tyOK (by kernel_rfl) (by kernel_rfl) rfl
theorem ty3 : TyOK Tryz.prog 3 (tyE Tryz.t3 Tryz.t3.desc) := tyOK (by kernel_rfl) (by kernel_rfl) rfl
theorem ty4 : TyOK Tryz.prog 4 (tyE Tryz.t4 Tryz.t4.desc) := tyOK (by kernel_rfl) (by kernel_rfl) rfl
theorem ty5 : TyOK Tryz.prog 5 (tyE Tryz.t5 Tryz.t5.desc) := tyOK (by kernel_rfl) (by kernel_rfl) rfl
theorem ty9 : TyOK Tryz.prog 9 (tyE Tryz.t9 Tryz.t9.desc) := tyOK (by kernel_rfl) (by kernel_rfl) rfl
theorem ty21 : TyOK Tryz.prog 21 (tyE Tryz.t21 Tryz.t21.desc) := tyOK (by kernel_rfl) (by kernel_rfl) rfl
theorem ty22 : TyOK Tryz.prog 22 (tyE Tryz.t22 Tryz.t22.desc) := tyOK (by kernel_rfl) (by kernel_rfl) rfl
theorem ty26 : TyOK Tryz.prog 26 (tyE Tryz.t26 Tryz.t25.desc) := tyOK (by kernel_rfl) (by kernel_rfl) rfl
theorem ty29 : TyOK Tryz.prog 29 (tyE Tryz.t29 Tryz.t29.desc) := tyOK (by kernel_rfl) (by kernel_rfl) rfl
theorem ty30 : TyOK Tryz.prog 30 (tyE Tryz.t30 Tryz.t30.desc) := tyOK (by kernel_rfl) (by kernel_rfl) rfl
theorem ty33 : TyOK Tryz.prog 33 (tyE Tryz.t33 Tryz.t32.desc) := tyOK (by kernel_rfl) (by kernel_rfl) rfl
theorem ty36 : TyOK Tryz.prog 36 (tyE Tryz.t36 Tryz.t36.desc) := tyOK (by kernel_rfl) (by kernel_rfl) rfl
theorem ty37 : TyOK Tryz.prog 37 (tyE Tryz.t37 Tryz.t37.desc) := tyOK (by kernel_rfl) (by kernel_rfl) rfl
theorem ty40 : TyOK Tryz.prog 40 (tyE Tryz.t40 Tryz.t40.desc) := tyOK (by kernel_rfl) (by kernel_rfl) rfl
theorem ty44 : TyOK Tryz.prog 44 (tyE Tryz.t44 Tryz.t43.desc) := tyOK (by kernel_rfl) (by kernel_rfl) rfl
theorem ty45 : TyOK Tryz.prog 45 (tyE Tryz.t45 Tryz.t45.desc) := tyOK (by kernel_rfl) (by kernel_rfl) rfl
theorem ty51 : TyOK Tryz.prog 51 (tyE Tryz.t51 Tryz.t51.desc) := tyOK (by kernel_rfl) (by kernel_rfl) rfl
theorem ty63 : TyOK Tryz.prog 63 (tyE Tryz.t63 Tryz.t63.desc) := tyOK (by kernel_rfl) (by kernel_rfl) rfl
theorem ty64 : TyOK Tryz.prog 64 (tyE Tryz.t64 Tryz.t3.desc) := tyOK (by kernel_rfl) (by kernel_rfl) rfl
theorem ty66 : TyOK Tryz.prog 66 (tyE Tryz.t66 Tryz.t65.desc) := tyOK (by kernel_rfl) (by kernel_rfl) rfl
theorem ty67 : TyOK Tryz.prog 67 (tyE Tryz.t67 Tryz.t67.desc) := tyOK (by kernel_rfl) (by kernel_rfl) rfl
theorem ty69 : TyOK Tryz.prog 69 (tyE Tryz.t69 Tryz.t68.desc) := tyOK (by kernel_rfl) (by kernel_rfl) rfl
theorem ty74 : TyOK Tryz.prog 74 (tyE Tryz.t74 Tryz.t74.desc) := tyOK (by kernel_rfl) (by kernel_rfl) rfl
theorem ty81 : TyOK Tryz.prog 81 (tyE Tryz.t81 Tryz.t80.desc) := tyOK (by kernel_rfl) (by kernel_rfl) rfl
theorem tabOK : tab.OK Tryz.prog := ⟨⟨⟨⟨⟨trivial, ty2, trivial⟩, ty3, ⟨trivial, ty4, trivial⟩⟩, ty5, ⟨⟨trivial, ty9, trivial⟩, ty21, trivial⟩⟩, ty22, ⟨⟨⟨trivial, ty26, trivial⟩, ty29, trivial⟩, ty30, ⟨⟨trivial, ty33, trivial⟩, ty36, trivial⟩⟩⟩, ty37, ⟨⟨⟨⟨trivial, ty40, trivial⟩, ty44, trivial⟩, ty45, ⟨⟨trivial, ty51, trivial⟩, ty63, trivial⟩⟩, ty64, ⟨⟨⟨trivial, ty66, trivial⟩, ty67, trivial⟩, ty69, ⟨⟨trivial, ty74, trivial⟩, ty81, trivial⟩⟩⟩⟩
end Go.Hop
/- What is proved here: an operation whose value is reckoned by 'qv' runs to that value, and leaves the world as it is. -/
namespace Go.Hop

theorem bytes_toList (s : List UInt8) : (ByteArray.mk ⟨s⟩).toList = s := ByteArray.toList_eq _

section
variable {P : Program} {w : World} {tab : Tab} {E : Env} {ρ : Operand → Value}

theorem binInt_run {op : BinOp} {T : Nat} {k : IntKind} {m n : Int} {v : Value} (h : binInt op k m n = some v) : (binOp op T (.int k m) (.int k n)).run P w = .ok v w := by
  cases op <;> simp only [binInt] at h <;> first
    | (cases h; done)
    | (injection h with h; subst h; simp [binOp, Op.intArith, Op.intCmp, Op.intBits, bitsV]; done)

theorem binStr_run {op : BinOp} {T : Nat} {s t : List UInt8} {v : Value} (h : binStr op s t = some v) : (binOp op T (.string ⟨⟨s⟩⟩) (.string ⟨⟨t⟩⟩)).run P w = .ok v w := by
  cases op <;> simp only [binStr] at h <;> first
    | (cases h; done)
    | (injection h with h; subst h; simp [binOp, Op.stringOp]; done)

theorem eqGuard_run {op : BinOp} {T : Nat} {x y : Operand} {u v : Value} (h : (match u, v with | .nilIface, .nilIface => false | .agg _, .agg _ => false | _, _ => true) = true) :
    (eqGuard op T x y u v).run P w = .ok () w := by
  unfold eqGuard
  cases op <;> cases u <;> cases v <;> first | rfl | cases h

theorem binEq_run {op : BinOp} {T : Nat} {u v : Value} {b : Bool} {r : Value} (h : binEq op b = some r) (he : (Op.equal T u v).run P w = .ok b w)
    (hu : (match u, v with | .bool _, .bool _ => true | .pointer _, .pointer _ => true | .slice _ _ _, .slice _ _ _ => true | _, _ => false) = true) : (binOp op T u v).run P w = .ok r w := by
  cases op <;> simp only [binEq] at h <;> (try (cases h; done)) <;> injection h with h <;> subst h <;> cases u <;> cases v <;> first
    | (cases hu; done)
    | (simp [binOp, he]; done)

theorem equal_bool {d T : Nat} (h : (underlying T).run P w = .ok .bool w) (a b : Bool) : (Op.equalIn (d + 1) T (.bool a) (.bool b)).run P w = .ok (a == b) w := by
  rw [Op.equalIn]; simp only [Sem.run_bind, h, Result.andThen_ok]; rfl
theorem equal_ptr_nil {d T e : Nat} (h : (underlying T).run P w = .ok (.pointer e) w) (b : Option Addr) : (Op.equalIn (d + 1) T (.pointer none) (.pointer b)).run P w = .ok b.isNone w := by
  rw [Op.equalIn]; simp only [Sem.run_bind, h, Result.andThen_ok]; rfl
theorem equal_ptr_nil' {d T e : Nat} (h : (underlying T).run P w = .ok (.pointer e) w) (a : Addr) : (Op.equalIn (d + 1) T (.pointer (some a)) (.pointer none)).run P w = .ok false w := by
  rw [Op.equalIn]; simp only [Sem.run_bind, h, Result.andThen_ok]; rfl
theorem equal_slice_nil {d T e n c m k : Nat} (h : (underlying T).run P w = .ok (.slice e) w) (b : Option Addr) : (Op.equalIn (d + 1) T (.slice none n c) (.slice b m k)).run P w = .ok b.isNone w := by
  rw [Op.equalIn]; simp only [Sem.run_bind, h, Result.andThen_ok]; rfl
theorem equal_slice_nil' {d T e n c m k : Nat} (h : (underlying T).run P w = .ok (.slice e) w) (a : Addr) : (Op.equalIn (d + 1) T (.slice (some a) n c) (.slice none m k)).run P w = .ok false w := by
  rw [Op.equalIn]; simp only [Sem.run_bind, h, Result.andThen_ok]; rfl
theorem equal_is {T : Nat} {x y : Value} {b : Bool} (h : (Op.equalIn (9999 + 1) T x y).run P w = .ok b w) : (Op.equal T x y).run P w = .ok b w := h

theorem binV_run (ht : tab.OK P) {op : BinOp} {T : Nat} {u v r : Value} (h : binV tab op T u v = some r) : (binOp op T u v).run P w = .ok r w := by
  unfold binV at h
  split at h
  · rename_i k m k' n
    cases hk : ikEq k k' with
    | false => rw [hk] at h; cases h
    | true => rw [hk] at h; obtain rfl := ikEq_eq hk; exact binInt_run h
  · exact binStr_run h
  · split at h
    · rename_i e; exact binEq_run h (equal_is (equal_bool (ht.get e).run_underlying _ _)) rfl
    · cases h
  · split at h
    · rename_i e; exact binEq_run h (equal_is (equal_ptr_nil (ht.get e).run_underlying _)) rfl
    · cases h
  · split at h
    · rename_i e; exact binEq_run h (equal_is (equal_ptr_nil' (ht.get e).run_underlying _)) rfl
    · cases h
  · split at h
    · rename_i e; exact binEq_run h (equal_is (equal_slice_nil (ht.get e).run_underlying _)) rfl
    · cases h
  · split at h
    · rename_i e; exact binEq_run h (equal_is (equal_slice_nil' (ht.get e).run_underlying _)) rfl
    · cases h
  · cases h

theorem binV_guard {op : BinOp} {T : Nat} {x y : Operand} {u v r : Value} (h : binV tab op T u v = some r) : (eqGuard op T x y u v).run P w = .ok () w := by
  refine eqGuard_run ?_
  cases u <;> cases v <;> first | rfl | (simp [binV] at h; done)

theorem unV_run {op : UnOp} {u r : Value} (h : unV op u = some r) : (Op.unary op u).run P w = .ok r w := by
  unfold unV at h
  split at h
  · injection h with h; subst h; rfl
  · injection h with h; subst h; rfl
  · injection h with h; subst h; simp [Op.unary, Op.intBits, bitsV]
  · cases h

theorem convV_run (ht : tab.OK P) {src dst : Nat} {u r : Value} (h : convV tab src dst u = some r) : (convert src dst u).run P w = .ok r w := by
  unfold convV at h
  split at h
  · rename_i e1 k _ _ _ _ n h1 h2
    injection h with h; subst h
    have t1 := ht.get h1
    have t2 := ht.get h2
    simp only [convert, Sem.run_bind, t1.run_underlying, t2.run_underlying, Result.andThen_ok]
    cases e1.desc <;> simp [Conv.intToInt]
  · rename_i e1 _ _ _ s h1 h2
    injection h with h; subst h
    have t1 := ht.get h1
    have t2 := ht.get h2
    simp only [convert, Sem.run_bind, t1.run_underlying, t2.run_underlying, Result.andThen_ok]
    cases e1.desc <;> simp
  · cases h

theorem addr_add {b o n : Nat} : (⟨b, o, none⟩ : Addr).add n = ⟨b, o + n, none⟩ := by
  unfold Addr.add
  split
  · rename_i h; subst h; rfl
  · rfl

theorem fieldV_run (ht : tab.OK P) {T : Nat} {u r : Value} {f : Nat} (h : fieldV tab T u f = some r) : (Instr.fieldAt T u f).run P w = .ok r w := by
  unfold fieldV at h
  split at h
  · rename_i fs _ _ _ b o h1
    have t1 := ht.get h1
    split at h
    · rename_i fd hf
      split at h
      · rename_i te hte
        have t2 := ht.get hte
        cases hb : Nat.beq te.size 0 with
        | true => rw [hb] at h; cases h
        | false =>
          rw [hb] at h
          injection h with h; subst h
          have hne : te.size ≠ 0 := fun e => by rw [e] at hb; cases hb
          simp [Instr.fieldAt, t1.run_underlying, hf, Instr.sureAddr, fieldPlace, t2.run_sizeOf, hne, addr_add]
      · cases h
    · cases h
  · cases h

theorem lenV_run (ht : tab.OK P) {tys : Array Nat} {T' : Nat} {u r : Value} (h : lenV tab tys[0]? u = some r) : (Builtin.len_ tys T' #[u]).run P w = .ok r w := by
  unfold lenV at h
  split at h
  · cases h
  · rename_i T hT
    split at h
    · rename_i s h1
      injection h with h; subst h
      simp only [Builtin.len_, hT, List.getElem?_toArray, List.getElem?_cons_zero, Sem.run_bind, (ht.get h1).run_underlying, Result.andThen_ok]; rfl
    · rename_i n _ h1
      injection h with h; subst h
      simp only [Builtin.len_, hT, List.getElem?_toArray, List.getElem?_cons_zero, Sem.run_bind, (ht.get h1).run_underlying, Result.andThen_ok]; rfl
    · cases h

theorem evs_map (ha : Agr E ρ) : ∀ {xs : List Operand} {vs : List Value}, evs E xs = some vs → xs.map ρ = vs
  | [], vs, h => by cases h; rfl
  | x :: xs, vs, h => by
    simp only [evs] at h
    cases hx : ev E x with
    | none => rw [hx] at h; cases h
    | some v =>
      rw [hx] at h
      simp only at h
      cases hr : evs E xs with
      | none => rw [hr] at h; cases h
      | some us =>
        rw [hr] at h
        cases h
        rw [List.map_cons, ha x v hx, evs_map ha hr]

theorem callV_run (ht : tab.OK P) (ha : Agr E ρ) {c : Call} {T : Nat} {r : Value} (h : callV tab E c = some r) : (do let d ← resolve ρ c T; invoke d.target d.args : Sem Next).run P w = .ok (.value r) w := by
  unfold callV at h
  split at h
  · rename_i x hc hargs
    split at h
    · rename_i v hx
      have hmap : c.args.map ρ = #[v] := by rw [hargs]; simp [ha x v hx]
      simp only [resolve, hc, hmap, Sem.run_bind, Sem.run_pure, Result.andThen_ok, invoke, builtin]
      rw [lenV_run ht h]; rfl
    · cases h
  · rename_i x y hc hargs
    split at h
    · rename_i k m k' n hx hy
      injection h with h; subst h
      have hmap : c.args.map ρ = #[.int k m, .int k' n] := by rw [hargs]; simp [ha _ _ hx, ha _ _ hy]
      simp [resolve, hc, hmap, invoke, builtin, Builtin.min_, Builtin.min2]
    · cases h
  · rename_i x y hc hargs
    split at h
    · rename_i k m k' n hx hy
      injection h with h; subst h
      have hmap : c.args.map ρ = #[.int k m, .int k' n] := by rw [hargs]; simp [ha _ _ hx, ha _ _ hy]
      simp [resolve, hc, hmap, invoke, builtin, Builtin.max_, Builtin.max2]
    · cases h
  · cases h

theorem layAt_len : ∀ {cs : List Value} {i : Nat} {vs r : List Value}, layAt cs i vs = some r → i + vs.length ≤ cs.length ∧ r.length = cs.length ∧ ∀ j, r[j]? = if i ≤ j ∧ j < i + vs.length then vs[j - i]? else cs[j]?
  | cs, 0, [], r, h => by
    have : r = cs := by cases cs <;> (cases h; rfl)
    subst this
    exact ⟨by simp, rfl, fun j => by rw [if_neg (by simp)]⟩
  | c :: cs, 0, v :: vs, r, h => by
    simp only [layAt] at h
    cases hr : layAt cs 0 vs with
    | none => rw [hr] at h; cases h
    | some q =>
      rw [hr] at h
      cases h
      obtain ⟨h1, h2, h3⟩ := layAt_len hr
      refine ⟨by simp at *; omega, by simp [h2], fun j => ?_⟩
      cases j with
      | zero => simp
      | succ j =>
        have := h3 j
        simp only [Nat.zero_le, true_and, Nat.zero_add, List.getElem?_cons_succ, List.length_cons, Nat.sub_zero] at this ⊢
        rw [this]
        by_cases hj : j < vs.length
        · rw [if_pos hj, if_pos (by omega)]
        · rw [if_neg hj, if_neg (by omega)]
  | c :: cs, i + 1, vs, r, h => by
    simp only [layAt] at h
    cases hr : layAt cs i vs with
    | none => rw [hr] at h; cases h
    | some q =>
      rw [hr] at h
      cases h
      obtain ⟨h1, h2, h3⟩ := layAt_len hr
      refine ⟨by simp; omega, by simp [h2], fun j => ?_⟩
      cases j with
      | zero => simp
      | succ j =>
        have := h3 j
        simp only [List.getElem?_cons_succ]
        rw [this]
        by_cases hj : i ≤ j ∧ j < i + vs.length
        · rw [if_pos hj, if_pos (by omega), show j + 1 - (i + 1) = j - i by omega]
        · rw [if_neg hj, if_neg (by omega)]
  | [], i + 1, vs, r, h => by cases vs <;> cases h
  | [], 0, v :: vs, r, h => by cases h

theorem foldl_lay (vs : List Value) : ∀ (cs : Array Value) (k off : Nat) (j : Nat), off + k + vs.length ≤ cs.size →
    ((vs.zipIdx k).foldl (fun (a : Array Value) (p : Value × Nat) => a.setIfInBounds (off + p.2) p.1) cs)[j]? = if off + k ≤ j ∧ j < off + k + vs.length then vs[j - (off + k)]? else cs[j]? := by
  induction vs with
  | nil => intro cs k off j _; simp; omega
  | cons v vs ih =>
    intro cs k off j h
    simp only [List.length_cons] at h
    rw [List.zipIdx_cons, List.foldl_cons, ih _ (k + 1) off j (by simp; omega)]
    simp only [Array.getElem?_setIfInBounds]
    by_cases e1 : off + k = j
    · subst e1
      rw [if_neg (by omega), if_pos rfl, if_pos (by omega), if_pos (by simp), Nat.sub_self]; rfl
    · by_cases e2 : off + (k + 1) ≤ j ∧ j < off + (k + 1) + vs.length
      · rw [if_pos e2, if_pos (by simp; omega), show j - (off + k) = (j - (off + (k + 1))) + 1 by omega, List.getElem?_cons_succ]
      · rw [if_neg e2, if_neg e1, if_neg (by simp; omega)]

theorem fill_lay {cs r : List Value} {off : Nat} {v : Value} (h : layAt cs off v.cells.toList = some r) :
    v.cells.zipIdx.foldl (fun (a : Array Value) (p : Value × Nat) => a.setIfInBounds (off + p.2) p.1) ⟨cs⟩ = ⟨r⟩ := by
  obtain ⟨h1, h2, h3⟩ := layAt_len h
  rw [← Array.foldl_toList, Array.toList_zipIdx]
  apply Array.ext_getElem?
  intro j
  rw [foldl_lay _ _ 0 off j (by simpa using h1)]
  simp only [Nat.add_zero]
  have := h3 j
  simp only [List.getElem?_toArray] at this ⊢
  rw [this]

theorem fill_run : ∀ {ps : List (Nat × Operand)} {pl : List (Nat × Nat)} {cs r : List Value}, Agr E ρ → fillV E pl ps cs = some r →
    Instr.fill ((⟨pl⟩ : Array (Nat × Nat))[·]?) ⟨cs⟩ (ps.map fun p => (p.1, ρ p.2)) = some ⟨r⟩
  | [], pl, cs, r, _, h => by cases h; rfl
  | (i, x) :: ps, pl, cs, r, ha, h => by
    simp only [fillV] at h
    split at h
    · rename_i off sz hp
      split at h
      · rename_i v hx
        cases hb : Nat.beq sz v.cells.toList.length with
        | false => rw [hb] at h; cases h
        | true =>
          rw [hb] at h
          simp only [cond_true] at h
          split at h
          · rename_i q hq
            have hs : v.cells.size = sz := by have := Nat.eq_of_beq_eq_true hb; simpa using this.symm
            have hl := (layAt_len hq).1
            rw [List.map_cons, Instr.fill]
            simp only [List.getElem?_toArray, hp, ha x v hx]
            rw [if_neg (by simp [hs]; simp at hl; omega), fill_lay hq]
            have := fill_run ha h
            simpa only [List.getElem?_toArray] using this
          · cases h
      · cases h
    · cases h

theorem places_run (ht : tab.OK P) : ∀ {fs : List Field} {pl : List (Nat × Nat)}, placesV tab fs = some pl →
    (fs.mapM fun f => (do pure (f.offset, ← sizeOf f.type) : Sem (Nat × Nat))).run P w = .ok pl w
  | [], pl, h => by cases h; rfl
  | f :: fs, pl, h => by
    simp only [placesV] at h
    split at h
    · rename_i te hte
      split at h
      · rename_i q hq
        cases h
        have := places_run ht hq
        simp only [List.mapM_cons, Sem.run_bind, (ht.get hte).run_sizeOf, Result.andThen_ok, Sem.run_pure] at this ⊢
        rw [this]
        rfl
      · cases h
    · cases h

theorem buildV_run (ht : tab.OK P) (ha : Agr E ρ) {T : Nat} {ps : Array (Nat × Operand)} {cs : List Value} (h : buildV tab E T ps.toList = some cs) :
    (Instr.build T (ps.map fun (i, x) => (i, ρ x))).run P w = .ok (.agg ⟨cs⟩) w := by
  unfold buildV at h
  split at h
  · rename_i fs _ z _ hT
    split at h
    · rename_i pl hpl
      have t1 := ht.get hT
      obtain ⟨zv, hz, hzc⟩ := t1.run_zeroValue (w := w)
      have hpl' := places_run (w := w) ht hpl
      have hfill := fill_run ha h
      have hm : ((⟨fs⟩ : Array Field).mapM fun f => (do pure (f.offset, ← sizeOf f.type) : Sem (Nat × Nat))).run P w = .ok ⟨pl⟩ w := by
        rw [Array.mapM_eq_mapM_toList, Sem.run_map, hpl']; rfl
      have hzc' : zv.cells = ⟨z⟩ := by
        have : zv.cells.toList = z := hzc
        rw [← this]
      have hps : (ps.map fun (i, x) => (i, ρ x)).toList = ps.toList.map fun p => (p.1, ρ p.2) := by rw [Array.toList_map]
      simp only [Instr.build, Sem.run_bind, hz, Result.andThen_ok, t1.run_underlying, hm, hzc', hps, hfill, Sem.run_pure]
    · cases h
  · cases h

theorem extV_run {u r : Value} {i : Nat} (h : extV u i = some r) : (Instr.extract u i).run P w = .ok r w := by
  unfold extV at h
  split at h
  · rename_i vs
    simp [Instr.extract, h]
  · cases h

/-- THE RECKONED VALUE IS WHAT THE OPERATION COMES TO. -/
theorem qv_run (ht : tab.OK P) (ha : Agr E ρ) {o : Oper} {r : Value} (h : qv tab E o.op = some r) : (execOp ρ o).run P w = .ok (.value r) w := by
  obtain ⟨d, op, ty, pos, af, g⟩ := o
  simp only at h
  unfold qv at h
  cases op with
  | move x => simp only at h; simp [execOp, ha x r h]
  | assign x => simp only at h; simp [execOp, ha x r h]
  | pick c x y =>
    simp only at h
    split at h
    · rename_i hc; simp [execOp, ha _ _ hc, asBool, ha _ _ h]
    · rename_i hc; simp [execOp, ha _ _ hc, asBool, ha _ _ h]
    · cases h
  | binOp op T x y T' =>
    simp only at h
    split at h
    · rename_i u v hx hy
      simp only [execOp, ha _ _ hx, ha _ _ hy, Sem.run_bind, binV_guard h, binV_run ht h, Result.andThen_ok, Sem.run_pure]
    · cases h
  | unOp op T x =>
    simp only at h
    split at h
    · rename_i u hx
      simp only [execOp, ha _ _ hx, Sem.run_bind, unV_run h, Result.andThen_ok, Sem.run_pure]
    · cases h
  | convert src dst x =>
    simp only at h
    split at h
    · rename_i u hx
      simp only [execOp, ha _ _ hx, Sem.run_bind, convV_run ht h, Result.andThen_ok, Sem.run_pure]
    · cases h
  | fieldAddr T x f =>
    simp only at h
    split at h
    · rename_i u hx
      simp only [execOp, ha _ _ hx, Sem.run_bind, fieldV_run ht h, Result.andThen_ok, Sem.run_pure]
    · cases h
  | extract x i =>
    simp only at h
    split at h
    · rename_i u hx
      simp only [execOp, ha _ _ hx, Sem.run_bind, extV_run h, Result.andThen_ok, Sem.run_pure]
    · cases h
  | nilCheck x =>
    simp only at h
    split at h
    · rename_i u hx
      unfold nilV at h
      split at h
      · injection h with h; subst h; simp [execOp, ha _ _ hx]
      · injection h with h; subst h; simp [execOp, ha _ _ hx]
      · cases h
    · cases h
  | makeFunc fn f c =>
    simp only at h
    split at h
    · rename_i fi ca hf hc
      injection h with h; subst h
      have h1 : f.map ρ = ⟨fi⟩ := by rw [← evs_map ha hf, ← Array.toList_map]
      have h2 : c.map ρ = ⟨ca⟩ := by rw [← evs_map ha hc, ← Array.toList_map]
      simp [execOp, Instr.makeFunc, h1, h2]
    · cases h
  | makeInterface T x =>
    simp only at h
    split at h
    · rename_i u hx
      unfold ifaceV at h
      split at h
      · cases h
      · rename_i e hne hT
        injection h with h; subst h
        have t1 := ht.get hT
        simp only [execOp, ha _ _ hx, Instr.makeInterface, Sem.run_bind, t1.run_underlying, Result.andThen_ok]
        obtain ⟨ds, sz, z, by_⟩ := e
        cases ds <;> first
          | rfl
          | exact (hne _ _ _ _ rfl).elim
      · cases h
    · cases h
  | build T ps =>
    simp only at h
    split at h
    · rename_i cs hb
      injection h with h; subst h
      have := buildV_run (w := w) ht ha hb
      simp only [execOp, Sem.run_bind, this, Result.andThen_ok, Sem.run_pure]
    · cases h
  | call c =>
    simp only at h
    exact callV_run ht ha h
  | _ => cases h

end
end Go.Hop
/- What is proved here: a region of operations, run in the order of the text or in whatever order its edges allow, by reckoned values, with the effects one by one. -/
namespace Go.Hop

/-- Of operation 'o', in every world that holds L: it gives v and leaves the world. -/
def Ob (P : Program) (σ : Sg) (L : List Assn) (E : Env) (o : Oper) (v : Value) : Prop :=
  ∀ (w : World) (ρ : Operand → Value), Agr E ρ → Holds σ w L → (execOp ρ o).run P w = .ok (.value v) w

/-- Of an effect: what it leaves. -/
def Eff (P : Program) (σ : Sg) (E : Env) (o : Oper) (L : List Assn) (post : Value → List Assn → Prop) : Prop :=
  ∀ (w : World) (ρ : Operand → Value) (a : Act) (K : Act → World → Prop) (Q : Exit → Act → World → Prop), Agr E ρ → Holds σ w L →
    (∀ v w' L', post v L' → Holds σ w' L' → K (a.put o.dst v) w') → o.upon P a K Q ((execOp ρ o).run P w)

def guardV (ops : List Oper) (E : Env) (g : Option (Nat × Bool)) : Option Bool :=
  match g with
  | none => some true
  | some (j, want) => match ops[j]? with
    | some oj => match oj.dst with
      | some t => match lk E t with
        | some (.bool true) => some want
        | some (.bool false) => some (!want)
        | _ => none
      | none => none
    | none => none

theorem guardV_wanted {ops : List Oper} {E : Env} {o : Oper} {b : Bool} (h : guardV ops E o.guard = some b) {tmps : Array Value}
    (hk : ∀ j want oj t u, o.guard = some (j, want) → ops[j]? = some oj → oj.dst = some t → lk E t = some u → tmps[t]? = some u) : Region.wanted o (yielded ops.toArray tmps) = b := by
  unfold guardV at h
  unfold Region.wanted
  split at h
  · rename_i hg; rw [hg]; injection h
  · rename_i j want hg
    rw [hg]
    simp only
    split at h
    · rename_i oj hj
      split at h
      · rename_i t ht
        split at h
        · rename_i he
          have := hk j want oj t _ hg hj ht he
          have hy : yielded ops.toArray tmps j = some true := by simp [yielded, hj, ht, this]
          rw [hy]; injection h with h; rw [← h]; cases want <;> rfl
        · rename_i he
          have := hk j want oj t _ hg hj ht he
          have hy : yielded ops.toArray tmps j = some false := by simp [yielded, hj, ht, this]
          rw [hy]; injection h with h; rw [← h]; cases want <;> rfl
        · cases h
      · cases h
    · cases h

/-! in the order of the text -/
/-- The operations up to number 'stop' are reckoned; what is owed for them. -/
def evalQ (P : Program) (tab : Tab) (n : Nat) (ops : List Oper) (hints : Env) (σ : Sg) (L : List Assn) : List Oper → Nat → Nat → Env → Option (List Oper × Env × Prop)
  | [], _, _, E => some ([], E, True)
  | o :: os, i, stop, E => match Nat.beq i stop with
    | true => some (o :: os, E, True)
    | false => match guardV ops E o.guard with
      | none => none
      | some false => match putE n E o.dst undef with
        | some E' => evalQ P tab n ops hints σ L os (i + 1) stop E'
        | none => none
      | some true => match lk hints i with
        | some v => match putE n E o.dst v with
          | some E' => match evalQ P tab n ops hints σ L os (i + 1) stop E' with
            | some (r, E2, p) => some (r, E2, Ob P σ L E o v ∧ p)
            | none => none
          | none => none
        | none => match qv tab E o.op with
          | some v => match putE n E o.dst v with
            | some E' => evalQ P tab n ops hints σ L os (i + 1) stop E'
            | none => none
          | none => none

section
variable {P : Program} {tab : Tab} {n : Nat} {ops : List Oper} {hints : Env} {σ : Sg} {L : List Assn} {Q : Exit → Act → World → Prop} {w : World}

theorem wpList_value {o : Oper} {os : List Oper} {a : Act} {v : Value} (hw : Region.wanted o (yielded ops.toArray a.tmps) = true)
    (hr : (execOp a.eval o).run P w = .ok (.value v) w) (h : wpList P ops.toArray Q os (a.put o.dst v) w) : wpList P ops.toArray Q (o :: os) a w := by
  unfold wpList
  rw [if_pos hw]
  left
  unfold Oper.wp
  rw [hr]
  exact h

theorem wpList_unwanted {o : Oper} {os : List Oper} {a : Act} (hw : Region.wanted o (yielded ops.toArray a.tmps) = false)
    (h : wpList P ops.toArray Q os (a.put o.dst undef) w) : wpList P ops.toArray Q (o :: os) a w := by
  unfold wpList
  rw [if_neg (by rw [hw]; simp)]
  exact h

theorem evalQ_wp (ht : tab.OK P) (hh : Holds σ w L) {stop : Nat} : ∀ {os : List Oper} {i : Nat} {E : Env} {a : Act} {r : List Oper} {E' : Env} {p : Prop},
    evalQ P tab n ops hints σ L os i stop E = some (r, E', p) → p → Knows n E a → (∀ a', Knows n E' a' → wpList P ops.toArray Q r a' w) → wpList P ops.toArray Q os a w
  | [], i, E, a, r, E', p, h, hp, hk, k => by cases h; exact k a hk
  | o :: os, i, E, a, r, E', p, h, hp, hk, k => by
    simp only [evalQ] at h
    cases hb : Nat.beq i stop with
    | true => rw [hb] at h; cases h; exact k a hk
    | false =>
      rw [hb] at h
      simp only at h
      cases hg : guardV ops E o.guard with
      | none => rw [hg] at h; cases h
      | some g =>
        rw [hg] at h
        have hw : Region.wanted o (yielded ops.toArray a.tmps) = g := guardV_wanted hg fun j want oj t u _ _ _ hl => hk.val t u hl
        cases g with
        | false =>
          simp only at h
          cases hpe : putE n E o.dst undef with
          | none => rw [hpe] at h; cases h
          | some E1 => rw [hpe] at h; exact wpList_unwanted hw (evalQ_wp ht hh h hp (hk.put hpe) k)
        | true =>
          simp only at h
          cases hhint : lk hints i with
          | some v =>
            rw [hhint] at h
            simp only at h
            cases hpe : putE n E o.dst v with
            | none => rw [hpe] at h; cases h
            | some E1 =>
              rw [hpe] at h
              simp only at h
              cases hrec : evalQ P tab n ops hints σ L os (i + 1) stop E1 with
              | none => rw [hrec] at h; cases h
              | some q =>
                obtain ⟨r1, E2, p1⟩ := q
                rw [hrec] at h
                cases h
                exact wpList_value hw (hp.1 w _ hk.agr hh) (evalQ_wp ht hh hrec hp.2 (hk.put hpe) k)
          | none =>
            rw [hhint] at h
            simp only at h
            cases hq : qv tab E o.op with
            | none => rw [hq] at h; cases h
            | some v =>
              rw [hq] at h
              simp only at h
              cases hpe : putE n E o.dst v with
              | none => rw [hpe] at h; cases h
              | some E1 => rw [hpe] at h; exact wpList_value hw (qv_run ht hk.agr hq) (evalQ_wp ht hh h hp (hk.put hpe) k)

/-- All are reckoned; these slots are kept. -/
def regQ (P : Program) (tab : Tab) (n : Nat) (ops : List Oper) (hints : Env) (σ : Sg) (L : List Assn) (E : Env) (keep : List Nat) : Option (Env × Prop) :=
  match evalQ P tab n ops hints σ L ops 0 100000 E with
  | some ([], E', p) => match keepE E' keep with
    | some E2 => some (E2, p)
    | none => none
  | _ => none

/-- A region without an effect, in the order of the text. -/
theorem reg_q (ht : tab.OK P) {id : Nat} {E E' : Env} {a : Act} {p : Prop} (hk : Knows n E a) (hh : Holds σ w L) (hints : Env) (keep : List Nat)
    (he : regQ P tab n ops hints σ L E keep = some (E', p)) (hp : p) (k : ∀ a', Knows n E' a' → Q .normal a' w) : (Code.region id ops.toArray false).wp P Q a w := by
  unfold regQ at he
  split at he
  · rename_i E1 p1 h1
    split at he
    · rename_i E2 h2
      cases he
      exact wp_region_lit (evalQ_wp ht hh h1 hp hk fun a' hk' => k a' (hk'.keep keep h2))
    · cases he
  · cases he

/-- Up to an effect. -/
theorem seq_q (ht : tab.OK P) {os : List Oper} {i stop : Nat} {E E' : Env} {a : Act} {r : List Oper} {p : Prop} (hk : Knows n E a) (hh : Holds σ w L) (hints : Env)
    (he : evalQ P tab n ops hints σ L os i stop E = some (r, E', p)) (hp : p) (k : ∀ a', Knows n E' a' → wpList P ops.toArray Q r a' w) : wpList P ops.toArray Q os a w :=
  evalQ_wp ht hh he hp hk k

/-- The rest of a region behind its last effect. -/
def restQ (P : Program) (tab : Tab) (n : Nat) (ops os : List Oper) (i : Nat) (hints : Env) (σ : Sg) (L : List Assn) (E : Env) (keep : List Nat) : Option (Env × Prop) :=
  match evalQ P tab n ops hints σ L os i 100000 E with
  | some ([], E', p) => match keepE E' keep with
    | some E2 => some (E2, p)
    | none => none
  | _ => none
theorem rest_q (ht : tab.OK P) {os : List Oper} {i : Nat} {E E' : Env} {a : Act} {p : Prop} (hk : Knows n E a) (hh : Holds σ w L) (hints : Env) (keep : List Nat)
    (he : restQ P tab n ops os i hints σ L E keep = some (E', p)) (hp : p) (k : ∀ a', Knows n E' a' → Q .normal a' w) : wpList P ops.toArray Q os a w := by
  unfold restQ at he
  split at he
  · rename_i E1 p1 h1
    split at he
    · rename_i E2 h2
      cases he
      exact evalQ_wp ht hh h1 hp hk fun a' hk' => k a' (hk'.keep keep h2)
    · cases he
  · cases he

def putD (d : Option Nat) (v : Value) (E : Env) : Env := match d with
  | none => E
  | some d => (d, v) :: E
def dstOK (n : Nat) (d : Option Nat) : Bool := match d with
  | none => true
  | some d => Nat.blt d n
theorem putE_putD {E : Env} {d : Option Nat} (h : dstOK n d = true) (v : Value) : putE n E d v = some (putD d v E) := by
  cases d with
  | none => rfl
  | some d => simp only [dstOK] at h; simp only [putE, putD, h, cond_true]

/-- One effect, in the order of the text. -/
theorem seq_eff {o : Oper} {os : List Oper} {E : Env} {a : Act} {post : Value → List Assn → Prop} (hk : Knows n E a) (hh : Holds σ w L)
    (hg : guardV ops E o.guard = some true) (hd : dstOK n o.dst = true) (he : Eff P σ E o L post)
    (k : ∀ v L' a' w', post v L' → Knows n (putD o.dst v E) a' → Holds σ w' L' → wpList P ops.toArray Q os a' w') : wpList P ops.toArray Q (o :: os) a w := by
  have hw : Region.wanted o (yielded ops.toArray a.tmps) = true := guardV_wanted hg fun j want oj t u _ _ _ hl => hk.val t u hl
  unfold wpList
  rw [if_pos hw]
  left
  exact he w a.eval a _ Q hk.agr hh fun v w' L' hpost hh' => k v L' _ w' hpost (hk.put (putE_putD hd v)) hh'
end
end Go.Hop
/- What is proved here: a region whose order is drawn, by reckoned values, with its effects one by one. -/
namespace Go.Hop

/-! more knowledge, the same values -/
def Ext (E E' : Env) : Prop := ∀ k v, lk E k = some v → lk E' k = some v
theorem Ext.ev {E E' : Env} (h : Ext E E') {x : Operand} {u : Value} (hx : ev E x = some u) : ev E' x = some u := by
  cases x with
  | tmp t => exact h t u hx
  | const v => exact hx
  | «global» g => exact hx
  | func f => exact hx
theorem Ext.evs {E E' : Env} (h : Ext E E') : ∀ {xs : List Operand} {us : List Value}, evs E xs = some us → evs E' xs = some us
  | [], us, hx => hx
  | x :: xs, us, hx => by
    simp only [Hop.evs] at hx ⊢
    cases h1 : Hop.ev E x with
    | none => rw [h1] at hx; cases hx
    | some v =>
      rw [h1] at hx
      simp only at hx
      rw [h.ev h1]
      cases h2 : Hop.evs E xs with
      | none => rw [h2] at hx; cases hx
      | some vs => rw [h2] at hx; rw [h.evs h2]; exact hx
theorem Ext.fillV {E E' : Env} (h : Ext E E') {pl : List (Nat × Nat)} : ∀ {ps : List (Nat × Operand)} {cs r : List Value}, fillV E pl ps cs = some r → fillV E' pl ps cs = some r
  | [], cs, r, hx => hx
  | (i, x) :: ps, cs, r, hx => by
    simp only [Hop.fillV] at hx ⊢
    split at hx
    · rename_i off sz hp
      try rw [hp]
      try simp only
      split at hx
      · rename_i v hv
        rw [h.ev hv]
        simp only
        cases hb : Nat.beq sz v.cells.toList.length with
        | false => rw [hb] at hx; cases hx
        | true =>
          rw [hb] at hx
          simp only [cond_true] at hx ⊢
          split at hx
          · exact h.fillV hx
          · cases hx
      · cases hx
    · cases hx
theorem Ext.qv {E E' : Env} (h : Ext E E') {tab : Tab} {o : Op} {r : Value} (hx : qv tab E o = some r) : qv tab E' o = some r := by
  cases o with
  | move x => exact h.ev hx
  | assign x => exact h.ev hx
  | pick c x y =>
    simp only [Hop.qv] at hx ⊢
    split at hx
    · rename_i hc; rw [h.ev hc]; exact h.ev hx
    · rename_i hc; rw [h.ev hc]; exact h.ev hx
    · cases hx
  | binOp op T x y T' =>
    simp only [Hop.qv] at hx ⊢
    split at hx
    · rename_i u v hu hv; rw [h.ev hu, h.ev hv]; exact hx
    · cases hx
  | unOp op T x =>
    simp only [Hop.qv] at hx ⊢
    split at hx
    · rename_i u hu; rw [h.ev hu]; exact hx
    · cases hx
  | convert s d x =>
    simp only [Hop.qv] at hx ⊢
    split at hx
    · rename_i u hu; rw [h.ev hu]; exact hx
    · cases hx
  | fieldAddr T x f =>
    simp only [Hop.qv] at hx ⊢
    split at hx
    · rename_i u hu; rw [h.ev hu]; exact hx
    · cases hx
  | extract x i =>
    simp only [Hop.qv] at hx ⊢
    split at hx
    · rename_i u hu; rw [h.ev hu]; exact hx
    · cases hx
  | nilCheck x =>
    simp only [Hop.qv] at hx ⊢
    split at hx
    · rename_i u hu; rw [h.ev hu]; exact hx
    · cases hx
  | makeFunc fn f c =>
    simp only [Hop.qv] at hx ⊢
    split at hx
    · rename_i u v hu hv; rw [h.evs hu, h.evs hv]; exact hx
    · cases hx
  | makeInterface T x =>
    simp only [Hop.qv] at hx ⊢
    split at hx
    · rename_i u hu; rw [h.ev hu]; exact hx
    · cases hx
  | build T ps =>
    simp only [Hop.qv] at hx ⊢
    split at hx
    · rename_i cs hb
      have : buildV tab E' T ps.toList = some cs := by
        unfold buildV at hb ⊢
        split at hb
        · rename_i hT
          split at hb
          · rename_i pl hpl
            try rw [hpl]
            exact h.fillV hb
          · cases hb
        · cases hb
      rw [this]; exact hx
    · cases hx
  | call c =>
    simp only [Hop.qv, callV] at hx ⊢
    split at hx
    · rename_i x hc ha
      split at hx
      · rename_i v hv; rw [h.ev hv]; exact hx
      · cases hx
    · rename_i x y hc ha
      split at hx
      · rename_i hu hv; rw [h.ev hu, h.ev hv]; exact hx
      · cases hx
    · rename_i x y hc ha
      split at hx
      · rename_i hu hv; rw [h.ev hu, h.ev hv]; exact hx
      · cases hx
    · cases hx
  | _ => cases hx
theorem Ext.guardV {E E' : Env} (h : Ext E E') {ops : List Oper} {g : Option (Nat × Bool)} {b : Bool} (hx : guardV ops E g = some b) : guardV ops E' g = some b := by
  unfold Hop.guardV at hx ⊢
  split at hx
  · exact hx
  · split at hx
    · rename_i oj hj
      split at hx
      · rename_i t ht
        split at hx
        · rename_i hl; rw [h _ _ hl]; exact hx
        · rename_i hl; rw [h _ _ hl]; exact hx
        · cases hx
      · cases hx
    · cases hx

/-! the edges -/
def bindsB (e : Edge) : Bool := match e.ground with
  | .textOnly _ => false
  | .gcOnly _ => false
  | _ => true
theorem binds_any (e : Edge) : Region.binds .any e = bindsB e := by
  unfold Region.binds bindsB
  cases e.ground <;> rfl
def depMask (acc : List Nat) : List Edge → Nat
  | [] => 0
  | e :: es => match bindsB e with
    | true => (1 <<< e.on) ||| acc.getD e.on 0 ||| depMask acc es
    | false => depMask acc es
def masks : List Oper → List Nat → List Nat
  | [], acc => acc
  | o :: os, acc => masks os (acc ++ [depMask acc o.after.toList])

/-- A set of operations that holds, with one, all that it hangs on. -/
def Shut (ops : List Oper) (D : Nat → Prop) : Prop := ∀ i o, ops[i]? = some o → D i → ∀ e ∈ o.after.toList, bindsB e = true → D e.on

theorem depMask_bit {acc : List Nat} {j : Nat} : ∀ {es : List Edge}, (depMask acc es).testBit j = true → ∃ e ∈ es, bindsB e = true ∧ (e.on = j ∨ (acc.getD e.on 0).testBit j = true)
  | [], h => by simp [depMask] at h
  | e :: es, h => by
    simp only [depMask] at h
    cases hb : bindsB e with
    | true =>
      rw [hb] at h
      simp only [Nat.testBit_or, Bool.or_eq_true] at h
      rcases h with (h | h) | h
      · refine ⟨e, by simp, hb, .inl ?_⟩
        rw [Nat.one_shiftLeft, Nat.testBit_two_pow] at h
        simpa using h
      · exact ⟨e, by simp, hb, .inr h⟩
      · obtain ⟨e', h1, h2⟩ := depMask_bit h
        exact ⟨e', List.mem_cons_of_mem _ h1, h2⟩
    | false =>
      rw [hb] at h
      obtain ⟨e', h1, h2⟩ := depMask_bit h
      exact ⟨e', List.mem_cons_of_mem _ h1, h2⟩

theorem masks_shut {D : Nat → Prop} : ∀ {os pre : List Oper} {acc : List Nat}, Shut (pre ++ os) D → acc.length = pre.length →
    (∀ i j, (acc.getD i 0).testBit j = true → D i → D j) → ∀ i j, ((masks os acc).getD i 0).testBit j = true → D i → D j
  | [], pre, acc, _, _, h => h
  | o :: os, pre, acc, hs, hl, h => by
    simp only [masks]
    refine masks_shut (pre := pre ++ [o]) (by simpa using hs) (by simp [hl]) ?_
    intro i j hb hi
    by_cases hlt : i < acc.length
    · rw [List.getD_eq_getElem?_getD, List.getElem?_append_left hlt, ← List.getD_eq_getElem?_getD] at hb
      exact h i j hb hi
    · by_cases he : i = acc.length
      · subst he
        rw [List.getD_eq_getElem?_getD, List.getElem?_append_right (Nat.le_refl _), Nat.sub_self] at hb
        simp only [List.getElem?_cons_zero, Option.getD_some] at hb
        obtain ⟨e, hm, hbd, hor⟩ := depMask_bit hb
        have hD : D e.on := hs acc.length o (by rw [List.getElem?_append_right (by omega)]; simp [hl]) hi e hm hbd
        rcases hor with rfl | hor
        · exact hD
        · exact h _ _ hor hD
      · rw [List.getD_eq_getElem?_getD, List.getElem?_eq_none (by simp; omega)] at hb
        simp at hb
theorem path_shut {ops : List Oper} {D : Nat → Prop} (hs : Shut ops D) {i j : Nat} (h : ((masks ops []).getD i 0).testBit j = true) (hi : D i) : D j :=
  masks_shut (pre := []) hs rfl (by intro i j h; simp at h) i j h hi

def memB (i : Nat) : List Nat → Bool
  | [] => false
  | j :: js => cond (Nat.beq i j) true (memB i js)
theorem memB_iff {i : Nat} : ∀ {l : List Nat}, memB i l = true ↔ i ∈ l
  | [] => by simp [memB]
  | j :: js => by
    simp only [memB, List.mem_cons]
    cases hb : Nat.beq i j with
    | true => simp [Nat.eq_of_beq_eq_true hb]
    | false =>
      have hne : i ≠ j := fun e => by subst e; rw [Nat.beq_refl] at hb; cases hb
      simp only [cond_false, memB_iff, hne, false_or]

/-! the look over a region's text -/
def dsts : List Oper → List Nat
  | [] => []
  | o :: os => match o.dst with
    | some d => d :: dsts os
    | none => dsts os
def nodupB : List Nat → Bool
  | [] => true
  | d :: ds => match memB d ds with
    | true => false
    | false => nodupB ds
def tmpsOf : List Operand → List Nat
  | [] => []
  | .tmp t :: xs => t :: tmpsOf xs
  | _ :: xs => tmpsOf xs
/-- Writer k (of slot t) and reader i: one comes ahead of the other. -/
def orderedB (b : List Nat) (i t : Nat) : List Oper → Nat → Bool
  | [], _ => true
  | o :: os, k => match o.dst with
    | none => orderedB b i t os (k + 1)
    | some d => match Nat.beq d t with
      | false => orderedB b i t os (k + 1)
      | true => match Nat.beq k i with
        | true => orderedB b i t os (k + 1)
        | false => match (cond (Nat.blt k i) ((b.getD i 0).testBit k) ((b.getD k 0).testBit i)) with
          | true => orderedB b i t os (k + 1)
          | false => false
def allOrdered (ops : List Oper) (b : List Nat) (i : Nat) : List Nat → Bool
  | [] => true
  | t :: ts => match orderedB b i t ops 0 with
    | true => allOrdered ops b i ts
    | false => false
def edgesOK (i : Nat) : List Edge → Bool
  | [] => true
  | e :: es => match bindsB e with
    | true => match Nat.blt e.on i with
      | true => edgesOK i es
      | false => false
    | false => edgesOK i es
def chkOps (ops : List Oper) (b : List Nat) : List Oper → Nat → Bool
  | [], _ => true
  | o :: os, i => match allOrdered ops b i (tmpsOf o.op.operands.toList) with
    | false => false
    | true => match edgesOK i o.after.toList with
      | false => false
      | true => match o.guard with
        | none => chkOps ops b os (i + 1)
        | some (g, _) => match Nat.blt g i with
          | false => false
          | true => match (b.getD i 0).testBit g with
            | true => chkOps ops b os (i + 1)
            | false => false
def noSel : List Oper → Bool
  | [] => true
  | o :: os => match o.op with
    | .select _ _ => false
    | _ => noSel os
theorem noSel_spec : ∀ {os : List Oper}, noSel os = true → ∀ (i : Nat) (o : Oper), os[i]? = some o → ∀ cs bl, o.op ≠ .select cs bl
  | [], _, i, o, h => by simp at h
  | p :: os, hn, i, o, h => by
    simp only [noSel] at hn
    split at hn
    · cases hn
    · rename_i hns
      cases i with
      | zero =>
        have : p = o := by simpa using h
        subst this
        exact fun cs bl e => hns cs bl e
      | succ i => exact noSel_spec hn i o (by simpa using h)
def chk (ops : List Oper) : Bool := match nodupB (dsts ops) with
  | true => match noSel ops with
    | true => chkOps ops (masks ops []) ops 0
    | false => false
  | false => false
theorem chk_nodup {ops : List Oper} (h : chk ops = true) : nodupB (dsts ops) = true := by
  unfold chk at h
  split at h
  · assumption
  · cases h
theorem chk_sel {ops : List Oper} (h : chk ops = true) : noSel ops = true := by
  unfold chk at h
  split at h
  · split at h
    · assumption
    · cases h
  · cases h
theorem chk_ops {ops : List Oper} (h : chk ops = true) : chkOps ops (masks ops []) ops 0 = true := by
  unfold chk at h
  split at h
  · split at h
    · exact h
    · cases h
  · cases h

theorem orderedB_spec {b : List Nat} {i t : Nat} : ∀ {os : List Oper} {k : Nat}, orderedB b i t os k = true → ∀ m o, os[m]? = some o → o.dst = some t → k + m ≠ i →
    (k + m < i ∧ (b.getD i 0).testBit (k + m) = true) ∨ (i < k + m ∧ (b.getD (k + m) 0).testBit i = true)
  | [], k, _, m, o, h, _, _ => by simp at h
  | p :: os, k, hB, m, o, h, hd, hne => by
    have rec' : orderedB b i t os (k + 1) = true → ∀ m', m = m' + 1 → (k + m < i ∧ (b.getD i 0).testBit (k + m) = true) ∨ (i < k + m ∧ (b.getD (k + m) 0).testBit i = true) := by
      rintro hr m' rfl
      have := orderedB_spec hr m' o (by simpa using h) hd (by omega)
      rw [show k + (m' + 1) = k + 1 + m' by omega]
      exact this
    cases m with
    | succ m' =>
      refine rec' ?_ m' rfl
      simp only [orderedB] at hB
      split at hB
      · exact hB
      · split at hB
        · exact hB
        · split at hB
          · exact hB
          · split at hB
            · exact hB
            · cases hB
    | zero =>
      have : p = o := by simpa using h
      subst this
      simp only [orderedB, hd, Nat.beq_refl, Nat.add_zero] at hB ⊢
      have hbk : Nat.beq k i = false := by
        cases hb : Nat.beq k i with
        | false => rfl
        | true => exact absurd (Nat.eq_of_beq_eq_true hb) (by simpa using hne)
      rw [hbk] at hB
      simp only at hB
      split at hB
      · rename_i hx
        cases hlt : Nat.blt k i with
        | true => rw [hlt] at hx; exact .inl ⟨Nat.le_of_ble_eq_true hlt, hx⟩
        | false =>
          rw [hlt] at hx
          refine .inr ⟨?_, hx⟩
          have hnot : ¬ k < i := fun hc => by
            have := Nat.ble_eq_true_of_le (show k + 1 ≤ i from hc)
            unfold Nat.blt at hlt
            rw [show k.succ = k + 1 from rfl] at hlt
            rw [this] at hlt; cases hlt
          have : k ≠ i := by simpa using hne
          omega
      · cases hB

theorem allOrdered_spec {ops : List Oper} {b : List Nat} {i : Nat} : ∀ {ts : List Nat}, allOrdered ops b i ts = true → ∀ t ∈ ts, orderedB b i t ops 0 = true
  | [], _, t, h => by simp at h
  | s :: ts, hB, t, h => by
    simp only [allOrdered] at hB
    split at hB
    · rename_i hs
      rcases List.mem_cons.1 h with rfl | h
      · exact hs
      · exact allOrdered_spec hB t h
    · cases hB
theorem edgesOK_spec {i : Nat} : ∀ {es : List Edge}, edgesOK i es = true → ∀ e ∈ es, bindsB e = true → e.on < i
  | [], _, e, h => by simp at h
  | d :: es, hB, e, h => by
    simp only [edgesOK] at hB
    intro hb
    rcases List.mem_cons.1 h with rfl | h
    · rw [hb] at hB
      simp only at hB
      split at hB
      · rename_i hlt; exact Nat.le_of_ble_eq_true hlt
      · cases hB
    · split at hB
      · split at hB
        · exact edgesOK_spec hB e h hb
        · cases hB
      · exact edgesOK_spec hB e h hb
theorem chkOps_spec {ops : List Oper} {b : List Nat} : ∀ {os : List Oper} {k : Nat}, chkOps ops b os k = true → ∀ m o, os[m]? = some o →
    (∀ t ∈ tmpsOf o.op.operands.toList, orderedB b (k + m) t ops 0 = true) ∧ (∀ e ∈ o.after.toList, bindsB e = true → e.on < k + m) ∧
    (∀ g want, o.guard = some (g, want) → g < k + m ∧ (b.getD (k + m) 0).testBit g = true)
  | [], k, _, m, o, h => by simp at h
  | p :: os, k, hB, m, o, h => by
    simp only [chkOps] at hB
    split at hB
    · cases hB
    · rename_i h1
      split at hB
      · cases hB
      · rename_i h2
        have hrest : chkOps ops b os (k + 1) = true := by
          split at hB
          · exact hB
          · split at hB
            · cases hB
            · split at hB
              · exact hB
              · cases hB
        cases m with
        | succ m' =>
          have := chkOps_spec hrest m' o (by simpa using h)
          rw [show k + (m' + 1) = k + 1 + m' by omega]
          exact this
        | zero =>
          have : p = o := by simpa using h
          subst this
          refine ⟨fun t ht => by simpa using allOrdered_spec h1 t ht, fun e he hb => by simpa using edgesOK_spec h2 e he hb, fun g want hg => ?_⟩
          rw [hg] at hB
          simp only at hB
          split at hB
          · cases hB
          · rename_i hlt
            split at hB
            · rename_i hb; exact ⟨by have := Nat.le_of_ble_eq_true hlt; omega, by simpa using hb⟩
            · cases hB
theorem nodupB_spec : ∀ {os : List Oper}, nodupB (dsts os) = true → ∀ (i j : Nat) (o p : Oper) (d : Nat), os[i]? = some o → os[j]? = some p → o.dst = some d → p.dst = some d → i = j
  | [], _, i, j, o, p, d, h, _, _, _ => by simp at h
  | q :: os, hB, i, j, o, p, d, hi, hj, ho, hp => by
    have mem : ∀ {os : List Oper} {k : Nat} {o : Oper}, os[k]? = some o → o.dst = some d → d ∈ dsts os := by
      intro os
      induction os with
      | nil => intro k o h; simp at h
      | cons r os ih =>
        intro k o h hd
        cases k with
        | zero => have : r = o := by simpa using h
                  subst this; simp [dsts, hd]
        | succ k =>
          have := ih (k := k) (by simpa using h) hd
          simp only [dsts]
          split
          · exact List.mem_cons_of_mem _ this
          · exact this
    cases i with
    | zero =>
      cases j with
      | zero => rfl
      | succ j =>
        have : q = o := by simpa using hi
        subst this
        have hm := mem (os := os) (k := j) (by simpa using hj) hp
        simp only [dsts, ho, nodupB] at hB
        rw [memB_iff.2 hm] at hB
        cases hB
    | succ i =>
      cases j with
      | zero =>
        have : q = p := by simpa using hj
        subst this
        have hm := mem (os := os) (k := i) (by simpa using hi) ho
        simp only [dsts, hp, nodupB] at hB
        rw [memB_iff.2 hm] at hB
        cases hB
      | succ j =>
        have hr : nodupB (dsts os) = true := by
          simp only [dsts] at hB
          split at hB
          · simp only [nodupB] at hB
            split at hB
            · cases hB
            · exact hB
          · exact hB
        have := nodupB_spec hr i j o p d (by simpa using hi) (by simpa using hj) ho hp
        omega

end Go.Hop
