/- What is proved here: a whole heap as one part; what stays of it. -/
import Derived.Test.YtompaigbpfekhaaGreatDoorHopShelf
import Derived.Shelf.Vars
import Derived.Lib.LaidTab
import Derived.Stop.LaidErr
namespace Go.Hop
open Go.Proofs Go.RowKit
/-- All that there was. -/
def Base (W : World) : Assn := fun h => h = fun b => W.heap[b]?
theorem holds_base (W : World) : Holds (Sg.of W) W [Base W] :=
  ⟨rfl, rfl, rfl, _, ⟨_, Hp.emp, rfl, rfl, fun b => .inr rfl, (Hp.join_emp _).symm⟩, fun b o e => e⟩
theorem base_get {σ : Sg} {W w : World} (H : Holds σ w [Base W]) {b : Nat} {o : Obj} (h : W.heap[b]? = some o) : w.heap[b]? = some o := by
  obtain ⟨hp, ⟨h1, h2, rfl, rfl, _, rfl⟩, k⟩ := H.heap
  exact k b o (by rw [Hp.join_emp]; exact h)
theorem base_below {W w : World} (H : Holds (Sg.of W) w [Base W]) : Below W.heap.size W w := by
  refine ⟨H.os, H.tape, H.output, ?_, fun k hk => ?_⟩
  · rcases Nat.eq_zero_or_pos W.heap.size with e | e
    · omega
    · have h1 : W.heap[W.heap.size - 1]? = some W.heap[W.heap.size - 1] := Array.getElem?_eq_getElem (by omega)
      have h2 := base_get H h1
      have := (Array.getElem?_eq_some_iff.1 h2).1
      omega
  · have h1 : W.heap[k]? = some W.heap[k] := Array.getElem?_eq_getElem hk
    rw [base_get H h1, h1]
theorem var_same {P : Program} {W w : World} (h : ∀ (b : Nat) (o : Obj), W.heap[b]? = some o → w.heap[b]? = some o) {n : String} {x : Array Value} (hv : W.var? P n = some x) : w.var? P n = some x := by
  unfold World.var? at hv ⊢
  cases hg : P.globalNamed n with
  | none => rw [hg] at hv; cases hv
  | some g =>
    rw [hg] at hv
    simp only [Option.bind_some] at hv ⊢
    cases hb : W.heap[g]? with
    | none => rw [hb] at hv; cases hv
    | some o => rw [h g o hb]; rw [hb] at hv; exact hv
theorem lay_base {W : World} (h : Laid W) : Lay [Base W] := fun σ w H => by
  have hs : ∀ (b : Nat) (o : Obj), W.heap[b]? = some o → w.heap[b]? = some o := fun b o e => base_get H e
  obtain ⟨t1, p1, e1⟩ := h.esyn
  obtain ⟨t2, p2, e2⟩ := h.erng
  obtain ⟨m, hm⟩ := h.maxlen
  refine ⟨var_same hs h.pow, ⟨t1, p1, var_same hs e1⟩, ⟨t2, p2, var_same hs e2⟩, m, ?_⟩
  unfold World.cell? at hm ⊢
  cases hb : W.heap[(⟨0, 0, none⟩ : Addr).block]? with
  | none => rw [hb] at hm; cases hm
  | some o => rw [hb] at hm; rw [hs _ o hb]; exact hm
end Go.Hop
