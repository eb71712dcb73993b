/- What is proved here: a range over a string, letter by letter, and calls of function values, over what a world holds. -/
import Derived.Test.YtompaigbpfekhaaGreatDoorHopLib
namespace Go.Hop
/-- An iterator over a string, at a place. -/
abbrev iterS (b : Nat) (s : List UInt8) (p : Nat) : Assn := pt b (.stringIter ⟨⟨s⟩⟩ p)
section
variable {P : Program} {tab : Tab} {σ : Sg} {L M : List Assn} {E : Env}

theorem eff_range_str (ht : tab.OK P) {d : Option Tmp} {T ty : TypeId} {x : Operand} {pos : String} {af : Array Edge} {g : Option (Nat × Bool)} {s : List UInt8} {sz by_ : Nat} {z : List Value}
    (hx : ev E x = some (S s)) (hT : tab.get T = some ⟨.string, sz, z, by_⟩) :
    Eff P σ E ⟨d, .range T x, ty, pos, af, g⟩ L fun u L' => ∃ b, u = .pointer (some ⟨b, 0, none⟩) ∧ L' = iterS b s 0 :: L := by
  intro w ρ a K Q ha hh hk
  have t1 := ht.get hT
  have hrun : (Instr.range T (ρ x)).run P w = .ok (.pointer (some ⟨w.heap.size, 0, none⟩)) (w.alloc (.stringIter ⟨⟨s⟩⟩ 0)) := by
    simp only [ha x _ hx, Instr.range, Sem.run_bind, t1.run_underlying, Result.andThen_ok, Sem.run_pure]
    simp [newObj, Sem.run]
  simp only [execOp, Sem.run_bind, hrun, Result.andThen_ok, Sem.run_pure]
  exact hk _ _ _ ⟨w.heap.size, rfl, rfl⟩ (hh.alloc _)

theorem eff_next_end {d : Option Tmp} {ty : TypeId} {x : Operand} {pos : String} {af : Array Edge} {g : Option (Nat × Bool)} {s : List UInt8} {b p : Nat}
    (i : Nat) (hx : ev E x = some (.pointer (some ⟨b, 0, none⟩))) (hi : pickAt L i = some (iterS b s p, M)) (hp : s.length ≤ p) :
    Eff P σ E ⟨d, .next x true, ty, pos, af, g⟩ L fun u L' => u = .tuple ⟨[.bool false]⟩ ∧ L' = L := by
  intro w ρ a K Q ha hh hk
  have hb := (hh.at_ i hi).block
  have hs : (ByteArray.mk ⟨s⟩).size = s.length := rfl
  have hrun : (Instr.next (ρ x) true ty).run P w = .ok (.tuple ⟨[.bool false]⟩) w := by
    simp only [ha x _ hx, Instr.next, Sem.run_bind]
    simp only [getObj, Sem.run, hb, Result.andThen_ok, hs]
    rw [if_neg (by omega)]
    rfl
  simp only [execOp, Sem.run_bind, hrun, Result.andThen_ok, Sem.run_pure]
  exact hk _ _ _ ⟨rfl, rfl⟩ hh

theorem decode_ascii {s : List UInt8} {p : Nat} {c : UInt8} (h : s[p]? = some c) (hc : c.toNat < 128) : Utf8.decode ⟨⟨s⟩⟩ p = (c.toNat, 1) := by
  have hlt := (List.getElem?_eq_some_iff.1 h).1
  have hg : (ByteArray.mk ⟨s⟩).get! p = c := by
    have := (List.getElem?_eq_some_iff.1 h).2
    simp [ByteArray.get!, hlt, this]
  unfold Utf8.decode
  simp [hg, hc]

theorem eff_next_ascii {d : Option Tmp} {ty : TypeId} {x : Operand} {pos : String} {af : Array Edge} {g : Option (Nat × Bool)} {s : List UInt8} {b p : Nat} {c : UInt8}
    (i : Nat) (hx : ev E x = some (.pointer (some ⟨b, 0, none⟩))) (hi : pickAt L i = some (iterS b s p, M)) (hp : s[p]? = some c) (hc : c.toNat < 128) :
    Eff P σ E ⟨d, .next x true, ty, pos, af, g⟩ L fun u L' => u = .tuple ⟨[.bool true, .int .i64 (p : Int), .int .i32 (c.toNat : Int)]⟩ ∧ L' = iterS b s (p + 1) :: M := by
  intro w ρ a K Q ha hh hk
  have hb := (hh.at_ i hi).block
  have hs : (ByteArray.mk ⟨s⟩).size = s.length := rfl
  have hlt := (List.getElem?_eq_some_iff.1 hp).1
  have hrun : (Instr.next (ρ x) true ty).run P w = .ok (.tuple ⟨[.bool true, .int .i64 (p : Int), .int .i32 (c.toNat : Int)]⟩) { w with heap := w.heap.setIfInBounds b (.stringIter ⟨⟨s⟩⟩ (p + 1)) } := by
    simp only [ha x _ hx, Instr.next, Sem.run_bind]
    simp only [getObj, Sem.run, hb, Result.andThen_ok, hs]
    rw [if_pos hlt]
    simp only [decode_ascii hp hc, setObj, Sem.run_bind, Sem.run, Result.andThen_ok, hb]
    rfl
  simp only [execOp, Sem.run_bind, hrun, Result.andThen_ok, Sem.run_pure]
  exact hk _ _ _ ⟨rfl, rfl⟩ ((hh.at_ i hi).setObj _)

/-- A call of a function value that holds nothing. -/
theorem eff_callv {d : Option Tmp} {c : Call} {ty : TypeId} {pos : String} {af : Array Edge} {g : Option (Nat × Bool)} {f : FuncId} {fn : Func} {vs : List Value} {post : Value → List Assn → Prop} {x : Operand}
    (hf : P.funcs[f]? = some fn) (hb : fn.body.isNone = false) (hng : (fn.name == "runtime.NumGoroutine") = false) (hc : c.callee = .value x) (hx : ev E x = some (.func (.func f) ⟨[]⟩ ⟨[]⟩)) (hvs : evs E c.args.toList = some vs)
    (hspec : ∀ w, Holds σ w L → Calls P f ⟨vs⟩ w fun e w' => ∃ v L', e = .returned v ∧ post v L' ∧ Holds σ w' L') :
    Eff P σ E ⟨d, .call c, ty, pos, af, g⟩ L post := by
  intro w ρ a K Q ha hh hk
  have hargs : c.args.map ρ = ⟨vs⟩ := by rw [← evs_map ha hvs, ← Array.toList_map]
  have hrun : (execOp ρ ⟨d, .call c, ty, pos, af, g⟩).run P w = .ok (.enter f ⟨vs⟩) w := by
    simp only [execOp, resolve, hc, hargs, Sem.run_bind, ha x _ hx, Deferred.ofValue, Sem.run_pure, Result.andThen_ok, invoke, callFunc, run_program, hf]
    simp [hng, hb]
  rw [hrun]
  show Calls P f ⟨vs⟩ w _
  refine (hspec w hh).mono ?_
  rintro e w' ⟨v, L', rfl, hp, hh'⟩
  exact hk v w' L' hp hh'

/-- A letter as a string. -/
theorem ob_letter (ht : tab.OK P) {d : Option Tmp} {T T' ty : TypeId} {x : Operand} {pos : String} {af : Array Edge} {g : Option (Nat × Bool)} {k : IntKind} {n : Int} {t1 : TyE} {sz by_ : Nat} {z : List Value}
    (hx : ev E x = some (.int k n)) (hT : tab.get T = some t1) (hT' : tab.get T' = some ⟨.string, sz, z, by_⟩) (h0 : 0 ≤ n) (h1 : n < 128) : Ob P σ L E ⟨d, .convert T T' x, ty, pos, af, g⟩ (S [UInt8.ofNat n.toNat]) := by
  intro w ρ ha _
  have a1 := ht.get hT
  have a2 := ht.get hT'
  have hv : Utf8.valid n = true := by unfold Utf8.valid; simp; omega
  have he : Utf8.encode n = ⟨⟨[UInt8.ofNat n.toNat]⟩⟩ := by
    unfold Utf8.encode
    simp only [hv, if_true]
    rw [if_pos (by omega)]
  have hrun : (convert T T' (.int k n)).run P w = .ok (S [UInt8.ofNat n.toNat]) w := by
    simp only [convert, Sem.run_bind, a1.run_underlying, a2.run_underlying, Result.andThen_ok]
    cases t1.desc <;> simp [Conv.intToString, he, Sem.run_pure]
  simp only [execOp, ha x _ hx, Sem.run_bind, hrun, Result.andThen_ok, Sem.run_pure]
end
end Go.Hop
