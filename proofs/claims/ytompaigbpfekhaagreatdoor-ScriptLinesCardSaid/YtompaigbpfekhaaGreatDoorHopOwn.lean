/- What is proved here: slices that own their row, looked into. -/
import Derived.Test.YtompaigbpfekhaaGreatDoorHopEq
namespace Go.Hop
section
variable {P : Program} {tab : Tab} {σ : Sg} {L M : List Assn} {E : Env}
theorem len_q {x : Operand} {T el n c sz by_ : Nat} {z : List Value} {a : Option Addr} {rt : List TypeId} (hx : ev E x = some (.slice a n c)) (hT : tab.get T = some ⟨.slice el, sz, z, by_⟩) :
    qv tab E (.call ⟨.builtin .len, ⟨[x]⟩, ⟨T :: rt⟩⟩) = some (.int .i64 (n : Int)) := by
  simp [qv, callV, hx, lenV, hT]
theorem ob_lenOwn (ht : tab.OK P) {d : Option Tmp} {x : Operand} {T ty : TypeId} {rt : List TypeId} {pos : String} {af : Array Edge} {g : Option (Nat × Bool)} {v : Value} {n T' k sz by_ el : Nat} {cs z : List Value}
    (i : Nat) (hx : ev E x = some v) (hT : tab.get T = some ⟨.slice el, sz, z, by_⟩) (hi : pickAt L i = some (Own T' k v n cs, M)) : Ob P σ L E ⟨d, .call ⟨.builtin .len, ⟨[x]⟩, ⟨T :: rt⟩⟩, ty, pos, af, g⟩ (.int .i64 (n : Int)) := by
  intro w ρ ha hh
  rcases own_open.1 (hh.at_ i hi) with ⟨rfl, rfl, _, _⟩ | ⟨b, cap, sp, rfl, _⟩
  · exact qv_run ht ha (len_q hx hT)
  · exact qv_run ht ha (len_q hx hT)
theorem own_ne {w : World} {T k n : Nat} {v : Value} {cs : List Value} (hh : Holds σ w (Own T k v n cs :: M)) (h : 0 < n) :
    ∃ b cap sp, v = .slice (some ⟨b, 0, none⟩) n cap ∧ (n ≤ cap ∧ cs.length = n * k ∧ sp.length = (cap - n) * k) ∧ Holds σ w (row b T (cs ++ sp) :: M) := by
  rcases own_open.1 hh with ⟨_, rfl, _, _⟩ | ⟨b, cap, sp, h1, h2, h3, h4, H⟩
  · omega
  · exact ⟨b, cap, sp, h1, ⟨h2, h3, h4⟩, H⟩
theorem own_again {w : World} {T k n b cap : Nat} {cs sp : List Value} (h : n ≤ cap ∧ cs.length = n * k ∧ sp.length = (cap - n) * k) (hh : Holds σ w (row b T (cs ++ sp) :: M)) : Holds σ w (Own T k (.slice (some ⟨b, 0, none⟩) n cap) n cs :: M) :=
  own_open.2 (.inr ⟨b, cap, sp, rfl, h.1, h.2.1, h.2.2, hh⟩)
end
end Go.Hop
