/- What is proved here: small laws for the printed walks. -/
import Derived.Test.YtompaigbpfekhaaGreatDoorHopCode
namespace Go.Hop
/-- A string of these bytes. -/
abbrev S (l : List UInt8) : Value := .string ⟨⟨l⟩⟩
theorem v_dt {p : Prop} [Decidable p] (h : p) : Value.bool (decide p) = .bool true := by rw [decide_eq_true h]
theorem v_df {p : Prop} [Decidable p] (h : ¬ p) : Value.bool (decide p) = .bool false := by rw [decide_eq_false h]
theorem v_et {α : Type} [BEq α] [LawfulBEq α] {a b : α} (h : a = b) : Value.bool (a == b) = .bool true := by rw [beq_iff_eq.2 h]
theorem v_ef {α : Type} [BEq α] [LawfulBEq α] {a b : α} (h : ¬ a = b) : Value.bool (a == b) = .bool false := by rw [beq_eq_false_iff_ne.2 h]
theorem v_nt {α : Type} [BEq α] [LawfulBEq α] {a b : α} (h : ¬ a = b) : Value.bool (a != b) = .bool true := by rw [bne_iff_ne.2 h]
theorem v_nf {α : Type} [BEq α] [LawfulBEq α] {a b : α} (h : a = b) : Value.bool (a != b) = .bool false := by rw [h]; simp
theorem v_not {b c : Bool} (h : Value.bool b = .bool c) : Value.bool (!b) = .bool (!c) := by injection h with h; rw [h]
theorem v_id {b c : Bool} (h : b = c) : Value.bool b = .bool c := by rw [h]
theorem c_et {α : Type} [BEq α] [LawfulBEq α] {a b : α} (h : (a == b) = true) : a = b := beq_iff_eq.1 h
theorem c_ef {α : Type} [BEq α] [LawfulBEq α] {a b : α} (h : (a == b) = false) : ¬ a = b := beq_eq_false_iff_ne.1 h
theorem c_nt {α : Type} [BEq α] [LawfulBEq α] {a b : α} (h : (a != b) = true) : ¬ a = b := bne_iff_ne.1 h
theorem c_nf {α : Type} [BEq α] [LawfulBEq α] {a b : α} (h : (a != b) = false) : a = b := by simpa using h
theorem c_it {b : Bool} (h : (!b) = true) : b = false := by simpa using h
theorem c_if {b : Bool} (h : (!b) = false) : b = true := by simpa using h
section
variable {P : Program} {tab : Tab} {σ : Sg} {L M : List Assn} {E : Env}
theorem eq_i64 {x : Int} (h : -9223372036854775808 ≤ x ∧ x ≤ 9223372036854775807) : Value.int .i64 (IntKind.i64.wrap x) = .int .i64 x := by
  congr 1
  simp only [IntKind.wrap, IntKind.bits, IntKind.signed]
  simp
  omega
theorem eq_u64 {x : Int} (h : 0 ≤ x ∧ x ≤ 18446744073709551615) : Value.int .u64 (IntKind.u64.wrap x) = .int .u64 x := by
  congr 1
  simp only [IntKind.wrap, IntKind.bits, IntKind.signed]
  simp
  omega
theorem eq_u8 {x : Int} (h : 0 ≤ x ∧ x ≤ 255) : Value.int .u8 (IntKind.u8.wrap x) = .int .u8 x := by
  congr 1
  simp only [IntKind.wrap, IntKind.bits, IntKind.signed]
  simp
  omega
theorem eq_i32 {x : Int} (h : -2147483648 ≤ x ∧ x ≤ 2147483647) : Value.int .i32 (IntKind.i32.wrap x) = .int .i32 x := by
  congr 1
  simp only [IntKind.wrap, IntKind.bits, IntKind.signed]
  simp
  omega
theorem ob_rem {d : Option Tmp} {T T' ty : TypeId} {x y : Operand} {pos : String} {af : Array Edge} {g : Option (Nat × Bool)} {k : IntKind} {m n : Int}
    (hx : ev E x = some (.int k m)) (hy : ev E y = some (.int k n)) (h0 : n ≠ 0) : Ob P σ L E ⟨d, .binOp .rem T x y T', ty, pos, af, g⟩ (.int k (m.tmod n)) := by
  intro w ρ ha _
  simp [execOp, ha x _ hx, ha y _ hy, eqGuard, binOp, Op.intDiv, h0]
theorem ob_quo {d : Option Tmp} {T T' ty : TypeId} {x y : Operand} {pos : String} {af : Array Edge} {g : Option (Nat × Bool)} {k : IntKind} {m n r : Int}
    (hx : ev E x = some (.int k m)) (hy : ev E y = some (.int k n)) (h0 : n ≠ 0) (hr : k.wrap (m.tdiv n) = r) : Ob P σ L E ⟨d, .binOp .quo T x y T', ty, pos, af, g⟩ (.int k r) := by
  intro w ρ ha _
  subst hr
  simp [execOp, ha x _ hx, ha y _ hy, eqGuard, binOp, Op.intDiv, h0]
theorem ob_concat {d : Option Tmp} {T T' ty : TypeId} {x y : Operand} {pos : String} {af : Array Edge} {g : Option (Nat × Bool)} {s t : List UInt8}
    (hx : ev E x = some (S s)) (hy : ev E y = some (S t)) (h : s.length + t.length ≤ 9223372036854775807) : Ob P σ L E ⟨d, .binOp .add T x y T', ty, pos, af, g⟩ (S (s ++ t)) := by
  intro w ρ ha _
  have h1 : (ByteArray.mk ⟨s⟩).size = s.length := rfl
  have h2 : (ByteArray.mk ⟨t⟩).size = t.length := rfl
  have h3 : ByteArray.mk ⟨s⟩ ++ ByteArray.mk ⟨t⟩ = ByteArray.mk ⟨s ++ t⟩ := by
    apply ByteArray.ext
    rw [ByteArray.data_append]
    simp
  have h4 : ¬ (((s.length + t.length : Nat) : Int) > IntKind.i64.max) := by
    have : IntKind.i64.max = 9223372036854775807 := by decide
    rw [this]; omega
  simp only [execOp, ha x _ hx, ha y _ hy, Sem.run_bind]
  rw [eqGuard_run (by rfl)]
  simp only [Result.andThen_ok, binOp, Op.stringOp, h1, h2]
  rw [if_neg h4]
  simp [h3]
end
end Go.Hop
