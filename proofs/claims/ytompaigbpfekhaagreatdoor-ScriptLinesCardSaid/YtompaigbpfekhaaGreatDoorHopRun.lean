/- What is proved here: how a list of operations that only compute and read is run, by a function that reckons their values. -/
import Derived.Test.YtompaigbpfekhaaGreatDoorHopHeap
namespace Go.Hop

abbrev Env := List (Nat × Value)
def lk : Env → Nat → Option Value
  | [], _ => none
  | (j, v) :: E, k => cond (Nat.beq j k) (some v) (lk E k)

structure Knows (n : Nat) (E : Env) (a : Act) : Prop where
  defers : a.defers = []
  size : a.tmps.size = n
  val : ∀ k v, lk E k = some v → a.tmps[k]? = some v

def ev (E : Env) : Operand → Option Value
  | .tmp t => lk E t
  | .const v => some v
  | .global g => some (.pointer (some ⟨g, 0, none⟩))
  | .func f => some (.func (.func f) #[] #[])

/-- What is known of the slots is so for the operands. -/
def Agr (E : Env) (ρ : Operand → Value) : Prop := ∀ x u, ev E x = some u → ρ x = u

theorem Knows.agr {n : Nat} {E : Env} {a : Act} (h : Knows n E a) : Agr E a.eval := by
  intro x u hx
  cases x with
  | tmp t =>
    have := h.val t u hx
    simp only [Act.eval, Array.getD_eq_getD_getElem?, this, Option.getD_some]
  | const v => cases hx; rfl
  | «global» g => cases hx; rfl
  | func f => cases hx; rfl

theorem lk_cons {j k : Nat} {v : Value} {E : Env} : lk ((j, v) :: E) k = if j = k then some v else lk E k := by
  simp only [lk]
  by_cases h : j = k
  · subst h; simp
  · rw [if_neg h]
    have : Nat.beq j k = false := by
      cases hb : Nat.beq j k with
      | false => rfl
      | true => exact absurd (Nat.eq_of_beq_eq_true hb) h
    rw [this]; rfl

def rm (E : Env) (t : Nat) : Env := match E with
  | [] => []
  | (j, v) :: E' => cond (Nat.beq j t) (rm E' t) ((j, v) :: rm E' t)

def putE (n : Nat) (E : Env) (d : Option Nat) (v : Value) : Option Env := match d with
  | none => some E
  | some d => cond (Nat.blt d n) (some ((d, v) :: E)) none

theorem Knows.put {n : Nat} {E E' : Env} {a : Act} (h : Knows n E a) {d : Option Nat} {v : Value} (hp : putE n E d v = some E') : Knows n E' (a.put d v) := by
  cases d with
  | none => simp only [putE] at hp; cases hp; exact h
  | some d =>
    simp only [putE] at hp
    cases hb : Nat.blt d n with
    | false => rw [hb] at hp; cases hp
    | true =>
      rw [hb] at hp
      cases hp
      have hd : d < n := Nat.le_of_ble_eq_true hb
      refine ⟨h.defers, by simp [Act.put, h.size], fun k u hk => ?_⟩
      rw [lk_cons] at hk
      simp only [Act.put, Array.getElem?_setIfInBounds]
      by_cases e : d = k
      · rw [if_pos e] at hk; cases hk
        rw [if_pos e, if_pos (by rw [h.size]; exact hd)]
      · rw [if_neg e] at hk
        rw [if_neg e]
        exact h.val k u hk

def keepE (E : Env) : List Nat → Option Env
  | [] => some []
  | k :: ks => match lk E k with
    | some v => match keepE E ks with
      | some E' => some ((k, v) :: E')
      | none => none
    | none => none

theorem keepE_lk {E : Env} : ∀ {ks : List Nat} {E' : Env}, keepE E ks = some E' → ∀ k v, lk E' k = some v → lk E k = some v
  | [], E', h, k, v, hk => by cases h; cases hk
  | j :: ks, E', h, k, v, hk => by
    simp only [keepE] at h
    cases hj : lk E j with
    | none => rw [hj] at h; cases h
    | some u =>
      rw [hj] at h
      simp only at h
      cases hr : keepE E ks with
      | none => rw [hr] at h; cases h
      | some E2 =>
        rw [hr] at h
        cases h
        rw [lk_cons] at hk
        by_cases e : j = k
        · rw [if_pos e] at hk; cases hk; rw [← e]; exact hj
        · rw [if_neg e] at hk; exact keepE_lk hr k v hk

theorem Knows.keep {n : Nat} {E E' : Env} {a : Act} (h : Knows n E a) (ks : List Nat) (hk : keepE E ks = some E') : Knows n E' a :=
  ⟨h.defers, h.size, fun k v e => h.val k v (keepE_lk hk k v e)⟩

/-! types -/
structure TyE where
  desc : TypeDesc
  size : Nat
  zero : List Value
  bytes : Nat
inductive Tab where
  | nil
  | node (l : Tab) (t : Nat) (e : TyE) (r : Tab)
def Tab.get : Tab → Nat → Option TyE
  | .nil, _ => none
  | .node l t e r, k => cond (Nat.beq k t) (some e) (cond (Nat.blt k t) (l.get k) (r.get k))
/-- What the table says of a type is what the program says. -/
structure TyOK (P : Program) (t : Nat) (e : TyE) : Prop where
  desc : P.underlying t = some e.desc
  info : ∃ i, P.info? t = some i ∧ i.size = e.size ∧ i.bytes = e.bytes ∧ ∃ z, i.zero = some z ∧ z.cells.toList = e.zero
def Tab.OK (P : Program) : Tab → Prop
  | .nil => True
  | .node l t e r => l.OK P ∧ TyOK P t e ∧ r.OK P
theorem Tab.OK.get {P : Program} : ∀ {tab : Tab}, tab.OK P → ∀ {t : Nat} {e : TyE}, tab.get t = some e → TyOK P t e
  | .nil, _, _, _, h => by cases h
  | .node l k d r, ⟨hl, hd, hr⟩, t, e, h => by
    simp only [Tab.get] at h
    cases hb : Nat.beq t k with
    | true =>
      rw [hb] at h
      have := Nat.eq_of_beq_eq_true hb
      subst this
      cases h; exact hd
    | false =>
      rw [hb] at h
      cases hc : Nat.blt t k with
      | true => rw [hc] at h; exact hl.get h
      | false => rw [hc] at h; exact hr.get h

section
variable {P : Program} {t : Nat} {e : TyE} {w : World}
theorem TyOK.run_underlying (h : TyOK P t e) : (underlying t).run P w = .ok e.desc w := by
  simp [underlying, h.desc]
theorem TyOK.run_typeInfo (h : TyOK P t e) : ∃ i, (typeInfo t).run P w = .ok i w ∧ i.size = e.size ∧ i.bytes = e.bytes ∧ ∃ z, i.zero = some z ∧ z.cells.toList = e.zero := by
  obtain ⟨i, h1, h2, h3, h4⟩ := h.info
  exact ⟨i, by simp [typeInfo, h1], h2, h3, h4⟩
theorem TyOK.run_sizeOf (h : TyOK P t e) : (sizeOf t).run P w = .ok e.size w := by
  obtain ⟨i, h1, h2, _⟩ := h.run_typeInfo (w := w)
  simp [sizeOf, h1, h2]
theorem TyOK.run_zeroValue (h : TyOK P t e) : ∃ z, (zeroValue t).run P w = .ok z w ∧ z.cells.toList = e.zero := by
  obtain ⟨i, h1, _, _, z, h2, h3⟩ := h.run_typeInfo (w := w)
  exact ⟨z, by simp [zeroValue, h1, h2], h3⟩
def TypeDesc.isAggB : TypeDesc → Bool
  | .struct _ | .array _ _ => true
  | _ => false
theorem TyOK.run_isAgg (h : TyOK P t e) : (isAgg t).run P w = .ok (TypeDesc.isAggB e.desc) w := by
  simp only [isAgg, Sem.run_bind, h.run_underlying, Result.andThen_ok]
  cases e.desc <;> rfl
end

/-! values of operations -/
def ikEq : IntKind → IntKind → Bool
  | .i8, .i8 | .i16, .i16 | .i32, .i32 | .i64, .i64 | .u8, .u8 | .u16, .u16 | .u32, .u32 | .u64, .u64 => true
  | _, _ => false
theorem ikEq_eq : ∀ {a b : IntKind}, ikEq a b = true → a = b := by
  intro a b h
  cases a <;> cases b <;> first | rfl | cases h

def bitsV (op : BinOp) (k : IntKind) (m n : Int) : Int :=
  match op with
  | .and => k.wrap (BitVec.ofInt k.bits m &&& BitVec.ofInt k.bits n).toNat
  | .or => k.wrap (BitVec.ofInt k.bits m ||| BitVec.ofInt k.bits n).toNat
  | .xor => k.wrap (BitVec.ofInt k.bits m ^^^ BitVec.ofInt k.bits n).toNat
  | _ => k.wrap (BitVec.ofInt k.bits m &&& ~~~ BitVec.ofInt k.bits n).toNat

def binInt (op : BinOp) (k : IntKind) (m n : Int) : Option Value :=
  match op with
  | .add => some (.int k (k.wrap (m + n)))
  | .sub => some (.int k (k.wrap (m - n)))
  | .mul => some (.int k (k.wrap (m * n)))
  | .eql => some (.bool (m == n))
  | .neq => some (.bool (m != n))
  | .lss => some (.bool (decide (m < n)))
  | .leq => some (.bool (decide (m ≤ n)))
  | .gtr => some (.bool (decide (m > n)))
  | .geq => some (.bool (decide (m ≥ n)))
  | .and => some (.int k (bitsV .and k m n))
  | .or => some (.int k (bitsV .or k m n))
  | .xor => some (.int k (bitsV .xor k m n))
  | .andNot => some (.int k (bitsV .andNot k m n))
  | _ => none

def binStr (op : BinOp) (s t : List UInt8) : Option Value :=
  match op with
  | .eql => some (.bool (s == t))
  | .neq => some (.bool (!(s == t)))
  | .lss => some (.bool (Op.bytesLess s t))
  | .gtr => some (.bool (!(Op.bytesLess s t || s == t)))
  | _ => none

def binEq (op : BinOp) (b : Bool) : Option Value :=
  match op with
  | .eql => some (.bool b)
  | .neq => some (.bool (!b))
  | _ => none

def binV (tab : Tab) (op : BinOp) (T : Nat) (x y : Value) : Option Value :=
  match x, y with
  | .int k m, .int k' n => cond (ikEq k k') (binInt op k m n) none
  | .string ⟨⟨s⟩⟩, .string ⟨⟨t⟩⟩ => binStr op s t
  | .bool p, .bool q => match tab.get T with
    | some ⟨.bool, _, _, _⟩ => binEq op (p == q)
    | _ => none
  | .pointer none, .pointer q => match tab.get T with
    | some ⟨.pointer _, _, _, _⟩ => binEq op q.isNone
    | _ => none
  | .pointer (some _), .pointer none => match tab.get T with
    | some ⟨.pointer _, _, _, _⟩ => binEq op false
    | _ => none
  | .slice none _ _, .slice q _ _ => match tab.get T with
    | some ⟨.slice _, _, _, _⟩ => binEq op q.isNone
    | _ => none
  | .slice (some _) _ _, .slice none _ _ => match tab.get T with
    | some ⟨.slice _, _, _, _⟩ => binEq op false
    | _ => none
  | _, _ => none

def unV (op : UnOp) (x : Value) : Option Value :=
  match op, x with
  | .not, .bool b => some (.bool (!b))
  | .neg, .int k n => some (.int k (k.wrap (0 - n)))
  | .xor, .int k n => some (.int k (bitsV .xor k (if k.signed then -1 else k.max) n))
  | _, _ => none

def convV (tab : Tab) (src dst : Nat) (x : Value) : Option Value :=
  match tab.get src, tab.get dst, x with
  | some _, some ⟨.int k, _, _, _⟩, .int _ n => some (.int k (k.wrap n))
  | some _, some ⟨.string, _, _, _⟩, .string s => some (.string s)
  | _, _, _ => none

def fieldV (tab : Tab) (T : Nat) (x : Value) (f : Nat) : Option Value :=
  match tab.get T, x with
  | some ⟨.struct fs, _, _, _⟩, .pointer (some ⟨b, o, none⟩) => match fs[f]? with
    | some fd => match tab.get fd.type with
      | some te => cond (Nat.beq te.size 0) none (some (.pointer (some ⟨b, o + fd.offset, none⟩)))
      | none => none
    | none => none
  | _, _ => none

def nilV (x : Value) : Option Value :=
  match x with
  | .pointer (some a) => some (.pointer (some a))
  | .func (.func f) fi c => some (.func (.func f) fi c)
  | _ => none

def extV (x : Value) (i : Nat) : Option Value :=
  match x with
  | .tuple ⟨vs⟩ => vs[i]?
  | _ => none

def lenV (tab : Tab) (T : Option Nat) (x : Value) : Option Value :=
  match T with
  | none => none
  | some T => match tab.get T, x with
    | some ⟨.string, _, _, _⟩, .string ⟨⟨s⟩⟩ => some (.int .i64 (s.length : Int))
    | some ⟨.slice _, _, _, _⟩, .slice _ n _ => some (.int .i64 (n : Int))
    | _, _ => none

def evs (E : Env) : List Operand → Option (List Value)
  | [] => some []
  | x :: xs => match ev E x with
    | some v => match evs E xs with
      | some vs => some (v :: vs)
      | none => none
    | none => none

def callV (tab : Tab) (E : Env) (c : Call) : Option Value :=
  match c.callee, c.args with
  | .builtin .len, ⟨[x]⟩ => match ev E x with
    | some v => lenV tab c.argTypes[0]? v
    | none => none
  | .builtin .min, ⟨[x, y]⟩ => match ev E x, ev E y with
    | some (.int k m), some (.int _ n) => some (.int k (if n < m then n else m))
    | _, _ => none
  | .builtin .max, ⟨[x, y]⟩ => match ev E x, ev E y with
    | some (.int k m), some (.int _ n) => some (.int k (if n > m then n else m))
    | _, _ => none
  | _, _ => none

/-- The cells of a built struct: the parts laid into zeros. -/
def layAt : List Value → Nat → List Value → Option (List Value)
  | cs, 0, [] => some cs
  | _ :: cs, 0, v :: vs => match layAt cs 0 vs with
    | some r => some (v :: r)
    | none => none
  | c :: cs, i + 1, vs => match layAt cs i vs with
    | some r => some (c :: r)
    | none => none
  | [], _ + 1, [] => none
  | [], _, _ :: _ => none
def placesV (tab : Tab) : List Field → Option (List (Nat × Nat))
  | [] => some []
  | f :: fs => match tab.get f.type with
    | some te => match placesV tab fs with
      | some r => some ((f.offset, te.size) :: r)
      | none => none
    | none => none
def fillV (E : Env) (pl : List (Nat × Nat)) : List (Nat × Operand) → List Value → Option (List Value)
  | [], cs => some cs
  | (i, x) :: ps, cs => match pl[i]? with
    | some (off, sz) => match ev E x with
      | some v => cond (Nat.beq sz v.cells.toList.length) (match layAt cs off v.cells.toList with
        | some r => fillV E pl ps r
        | none => none) none
      | none => none
    | none => none
def buildV (tab : Tab) (E : Env) (T : Nat) (ps : List (Nat × Operand)) : Option (List Value) :=
  match tab.get T with
  | some ⟨.struct ⟨fs⟩, _, z, _⟩ => match placesV tab fs with
    | some pl => fillV E pl ps z
    | none => none
  | _ => none

def ifaceV (tab : Tab) (T : Nat) (u : Value) : Option Value :=
  match tab.get T with
  | some ⟨.interface _, _, _, _⟩ => none
  | some _ => some (.iface T u)
  | none => none

def qv (tab : Tab) (E : Env) (o : Op) : Option Value :=
  match o with
  | .move x => ev E x
  | .assign x => ev E x
  | .pick c x y => match ev E c with
    | some (.bool true) => ev E x
    | some (.bool false) => ev E y
    | _ => none
  | .binOp op T x y _ => match ev E x, ev E y with
    | some u, some v => binV tab op T u v
    | _, _ => none
  | .unOp op _ x => match ev E x with
    | some u => unV op u
    | none => none
  | .convert src dst x => match ev E x with
    | some u => convV tab src dst u
    | none => none
  | .fieldAddr T x f => match ev E x with
    | some u => fieldV tab T u f
    | none => none
  | .extract x i => match ev E x with
    | some u => extV u i
    | none => none
  | .nilCheck x => match ev E x with
    | some u => nilV u
    | none => none
  | .makeFunc fn f c => match evs E f.toList, evs E c.toList with
    | some fi, some ca => some (.func fn ⟨fi⟩ ⟨ca⟩)
    | _, _ => none
  | .makeInterface T x => match ev E x with
    | some u => ifaceV tab T u
    | none => none
  | .build T ps => match buildV tab E T ps.toList with
    | some cs => some (.agg ⟨cs⟩)
    | none => none
  | .call c => callV tab E c
  | _ => none

end Go.Hop
