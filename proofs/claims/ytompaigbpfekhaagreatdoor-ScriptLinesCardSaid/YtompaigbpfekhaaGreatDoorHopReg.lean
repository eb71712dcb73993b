/- What is proved here: a region of operations, run in the order of the text or in whatever order its edges allow, by reckoned values, with the effects one by one. -/
import Derived.Test.YtompaigbpfekhaaGreatDoorHopSound
namespace Go.Hop

/-- Of operation 'o', in every world that holds L: it gives v and leaves the world. -/
def Ob (P : Program) (σ : Sg) (L : List Assn) (E : Env) (o : Oper) (v : Value) : Prop :=
  ∀ (w : World) (ρ : Operand → Value), Agr E ρ → Holds σ w L → (execOp ρ o).run P w = .ok (.value v) w

/-- Of an effect: what it leaves. -/
def Eff (P : Program) (σ : Sg) (E : Env) (o : Oper) (L : List Assn) (post : Value → List Assn → Prop) : Prop :=
  ∀ (w : World) (ρ : Operand → Value) (a : Act) (K : Act → World → Prop) (Q : Exit → Act → World → Prop), Agr E ρ → Holds σ w L →
    (∀ v w' L', post v L' → Holds σ w' L' → K (a.put o.dst v) w') → o.upon P a K Q ((execOp ρ o).run P w)

def guardV (ops : List Oper) (E : Env) (g : Option (Nat × Bool)) : Option Bool :=
  match g with
  | none => some true
  | some (j, want) => match ops[j]? with
    | some oj => match oj.dst with
      | some t => match lk E t with
        | some (.bool true) => some want
        | some (.bool false) => some (!want)
        | _ => none
      | none => none
    | none => none

theorem guardV_wanted {ops : List Oper} {E : Env} {o : Oper} {b : Bool} (h : guardV ops E o.guard = some b) {tmps : Array Value}
    (hk : ∀ j want oj t u, o.guard = some (j, want) → ops[j]? = some oj → oj.dst = some t → lk E t = some u → tmps[t]? = some u) : Region.wanted o (yielded ops.toArray tmps) = b := by
  unfold guardV at h
  unfold Region.wanted
  split at h
  · rename_i hg; rw [hg]; injection h
  · rename_i j want hg
    rw [hg]
    simp only
    split at h
    · rename_i oj hj
      split at h
      · rename_i t ht
        split at h
        · rename_i he
          have := hk j want oj t _ hg hj ht he
          have hy : yielded ops.toArray tmps j = some true := by simp [yielded, hj, ht, this]
          rw [hy]; injection h with h; rw [← h]; cases want <;> rfl
        · rename_i he
          have := hk j want oj t _ hg hj ht he
          have hy : yielded ops.toArray tmps j = some false := by simp [yielded, hj, ht, this]
          rw [hy]; injection h with h; rw [← h]; cases want <;> rfl
        · cases h
      · cases h
    · cases h

/-! in the order of the text -/
/-- The operations up to number 'stop' are reckoned; what is owed for them. -/
def evalQ (P : Program) (tab : Tab) (n : Nat) (ops : List Oper) (hints : Env) (σ : Sg) (L : List Assn) : List Oper → Nat → Nat → Env → Option (List Oper × Env × Prop)
  | [], _, _, E => some ([], E, True)
  | o :: os, i, stop, E => match Nat.beq i stop with
    | true => some (o :: os, E, True)
    | false => match guardV ops E o.guard with
      | none => none
      | some false => match putE n E o.dst undef with
        | some E' => evalQ P tab n ops hints σ L os (i + 1) stop E'
        | none => none
      | some true => match lk hints i with
        | some v => match putE n E o.dst v with
          | some E' => match evalQ P tab n ops hints σ L os (i + 1) stop E' with
            | some (r, E2, p) => some (r, E2, Ob P σ L E o v ∧ p)
            | none => none
          | none => none
        | none => match qv tab E o.op with
          | some v => match putE n E o.dst v with
            | some E' => evalQ P tab n ops hints σ L os (i + 1) stop E'
            | none => none
          | none => none

section
variable {P : Program} {tab : Tab} {n : Nat} {ops : List Oper} {hints : Env} {σ : Sg} {L : List Assn} {Q : Exit → Act → World → Prop} {w : World}

theorem wpList_value {o : Oper} {os : List Oper} {a : Act} {v : Value} (hw : Region.wanted o (yielded ops.toArray a.tmps) = true)
    (hr : (execOp a.eval o).run P w = .ok (.value v) w) (h : wpList P ops.toArray Q os (a.put o.dst v) w) : wpList P ops.toArray Q (o :: os) a w := by
  unfold wpList
  rw [if_pos hw]
  left
  unfold Oper.wp
  rw [hr]
  exact h

theorem wpList_unwanted {o : Oper} {os : List Oper} {a : Act} (hw : Region.wanted o (yielded ops.toArray a.tmps) = false)
    (h : wpList P ops.toArray Q os (a.put o.dst undef) w) : wpList P ops.toArray Q (o :: os) a w := by
  unfold wpList
  rw [if_neg (by rw [hw]; simp)]
  exact h

theorem evalQ_wp (ht : tab.OK P) (hh : Holds σ w L) {stop : Nat} : ∀ {os : List Oper} {i : Nat} {E : Env} {a : Act} {r : List Oper} {E' : Env} {p : Prop},
    evalQ P tab n ops hints σ L os i stop E = some (r, E', p) → p → Knows n E a → (∀ a', Knows n E' a' → wpList P ops.toArray Q r a' w) → wpList P ops.toArray Q os a w
  | [], i, E, a, r, E', p, h, hp, hk, k => by cases h; exact k a hk
  | o :: os, i, E, a, r, E', p, h, hp, hk, k => by
    simp only [evalQ] at h
    cases hb : Nat.beq i stop with
    | true => rw [hb] at h; cases h; exact k a hk
    | false =>
      rw [hb] at h
      simp only at h
      cases hg : guardV ops E o.guard with
      | none => rw [hg] at h; cases h
      | some g =>
        rw [hg] at h
        have hw : Region.wanted o (yielded ops.toArray a.tmps) = g := guardV_wanted hg fun j want oj t u _ _ _ hl => hk.val t u hl
        cases g with
        | false =>
          simp only at h
          cases hpe : putE n E o.dst undef with
          | none => rw [hpe] at h; cases h
          | some E1 => rw [hpe] at h; exact wpList_unwanted hw (evalQ_wp ht hh h hp (hk.put hpe) k)
        | true =>
          simp only at h
          cases hhint : lk hints i with
          | some v =>
            rw [hhint] at h
            simp only at h
            cases hpe : putE n E o.dst v with
            | none => rw [hpe] at h; cases h
            | some E1 =>
              rw [hpe] at h
              simp only at h
              cases hrec : evalQ P tab n ops hints σ L os (i + 1) stop E1 with
              | none => rw [hrec] at h; cases h
              | some q =>
                obtain ⟨r1, E2, p1⟩ := q
                rw [hrec] at h
                cases h
                exact wpList_value hw (hp.1 w _ hk.agr hh) (evalQ_wp ht hh hrec hp.2 (hk.put hpe) k)
          | none =>
            rw [hhint] at h
            simp only at h
            cases hq : qv tab E o.op with
            | none => rw [hq] at h; cases h
            | some v =>
              rw [hq] at h
              simp only at h
              cases hpe : putE n E o.dst v with
              | none => rw [hpe] at h; cases h
              | some E1 => rw [hpe] at h; exact wpList_value hw (qv_run ht hk.agr hq) (evalQ_wp ht hh h hp (hk.put hpe) k)

/-- All are reckoned; these slots are kept. -/
def regQ (P : Program) (tab : Tab) (n : Nat) (ops : List Oper) (hints : Env) (σ : Sg) (L : List Assn) (E : Env) (keep : List Nat) : Option (Env × Prop) :=
  match evalQ P tab n ops hints σ L ops 0 100000 E with
  | some ([], E', p) => match keepE E' keep with
    | some E2 => some (E2, p)
    | none => none
  | _ => none

/-- A region without an effect, in the order of the text. -/
theorem reg_q (ht : tab.OK P) {id : Nat} {E E' : Env} {a : Act} {p : Prop} (hk : Knows n E a) (hh : Holds σ w L) (hints : Env) (keep : List Nat)
    (he : regQ P tab n ops hints σ L E keep = some (E', p)) (hp : p) (k : ∀ a', Knows n E' a' → Q .normal a' w) : (Code.region id ops.toArray false).wp P Q a w := by
  unfold regQ at he
  split at he
  · rename_i E1 p1 h1
    split at he
    · rename_i E2 h2
      cases he
      exact wp_region_lit (evalQ_wp ht hh h1 hp hk fun a' hk' => k a' (hk'.keep keep h2))
    · cases he
  · cases he

/-- Up to an effect. -/
theorem seq_q (ht : tab.OK P) {os : List Oper} {i stop : Nat} {E E' : Env} {a : Act} {r : List Oper} {p : Prop} (hk : Knows n E a) (hh : Holds σ w L) (hints : Env)
    (he : evalQ P tab n ops hints σ L os i stop E = some (r, E', p)) (hp : p) (k : ∀ a', Knows n E' a' → wpList P ops.toArray Q r a' w) : wpList P ops.toArray Q os a w :=
  evalQ_wp ht hh he hp hk k

/-- The rest of a region behind its last effect. -/
def restQ (P : Program) (tab : Tab) (n : Nat) (ops os : List Oper) (i : Nat) (hints : Env) (σ : Sg) (L : List Assn) (E : Env) (keep : List Nat) : Option (Env × Prop) :=
  match evalQ P tab n ops hints σ L os i 100000 E with
  | some ([], E', p) => match keepE E' keep with
    | some E2 => some (E2, p)
    | none => none
  | _ => none
theorem rest_q (ht : tab.OK P) {os : List Oper} {i : Nat} {E E' : Env} {a : Act} {p : Prop} (hk : Knows n E a) (hh : Holds σ w L) (hints : Env) (keep : List Nat)
    (he : restQ P tab n ops os i hints σ L E keep = some (E', p)) (hp : p) (k : ∀ a', Knows n E' a' → Q .normal a' w) : wpList P ops.toArray Q os a w := by
  unfold restQ at he
  split at he
  · rename_i E1 p1 h1
    split at he
    · rename_i E2 h2
      cases he
      exact evalQ_wp ht hh h1 hp hk fun a' hk' => k a' (hk'.keep keep h2)
    · cases he
  · cases he

def putD (d : Option Nat) (v : Value) (E : Env) : Env := match d with
  | none => E
  | some d => (d, v) :: E
def dstOK (n : Nat) (d : Option Nat) : Bool := match d with
  | none => true
  | some d => Nat.blt d n
theorem putE_putD {E : Env} {d : Option Nat} (h : dstOK n d = true) (v : Value) : putE n E d v = some (putD d v E) := by
  cases d with
  | none => rfl
  | some d => simp only [dstOK] at h; simp only [putE, putD, h, cond_true]

/-- One effect, in the order of the text. -/
theorem seq_eff {o : Oper} {os : List Oper} {E : Env} {a : Act} {post : Value → List Assn → Prop} (hk : Knows n E a) (hh : Holds σ w L)
    (hg : guardV ops E o.guard = some true) (hd : dstOK n o.dst = true) (he : Eff P σ E o L post)
    (k : ∀ v L' a' w', post v L' → Knows n (putD o.dst v E) a' → Holds σ w' L' → wpList P ops.toArray Q os a' w') : wpList P ops.toArray Q (o :: os) a w := by
  have hw : Region.wanted o (yielded ops.toArray a.tmps) = true := guardV_wanted hg fun j want oj t u _ _ _ hl => hk.val t u hl
  unfold wpList
  rw [if_pos hw]
  left
  exact he w a.eval a _ Q hk.agr hh fun v w' L' hpost hh' => k v L' _ w' hpost (hk.put (putE_putD hd v)) hh'
end
end Go.Hop
