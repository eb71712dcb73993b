/- What is proved here: a region whose order is drawn: whatever the order, its operations come to the reckoned values, its effects one behind the other. -/
import Derived.Test.YtompaigbpfekhaaGreatDoorSt0
namespace Go.Hop

inductive RS where
  | val (v : Value)
  | eff (E : Env)
  | unk
def RS.isVal : RS → Bool
  | .val _ => true
  | _ => false

def rmE : Env → Nat → Option Env
  | [], _ => some []
  | (j, v) :: E, t => match rmE E t with
    | some E' => match Nat.beq j t with
      | true => some E'
      | false => some ((j, v) :: E')
    | none => none
def rmO (E : Env) : Option Nat → Option Env
  | none => some E
  | some t => rmE E t
theorem rmE_lk : ∀ {E E' : Env} {t : Nat}, rmE E t = some E' → ∀ k v, lk E' k = some v → k ≠ t ∧ lk E k = some v
  | [], E', t, h, k, v, hk => by cases h; cases hk
  | (j, u) :: E, E', t, h, k, v, hk => by
    simp only [rmE] at h
    cases hr : rmE E t with
    | none => rw [hr] at h; cases h
    | some E1 =>
      rw [hr] at h
      simp only at h
      cases hb : Nat.beq j t with
      | true =>
        rw [hb] at h; cases h
        obtain ⟨h1, h2⟩ := rmE_lk hr k v hk
        refine ⟨h1, ?_⟩
        rw [lk_cons, if_neg]
        · exact h2
        · rintro rfl; exact h1 (Nat.eq_of_beq_eq_true hb)
      | false =>
        rw [hb] at h; cases h
        rw [lk_cons] at hk
        have hjt : j ≠ t := fun e => by subst e; rw [Nat.beq_refl] at hb; cases hb
        by_cases e : j = k
        · subst e
          rw [if_pos rfl] at hk
          exact ⟨hjt, by rw [lk_cons, if_pos rfl]; exact hk⟩
        · rw [if_neg e] at hk
          obtain ⟨h1, h2⟩ := rmE_lk hr k v hk
          exact ⟨h1, by rw [lk_cons, if_neg e]; exact h2⟩

theorem rmE_keep : ∀ {E E' : Env} {t : Nat}, rmE E t = some E' → ∀ k v, k ≠ t → lk E k = some v → lk E' k = some v
  | [], E', t, h, k, v, _, hk => by cases hk
  | (j, u) :: E, E', t, h, k, v, hne, hk => by
    simp only [rmE] at h
    cases hr : rmE E t with
    | none => rw [hr] at h; cases h
    | some E1 =>
      rw [hr] at h
      simp only at h
      rw [lk_cons] at hk
      cases hb : Nat.beq j t with
      | true =>
        rw [hb] at h; cases h
        have : j = t := Nat.eq_of_beq_eq_true hb
        subst this
        rw [if_neg (fun e => hne e.symm)] at hk
        exact rmE_keep hr k v hne hk
      | false =>
        rw [hb] at h; cases h
        rw [lk_cons]
        by_cases e : j = k
        · rw [if_pos e] at hk ⊢; exact hk
        · rw [if_neg e] at hk ⊢; exact rmE_keep hr k v hne hk

/-- What operation i owes in this stage: nothing, where it has been run for sure. -/
def owes (b done : List Nat) (i : Nat) : Bool := match memB i done with
  | true => false
  | false => go done
where
  go : List Nat → Bool
    | [] => true
    | c :: cs => match (b.getD c 0).testBit i with
      | true => false
      | false => go cs

section
variable (P : Program) (tab : Tab) (n : Nat) (ops : List Oper) (b effs : List Nat) (hints : Env) (done : List Nat) (σ : Sg) (L : List Assn)

def evalS : List Oper → Nat → Env → Option (List RS × Env × Prop)
  | [], _, E => some ([], E, True)
  | o :: os, i, E => match guardV ops E o.guard with
    | none => match rmO E o.dst with
      | some E' => match evalS os (i + 1) E' with
        | some (S, E2, p) => some (.unk :: S, E2, p)
        | none => none
      | none => none
    | some false => match putE n E o.dst undef with
      | some E' => match evalS os (i + 1) E' with
        | some (S, E2, p) => some (.val undef :: S, E2, p)
        | none => none
      | none => none
    | some true => match lk hints i with
      | some v => match putE n E o.dst v with
        | some E' => match evalS os (i + 1) E' with
          | some (S, E2, p) => match owes b done i with
            | true => some (.val v :: S, E2, Ob P σ L E o v ∧ p)
            | false => some (.val v :: S, E2, p)
          | none => none
        | none => none
      | none => match memB i effs with
        | true => match rmO E o.dst with
          | some E' => match evalS os (i + 1) E' with
            | some (S, E2, p) => some (.eff E :: S, E2, p)
            | none => none
          | none => none
        | false => match qv tab E o.op with
          | some v => match putE n E o.dst v with
            | some E' => match evalS os (i + 1) E' with
              | some (S, E2, p) => some (.val v :: S, E2, p)
              | none => none
            | none => none
          | none => match rmO E o.dst with
            | some E' => match evalS os (i + 1) E' with
              | some (S, E2, p) => some (.unk :: S, E2, p)
              | none => none
            | none => none
end

/-- What is so of a status. -/
def Spec (P : Program) (tab : Tab) (ops : List Oper) (b effs : List Nat) (hints : Env) (done : List Nat) (σ : Sg) (L : List Assn) (i : Nat) (E : Env) (o : Oper) : RS → Prop
  | .val v => (guardV ops E o.guard = some false ∧ v = undef) ∨
      (guardV ops E o.guard = some true ∧ ((lk hints i = some v ∧ (owes b done i = true → Ob P σ L E o v)) ∨ (lk hints i = none ∧ memB i effs = false ∧ qv tab E o.op = some v)))
  | .eff E' => E' = E ∧ guardV ops E o.guard = some true ∧ lk hints i = none ∧ memB i effs = true
  | .unk => guardV ops E o.guard = none ∨ (guardV ops E o.guard = some true ∧ lk hints i = none ∧ memB i effs = false ∧ qv tab E o.op = none)
def updE (n : Nat) (E : Env) (d : Option Nat) : RS → Option Env
  | .val v => putE n E d v
  | _ => rmO E d

inductive Tr (P : Program) (tab : Tab) (n : Nat) (ops : List Oper) (b effs : List Nat) (hints : Env) (done : List Nat) (σ : Sg) (L : List Assn) : Nat → Env → List Oper → List RS → Env → Prop where
  | nil {i : Nat} {E : Env} : Tr P tab n ops b effs hints done σ L i E [] [] E
  | cons {i : Nat} {E E' E2 : Env} {o : Oper} {os : List Oper} {s : RS} {S : List RS} (h : Spec P tab ops b effs hints done σ L i E o s) (hu : updE n E o.dst s = some E')
      (ht : Tr P tab n ops b effs hints done σ L (i + 1) E' os S E2) : Tr P tab n ops b effs hints done σ L i E (o :: os) (s :: S) E2

section
variable {P : Program} {tab : Tab} {n : Nat} {ops : List Oper} {b effs : List Nat} {hints : Env} {done : List Nat} {σ : Sg} {L : List Assn}

theorem evalS_tr : ∀ {os : List Oper} {i : Nat} {E : Env} {S : List RS} {E2 : Env} {p : Prop}, evalS P tab n ops b effs hints done σ L os i E = some (S, E2, p) → p →
    Tr P tab n ops b effs hints done σ L i E os S E2
  | [], i, E, S, E2, p, h, hp => by cases h; exact .nil
  | o :: os, i, E, S, E2, p, h, hp => by
    simp only [evalS] at h
    split at h
    · rename_i hg
      split at h
      · rename_i E' hrm
        split at h
        · rename_i S' E3 p' hrec
          cases h
          exact .cons (s := .unk) (.inl hg) hrm (evalS_tr hrec hp)
        · cases h
      · cases h
    · rename_i hg
      split at h
      · rename_i E' hpe
        split at h
        · rename_i S' E3 p' hrec
          cases h
          exact .cons (s := .val undef) (.inl ⟨hg, rfl⟩) hpe (evalS_tr hrec hp)
        · cases h
      · cases h
    · rename_i hg
      split at h
      · rename_i v hl
        split at h
        · rename_i E' hpe
          split at h
          · rename_i S' E3 p' hrec
            split at h
            · rename_i ho
              cases h
              exact .cons (s := .val v) (.inr ⟨hg, .inl ⟨hl, fun _ => hp.1⟩⟩) hpe (evalS_tr hrec hp.2)
            · rename_i ho
              cases h
              exact .cons (s := .val v) (.inr ⟨hg, .inl ⟨hl, fun hc => by rw [ho] at hc; cases hc⟩⟩) hpe (evalS_tr hrec hp)
          · cases h
        · cases h
      · rename_i hl
        split at h
        · rename_i hm
          split at h
          · rename_i E' hrm
            split at h
            · rename_i S' E3 p' hrec
              cases h
              exact .cons (s := .eff E) ⟨rfl, hg, hl, hm⟩ hrm (evalS_tr hrec hp)
            · cases h
          · cases h
        · rename_i hm
          split at h
          · rename_i v hq
            split at h
            · rename_i E' hpe
              split at h
              · rename_i S' E3 p' hrec
                cases h
                exact .cons (s := .val v) (.inr ⟨hg, .inr ⟨hl, hm, hq⟩⟩) hpe (evalS_tr hrec hp)
              · cases h
            · cases h
          · rename_i hq
            split at h
            · rename_i E' hrm
              split at h
              · rename_i S' E3 p' hrec
                cases h
                exact .cons (s := .unk) (.inr ⟨hg, hl, hm, hq⟩) hrm (evalS_tr hrec hp)
              · cases h
            · cases h

/-- Where a known slot's value comes from, by the text ahead of operation j. -/
def From (E : Env) (os : List Oper) (S : List RS) (j t : Nat) (u : Value) : Prop :=
  (∃ k o, k < j ∧ os[k]? = some o ∧ o.dst = some t ∧ S[k]? = some (.val u)) ∨ ((∀ k o, k < j → os[k]? = some o → o.dst ≠ some t) ∧ lk E t = some u)

theorem updE_lk {E E' : Env} {d : Option Nat} {s : RS} (h : updE n E d s = some E') {t : Nat} {u : Value} (hl : lk E' t = some u) : (d = some t ∧ s = .val u) ∨ (d ≠ some t ∧ lk E t = some u) := by
  cases s with
  | val v =>
    cases d with
    | none => simp only [updE, putE] at h; cases h; exact .inr ⟨by simp, hl⟩
    | some d =>
      simp only [updE, putE] at h
      cases hb : Nat.blt d n with
      | false => rw [hb] at h; cases h
      | true =>
        rw [hb] at h; cases h
        rw [lk_cons] at hl
        by_cases e : d = t
        · subst e; rw [if_pos rfl] at hl; cases hl; exact .inl ⟨rfl, rfl⟩
        · rw [if_neg e] at hl; exact .inr ⟨by simpa using e, hl⟩
  | eff E0 =>
    cases d with
    | none => simp only [updE, rmO] at h; cases h; exact .inr ⟨by simp, hl⟩
    | some d =>
      obtain ⟨h1, h2⟩ := rmE_lk (show rmE E d = some E' from h) t u hl
      exact .inr ⟨by simpa using fun e => h1 e.symm, h2⟩
  | unk =>
    cases d with
    | none => simp only [updE, rmO] at h; cases h; exact .inr ⟨by simp, hl⟩
    | some d =>
      obtain ⟨h1, h2⟩ := rmE_lk (show rmE E d = some E' from h) t u hl
      exact .inr ⟨by simpa using fun e => h1 e.symm, h2⟩

theorem Tr.at {i : Nat} {E E2 : Env} {os : List Oper} {S : List RS} (h : Tr P tab n ops b effs hints done σ L i E os S E2) : ∀ j o, os[j]? = some o →
    ∃ s Ej Ek, S[j]? = some s ∧ Spec P tab ops b effs hints done σ L (i + j) Ej o s ∧ updE n Ej o.dst s = some Ek ∧ (∀ t u, lk Ej t = some u → From E os S j t u) := by
  induction h with
  | nil => intro j o h; simp at h
  | @cons i E E' E2 o os s S hs hu ht ih =>
    intro j p hj
    cases j with
    | zero =>
      have : o = p := by simpa using hj
      subst this
      exact ⟨s, E, E', by simp, hs, hu, fun t u hl => .inr ⟨fun k o' hk => by omega, hl⟩⟩
    | succ j =>
      obtain ⟨s', Ej, Ek, h1, h2, h3, h4⟩ := ih j p (by simpa using hj)
      refine ⟨s', Ej, Ek, by simpa using h1, by rw [show i + (j + 1) = i + 1 + j by omega]; exact h2, h3, fun t u hl => ?_⟩
      rcases h4 t u hl with ⟨k, o', hk, ho, hd, hS⟩ | ⟨hno, hl'⟩
      · exact .inl ⟨k + 1, o', by omega, by simpa using ho, hd, by simpa using hS⟩
      · rcases updE_lk hu hl' with ⟨hd, rfl⟩ | ⟨hd, hl2⟩
        · exact .inl ⟨0, o, by omega, by simp, hd, by simp⟩
        · refine .inr ⟨fun k o' hk ho => ?_, hl2⟩
          cases k with
          | zero => have : o = o' := by simpa using ho
                    subst this; exact hd
          | succ k => exact hno k o' (by omega) (by simpa using ho)
theorem Tr.last {i : Nat} {E E2 : Env} {os : List Oper} {S : List RS} (h : Tr P tab n ops b effs hints done σ L i E os S E2) : S.length = os.length ∧ ∀ t u, lk E2 t = some u → From E os S os.length t u := by
  induction h with
  | nil => exact ⟨rfl, fun t u hl => .inr ⟨fun k o' hk => by simp at hk, hl⟩⟩
  | @cons i E E' E2 o os s S hs hu ht ih =>
    refine ⟨by simp [ih.1], fun t u hl => ?_⟩
    rcases ih.2 t u hl with ⟨k, o', hk, ho, hd, hS⟩ | ⟨hno, hl'⟩
    · exact .inl ⟨k + 1, o', by simp; omega, by simpa using ho, hd, by simpa using hS⟩
    · rcases updE_lk hu hl' with ⟨hd, rfl⟩ | ⟨hd, hl2⟩
      · exact .inl ⟨0, o, by simp, by simp, hd, by simp⟩
      · refine .inr ⟨fun k o' hk ho => ?_, hl2⟩
        cases k with
        | zero => have : o = o' := by simpa using ho
                  subst this; exact hd
        | succ k => exact hno k o' (by simp at hk; omega) (by simpa using ho)
end
/-! an operation looks at its operands alone -/
theorem map_congr' {α β : Type} {f g : α → β} {l : Array α} (h : ∀ x ∈ l.toList, f x = g x) : l.map f = l.map g := by
  apply Array.ext'
  rw [Array.toList_map, Array.toList_map]
  exact List.map_congr_left h
theorem omap_congr {f g : Operand → Value} {x : Option Operand} (h : ∀ y ∈ x.toArray, f y = g y) : x.map f = x.map g := by
  cases x with
  | none => rfl
  | some y => simp [h y (by simp)]
theorem execOp_congr {o : Oper} {ρ ρ' : Operand → Value} (hs : ∀ cs bl, o.op ≠ .select cs bl) (h : ∀ x ∈ o.op.operands.toList, ρ x = ρ' x) : execOp ρ o = execOp ρ' o := by
  have hcall : ∀ c : Call, (∀ x ∈ c.operands.toList, ρ x = ρ' x) → resolve ρ c o.type = resolve ρ' c o.type := by
    intro c hc
    have hargs : c.args.map ρ = c.args.map ρ' := map_congr' fun x hx => hc x (by simp [Call.operands]; right; simpa using hx)
    unfold resolve
    rw [hargs]
    cases hcal : c.callee with
    | builtin b => rfl
    | invoke r m => simp only [hc r (by simp [Call.operands, hcal])]
    | value f => simp only [hc f (by simp [Call.operands, hcal])]
  obtain ⟨d, op, ty, pos, af, g⟩ := o
  simp only at h hs
  cases op with
  | select cs bl => exact (hs cs bl rfl).elim
  | call c => simp only [execOp, hcall c (fun x hx => h x (by simpa [Op.operands] using hx))]
  | go c => simp only [execOp, hcall c (fun x hx => h x (by simpa [Op.operands] using hx))]
  | defer c => simp only [execOp, hcall c (fun x hx => h x (by simpa [Op.operands] using hx))]
  | build T ps =>
    have : (ps.map fun (p : Nat × Operand) => (p.1, ρ p.2)) = ps.map fun p => (p.1, ρ' p.2) := map_congr' fun x hx => by rw [h x.2 (by simp only [Op.operands, List.mem_map]; exact ⟨x, hx, rfl⟩)]
    simp only [execOp, this]
  | buildSlice T l ps =>
    have : (ps.map fun (p : Nat × Operand) => (p.1, ρ p.2)) = ps.map fun p => (p.1, ρ' p.2) := map_congr' fun x hx => by rw [h x.2 (by simp only [Op.operands, List.mem_map]; exact ⟨x, hx, rfl⟩)]
    simp only [execOp, this]
  | makeFunc fn f c =>
    have h1 : f.map ρ = f.map ρ' := map_congr' fun x hx => h x (by simp [Op.operands]; left; simpa using hx)
    have h2 : c.map ρ = c.map ρ' := map_congr' fun x hx => h x (by simp [Op.operands]; right; simpa using hx)
    simp only [execOp, h1, h2]
  | makeMap T r =>
    have : r.map ρ = r.map ρ' := omap_congr fun y hy => h y (by simpa [Op.operands] using hy)
    simp only [execOp, this]
  | slice T x lo hi mx =>
    have h0 : ρ x = ρ' x := h x (by simp [Op.operands])
    have h1 : lo.map ρ = lo.map ρ' := omap_congr fun y hy => h y (by simp [Op.operands]; right; left; simpa using hy)
    have h2 : hi.map ρ = hi.map ρ' := omap_congr fun y hy => h y (by simp [Op.operands]; right; right; left; simpa using hy)
    have h3 : mx.map ρ = mx.map ρ' := omap_congr fun y hy => h y (by simp [Op.operands]; right; right; right; simpa using hy)
    simp only [execOp, h0, h1, h2, h3]
  | _ => simp [Op.operands] at h; simp only [execOp, h]

end Go.Hop
/- What is proved here: the rule for a region whose order is drawn. -/
namespace Go.Hop

def allValS : List RS → Bool
  | [] => true
  | .val _ :: S => allValS S
  | _ :: _ => false
/-- All that the mask names are reckoned. -/
def predsVal (m : Nat) : List RS → Nat → Bool
  | [], _ => true
  | s :: S, j => match m.testBit j with
    | true => match s with
      | .val _ => predsVal m S (j + 1)
      | _ => false
    | false => predsVal m S (j + 1)
def cands (b : List Nat) (S : List RS) : List RS → Nat → List (Nat × Env)
  | [], _ => []
  | .eff E :: R, i => match predsVal (b.getD i 0) S 0 with
    | true => (i, E) :: cands b S R (i + 1)
    | false => cands b S R (i + 1)
  | _ :: R, i => cands b S R (i + 1)
/-- Whatever is not reckoned hangs on something that is not. -/
def progOK (b : List Nat) (S : List RS) : List RS → Nat → Bool
  | [], _ => true
  | .unk :: R, i => match predsVal (b.getD i 0) S 0 with
    | true => false
    | false => progOK b S R (i + 1)
  | _ :: R, i => progOK b S R (i + 1)

inductive Stg where
  | fin (E : Env) (p : Prop)
  | next (cs : List (Nat × Env)) (S : List RS) (p : Prop)

def stage (P : Program) (tab : Tab) (n : Nat) (ops : List Oper) (b effs : List Nat) (hints : Env) (done : List Nat) (σ : Sg) (L : List Assn) (E : Env) (keep : List Nat) : Option Stg :=
  match evalS P tab n ops b effs hints done σ L ops 0 E with
  | some (S, E2, p) => match allValS S with
    | true => match keepE E2 keep with
      | some E' => some (.fin E' p)
      | none => none
    | false => match progOK b S S 0 with
      | true => some (.next (cands b S S 0) S p)
      | false => none
  | none => none

/-- Values that are fixed besides: of operations that are not reckoned alone. -/
def extraOK (S : List RS) (hints : Env) : Env → Bool
  | [] => true
  | (i, _) :: X => match S[i]?, lk hints i with
    | some .unk, none => extraOK S hints X
    | _, _ => false

def Chain (P : Program) (tab : Tab) (n : Nat) (ops : List Oper) (b effs : List Nat) (σ : Sg) (E : Env) (keep : List Nat) (fin : Env → List Assn → Prop) : Nat → Env → List Nat → List Assn → Prop
  | 0, hints, done, L => ∃ E' p, stage P tab n ops b effs hints done σ L E keep = some (.fin E' p) ∧ p ∧ fin E' L
  | k + 1, hints, done, L => (∃ E' p, stage P tab n ops b effs hints done σ L E keep = some (.fin E' p) ∧ p ∧ fin E' L) ∨
    (∃ cs S p, stage P tab n ops b effs hints done σ L E keep = some (.next cs S p) ∧ p ∧
      ∀ c Ec, (c, Ec) ∈ cs → ∃ o, ops[c]? = some o ∧ ∃ post, Eff P σ Ec o L post ∧
        ∀ v L', post v L' → ∃ X, extraOK S hints X = true ∧ Chain P tab n ops b effs σ E keep fin k ((c, v) :: (X ++ hints)) (c :: done) L')

section
variable {P : Program} {tab : Tab} {n : Nat} {ops : List Oper} {effs : List Nat} {σ : Sg} {E : Env} {keep : List Nat} {fin : Env → List Assn → Prop} {Q : Exit → Act → World → Prop}

theorem predsVal_of {m : Nat} : ∀ {R : List RS} {j : Nat}, (∀ (k : Nat) (s : RS), R[k]? = some s → m.testBit (j + k) = true → s.isVal = true) → predsVal m R j = true
  | [], _, _ => rfl
  | s :: R, j, h => by
    have hr : predsVal m R (j + 1) = true := predsVal_of fun k s' hs hb => h (k + 1) s' (by simpa using hs) (by rw [show j + (k + 1) = j + 1 + k by omega]; exact hb)
    simp only [predsVal]
    cases hb : m.testBit j with
    | false => exact hr
    | true =>
      have := h 0 s (by simp) (by simpa using hb)
      cases s <;> first | exact hr | cases this
theorem cands_of {b : List Nat} {S : List RS} : ∀ {R : List RS} {i : Nat} (k : Nat) (Ek : Env), R[k]? = some (.eff Ek) → predsVal (b.getD (i + k) 0) S 0 = true → (i + k, Ek) ∈ cands b S R i
  | [], i, k, Ek, h, _ => by simp at h
  | s :: R, i, k, Ek, h, hp => by
    cases k with
    | zero =>
      have : s = .eff Ek := by simpa using h
      subst this
      simp only [Nat.add_zero] at hp
      simp only [cands, hp]
      simp
    | succ k =>
      have ih := cands_of (b := b) (S := S) (R := R) (i := i + 1) k Ek (by simpa using h) (by rw [show i + 1 + k = i + (k + 1) by omega]; exact hp)
      rw [show i + 1 + k = i + (k + 1) by omega] at ih
      cases s with
      | eff E0 => simp only [cands]; split
                  · exact List.mem_cons_of_mem _ ih
                  · exact ih
      | val v => exact ih
      | unk => exact ih
theorem progOK_spec {b : List Nat} {S : List RS} : ∀ {R : List RS} {i : Nat}, progOK b S R i = true → ∀ k, R[k]? = some .unk → predsVal (b.getD (i + k) 0) S 0 = false
  | [], i, _, k, h => by simp at h
  | s :: R, i, hp, k, h => by
    have hr : progOK b S R (i + 1) = true := by
      cases s with
      | unk => simp only [progOK] at hp; split at hp
               · cases hp
               · exact hp
      | val v => exact hp
      | eff E0 => exact hp
    cases k with
    | zero =>
      have : s = .unk := by simpa using h
      subst this
      simp only [progOK] at hp
      split at hp
      · cases hp
      · rename_i hq; simpa using hq
    | succ k =>
      have := progOK_spec hr k (by simpa using h)
      rw [show i + (k + 1) = i + 1 + k by omega]; exact this
theorem allValS_spec : ∀ {S : List RS}, allValS S = true ↔ ∀ (k : Nat) (s : RS), S[k]? = some s → s.isVal = true
  | [] => by simp [allValS]
  | s :: S => by
    constructor
    · intro h k t hk
      cases s with
      | val v =>
        cases k with
        | zero => have : RS.val v = t := by simpa using hk
                  subst this; rfl
        | succ k => exact (allValS_spec (S := S)).1 h k t (by simpa using hk)
      | eff E0 => cases h
      | unk => cases h
    · intro h
      have h0 := h 0 s (by simp)
      cases s with
      | val v => exact (allValS_spec (S := S)).2 fun k t hk => h (k + 1) t (by simpa using hk)
      | eff E0 => cases h0
      | unk => cases h0
theorem extraOK_spec {S : List RS} {hints : Env} : ∀ {X : Env}, extraOK S hints X = true → ∀ i v, lk X i = some v → S[i]? = some .unk ∧ lk hints i = none
  | [], _, i, v, h => by cases h
  | (j, u) :: X, hx, i, v, h => by
    simp only [extraOK] at hx
    split at hx
    · rename_i hS hn
      rw [lk_cons] at h
      by_cases e : j = i
      · subst e; exact ⟨hS, hn⟩
      · rw [if_neg e] at h; exact extraOK_spec hx i v h
    · cases hx
theorem lk_append {A B : Env} {k : Nat} : lk (A ++ B) k = (match lk A k with | some v => some v | none => lk B k) := by
  induction A with
  | nil => rfl
  | cons p A ih =>
    obtain ⟨j, v⟩ := p
    rw [List.cons_append, lk_cons, lk_cons]
    by_cases e : j = k
    · simp [e]
    · rw [if_neg e, if_neg e, ih]

/-- What is known in a drawn order, when the set 'listed' has been run. -/
structure Inv (n : Nat) (ops : List Oper) (E : Env) (S : List RS) (done : List Nat) (listed : Array Bool) (a : Act) : Prop where
  defers : a.defers = []
  size : a.tmps.size = n
  lsize : listed.size = ops.length
  shut : Shut ops fun i => listed.getD i false = true
  isval : ∀ k, listed.getD k false = true → ∃ v, S[k]? = some (.val v)
  vals : ∀ (k : Nat) (o : Oper) (v : Value) (t : Nat), listed.getD k false = true → ops[k]? = some o → o.dst = some t → S[k]? = some (.val v) → a.tmps[t]? = some v
  rest : ∀ t u, lk E t = some u → (∀ (k : Nat) (o : Oper), listed.getD k false = true → ops[k]? = some o → o.dst ≠ some t) → a.tmps[t]? = some u
  done : ∀ c ∈ done, listed.getD c false = true

def mix (E : Env) (a : Act) (x : Operand) : Value := match ev E x with
  | some u => u
  | none => a.eval x
theorem mix_agr {E : Env} {a : Act} : Agr E (mix E a) := fun x u h => by simp [mix, h]

theorem tmpsOf_mem {t : Nat} : ∀ {xs : List Operand}, .tmp t ∈ xs → t ∈ tmpsOf xs
  | x :: xs, h => by
    rcases List.mem_cons.1 h with rfl | h
    · simp [tmpsOf]
    · have := tmpsOf_mem h
      cases x <;> simp only [tmpsOf] <;> first | exact this | exact List.mem_cons_of_mem _ this

theorem listed_set {listed : Array Bool} {i k : Nat} (hi : i < listed.size) : (listed.setIfInBounds i true).getD k false = if i = k then true else listed.getD k false := by
  simp only [Array.getD_eq_getD_getElem?, Array.getElem?_setIfInBounds]
  by_cases e : i = k
  · subst e; simp [hi]
  · simp [e]

theorem mem_ready {ops : Array Oper} {listed : Array Bool} {i : Nat} (h : i ∈ Region.ready .any ops listed) :
    ∃ o, ops[i]? = some o ∧ listed.getD i true = false ∧ ∀ e ∈ o.after.toList, bindsB e = true → listed.getD e.on false = true := by
  simp only [Region.ready, List.mem_filter, List.mem_range, Bool.and_eq_true] at h
  obtain ⟨h1, h2, h3⟩ := h
  have : ops[i]? = some ops[i] := by simp [h1]
  refine ⟨ops[i], this, by simpa using h2, fun e he hb => ?_⟩
  rw [this] at h3
  simp only [Option.map_some, Option.getD_some, Array.all_eq_true'] at h3
  have := h3 e (by simpa using he)
  rw [binds_any, hb] at this
  simpa using this
theorem ready_of {ops : List Oper} {listed : Array Bool} {i : Nat} {o : Oper} (ho : ops[i]? = some o) (hl : listed.getD i true = false) (he : ∀ e ∈ o.after.toList, bindsB e = true → listed.getD e.on false = true) :
    i ∈ Region.ready .any ops.toArray listed := by
  have hlt : i < ops.length := (List.getElem?_eq_some_iff.1 ho).1
  simp only [Region.ready, List.mem_filter, List.mem_range, Bool.and_eq_true]
  refine ⟨by simpa using hlt, by simpa using hl, ?_⟩
  simp only [List.getElem?_toArray, ho, Option.map_some, Option.getD_some, Array.all_eq_true']
  intro e hm
  rw [binds_any]
  cases hb : bindsB e with
  | false => rfl
  | true => simpa using he e (by simpa using hm) hb

def unl (m : Nat) (listed : Array Bool) : Nat := (List.range m).countP fun i => !listed.getD i true

theorem countP_less {p q : Nat → Bool} {i : Nat} (hp : p i = true) (hq : q i = false) (hpq : ∀ j, j ≠ i → q j = p j) : ∀ {l : List Nat}, i ∈ l → l.countP q < l.countP p := by
  intro l
  have le : ∀ l : List Nat, l.countP q ≤ l.countP p := fun l => List.countP_mono_left fun j _ hj => by
    by_cases e : j = i
    · subst e; rw [hq] at hj; cases hj
    · rw [← hpq j e]; exact hj
  induction l with
  | nil => intro h; simp at h
  | cons j l ih =>
    intro h
    by_cases e : j = i
    · subst e
      rw [List.countP_cons_of_pos hp, List.countP_cons_of_neg (by rw [hq]; simp)]
      have := le l; omega
    · have hm : i ∈ l := by
        rcases List.mem_cons.1 h with h | h
        · exact absurd h.symm e
        · exact h
      have := ih hm
      simp only [List.countP_cons, hpq j e]
      omega

theorem unl_set {m : Nat} {listed : Array Bool} {i : Nat} (hi : i < listed.size) (hm : i < m) (hl : listed.getD i true = false) : unl m (listed.setIfInBounds i true) < unl m listed := by
  refine countP_less (i := i) (by simp [hl]) ?_ ?_ (List.mem_range.2 hm)
  · simp [Array.getD_eq_getD_getElem?, hi]
  · intro j hj
    have hij : ¬ i = j := fun e => hj e.symm
    simp [Array.getD_eq_getD_getElem?, Array.getElem?_setIfInBounds, hij]

theorem getD_tf {listed : Array Bool} {i : Nat} (h : i < listed.size) : listed.getD i true = listed.getD i false := by
  rw [Array.getD_eq_getD_getElem?, Array.getD_eq_getD_getElem?]
  have : listed[i]? = some listed[i] := by simp [h]
  rw [this]; rfl

theorem path_lt (hc : chk ops = true) {k m : Nat} (hb : ((masks ops []).getD k 0).testBit m = true) : m < k := by
  have back : ∀ (os : List Oper) (acc : List Nat), (∀ (k b' : Nat), acc[k]? = some b' → ∀ m, b'.testBit m = true → m < k) → (∀ (m : Nat) (p : Oper), os[m]? = some p → ∀ e ∈ p.after.toList, bindsB e = true → e.on < acc.length + m) →
      ∀ k m, ((masks os acc).getD k 0).testBit m = true → m < k := by
    intro os
    induction os with
    | nil =>
      intro acc h _ k m hb
      simp only [masks] at hb
      cases hk : acc[k]? with
      | none => rw [List.getD_eq_getElem?_getD, hk] at hb; simp at hb
      | some b' => rw [List.getD_eq_getElem?_getD, hk] at hb; exact h k b' hk m hb
    | cons p os ih =>
      intro acc h hed k m hb
      simp only [masks] at hb
      refine ih (acc ++ [depMask acc p.after.toList]) ?_ ?_ k m hb
      · intro k b' hk m hm
        by_cases hlt : k < acc.length
        · rw [List.getElem?_append_left hlt] at hk; exact h k b' hk m hm
        · rw [List.getElem?_append_right (by omega)] at hk
          have : k - acc.length = 0 := by
            rcases Nat.eq_zero_or_pos (k - acc.length) with h0 | h0
            · exact h0
            · rw [List.getElem?_eq_none (by simp; omega)] at hk; cases hk
          rw [this] at hk
          simp only [List.getElem?_cons_zero, Option.some.injEq] at hk
          subst hk
          obtain ⟨e, he1, he2, he3⟩ := depMask_bit hm
          have hlt' := hed 0 p (by simp) e he1 he2
          rcases he3 with rfl | he3
          · omega
          · cases hq : acc[e.on]? with
            | none => rw [List.getD_eq_getElem?_getD, hq] at he3; simp at he3
            | some b2 =>
              rw [List.getD_eq_getElem?_getD, hq] at he3
              have := h _ b2 hq m he3; omega
      · intro m p' hp' e he1 he2
        have := hed (m + 1) p' (by simpa using hp') e he1 he2
        simp; omega
  exact back ops [] (by simp) (fun m p hp e hm hb => by
    have := (chkOps_spec (chk_ops hc) m p hp).2.1 e hm hb
    simpa using this) k m hb

/-- THE VALUES THAT AN OPERATION READS, WHEN IT COMES UP. -/
theorem reads_ok {listed : Array Bool} {a : Act} {S : List RS} {done : List Nat} (hc : chk ops = true) (hI : Inv n ops E S done listed a) {i : Nat} {o : Oper} {Ei : Env}
    (ho : ops[i]? = some o) (hl : listed.getD i false = false) (he : ∀ e ∈ o.after.toList, bindsB e = true → listed.getD e.on false = true) (hfrom : ∀ t u, lk Ei t = some u → From E ops S i t u) :
    (∀ x ∈ o.op.operands.toList, a.eval x = mix Ei a x) ∧
    (∀ j want oj t u, o.guard = some (j, want) → ops[j]? = some oj → oj.dst = some t → lk Ei t = some u → a.tmps[t]? = some u) := by
  have hnd := chk_nodup hc
  have hc0 := hc
  replace hc := chk_ops hc
  · obtain ⟨h1, h2, h3⟩ := chkOps_spec hc i o ho
    simp only [Nat.zero_add] at h1 h2 h3
    -- all that the mask names has been run
    have hpath : ∀ j, ((masks ops []).getD i 0).testBit j = true → listed.getD j false = true := by
      intro j hj
      have hD : Shut ops fun k => listed.getD k false = true ∨ k = i := by
        intro k p hp hk e hm hb
        rcases hk with hk | rfl
        · exact .inl (hI.shut k p hp hk e hm hb)
        · have : p = o := by rw [ho] at hp; exact (Option.some.inj hp).symm
          subst this
          exact .inl (he e hm hb)
      rcases path_shut hD hj (.inr rfl) with h | h
      · exact h
      · subst h
        have := path_lt hc0 hj
        omega
    have slot : ∀ t u, lk Ei t = some u → (∀ (k : Nat) (p : Oper), ops[k]? = some p → p.dst = some t → k ≠ i → (k < i ∧ ((masks ops []).getD i 0).testBit k = true) ∨ (i < k ∧ ((masks ops []).getD k 0).testBit i = true)) → a.tmps[t]? = some u := by
      intro t u hl' hord
      rcases hfrom t u hl' with ⟨k, p, hk, hp, hd, hS⟩ | ⟨hno, hE⟩
      · rcases hord k p hp hd (by omega) with ⟨_, hb⟩ | ⟨hlt, _⟩
        · exact hI.vals k p u t (hpath k hb) hp hd hS
        · omega
      · refine hI.rest t u hE fun k p hk hp hd => ?_
        by_cases e : k = i
        · subst e; rw [hl] at hk; cases hk
        · rcases hord k p hp hd e with ⟨hlt, _⟩ | ⟨_, hb⟩
          · exact hno k p hlt hp hd
          · have := path_shut hI.shut hb hk
            rw [hl] at this; cases this
    refine ⟨fun x hx => ?_, fun j want oj t u hg hj hd hl' => ?_⟩
    · cases x with
      | tmp t =>
        unfold mix
        cases hv : ev Ei (.tmp t) with
        | none => rfl
        | some u =>
          have hs := slot t u hv fun k p hp hd hne => by
            have := orderedB_spec (h1 t (tmpsOf_mem hx)) k p hp hd (by simpa using hne)
            simpa using this
          simp only [Act.eval, Array.getD_eq_getD_getElem?, hs, Option.getD_some]
      | const v => rfl
      | «global» g => rfl
      | func f => rfl
    · obtain ⟨hlt, hb⟩ := h3 j want hg
      refine slot t u hl' fun k p hp hdp hne => ?_
      have : k = j := nodupB_spec hnd k j p oj t hp hj hdp hd
      subst this
      exact .inl ⟨hlt, hb⟩

end
end Go.Hop
/- What is proved here: the rule for a region whose order is drawn, whole. -/
namespace Go.Hop
section
variable {P : Program} {tab : Tab} {n : Nat} {ops : List Oper} {effs : List Nat} {σ : Sg} {E : Env} {keep : List Nat} {fin : Env → List Assn → Prop} {Q : Exit → Act → World → Prop}

/-- The same statuses, more known. -/
def Le (S S' : List RS) : Prop := ∀ (i : Nat) (v : Value), S[i]? = some (.val v) → S'[i]? = some (.val v)

theorem upd_keep {E E' : Env} {d : Option Nat} {s : RS} (h : updE n E d s = some E') {t : Nat} {u : Value} (hd : d ≠ some t) (hl : lk E t = some u) : lk E' t = some u := by
  have hrm : ∀ {d : Option Nat}, d ≠ some t → rmO E d = some E' → lk E' t = some u := by
    intro d hd h
    cases d with
    | none => simp only [rmO] at h; cases h; exact hl
    | some d => exact rmE_keep (show rmE E d = some E' from h) t u (fun e => hd (by rw [e])) hl
  cases s with
  | val v =>
    cases d with
    | none => simp only [updE, putE] at h; cases h; exact hl
    | some d =>
      simp only [updE, putE] at h
      cases hb : Nat.blt d n with
      | false => rw [hb] at h; cases h
      | true => rw [hb] at h; cases h; rw [lk_cons, if_neg (fun e => hd (by rw [e]))]; exact hl
  | eff E0 => exact hrm hd h
  | unk => exact hrm hd h

theorem tr_le {b : List Nat} {hints hints' : Env} {done done' : List Nat} {L L' : List Assn} (hh : ∀ i v, lk hints i = some v → lk hints' i = some v) :
    ∀ {os : List Oper} {i : Nat} {E E1 : Env} {S : List RS}, Tr P tab n ops b effs hints done σ L i E os S E1 → ∀ {E' E1' : Env} {S' : List RS}, Tr P tab n ops b effs hints' done' σ L' i E' os S' E1' → Ext E E' →
      (∀ (k : Nat) (v : Value), lk hints' (i + k) = some v → lk hints (i + k) = some v ∨ S[k]? = some .unk ∨ (∃ E0, S[k]? = some (.eff E0)) ∨ os.length ≤ k) → Le S S' ∧ ∀ (k : Nat) (v : Value) (E0 : Env), S[k]? = some (.eff E0) → lk hints' (i + k) = some v → S'[k]? = some (.val v) := by
  intro os i E E1 S h
  induction h with
  | nil => intro E' E1' S' _ _ _; exact ⟨fun k v hk => by simp at hk, fun k v E0 hk => by simp at hk⟩
  | @cons i E E2 E1 o os s S hs hu ht ih =>
    intro E' E1' S' h' hext hnew
    cases h' with
    | @cons _ _ E2' _ _ _ s' S' hs' hu' ht' =>
      have key : ∀ v, s = .val v → s' = .val v := by
        rintro v rfl
        have hn0 := hnew 0
        simp only [Nat.add_zero, List.getElem?_cons_zero, List.length_cons] at hn0
        rcases hs with ⟨hg, rfl⟩ | ⟨hg, hs⟩
        · have hg' := hext.guardV hg
          cases s' with
          | val v' =>
            rcases hs' with ⟨_, rfl⟩ | ⟨hg2, _⟩
            · rfl
            · rw [hg'] at hg2; cases hg2
          | eff E0 => obtain ⟨_, hg2, _⟩ := hs'; rw [hg'] at hg2; cases hg2
          | unk => rcases hs' with hg2 | ⟨hg2, _⟩ <;> rw [hg'] at hg2 <;> cases hg2
        · have hg' := hext.guardV hg
          have hval : ∀ v', (lk hints' i = some v' ∨ (lk hints' i = none ∧ qv tab E' o.op = some v')) → v' = v := by
            intro v' hv'
            rcases hs with ⟨hl, _⟩ | ⟨hl, _, hq⟩
            · rcases hv' with h1 | ⟨h1, _⟩
              · rw [hh i v hl] at h1; cases h1; rfl
              · rw [hh i v hl] at h1; cases h1
            · rcases hv' with h1 | ⟨_, h2⟩
              · rcases hn0 v' h1 with h3 | h3 | ⟨E0, h3⟩ | h3
                · rw [hl] at h3; cases h3
                · cases h3
                · cases h3
                · omega
              · rw [hext.qv hq] at h2; cases h2; rfl
          cases s' with
          | val v' =>
            rcases hs' with ⟨hg2, _⟩ | ⟨_, ⟨hl, _⟩ | ⟨hl, _, hq⟩⟩
            · rw [hg'] at hg2; cases hg2
            · rw [hval v' (.inl hl)]
            · rw [hval v' (.inr ⟨hl, hq⟩)]
          | eff E0 =>
            obtain ⟨_, _, hl, hm⟩ := hs'
            rcases hs with ⟨hl2, _⟩ | ⟨_, hm2, _⟩
            · rw [hh i v hl2] at hl; cases hl
            · rw [hm] at hm2; cases hm2
          | unk =>
            rcases hs' with hg2 | ⟨_, hl2, _, hq2⟩
            · rw [hg'] at hg2; cases hg2
            · rcases hs with ⟨hl, _⟩ | ⟨_, _, hq⟩
              · rw [hh i v hl] at hl2; cases hl2
              · rw [hext.qv hq] at hq2; cases hq2
      have keff : ∀ v E0, s = .eff E0 → lk hints' i = some v → s' = .val v := by
        rintro v E0 rfl hlk
        obtain ⟨_, hg, _, _⟩ := hs
        have hg' := hext.guardV hg
        cases s' with
        | val v' =>
          rcases hs' with ⟨hg2, _⟩ | ⟨_, ⟨hl, _⟩ | ⟨hl, _, _⟩⟩
          · rw [hg'] at hg2; cases hg2
          · rw [hlk] at hl; cases hl; rfl
          · rw [hlk] at hl; cases hl
        | eff E1 => obtain ⟨_, _, hl, _⟩ := hs'; rw [hlk] at hl; cases hl
        | unk =>
          rcases hs' with hg2 | ⟨_, hl, _⟩
          · rw [hg'] at hg2; cases hg2
          · rw [hlk] at hl; cases hl
      have hext2 : Ext E2 E2' := by
        intro t u hl
        rcases updE_lk hu hl with ⟨hd, rfl⟩ | ⟨hd, hl2⟩
        · have := key u rfl
          subst this
          cases hdd : o.dst with
          | none => rw [hdd] at hd; cases hd
          | some d =>
            rw [hdd] at hd hu'
            have e : d = t := Option.some.inj hd
            rw [e] at hu'
            simp only [updE, putE] at hu'
            cases hb : Nat.blt t n with
            | false => rw [hb] at hu'; cases hu'
            | true => rw [hb] at hu'; cases hu'; simp [lk_cons]
        · exact upd_keep hu' hd (hext t u hl2)
      obtain ⟨i1, i2⟩ := ih ht' hext2 (fun k v h => by
        have := hnew (k + 1) v (by rw [show i + (k + 1) = i + 1 + k by omega]; exact h)
        rw [show i + 1 + k = i + (k + 1) by omega]
        simpa using this)
      refine ⟨fun k v hk => ?_, fun k v E0 hk hlk => ?_⟩
      · cases k with
        | zero =>
          have : s = .val v := by simpa using hk
          simp [key v this]
        | succ k => simpa using i1 k v (by simpa using hk)
      · cases k with
        | zero =>
          have : s = .eff E0 := by simpa using hk
          simp [keff v E0 this (by simpa using hlk)]
        | succ k => simpa using i2 k v E0 (by simpa using hk) (by rw [show i + 1 + k = i + (k + 1) by omega]; exact hlk)

theorem eval_lk {b : List Nat} {hints : Env} {done : List Nat} {L : List Assn} {S : List RS} {E2 : Env} {p : Prop} (h : evalS P tab n ops b effs hints done σ L ops 0 E = some (S, E2, p)) (hp : p) :
    Tr P tab n ops b effs hints done σ L 0 E ops S E2 := evalS_tr h hp

/-- A quiet step. -/
theorem inv_step {S : List RS} {done : List Nat} {listed : Array Bool} {a : Act} (hc : chk ops = true) (hI : Inv n ops E S done listed a) {i : Nat} {o : Oper} {v : Value} (ho : ops[i]? = some o) (hl : listed.getD i true = false)
    (he : ∀ e ∈ o.after.toList, bindsB e = true → listed.getD e.on false = true) (hS : S[i]? = some (.val v)) (hd : dstOK n o.dst = true) :
    Inv n ops E S done (listed.setIfInBounds i true) (a.put o.dst v) := by
  have hnd := chk_nodup hc
  have hlt : i < ops.length := (List.getElem?_eq_some_iff.1 ho).1
  have hi : i < listed.size := by rw [hI.lsize]; exact hlt
  have hlf : listed.getD i false = false := by
    rw [Array.getD_eq_getD_getElem?] at hl ⊢
    have : listed[i]? = some listed[i] := by simp [hi]
    rw [this] at hl ⊢; exact hl
  have hget : ∀ k, (listed.setIfInBounds i true).getD k false = true ↔ k = i ∨ listed.getD k false = true := by
    intro k
    rw [listed_set hi]
    by_cases e : i = k
    · subst e; simp
    · rw [if_neg e]
      constructor
      · exact .inr
      · rintro (h | h)
        · exact absurd h.symm e
        · exact h
  have hput : ∀ (t : Nat) (u : Value), o.dst ≠ some t → a.tmps[t]? = some u → (a.put o.dst v).tmps[t]? = some u := by
    intro t u hne h
    cases hdd : o.dst with
    | none => exact h
    | some d =>
      simp only [Act.put, Array.getElem?_setIfInBounds]
      rw [if_neg (fun e => hne (by rw [hdd, e]))]
      exact h
  refine ⟨?_, ?_, ?_, ?_, ?_, ?_, ?_, ?_⟩
  · cases hdd : o.dst <;> exact hI.defers
  · cases hdd : o.dst <;> simp [Act.put, hI.size]
  · simp [hI.lsize]
  · intro k p hp hk e hm hb
    rw [hget] at hk ⊢
    rcases hk with rfl | hk
    · have : p = o := by rw [ho] at hp; exact (Option.some.inj hp).symm
      subst this
      exact .inr (he e hm hb)
    · exact .inr (hI.shut k p hp hk e hm hb)
  · intro k hk
    rcases (hget k).1 hk with rfl | hk
    · exact ⟨v, hS⟩
    · exact hI.isval k hk
  · intro k p u t hk hp hdp hSk
    rcases (hget k).1 hk with rfl | hk'
    · have : p = o := by rw [ho] at hp; exact (Option.some.inj hp).symm
      subst this
      rw [hS] at hSk
      cases hSk
      rw [hdp] at hd ⊢
      have : t < n := Nat.le_of_ble_eq_true hd
      simp only [Act.put, Array.getElem?_setIfInBounds]
      rw [if_pos trivial, if_pos (by rw [hI.size]; exact this)]
    · refine hput t u (fun hdo => ?_) (hI.vals k p u t hk' hp hdp hSk)
      have : k = i := nodupB_spec hnd k i p o t hp ho hdp hdo
      subst this
      rw [hlf] at hk'; cases hk'
  · intro t u hlk hno
    refine hput t u (hno i o ((hget i).2 (.inl rfl)) ho) (hI.rest t u hlk fun k p hk hp => hno k p ((hget k).2 (.inr hk)) hp)
  · intro c hcm
    exact (hget c).2 (.inr (hI.done c hcm))

theorem inv_mono {S S' : List RS} {done : List Nat} {listed : Array Bool} {a : Act} (hI : Inv n ops E S done listed a) (hle : Le S S') : Inv n ops E S' done listed a := by
  refine ⟨hI.defers, hI.size, hI.lsize, hI.shut, fun k hk => ?_, fun k o v t hk ho hd hS => ?_, hI.rest, hI.done⟩
  · obtain ⟨v, hv⟩ := hI.isval k hk
    exact ⟨v, hle k v hv⟩
  · obtain ⟨u, hu⟩ := hI.isval k hk
    have := hle k u hu
    rw [hS] at this
    cases this
    exact hI.vals k o v t hk ho hd hu

theorem owes_true {b done : List Nat} {i : Nat} (h1 : i ∉ done) (h2 : ∀ c ∈ done, (b.getD c 0).testBit i = false) : owes b done i = true := by
  have go : ∀ l : List Nat, (∀ c ∈ l, (b.getD c 0).testBit i = false) → owes.go b i l = true := by
    intro l
    induction l with
    | nil => intro _; rfl
    | cons c l ih =>
      intro h
      simp only [owes.go, h c (by simp)]
      exact ih fun d hd => h d (by simp [hd])
  unfold owes
  cases hm : memB i done with
  | true => exact absurd (memB_iff.1 hm) h1
  | false => exact go done h2

theorem chain_open {b : List Nat} {k : Nat} {hints : Env} {done : List Nat} {L : List Assn} (h : Chain P tab n ops b effs σ E keep fin k hints done L) :
    ∃ S E2 p, evalS P tab n ops b effs hints done σ L ops 0 E = some (S, E2, p) ∧ p ∧
      ((allValS S = true ∧ ∃ E', keepE E2 keep = some E' ∧ fin E' L) ∨
       (allValS S = false ∧ progOK b S S 0 = true ∧ ∃ k', ∀ c Ec, (c, Ec) ∈ cands b S S 0 → ∃ o, ops[c]? = some o ∧ ∃ post, Eff P σ Ec o L post ∧
        ∀ v L', post v L' → ∃ X, extraOK S hints X = true ∧ Chain P tab n ops b effs σ E keep fin k' ((c, v) :: (X ++ hints)) (c :: done) L')) := by
  have hfin : (∃ E' p, stage P tab n ops b effs hints done σ L E keep = some (.fin E' p) ∧ p ∧ fin E' L) → ∃ S E2 p, evalS P tab n ops b effs hints done σ L ops 0 E = some (S, E2, p) ∧ p ∧
      (allValS S = true ∧ ∃ E', keepE E2 keep = some E' ∧ fin E' L) := by
    rintro ⟨E', p, hs, hp, hf⟩
    unfold stage at hs
    split at hs
    · rename_i S E2 p' he
      split at hs
      · rename_i hv
        split at hs
        · rename_i E3 hk
          cases hs
          exact ⟨S, E2, p, he, hp, hv, E', hk, hf⟩
        · cases hs
      · split at hs <;> cases hs
    · cases hs
  cases k with
  | zero =>
    obtain ⟨S, E2, p, h1, h2, h3⟩ := hfin h
    exact ⟨S, E2, p, h1, h2, .inl h3⟩
  | succ k =>
    rcases h with h | ⟨cs, S0, p, hs, hp, hc⟩
    · obtain ⟨S, E2, p, h1, h2, h3⟩ := hfin h
      exact ⟨S, E2, p, h1, h2, .inl h3⟩
    · unfold stage at hs
      split at hs
      · rename_i S E2 p' he
        split at hs
        · split at hs <;> cases hs
        · rename_i hv
          split at hs
          · rename_i hpr
            cases hs
            exact ⟨S0, E2, p, he, hp, .inr ⟨by simpa using hv, hpr, k, hc⟩⟩
          · cases hs
      · cases hs

theorem dstOK_of {E1 E2 : Env} {d : Option Nat} {v : Value} (h : updE n E1 d (.val v) = some E2) : dstOK n d = true := by
  cases d with
  | none => rfl
  | some d =>
    simp only [updE, putE] at h
    simp only [dstOK]
    cases hb : Nat.blt d n with
    | false => rw [hb] at h; cases h
    | true => rfl

theorem unl_zero {listed : Array Bool} {m i : Nat} (hi : i < m) (hl : listed.getD i true = false) : 0 < unl m listed := by
  unfold unl
  rw [List.countP_pos_iff]
  exact ⟨i, List.mem_range.2 hi, by simp [hl]⟩

/-- All has been run. -/
theorem any_end (ht : tab.OK P) {listed : Array Bool} {a : Act} {w : World} {k : Nat} {hints : Env} {done : List Nat} {L : List Assn}
    (hch : Chain P tab n ops (masks ops []) effs σ E keep fin k hints done L)
    (hinv : ∀ S E2 p, evalS P tab n ops (masks ops []) effs hints done σ L ops 0 E = some (S, E2, p) → p → Inv n ops E S done listed a)
    (hQ : ∀ E' L' a' w', fin E' L' → Knows n E' a' → Holds σ w' L' → Q .normal a' w')
    (hh : Holds σ w L) (hc : chk ops = true) (hr : Region.ready .any ops.toArray listed = []) : Q .normal a w := by
  obtain ⟨S, E2, p, he, hp, hcase⟩ := chain_open hch
  have hI := hinv S E2 p he hp
  have htr := eval_lk he hp
  have hall : ∀ i, i < ops.length → listed.getD i false = true := by
    intro i
    induction i using Nat.strongRecOn with
    | _ i ih =>
      intro hi
      cases hl : listed.getD i true with
      | true => rw [getD_tf (by rw [hI.lsize]; exact hi)] at hl; exact hl
      | false =>
        have ho : ops[i]? = some ops[i] := by simp [hi]
        have := ready_of ho hl fun e hm hb => by
          have hlt := (chkOps_spec (chk_ops hc) i _ ho).2.1 e hm hb
          simp only [Nat.zero_add] at hlt
          exact ih e.on hlt (by omega)
        rw [hr] at this
        cases this
  have hval : allValS S = true := allValS_spec.2 fun i s hs => by
    have hlt : i < ops.length := by
      have := (List.getElem?_eq_some_iff.1 hs).1
      rw [htr.last.1] at this; exact this
    obtain ⟨v, hv⟩ := hI.isval i (hall i hlt)
    rw [hs] at hv; cases hv; rfl
  rcases hcase with ⟨_, E', hk, hf⟩ | ⟨hf, _⟩
  · refine hQ E' L a w hf ⟨hI.defers, hI.size, fun t u hl => ?_⟩ hh
    rcases htr.last.2 t u (keepE_lk hk t u hl) with ⟨j, o, hj, ho, hd, hS⟩ | ⟨hno, hE⟩
    · exact hI.vals j o u t (hall j hj) ho hd hS
    · exact hI.rest t u hE fun j o hj ho => hno j o (by
        have := (List.getElem?_eq_some_iff.1 ho).1; exact this) ho
  · rw [hval] at hf; cases hf

/-- WHATEVER THE ORDER: by the number of operations that are left. -/
theorem chain_any (ht : tab.OK P) (hc : chk ops = true) (hQ : ∀ E' L' a' w', fin E' L' → Knows n E' a' → Holds σ w' L' → Q .normal a' w') :
    ∀ (fuel : Nat) (listed : Array Bool) (a : Act) (w : World) (k : Nat) (hints : Env) (done : List Nat) (L : List Assn),
    Chain P tab n ops (masks ops []) effs σ E keep fin k hints done L →
    (∀ S E2 p, evalS P tab n ops (masks ops []) effs hints done σ L ops 0 E = some (S, E2, p) → p → Inv n ops E S done listed a) →
    Holds σ w L → unl ops.length listed ≤ fuel → wpAny P .any ops.toArray Q fuel listed a w := by
  intro fuel
  induction fuel with
  | zero =>
    intro listed a w k hints done L hch hinv hh hu
    have hr : Region.ready .any ops.toArray listed = [] := by
      cases hrr : Region.ready .any ops.toArray listed with
      | nil => rfl
      | cons i r =>
        obtain ⟨o, ho, hl, _⟩ := mem_ready (show i ∈ Region.ready .any ops.toArray listed by rw [hrr]; simp)
        have hi : i < ops.length := by
          have := (Array.getElem?_eq_some_iff.1 ho).1; simpa using this
        have := unl_zero hi hl
        omega
    exact ⟨hr, any_end ht hch hinv hQ hh hc hr⟩
  | succ fuel ih =>
    intro listed a w k hints done L hch hinv hh hu
    refine ⟨fun hr => any_end ht hch hinv hQ hh hc hr, fun i hi => ?_⟩
    obtain ⟨o, ho', hl, he⟩ := mem_ready hi
    have ho : ops[i]? = some o := by simpa using ho'
    have hlen : i < ops.length := (List.getElem?_eq_some_iff.1 ho).1
    obtain ⟨S, E2, p, hev, hp, hcase⟩ := chain_open hch
    have hI := hinv S E2 p hev hp
    have htr := eval_lk hev hp
    have hlf : listed.getD i false = false := by rw [← getD_tf (by rw [hI.lsize]; exact hlen)]; exact hl
    have hul : unl ops.length (listed.setIfInBounds i true) ≤ fuel := by
      have := unl_set (m := ops.length) (listed := listed) (i := i) (by rw [hI.lsize]; exact hlen) hlen hl
      omega
    obtain ⟨s, Ei, Ek, hS, hspec, hupd, hfrom⟩ := htr.at i o ho
    simp only [Nat.zero_add] at hspec
    obtain ⟨hops, hguard⟩ := reads_ok hc hI ho hlf he hfrom
    have hcongr : execOp a.eval o = execOp (mix Ei a) o := execOp_congr (noSel_spec (chk_sel hc) i o ho) hops
    have hpath : ∀ j, ((masks ops []).getD i 0).testBit j = true → j ≠ i → listed.getD j false = true := by
      intro j hj hne
      have hD : Shut ops fun m => listed.getD m false = true ∨ m = i := by
        intro m q hq hm e hme hb
        rcases hm with hm | rfl
        · exact .inl (hI.shut m q hq hm e hme hb)
        · have : q = o := by rw [ho] at hq; exact (Option.some.inj hq).symm
          subst this
          exact .inl (he e hme hb)
      rcases path_shut hD hj (.inr rfl) with h | h
      · exact h
      · exact absurd h hne
    have hpv : predsVal ((masks ops []).getD i 0) S 0 = true := by
      refine predsVal_of fun j s' hs' hb => ?_
      simp only [Nat.zero_add] at hb
      have hlt := path_lt hc hb
      obtain ⟨v, hv⟩ := hI.isval j (hpath j hb (by omega))
      rw [hs'] at hv; cases hv; rfl
    have hdone : owes (masks ops []) done i = true := by
      refine owes_true (fun hm => ?_) (fun c hm => ?_)
      · have := hI.done i hm; rw [hlf] at this; cases this
      · cases hb : ((masks ops []).getD c 0).testBit i with
        | false => rfl
        | true => have := path_shut hI.shut hb (hI.done c hm); rw [hlf] at this; cases this
    show wpOp P ops.toArray Q i _ a w
    unfold wpOp
    rw [ho']
    simp only
    cases s with
    | val v =>
      have hI' : ∀ S' E2' p', evalS P tab n ops (masks ops []) effs hints done σ L ops 0 E = some (S', E2', p') → p' → Inv n ops E S' done (listed.setIfInBounds i true) (a.put o.dst v) := by
        intro S' E2' p' he' hp'
        rw [hev] at he'
        cases he'
        exact inv_step hc hI ho hl he hS (dstOK_of hupd)
      rcases hspec with ⟨hg, rfl⟩ | ⟨hg, hval⟩
      · have hw : Region.wanted o (yielded ops.toArray a.tmps) = false := guardV_wanted hg hguard
        rw [if_neg (by rw [hw]; simp)]
        exact ih _ _ _ k hints done L hch hI' hh hul
      · have hw : Region.wanted o (yielded ops.toArray a.tmps) = true := guardV_wanted hg hguard
        rw [if_pos hw]
        left
        have hrun : (execOp a.eval o).run P w = .ok (.value v) w := by
          rw [hcongr]
          rcases hval with ⟨_, hob⟩ | ⟨_, _, hq⟩
          · exact hob hdone w _ mix_agr hh
          · exact qv_run ht mix_agr hq
        unfold Oper.wp
        rw [hrun]
        exact ih _ _ _ k hints done L hch hI' hh hul
    | eff E0 =>
      obtain ⟨rfl, hg, hlk, hm⟩ := hspec
      have hw : Region.wanted o (yielded ops.toArray a.tmps) = true := guardV_wanted hg hguard
      rw [if_pos hw]
      left
      rcases hcase with ⟨hv, _⟩ | ⟨_, _, k', hc'⟩
      · have := allValS_spec.1 hv i _ hS; cases this
      · obtain ⟨o', ho2, post, heff, hnext⟩ := hc' i E0 (by simpa using cands_of (i := 0) i E0 hS (by simpa using hpv))
        have : o' = o := by rw [ho] at ho2; exact (Option.some.inj ho2).symm
        subst this
        unfold Oper.wp
        rw [hcongr]
        refine heff w _ a _ Q mix_agr hh fun v w' L' hpost hh' => ?_
        obtain ⟨X, hX, hchX⟩ := hnext v L' hpost
        refine ih _ _ _ k' _ _ L' hchX (fun S' E2' p' he' hp' => ?_) hh' hul
        have htr' := eval_lk he' hp'
        have hlkX : ∀ j u, lk ((i, v) :: (X ++ hints)) j = some u → j = i ∨ (lk X j = some u) ∨ (lk X j = none ∧ lk hints j = some u) := by
          intro j u h
          rw [lk_cons] at h
          by_cases e : i = j
          · exact .inl e.symm
          · rw [if_neg e, lk_append] at h
            split at h
            · rename_i hx; exact .inr (.inl (by rw [hx]; exact h))
            · rename_i hx; exact .inr (.inr ⟨hx, h⟩)
        obtain ⟨hle, heffv⟩ := tr_le (hints' := (i, v) :: (X ++ hints)) (fun j u hj => by
            rw [lk_cons]
            by_cases e : i = j
            · subst e; rw [hlk] at hj; cases hj
            · rw [if_neg e, lk_append]
              split
              · rename_i u' hx
                have := (extraOK_spec hX j u' hx).2
                rw [hj] at this; cases this
              · exact hj) htr htr' (fun _ _ h => h) (fun j u hj => by
            simp only [Nat.zero_add] at hj ⊢
            rcases hlkX j u hj with rfl | hx | ⟨_, hx⟩
            · exact .inr (.inr (.inl ⟨E0, hS⟩))
            · exact .inr (.inl (extraOK_spec hX j u hx).1)
            · exact .inl hx)
        have hSi : S'[i]? = some (.val v) := heffv i v E0 hS (by simp [lk_cons])
        obtain ⟨s', Ei', Ek', hS', _, hupd', _⟩ := htr'.at i o' ho
        have : s' = .val v := by rw [hSi] at hS'; exact (Option.some.inj hS').symm
        subst this
        have hI2 := inv_step hc (inv_mono hI hle) ho hl he hSi (dstOK_of hupd')
        exact ⟨hI2.defers, hI2.size, hI2.lsize, hI2.shut, hI2.isval, hI2.vals, hI2.rest, fun c hcm => by
          rcases List.mem_cons.1 hcm with rfl | hcm
          · rw [listed_set (by rw [hI.lsize]; exact hlen)]; simp
          · exact hI2.done c hcm⟩
    | unk =>
      exfalso
      rcases hcase with ⟨hv, _⟩ | ⟨_, hpr, _⟩
      · have := allValS_spec.1 hv i _ hS; cases this
      · have := progOK_spec hpr i hS
        simp only [Nat.zero_add] at this
        rw [hpv] at this; cases this

/-- THE RULE. -/
theorem reg_drawn (ht : tab.OK P) (hm : P.follows .mixedOrders = true) {id : Nat} {a : Act} {w : World} {L : List Assn} (hk : Knows n E a) (hh : Holds σ w L) (hc : chk ops = true) (k : Nat) (hints : Env)
    (hch : Chain P tab n ops (masks ops []) effs σ E keep fin k hints [] L)
    (hQ : ∀ E' L' a' w', fin E' L' → Knows n E' a' → Holds σ w' L' → Q .normal a' w') : (Code.region id ops.toArray true).wp P Q a w := by
  refine wp_region_any hm ?_
  refine chain_any ht hc hQ _ _ _ _ k hints [] L hch (fun S E2 p _ _ => ?_) hh.drew ?_
  · have h0 : ∀ k, ¬ ((Array.replicate ops.toArray.size false).getD k false = true) := by
      intro k
      rw [Array.getD_eq_getD_getElem?, Array.getElem?_replicate]
      split <;> simp
    exact ⟨hk.defers, hk.size, by simp, fun i o _ hi => absurd hi (h0 i), fun i hi => absurd hi (h0 i), fun i o v t hi => absurd hi (h0 i), fun t u hl _ => hk.val t u hl, fun c hcm => by cases hcm⟩
  · unfold unl
    refine Nat.le_trans List.countP_le_length (by simp)

/-- The rule, with what comes behind. -/
theorem reg_d (ht : tab.OK P) (hm : P.follows .mixedOrders = true) {id : Nat} {a : Act} {w : World} {L : List Assn} (hk : Knows n E a) (hh : Holds σ w L) (effs : List Nat) (keep : List Nat) (hc : chk ops = true) (k : Nat) (hints : Env)
    (hch : Chain P tab n ops (masks ops []) effs σ E keep (fun E' L' => ∀ a w, Knows n E' a → Holds σ w L' → Q .normal a w) k hints [] L) : (Code.region id ops.toArray true).wp P Q a w :=
  reg_drawn ht hm hk hh hc k hints hch fun _ _ a' w' hf hk' hh' => hf a' w' hk' hh'

variable {b : List Nat} {hints : Env} {done : List Nat} {L : List Assn}
theorem chain_fin {k : Nat} {E' : Env} {p : Prop} (hs : stage P tab n ops b effs hints done σ L E keep = some (.fin E' p)) (hp : p) (hf : fin E' L) : Chain P tab n ops b effs σ E keep fin k hints done L := by
  cases k with
  | zero => exact ⟨E', p, hs, hp, hf⟩
  | succ k => exact .inl ⟨E', p, hs, hp, hf⟩
theorem chain_one {k c : Nat} {Ec : Env} {S : List RS} {p : Prop} {o : Oper} {post : Value → List Assn → Prop} (hs : stage P tab n ops b effs hints done σ L E keep = some (.next [(c, Ec)] S p)) (hp : p) (ho : ops[c]? = some o)
    (he : Eff P σ Ec o L post) (hn : ∀ v L', post v L' → ∃ X, extraOK S hints X = true ∧ Chain P tab n ops b effs σ E keep fin k ((c, v) :: (X ++ hints)) (c :: done) L') : Chain P tab n ops b effs σ E keep fin (k + 1) hints done L := by
  refine .inr ⟨_, S, p, hs, hp, fun c' Ec' hm => ?_⟩
  simp only [List.mem_singleton, Prod.mk.injEq] at hm
  obtain ⟨rfl, rfl⟩ := hm
  exact ⟨o, ho, post, he, hn⟩
theorem chain_two {k c d : Nat} {Ec Ed : Env} {S : List RS} {p : Prop} {o o' : Oper} {post post' : Value → List Assn → Prop} (hs : stage P tab n ops b effs hints done σ L E keep = some (.next [(c, Ec), (d, Ed)] S p)) (hp : p)
    (ho : ops[c]? = some o) (he : Eff P σ Ec o L post) (hn : ∀ v L', post v L' → ∃ X, extraOK S hints X = true ∧ Chain P tab n ops b effs σ E keep fin k ((c, v) :: (X ++ hints)) (c :: done) L')
    (ho' : ops[d]? = some o') (he' : Eff P σ Ed o' L post') (hn' : ∀ v L', post' v L' → ∃ X, extraOK S hints X = true ∧ Chain P tab n ops b effs σ E keep fin k ((d, v) :: (X ++ hints)) (d :: done) L') : Chain P tab n ops b effs σ E keep fin (k + 1) hints done L := by
  refine .inr ⟨_, S, p, hs, hp, fun c' Ec' hm => ?_⟩
  simp only [List.mem_cons, Prod.mk.injEq, List.not_mem_nil, or_false] at hm
  rcases hm with ⟨rfl, rfl⟩ | ⟨rfl, rfl⟩
  · exact ⟨o, ho, post, he, hn⟩
  · exact ⟨o', ho', post', he', hn'⟩
end
end Go.Hop
/- What is proved here: loads, places of elements, slices, and other operations that only read, over what a world holds. -/
namespace Go.Hop

/-- A row of cells. -/
abbrev row (b : Nat) (T : TypeId) (cs : List Value) : Assn := pt b (.cells ⟨cs⟩ T (0, 0))
abbrev rowG (fl : Bool) (b : Nat) (T : TypeId) (cs : List Value) (lo hi : Nat) : Assn := ptf fl b (.cells ⟨cs⟩ T (lo, hi))
abbrev rowF (b : Nat) (T : TypeId) (cs : List Value) (lo hi : Nat) : Assn := pt b (.cells ⟨cs⟩ T (lo, hi))

section
variable {P : Program} {tab : Tab} {σ : Sg} {L M : List Assn} {E : Env}

/-- Reckoned, and brought into another form. -/
theorem ob_eq (ht : tab.OK P) {o : Oper} {v u : Value} (h : qv tab E o.op = some u) (e : u = v) : Ob P σ L E o v := by
  subst e
  exact fun w ρ ha _ => qv_run ht ha h

/-- A plain slot is read. -/
theorem ob_load (ht : tab.OK P) {d : Option Tmp} {fl : Bool} {T ty : TypeId} {x : Operand} {pos : String} {af : Array Edge} {g : Option (Nat × Bool)} {v : Value} {b o : Nat} {T' lo hi : Nat} {cs : List Value} {te : TyE}
    (i : Nat) (hx : ev E x = some (.pointer (some ⟨b, o, none⟩))) (hT : tab.get T = some te) (hagg : TypeDesc.isAggB te.desc = false) (hi' : pickAt L i = some (rowG fl b T' cs lo hi, M)) (hv : cs[o]? = some v) :
    Ob P σ L E ⟨d, .load T x, ty, pos, af, g⟩ v := by
  intro w ρ ha hh
  have hc := (hh.at_ i hi').cell (i := o) (v := v) (by simpa using hv)
  have t1 := ht.get hT
  simp only [execOp, ha x _ hx, Instr.loadAt, Instr.sureAddr, Sem.run_bind, Sem.run_pure, Result.andThen_ok, loadVar, t1.run_isAgg, hagg]
  simp [load, Sem.run, hc]

theorem loadCellsFrom_run {w : World} {fl : Bool} {b o : Nat} {cs : List Value} {T' lo hi : Nat} (hh : Holds σ w (rowG fl b T' cs lo hi :: M)) : ∀ (n i : Nat) (acc : Array Value), o + i + n ≤ cs.length →
    (loadCellsFrom ⟨b, o, none⟩ i n acc).run P w = .ok (acc ++ ((cs.drop (o + i)).take n).toArray) w
  | 0, i, acc, _ => by simp [loadCellsFrom]
  | n + 1, i, acc, h => by
    have hlt : o + i < cs.length := by omega
    have hc : w.cell? ⟨b, o + i, none⟩ = some cs[o + i] := hh.cell (i := o + i) (by simp [hlt])
    have ih := loadCellsFrom_run (o := o) hh n (i + 1) (acc.push cs[o + i]) (by omega)
    rw [loadCellsFrom]
    simp only [addr_add, load, Sem.run_bind, Sem.run, hc, Result.andThen_ok]
    rw [ih]
    congr 1
    rw [List.drop_eq_getElem_cons hlt, List.take_succ_cons, ← Nat.add_assoc]
    simp

theorem loadCells_run {w : World} {fl : Bool} {b o n : Nat} {cs : List Value} {T' lo hi : Nat} (hh : Holds σ w (rowG fl b T' cs lo hi :: M)) (h : o + n ≤ cs.length) :
    (loadCells ⟨b, o, none⟩ n).run P w = .ok ((cs.drop o).take n).toArray w := by
  have := loadCellsFrom_run (P := P) (o := o) hh n 0 #[] (by simpa using h)
  simpa [loadCells] using this

/-- The cells from place o on, so many. -/
def cut : List Value → Nat → Nat → Option (List Value)
  | _, 0, 0 => some []
  | c :: cs, 0, n + 1 => match cut cs 0 n with
    | some r => some (c :: r)
    | none => none
  | _ :: cs, o + 1, n => cut cs o n
  | [], _, _ => none
theorem cut_spec : ∀ {cs : List Value} {o n : Nat} {r : List Value}, cut cs o n = some r → o + n ≤ cs.length ∧ r = (cs.drop o).take n
  | cs, 0, 0, r, h => by
    have : r = [] := by cases cs <;> (simp only [cut] at h; cases h; rfl)
    subst this; simp
  | c :: cs, 0, n + 1, r, h => by
    simp only [cut] at h
    split at h
    · rename_i q hq
      cases h
      obtain ⟨h1, h2⟩ := cut_spec hq
      refine ⟨by simp; omega, ?_⟩
      simp only [List.drop_zero, List.take_succ_cons] at h2 ⊢
      rw [h2]
    · cases h
  | c :: cs, o + 1, n, r, h => by
    have h' : cut cs o n = some r := by cases n <;> exact h
    obtain ⟨h1, h2⟩ := cut_spec h'
    exact ⟨by simp; omega, by simpa using h2⟩
  | [], o + 1, n, r, h => by cases n <;> cases h
  | [], 0, n + 1, r, h => by cases h

/-- A struct, or an array, is read whole. -/
theorem ob_loadN (ht : tab.OK P) {d : Option Tmp} {fl : Bool} {T ty : TypeId} {x : Operand} {pos : String} {af : Array Edge} {g : Option (Nat × Bool)} {r : List Value} {b o : Nat} {T' lo hi : Nat} {cs : List Value} {te : TyE}
    (i : Nat) (hx : ev E x = some (.pointer (some ⟨b, o, none⟩))) (hT : tab.get T = some te) (hagg : TypeDesc.isAggB te.desc = true) (hi' : pickAt L i = some (rowG fl b T' cs lo hi, M)) (hv : cut cs o te.size = some r) :
    Ob P σ L E ⟨d, .load T x, ty, pos, af, g⟩ (.agg ⟨r⟩) := by
  intro w ρ ha hh
  obtain ⟨h1, rfl⟩ := cut_spec hv
  have t1 := ht.get hT
  have := loadCells_run (P := P) (hh.at_ i hi') h1
  simp only [execOp, ha x _ hx, Instr.loadAt, Instr.sureAddr, Sem.run_bind, Sem.run_pure, Result.andThen_ok, loadVar, t1.run_isAgg, hagg, if_true, t1.run_sizeOf, this]

/-- The place of an element of a slice. -/
theorem ob_indexAddr (ht : tab.OK P) {d : Option Tmp} {T ty : TypeId} {x y : Operand} {pos : String} {af : Array Edge} {g : Option (Nat × Bool)} {b o n c : Nat} {k : IntKind} {i : Int} {el : Nat} {te : TyE} {sz by_ : Nat} {z : List Value} (p : Nat)
    (hx : ev E x = some (.slice (some ⟨b, o, none⟩) n c)) (hy : ev E y = some (.int k i)) (hT : tab.get T = some ⟨.slice el, sz, z, by_⟩) (he : tab.get el = some te)
    (h0 : 0 ≤ i) (h1 : i < n) (hp : o + i.toNat * te.size = p) : Ob P σ L E ⟨d, .indexAddr T x y, ty, pos, af, g⟩ (.pointer (some ⟨b, p, none⟩)) := by
  intro w ρ ha hh
  subst hp
  have t1 := ht.get hT
  have t2 := ht.get he
  simp only [execOp, ha x _ hx, ha y _ hy, Instr.indexAt, asIntOf, Sem.run_bind, Sem.run_pure, Result.andThen_ok, t1.run_underlying]
  rw [if_pos ⟨h0, h1⟩]
  simp [t2.run_sizeOf, addr_add]

/-- The place of an element of an array in memory. -/
theorem ob_indexArr (ht : tab.OK P) {d : Option Tmp} {T ty : TypeId} {x y : Operand} {pos : String} {af : Array Edge} {g : Option (Nat × Bool)} {b o n : Nat} {k : IntKind} {i : Int} {el : Nat} {te : TyE} {sz by_ : Nat} {z : List Value} (p : Nat)
    (hx : ev E x = some (.pointer (some ⟨b, o, none⟩))) (hy : ev E y = some (.int k i)) (hT : tab.get T = some ⟨.array n el, sz, z, by_⟩) (he : tab.get el = some te)
    (h0 : 0 ≤ i) (h1 : i < n) (hp : o + i.toNat * te.size = p) : Ob P σ L E ⟨d, .indexAddr T x y, ty, pos, af, g⟩ (.pointer (some ⟨b, p, none⟩)) := by
  intro w ρ ha hh
  subst hp
  have t1 := ht.get hT
  have t2 := ht.get he
  simp only [execOp, ha x _ hx, ha y _ hy, Instr.indexAt, asIntOf, Sem.run_bind, Sem.run_pure, Result.andThen_ok, t1.run_underlying, Instr.sureAddr]
  rw [if_pos ⟨h0, h1⟩]
  simp [t2.run_sizeOf, addr_add]

/-- A byte of a string. -/
theorem ob_index (ht : tab.OK P) {d : Option Tmp} {T ty : TypeId} {x y : Operand} {pos : String} {af : Array Edge} {g : Option (Nat × Bool)} {s : List UInt8} {k : IntKind} {i : Int} {sz by_ : Nat} {z : List Value} {c : UInt8}
    (hx : ev E x = some (.string ⟨⟨s⟩⟩)) (hy : ev E y = some (.int k i)) (hT : tab.get T = some ⟨.string, sz, z, by_⟩) (h0 : 0 ≤ i) (hc : s[i.toNat]? = some c) :
    Ob P σ L E ⟨d, .index T x y, ty, pos, af, g⟩ (.int .u8 (c.toNat : Int)) := by
  intro w ρ ha hh
  have t1 := ht.get hT
  have hb : (ByteArray.mk ⟨s⟩)[i.toNat]? = some c := by
    have hlt := (List.getElem?_eq_some_iff.1 hc).1
    have hs : (ByteArray.mk ⟨s⟩).size = s.length := rfl
    rw [getElem?_pos (ByteArray.mk ⟨s⟩) i.toNat (by rw [hs]; exact hlt)]
    congr 1
    have := (List.getElem?_eq_some_iff.1 hc).2
    exact this
  simp only [execOp, ha x _ hx, ha y _ hy, Instr.index, asIntOf, Sem.run_bind, Sem.run_pure, Result.andThen_ok, t1.run_underlying, h0, if_true, hb]

/-- A bound of a slice expression. -/
def boundV (E : Env) (x : Option Operand) (d : Int) : Option Int :=
  match x with
  | none => some d
  | some y => match ev E y with
    | some (.int _ i) => some i
    | _ => none
theorem boundV_low {ρ : Operand → Value} (ha : Agr E ρ) {x : Option Operand} {d l : Int} (h : boundV E x d = some l) {w : World} {y : Nat} {code : BoundsCode} (h0 : 0 ≤ l) (h1 : l ≤ y) :
    (match x.map ρ with
      | some v => Instr.sliceBound v y code
      | none => pure d.toNat : Sem Nat).run P w = .ok l.toNat w := by
  unfold boundV at h
  split at h
  · cases h; rfl
  · split at h
    · rename_i y' k i hy
      cases h
      simp [ha _ _ hy, Instr.sliceBound, asIntOf, h0, h1]
    · cases h

theorem extract_list {s : List UInt8} {l h : Nat} : (ByteArray.mk ⟨s⟩).extract l h = ⟨⟨(s.take h).drop l⟩⟩ := by
  apply ByteArray.ext
  rw [ByteArray.data_extract]
  apply Array.ext'
  simp [List.drop_take]

/-- A part of a string. -/
theorem ob_slice_str (ht : tab.OK P) {d : Option Tmp} {T ty : TypeId} {x : Operand} {lo hi : Option Operand} {pos : String} {af : Array Edge} {g : Option (Nat × Bool)} {s r : List UInt8} {l h : Int} {sz by_ : Nat} {z : List Value}
    (hx : ev E x = some (.string ⟨⟨s⟩⟩)) (hT : tab.get T = some ⟨.string, sz, z, by_⟩) (hl : boundV E lo 0 = some l) (hh : boundV E hi s.length = some h) (h0 : 0 ≤ l) (h1 : l ≤ h) (h2 : h ≤ s.length) (hr : (s.take h.toNat).drop l.toNat = r) :
    Ob P σ L E ⟨d, .slice T x lo hi none, ty, pos, af, g⟩ (.string ⟨⟨r⟩⟩) := by
  intro w ρ ha _
  subst hr
  have t1 := ht.get hT
  have hs : (ByteArray.mk ⟨s⟩).size = s.length := rfl
  have b1 := boundV_low (P := P) ha hh (w := w) (y := s.length) (code := .sliceAlen) (by omega) (by omega)
  have b2 := boundV_low (P := P) ha hl (w := w) (y := h.toNat) (code := .sliceB) h0 (by omega)
  have hb : (Instr.sliceBounds false s.length s.length (lo.map ρ) (hi.map ρ) none).run P w = .ok (l.toNat, h.toNat, s.length) w := by
    simp only [Instr.sliceBounds, Sem.run_bind, Sem.run_pure, Result.andThen_ok]
    cases hi with
    | none =>
      simp only [boundV] at hh
      cases hh
      cases lo with
      | none => simp only [boundV] at hl; cases hl; simp
      | some y => simp only [Option.map_some, Option.map_none] at b2 ⊢; simp at b2; simp [b2]
    | some z =>
      cases lo with
      | none => simp only [boundV] at hl; cases hl; simp only [Option.map_some, Option.map_none] at b1 ⊢; simp [b1]
      | some y => simp only [Option.map_some] at b1 b2 ⊢; simp [b1, b2]
  simp only [execOp, ha x _ hx, Option.map_none, Instr.sliceAt, Sem.run_bind, t1.run_underlying, Result.andThen_ok, Instr.slice]
  simp [hs, hb, extract_list]

/-- A part of a slice. -/
theorem ob_slice (ht : tab.OK P) {d : Option Tmp} {T ty : TypeId} {x : Operand} {lo hi mx : Option Operand} {pos : String} {af : Array Edge} {g : Option (Nat × Bool)} {a : Option Addr} {n c : Nat} {l h m : Int} {el : Nat} {te : TyE} {sz by_ : Nat} {z : List Value} {v : Value}
    (hx : ev E x = some (.slice a n c)) (hT : tab.get T = some ⟨.slice el, sz, z, by_⟩) (he : tab.get el = some te) (hl : boundV E lo 0 = some l) (hh : boundV E hi n = some h) (hm : boundV E mx c = some m)
    (hmh : hi = none → mx = none) (h0 : 0 ≤ l) (h1 : l ≤ h) (h2 : h ≤ m) (h3 : m ≤ c)
    (hv : Value.slice (if m.toNat = l.toNat then a else a.map (·.add (l.toNat * te.size))) (h.toNat - l.toNat) (m.toNat - l.toNat) = v) :
    Ob P σ L E ⟨d, .slice T x lo hi mx, ty, pos, af, g⟩ v := by
  intro w ρ ha _
  subst hv
  have t1 := ht.get hT
  have t2 := ht.get he
  have b0 := fun code => boundV_low (P := P) ha hm (w := w) (y := c) (code := code) (by omega) (by omega)
  have b1 := fun code => boundV_low (P := P) ha hh (w := w) (y := m.toNat) (code := code) (by omega) (by omega)
  have b2 := fun code => boundV_low (P := P) ha hl (w := w) (y := h.toNat) (code := code) h0 (by omega)
  have hb : (Instr.sliceBounds true n c (lo.map ρ) (hi.map ρ) (mx.map ρ)).run P w = .ok (l.toNat, h.toNat, m.toNat) w := by
    simp only [Instr.sliceBounds, Sem.run_bind, Sem.run_pure, Result.andThen_ok]
    cases mx with
    | none =>
      simp only [boundV] at hm
      cases hm
      cases hi with
      | none =>
        simp only [boundV] at hh
        cases hh
        cases lo with
        | none => simp only [boundV] at hl; cases hl; simp
        | some y => simp only [Option.map_some, Option.map_none] at b2 ⊢; have := b2 .sliceB; simp at this; simp [this]
      | some z =>
        cases lo with
        | none => simp only [boundV] at hl; cases hl; simp only [Option.map_some, Option.map_none] at b1 ⊢; have := b1 .sliceAcap; simp at this; simp [this]
        | some y => simp only [Option.map_some, Option.map_none] at b1 b2 ⊢; have q1 := b1 .sliceAcap; have q2 := b2 .sliceB; simp at q1 q2; simp [q1, q2]
    | some q =>
      cases hi with
      | none => have := hmh rfl; cases this
      | some z =>
        cases lo with
        | none => simp only [boundV] at hl; cases hl; simp only [Option.map_some, Option.map_none] at b0 b1 ⊢; have q0 := b0 .slice3Acap; have q1 := b1 .slice3B; (try simp at q0 q1); simp [q0, q1]
        | some y => simp only [Option.map_some] at b0 b1 b2 ⊢; have q0 := b0 .slice3Acap; have q1 := b1 .slice3B; have q2 := b2 .slice3C; (try simp at q0 q1 q2); simp [q0, q1, q2]
  simp only [execOp, ha x _ hx, Instr.sliceAt, Sem.run_bind, t1.run_underlying, Result.andThen_ok, Instr.slice, hb, t2.run_sizeOf, Sem.run_pure]
end
end Go.Hop
/- What is proved here: stores, new blocks, appends, calls, and other effects, over what a world holds. -/
namespace Go.Hop

/-- The value of one cell. -/
def oneB : Value → Bool
  | .agg _ => false
  | .tuple _ => false
  | _ => true
def allOne : List Value → Bool
  | [] => true
  | v :: vs => match oneB v with
    | true => allOne vs
    | false => false

section
variable {P : Program} {tab : Tab} {σ : Sg} {L M : List Assn} {E : Env}

theorem store_run {w : World} {b o : Nat} {v old : Value} {cs : List Value} {T lo hi : Nat} (hh : Holds σ w (rowF b T cs lo hi :: M)) (hv : oneB v = true) (ho : cs[o]? = some old) (hf : o < lo ∨ hi ≤ o) :
    (store ⟨b, o, none⟩ v).run P w = .ok () (w.setCell ⟨b, o, none⟩ v) ∧ Holds σ (w.setCell ⟨b, o, none⟩ v) (rowF b T (cs.set o v) lo hi :: M) := by
  have hc : w.cell? ⟨b, o, none⟩ = some old := hh.cell (i := o) (by simpa using ho)
  have hz : w.frozen? ⟨b, o, none⟩ = false := hh.frozen hf
  refine ⟨?_, ?_⟩
  · have : v.oneCell' = true := by cases v <;> first | rfl | cases hv
    rw [run_store _ _ _ _ _ this]
    simp [hc, hz]
  · have := hh.setCell o v
    simpa using this

theorem storeCells_run : ∀ {vs : List Value} {w : World} {b o i : Nat} {cs r : List Value} {T lo hi : Nat}, Holds σ w (rowF b T cs lo hi :: M) → allOne vs = true → layAt cs (o + i) vs = some r →
    (o + i + vs.length ≤ lo ∨ hi ≤ o + i) → ∃ w', (storeCells ⟨b, o, none⟩ vs i).run P w = .ok () w' ∧ Holds σ w' (rowF b T r lo hi :: M)
  | [], w, b, o, i, cs, r, T, lo, hi, hh, _, hl, _ => by
    obtain ⟨_, h2, h3⟩ := layAt_len hl
    have : r = cs := by
      apply List.ext_getElem?
      intro j
      rw [h3 j, if_neg (by simp only [List.length_nil]; omega)]
    subst this
    exact ⟨w, rfl, hh⟩
  | v :: vs, w, b, o, i, cs, r, T, lo, hi, hh, ha, hl, hf => by
    have hv : oneB v = true := by
      simp only [allOne] at ha
      split at ha
      · assumption
      · cases ha
    have hvs : allOne vs = true := by
      simp only [allOne] at ha
      split at ha
      · exact ha
      · cases ha
    obtain ⟨h1, h2, h3⟩ := layAt_len hl
    simp only [List.length_cons] at h1 hf h3
    have hlt : o + i < cs.length := by omega
    obtain ⟨s1, s2⟩ := store_run (P := P) (o := o + i) hh hv (old := cs[o + i]) (by simp [hlt]) (by omega)
    have hl' : layAt (cs.set (o + i) v) (o + (i + 1)) vs = some r := by
      have key : ∀ (cs r : List Value) (j : Nat), layAt cs j (v :: vs) = some r → layAt (cs.set j v) (j + 1) vs = some r := by
        intro cs
        induction cs with
        | nil => intro r j h; cases j <;> cases h
        | cons c cs ih =>
          intro r j h
          cases j with
          | zero =>
            simp only [layAt] at h
            split at h
            · rename_i q hq
              cases h
              simp only [List.set_cons_zero, layAt, hq]
            · cases h
          | succ j =>
            simp only [layAt] at h
            split at h
            · rename_i q hq
              cases h
              have := ih q j hq
              simp only [List.set_cons_succ, layAt, this]
            · cases h
      exact key cs r (o + i) hl
    obtain ⟨w', r1, r2⟩ := storeCells_run s2 hvs hl' (by omega)
    refine ⟨w', ?_, r2⟩
    rw [storeCells]
    simp only [addr_add, Sem.run_bind, s1, Result.andThen_ok, r1]

/-- A store. -/
theorem eff_store (ht : tab.OK P) {d : Option Tmp} {T ty : TypeId} {x y : Operand} {pos : String} {af : Array Edge} {g : Option (Nat × Bool)} {v : Value} {b o : Nat} {T' lo hi : Nat} {cs r : List Value} {te : TyE}
    (i : Nat) (hx : ev E x = some (.pointer (some ⟨b, o, none⟩))) (hy : ev E y = some v) (hT : tab.get T = some te) (hi' : pickAt L i = some (rowF b T' cs lo hi, M)) (hsz : v.cells.toList.length = te.size)
    (hone : allOne v.cells.toList = true) (hl : layAt cs o v.cells.toList = some r) (hf : o + te.size ≤ lo ∨ hi ≤ o) :
    Eff P σ E ⟨d, .store T x y, ty, pos, af, g⟩ L fun u L' => u = undef ∧ L' = rowF b T' r lo hi :: M := by
  intro w ρ a K Q ha hh hk
  have t1 := ht.get hT
  obtain ⟨w', r1, r2⟩ := storeCells_run (P := P) (o := o) (i := 0) (hh.at_ i hi') hone (by simpa using hl) (by rw [hsz]; simpa using hf)
  have hrun : (Instr.storeAt T (ρ x) (ρ y)).run P w = .ok () w' := by
    simp only [ha x _ hx, ha y _ hy, Instr.storeAt, Instr.sureAddr, Sem.run_bind, Sem.run_pure, Result.andThen_ok, storeVar, t1.run_sizeOf]
    rw [if_neg (by simpa using hsz)]
    exact r1
  simp only [execOp, Sem.run_bind, hrun, Result.andThen_ok, Sem.run_pure]
  exact hk undef w' _ ⟨rfl, rfl⟩ r2

/-- A new variable, zero. -/
theorem eff_alloc (ht : tab.OK P) {d : Option Tmp} {T ty : TypeId} {pos : String} {af : Array Edge} {g : Option (Nat × Bool)} {te : TyE} (hT : tab.get T = some te) :
    Eff P σ E ⟨d, .alloc T, ty, pos, af, g⟩ L fun u L' => ∃ b, u = .pointer (some ⟨b, 0, none⟩) ∧ L' = row b T te.zero :: L := by
  intro w ρ a K Q ha hh hk
  have t1 := ht.get hT
  obtain ⟨z, hz, hzc⟩ := t1.run_zeroValue (w := w)
  have hrun : (Instr.alloc T true (.tuple #[])).run P w = .ok (.pointer (some ⟨w.heap.size, 0, none⟩)) (w.alloc (.cells z.cells T)) := by
    simp [Instr.alloc, hz, newVar, newRow, newObj, Sem.run]
  simp only [execOp, Sem.run_bind, hrun, Result.andThen_ok, Sem.run_pure]
  refine hk _ _ _ ⟨w.heap.size, rfl, rfl⟩ ?_
  have := hh.alloc (.cells z.cells T)
  have e : z.cells = ⟨te.zero⟩ := by rw [← hzc]
  rw [e] at this ⊢
  exact this

/-- A parameter is boxed. -/
theorem eff_box {d : Option Tmp} {T ty : TypeId} {x : Operand} {pos : String} {af : Array Edge} {g : Option (Nat × Bool)} {v : Value} {cs : List Value} (hx : ev E x = some v) (hc : v.cells.toList = cs) :
    Eff P σ E ⟨d, .box T x, ty, pos, af, g⟩ L fun u L' => ∃ b, u = .pointer (some ⟨b, 0, none⟩) ∧ L' = row b T cs :: L := by
  intro w ρ a K Q ha hh hk
  have hrun : (Instr.box T (ρ x)).run P w = .ok (.pointer (some ⟨w.heap.size, 0, none⟩)) (w.alloc (.cells v.cells T)) := by
    simp [ha x _ hx, Instr.box, newVar, newRow, newObj, Sem.run]
  simp only [execOp, Sem.run_bind, hrun, Result.andThen_ok, Sem.run_pure]
  refine hk _ _ _ ⟨w.heap.size, rfl, rfl⟩ ?_
  have := hh.alloc (.cells v.cells T)
  have e : v.cells = ⟨cs⟩ := by rw [← hc]
  rw [e] at this ⊢
  exact this

/-- The cells of a slice literal. -/
def litV (E : Env) (k : Nat) : List (Nat × Operand) → List Value → Option (List Value)
  | [], cs => some cs
  | (i, x) :: ps, cs => match ev E x with
    | some v => match Nat.beq k v.cells.toList.length with
      | true => match layAt cs (i * k) v.cells.toList with
        | some r => litV E k ps r
        | none => none
      | false => none
    | none => none
def reps (z : List Value) : Nat → List Value
  | 0 => []
  | n + 1 => z ++ reps z n

theorem litV_fill {ρ : Operand → Value} (ha : Agr E ρ) {k : Nat} : ∀ {ps : List (Nat × Operand)} {cs r : List Value}, litV E k ps cs = some r →
    Instr.fill (fun i => some (i * k, k)) ⟨cs⟩ (ps.map fun p => (p.1, ρ p.2)) = some ⟨r⟩
  | [], cs, r, h => by cases h; rfl
  | (i, x) :: ps, cs, r, h => by
    simp only [litV] at h
    split at h
    · rename_i v hx
      split at h
      · rename_i hb
        split at h
        · rename_i q hq
          have hs : v.cells.size = k := by have := Nat.eq_of_beq_eq_true hb; simpa using this.symm
          have hl := (layAt_len hq).1
          rw [List.map_cons, Instr.fill]
          simp only [ha x v hx]
          rw [if_neg (by simp [hs]; simp at hl; omega), fill_lay hq]
          exact litV_fill ha h
        · cases h
      · cases h
    · cases h

theorem reps_get {z : List Value} : ∀ {n j : Nat}, j < n * z.length → (reps z n)[j]? = z[j % z.length]?
  | 0, j, h => by simp at h
  | n + 1, j, h => by
    have hz : 0 < z.length := by
      rcases Nat.eq_zero_or_pos z.length with e | e
      · rw [e] at h; simp at h
      · exact e
    simp only [reps]
    by_cases hj : j < z.length
    · rw [List.getElem?_append_left hj, Nat.mod_eq_of_lt hj]
    · rw [List.getElem?_append_right (by omega), reps_get (n := n) (by rw [Nat.succ_mul] at h; omega), ← Nat.mod_eq_sub_mod (by omega)]
theorem reps_length {z : List Value} : ∀ {n : Nat}, (reps z n).length = n * z.length
  | 0 => by simp [reps]
  | n + 1 => by simp only [reps, List.length_append, reps_length, Nat.succ_mul]; omega

theorem zeros_eq {z : List Value} {n : Nat} : (Array.range (n * z.length)).map (fun i => (⟨z⟩ : Array Value)[i % (⟨z⟩ : Array Value).size]!) = ⟨reps z n⟩ := by
  apply Array.ext_getElem?
  intro j
  by_cases h : j < n * z.length
  · have hz : 0 < z.length := by
      rcases Nat.eq_zero_or_pos z.length with e | e
      · rw [e] at h; simp at h
      · exact e
    have hm : j % z.length < z.length := Nat.mod_lt _ hz
    have e := reps_get (z := z) h
    simp only [List.getElem?_toArray, e]
    simp [h, hm]
  · rw [Array.getElem?_eq_none (by simp; omega)]
    simp only [List.getElem?_toArray]
    rw [List.getElem?_eq_none (by rw [reps_length]; omega)]

/-- A slice literal. -/
theorem eff_lit (ht : tab.OK P) {d : Option Tmp} {T ty : TypeId} {n : Nat} {ps : Array (Nat × Operand)} {pos : String} {af : Array Edge} {g : Option (Nat × Bool)} {el : Nat} {te : TyE} {sz by_ : Nat} {z : List Value} {cs : List Value}
    (hT : tab.get T = some ⟨.slice el, sz, z, by_⟩) (he : tab.get el = some te) (hz : te.zero.length = te.size) (hn : n * te.size ≤ 2 ^ 24) (hcs : litV E te.size ps.toList (reps te.zero n) = some cs) :
    Eff P σ E ⟨d, .buildSlice T n ps, ty, pos, af, g⟩ L fun u L' => ∃ b, u = .slice (some ⟨b, 0, none⟩) n n ∧ L' = row b el cs :: L := by
  intro w ρ a K Q ha hh hk
  have t1 := ht.get hT
  have t2 := ht.get he
  obtain ⟨zv, hzv, hzc⟩ := t2.run_zeroValue (w := w)
  have e : zv.cells = ⟨te.zero⟩ := by rw [← hzc]
  have hps : (ps.map fun (i, x) => (i, ρ x)).toList = ps.toList.map fun p => (p.1, ρ p.2) := by rw [Array.toList_map]
  have hfill := litV_fill ha hcs
  have hrun : (Instr.buildSlice T n (ps.map fun (i, x) => (i, ρ x))).run P w = .ok (.slice (some ⟨w.heap.size, 0, none⟩) n n) (w.alloc (.cells ⟨cs⟩ el)) := by
    simp only [Instr.buildSlice, Sem.run_bind, t1.run_underlying, Result.andThen_ok, t2.run_sizeOf]
    rw [if_neg (by omega)]
    by_cases h0 : n * te.size = 0
    · have hr : reps te.zero n = [] := List.eq_nil_of_length_eq_zero (by rw [reps_length, hz]; exact h0)
      rw [hr] at hfill
      have h00 : ∀ f : Nat → Value, (Array.range (n * te.size)).map f = ⟨[]⟩ := by intro f; rw [h0]; simp
      rw [if_pos h0]
      simp only [Sem.run_pure, Result.andThen_ok, h00, hps, hfill]
      simp [newRow, newObj, Sem.run]
    · rw [if_neg h0]
      have hzz : (Array.range (n * te.size)).map (fun i => zv.cells[i % zv.cells.size]!) = ⟨reps te.zero n⟩ := by rw [e, ← hz]; exact zeros_eq
      simp only [Sem.run_bind, hzv, Result.andThen_ok, Sem.run_pure, hps, hzz, hfill]
      simp [newRow, newObj, Sem.run]
  simp only [execOp, Sem.run_bind, hrun, Result.andThen_ok, Sem.run_pure]
  exact hk _ _ _ ⟨w.heap.size, rfl, rfl⟩ (hh.alloc (.cells ⟨cs⟩ el))

/-- A call of a function that has a text: by its contract, over some of what is held; the rest stays. -/
theorem eff_call {d : Option Tmp} {c : Call} {ty : TypeId} {pos : String} {af : Array Edge} {g : Option (Nat × Bool)} {f : FuncId} {fn : Func} {vs : List Value} {post : Value → List Assn → Prop}
    (hf : P.funcs[f]? = some fn) (hb : fn.body.isNone = false) (hng : (fn.name == "runtime.NumGoroutine") = false) (hc : c.callee = .value (.func f)) (hvs : evs E c.args.toList = some vs)
    (hspec : ∀ w, Holds σ w L → Calls P f ⟨vs⟩ w fun e w' => ∃ v L', e = .returned v ∧ post v L' ∧ Holds σ w' L') :
    Eff P σ E ⟨d, .call c, ty, pos, af, g⟩ L post := by
  intro w ρ a K Q ha hh hk
  have hargs : c.args.map ρ = ⟨vs⟩ := by rw [← evs_map ha hvs, ← Array.toList_map]
  have hrun : (execOp ρ ⟨d, .call c, ty, pos, af, g⟩).run P w = .ok (.enter f ⟨vs⟩) w := by
    simp only [execOp, resolve, hc, hargs, Sem.run_bind, ha (.func f) _ rfl, Deferred.ofValue, Sem.run_pure, Result.andThen_ok, invoke, callFunc, run_program, hf]
    simp [hng, hb]
  rw [hrun]
  show Calls P f ⟨vs⟩ w _
  refine (hspec w hh).mono ?_
  rintro e w' ⟨v, L', rfl, hp, hh'⟩
  exact hk v w' L' hp hh'
end
end Go.Hop
