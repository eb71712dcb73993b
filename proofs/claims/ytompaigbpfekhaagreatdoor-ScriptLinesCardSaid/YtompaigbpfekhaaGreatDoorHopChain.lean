/- What is proved here: a region whose order is drawn: whatever the order, its operations come to the reckoned values, its effects one behind the other. -/
import Derived.Test.YtompaigbpfekhaaGreatDoorHopDraw
namespace Go.Hop

inductive RS where
  | val (v : Value)
  | eff (E : Env)
  | unk
def RS.isVal : RS → Bool
  | .val _ => true
  | _ => false

def rmE : Env → Nat → Option Env
  | [], _ => some []
  | (j, v) :: E, t => match rmE E t with
    | some E' => match Nat.beq j t with
      | true => some E'
      | false => some ((j, v) :: E')
    | none => none
def rmO (E : Env) : Option Nat → Option Env
  | none => some E
  | some t => rmE E t
theorem rmE_lk : ∀ {E E' : Env} {t : Nat}, rmE E t = some E' → ∀ k v, lk E' k = some v → k ≠ t ∧ lk E k = some v
  | [], E', t, h, k, v, hk => by cases h; cases hk
  | (j, u) :: E, E', t, h, k, v, hk => by
    simp only [rmE] at h
    cases hr : rmE E t with
    | none => rw [hr] at h; cases h
    | some E1 =>
      rw [hr] at h
      simp only at h
      cases hb : Nat.beq j t with
      | true =>
        rw [hb] at h; cases h
        obtain ⟨h1, h2⟩ := rmE_lk hr k v hk
        refine ⟨h1, ?_⟩
        rw [lk_cons, if_neg]
        · exact h2
        · rintro rfl; exact h1 (Nat.eq_of_beq_eq_true hb)
      | false =>
        rw [hb] at h; cases h
        rw [lk_cons] at hk
        have hjt : j ≠ t := fun e => by subst e; rw [Nat.beq_refl] at hb; cases hb
        by_cases e : j = k
        · subst e
          rw [if_pos rfl] at hk
          exact ⟨hjt, by rw [lk_cons, if_pos rfl]; exact hk⟩
        · rw [if_neg e] at hk
          obtain ⟨h1, h2⟩ := rmE_lk hr k v hk
          exact ⟨h1, by rw [lk_cons, if_neg e]; exact h2⟩

theorem rmE_keep : ∀ {E E' : Env} {t : Nat}, rmE E t = some E' → ∀ k v, k ≠ t → lk E k = some v → lk E' k = some v
  | [], E', t, h, k, v, _, hk => by cases hk
  | (j, u) :: E, E', t, h, k, v, hne, hk => by
    simp only [rmE] at h
    cases hr : rmE E t with
    | none => rw [hr] at h; cases h
    | some E1 =>
      rw [hr] at h
      simp only at h
      rw [lk_cons] at hk
      cases hb : Nat.beq j t with
      | true =>
        rw [hb] at h; cases h
        have : j = t := Nat.eq_of_beq_eq_true hb
        subst this
        rw [if_neg (fun e => hne e.symm)] at hk
        exact rmE_keep hr k v hne hk
      | false =>
        rw [hb] at h; cases h
        rw [lk_cons]
        by_cases e : j = k
        · rw [if_pos e] at hk ⊢; exact hk
        · rw [if_neg e] at hk ⊢; exact rmE_keep hr k v hne hk

/-- What operation i owes in this stage: nothing, where it has been run for sure. -/
def owes (b done : List Nat) (i : Nat) : Bool := match memB i done with
  | true => false
  | false => go done
where
  go : List Nat → Bool
    | [] => true
    | c :: cs => match (b.getD c 0).testBit i with
      | true => false
      | false => go cs

section
variable (P : Program) (tab : Tab) (n : Nat) (ops : List Oper) (b effs : List Nat) (hints : Env) (done : List Nat) (σ : Sg) (L : List Assn)

def evalS : List Oper → Nat → Env → Option (List RS × Env × Prop)
  | [], _, E => some ([], E, True)
  | o :: os, i, E => match guardV ops E o.guard with
    | none => match rmO E o.dst with
      | some E' => match evalS os (i + 1) E' with
        | some (S, E2, p) => some (.unk :: S, E2, p)
        | none => none
      | none => none
    | some false => match putE n E o.dst undef with
      | some E' => match evalS os (i + 1) E' with
        | some (S, E2, p) => some (.val undef :: S, E2, p)
        | none => none
      | none => none
    | some true => match lk hints i with
      | some v => match putE n E o.dst v with
        | some E' => match evalS os (i + 1) E' with
          | some (S, E2, p) => match owes b done i with
            | true => some (.val v :: S, E2, Ob P σ L E o v ∧ p)
            | false => some (.val v :: S, E2, p)
          | none => none
        | none => none
      | none => match memB i effs with
        | true => match rmO E o.dst with
          | some E' => match evalS os (i + 1) E' with
            | some (S, E2, p) => some (.eff E :: S, E2, p)
            | none => none
          | none => none
        | false => match qv tab E o.op with
          | some v => match putE n E o.dst v with
            | some E' => match evalS os (i + 1) E' with
              | some (S, E2, p) => some (.val v :: S, E2, p)
              | none => none
            | none => none
          | none => match rmO E o.dst with
            | some E' => match evalS os (i + 1) E' with
              | some (S, E2, p) => some (.unk :: S, E2, p)
              | none => none
            | none => none
end

/-- What is so of a status. -/
def Spec (P : Program) (tab : Tab) (ops : List Oper) (b effs : List Nat) (hints : Env) (done : List Nat) (σ : Sg) (L : List Assn) (i : Nat) (E : Env) (o : Oper) : RS → Prop
  | .val v => (guardV ops E o.guard = some false ∧ v = undef) ∨
      (guardV ops E o.guard = some true ∧ ((lk hints i = some v ∧ (owes b done i = true → Ob P σ L E o v)) ∨ (lk hints i = none ∧ memB i effs = false ∧ qv tab E o.op = some v)))
  | .eff E' => E' = E ∧ guardV ops E o.guard = some true ∧ lk hints i = none ∧ memB i effs = true
  | .unk => guardV ops E o.guard = none ∨ (guardV ops E o.guard = some true ∧ lk hints i = none ∧ memB i effs = false ∧ qv tab E o.op = none)
def updE (n : Nat) (E : Env) (d : Option Nat) : RS → Option Env
  | .val v => putE n E d v
  | _ => rmO E d

inductive Tr (P : Program) (tab : Tab) (n : Nat) (ops : List Oper) (b effs : List Nat) (hints : Env) (done : List Nat) (σ : Sg) (L : List Assn) : Nat → Env → List Oper → List RS → Env → Prop where
  | nil {i : Nat} {E : Env} : Tr P tab n ops b effs hints done σ L i E [] [] E
  | cons {i : Nat} {E E' E2 : Env} {o : Oper} {os : List Oper} {s : RS} {S : List RS} (h : Spec P tab ops b effs hints done σ L i E o s) (hu : updE n E o.dst s = some E')
      (ht : Tr P tab n ops b effs hints done σ L (i + 1) E' os S E2) : Tr P tab n ops b effs hints done σ L i E (o :: os) (s :: S) E2

section
variable {P : Program} {tab : Tab} {n : Nat} {ops : List Oper} {b effs : List Nat} {hints : Env} {done : List Nat} {σ : Sg} {L : List Assn}

theorem evalS_tr : ∀ {os : List Oper} {i : Nat} {E : Env} {S : List RS} {E2 : Env} {p : Prop}, evalS P tab n ops b effs hints done σ L os i E = some (S, E2, p) → p →
    Tr P tab n ops b effs hints done σ L i E os S E2
  | [], i, E, S, E2, p, h, hp => by cases h; exact .nil
  | o :: os, i, E, S, E2, p, h, hp => by
    simp only [evalS] at h
    split at h
    · rename_i hg
      split at h
      · rename_i E' hrm
        split at h
        · rename_i S' E3 p' hrec
          cases h
          exact .cons (s := .unk) (.inl hg) hrm (evalS_tr hrec hp)
        · cases h
      · cases h
    · rename_i hg
      split at h
      · rename_i E' hpe
        split at h
        · rename_i S' E3 p' hrec
          cases h
          exact .cons (s := .val undef) (.inl ⟨hg, rfl⟩) hpe (evalS_tr hrec hp)
        · cases h
      · cases h
    · rename_i hg
      split at h
      · rename_i v hl
        split at h
        · rename_i E' hpe
          split at h
          · rename_i S' E3 p' hrec
            split at h
            · rename_i ho
              cases h
              exact .cons (s := .val v) (.inr ⟨hg, .inl ⟨hl, fun _ => hp.1⟩⟩) hpe (evalS_tr hrec hp.2)
            · rename_i ho
              cases h
              exact .cons (s := .val v) (.inr ⟨hg, .inl ⟨hl, fun hc => by rw [ho] at hc; cases hc⟩⟩) hpe (evalS_tr hrec hp)
          · cases h
        · cases h
      · rename_i hl
        split at h
        · rename_i hm
          split at h
          · rename_i E' hrm
            split at h
            · rename_i S' E3 p' hrec
              cases h
              exact .cons (s := .eff E) ⟨rfl, hg, hl, hm⟩ hrm (evalS_tr hrec hp)
            · cases h
          · cases h
        · rename_i hm
          split at h
          · rename_i v hq
            split at h
            · rename_i E' hpe
              split at h
              · rename_i S' E3 p' hrec
                cases h
                exact .cons (s := .val v) (.inr ⟨hg, .inr ⟨hl, hm, hq⟩⟩) hpe (evalS_tr hrec hp)
              · cases h
            · cases h
          · rename_i hq
            split at h
            · rename_i E' hrm
              split at h
              · rename_i S' E3 p' hrec
                cases h
                exact .cons (s := .unk) (.inr ⟨hg, hl, hm, hq⟩) hrm (evalS_tr hrec hp)
              · cases h
            · cases h

/-- Where a known slot's value comes from, by the text ahead of operation j. -/
def From (E : Env) (os : List Oper) (S : List RS) (j t : Nat) (u : Value) : Prop :=
  (∃ k o, k < j ∧ os[k]? = some o ∧ o.dst = some t ∧ S[k]? = some (.val u)) ∨ ((∀ k o, k < j → os[k]? = some o → o.dst ≠ some t) ∧ lk E t = some u)

theorem updE_lk {E E' : Env} {d : Option Nat} {s : RS} (h : updE n E d s = some E') {t : Nat} {u : Value} (hl : lk E' t = some u) : (d = some t ∧ s = .val u) ∨ (d ≠ some t ∧ lk E t = some u) := by
  cases s with
  | val v =>
    cases d with
    | none => simp only [updE, putE] at h; cases h; exact .inr ⟨by simp, hl⟩
    | some d =>
      simp only [updE, putE] at h
      cases hb : Nat.blt d n with
      | false => rw [hb] at h; cases h
      | true =>
        rw [hb] at h; cases h
        rw [lk_cons] at hl
        by_cases e : d = t
        · subst e; rw [if_pos rfl] at hl; cases hl; exact .inl ⟨rfl, rfl⟩
        · rw [if_neg e] at hl; exact .inr ⟨by simpa using e, hl⟩
  | eff E0 =>
    cases d with
    | none => simp only [updE, rmO] at h; cases h; exact .inr ⟨by simp, hl⟩
    | some d =>
      obtain ⟨h1, h2⟩ := rmE_lk (show rmE E d = some E' from h) t u hl
      exact .inr ⟨by simpa using fun e => h1 e.symm, h2⟩
  | unk =>
    cases d with
    | none => simp only [updE, rmO] at h; cases h; exact .inr ⟨by simp, hl⟩
    | some d =>
      obtain ⟨h1, h2⟩ := rmE_lk (show rmE E d = some E' from h) t u hl
      exact .inr ⟨by simpa using fun e => h1 e.symm, h2⟩

theorem Tr.at {i : Nat} {E E2 : Env} {os : List Oper} {S : List RS} (h : Tr P tab n ops b effs hints done σ L i E os S E2) : ∀ j o, os[j]? = some o →
    ∃ s Ej Ek, S[j]? = some s ∧ Spec P tab ops b effs hints done σ L (i + j) Ej o s ∧ updE n Ej o.dst s = some Ek ∧ (∀ t u, lk Ej t = some u → From E os S j t u) := by
  induction h with
  | nil => intro j o h; simp at h
  | @cons i E E' E2 o os s S hs hu ht ih =>
    intro j p hj
    cases j with
    | zero =>
      have : o = p := by simpa using hj
      subst this
      exact ⟨s, E, E', by simp, hs, hu, fun t u hl => .inr ⟨fun k o' hk => by omega, hl⟩⟩
    | succ j =>
      obtain ⟨s', Ej, Ek, h1, h2, h3, h4⟩ := ih j p (by simpa using hj)
      refine ⟨s', Ej, Ek, by simpa using h1, by rw [show i + (j + 1) = i + 1 + j by omega]; exact h2, h3, fun t u hl => ?_⟩
      rcases h4 t u hl with ⟨k, o', hk, ho, hd, hS⟩ | ⟨hno, hl'⟩
      · exact .inl ⟨k + 1, o', by omega, by simpa using ho, hd, by simpa using hS⟩
      · rcases updE_lk hu hl' with ⟨hd, rfl⟩ | ⟨hd, hl2⟩
        · exact .inl ⟨0, o, by omega, by simp, hd, by simp⟩
        · refine .inr ⟨fun k o' hk ho => ?_, hl2⟩
          cases k with
          | zero => have : o = o' := by simpa using ho
                    subst this; exact hd
          | succ k => exact hno k o' (by omega) (by simpa using ho)
theorem Tr.last {i : Nat} {E E2 : Env} {os : List Oper} {S : List RS} (h : Tr P tab n ops b effs hints done σ L i E os S E2) : S.length = os.length ∧ ∀ t u, lk E2 t = some u → From E os S os.length t u := by
  induction h with
  | nil => exact ⟨rfl, fun t u hl => .inr ⟨fun k o' hk => by simp at hk, hl⟩⟩
  | @cons i E E' E2 o os s S hs hu ht ih =>
    refine ⟨by simp [ih.1], fun t u hl => ?_⟩
    rcases ih.2 t u hl with ⟨k, o', hk, ho, hd, hS⟩ | ⟨hno, hl'⟩
    · exact .inl ⟨k + 1, o', by simp; omega, by simpa using ho, hd, by simpa using hS⟩
    · rcases updE_lk hu hl' with ⟨hd, rfl⟩ | ⟨hd, hl2⟩
      · exact .inl ⟨0, o, by simp, by simp, hd, by simp⟩
      · refine .inr ⟨fun k o' hk ho => ?_, hl2⟩
        cases k with
        | zero => have : o = o' := by simpa using ho
                  subst this; exact hd
        | succ k => exact hno k o' (by simp at hk; omega) (by simpa using ho)
end
/-! an operation looks at its operands alone -/
theorem map_congr' {α β : Type} {f g : α → β} {l : Array α} (h : ∀ x ∈ l.toList, f x = g x) : l.map f = l.map g := by
  apply Array.ext'
  rw [Array.toList_map, Array.toList_map]
  exact List.map_congr_left h
theorem omap_congr {f g : Operand → Value} {x : Option Operand} (h : ∀ y ∈ x.toArray, f y = g y) : x.map f = x.map g := by
  cases x with
  | none => rfl
  | some y => simp [h y (by simp)]
theorem execOp_congr {o : Oper} {ρ ρ' : Operand → Value} (hs : ∀ cs bl, o.op ≠ .select cs bl) (h : ∀ x ∈ o.op.operands.toList, ρ x = ρ' x) : execOp ρ o = execOp ρ' o := by
  have hcall : ∀ c : Call, (∀ x ∈ c.operands.toList, ρ x = ρ' x) → resolve ρ c o.type = resolve ρ' c o.type := by
    intro c hc
    have hargs : c.args.map ρ = c.args.map ρ' := map_congr' fun x hx => hc x (by simp [Call.operands]; right; simpa using hx)
    unfold resolve
    rw [hargs]
    cases hcal : c.callee with
    | builtin b => rfl
    | invoke r m => simp only [hc r (by simp [Call.operands, hcal])]
    | value f => simp only [hc f (by simp [Call.operands, hcal])]
  obtain ⟨d, op, ty, pos, af, g⟩ := o
  simp only at h hs
  cases op with
  | select cs bl => exact (hs cs bl rfl).elim
  | call c => simp only [execOp, hcall c (fun x hx => h x (by simpa [Op.operands] using hx))]
  | go c => simp only [execOp, hcall c (fun x hx => h x (by simpa [Op.operands] using hx))]
  | defer c => simp only [execOp, hcall c (fun x hx => h x (by simpa [Op.operands] using hx))]
  | build T ps =>
    have : (ps.map fun (p : Nat × Operand) => (p.1, ρ p.2)) = ps.map fun p => (p.1, ρ' p.2) := map_congr' fun x hx => by rw [h x.2 (by simp only [Op.operands, List.mem_map]; exact ⟨x, hx, rfl⟩)]
    simp only [execOp, this]
  | buildSlice T l ps =>
    have : (ps.map fun (p : Nat × Operand) => (p.1, ρ p.2)) = ps.map fun p => (p.1, ρ' p.2) := map_congr' fun x hx => by rw [h x.2 (by simp only [Op.operands, List.mem_map]; exact ⟨x, hx, rfl⟩)]
    simp only [execOp, this]
  | makeFunc fn f c =>
    have h1 : f.map ρ = f.map ρ' := map_congr' fun x hx => h x (by simp [Op.operands]; left; simpa using hx)
    have h2 : c.map ρ = c.map ρ' := map_congr' fun x hx => h x (by simp [Op.operands]; right; simpa using hx)
    simp only [execOp, h1, h2]
  | makeMap T r =>
    have : r.map ρ = r.map ρ' := omap_congr fun y hy => h y (by simpa [Op.operands] using hy)
    simp only [execOp, this]
  | slice T x lo hi mx =>
    have h0 : ρ x = ρ' x := h x (by simp [Op.operands])
    have h1 : lo.map ρ = lo.map ρ' := omap_congr fun y hy => h y (by simp [Op.operands]; right; left; simpa using hy)
    have h2 : hi.map ρ = hi.map ρ' := omap_congr fun y hy => h y (by simp [Op.operands]; right; right; left; simpa using hy)
    have h3 : mx.map ρ = mx.map ρ' := omap_congr fun y hy => h y (by simp [Op.operands]; right; right; right; simpa using hy)
    simp only [execOp, h0, h1, h2, h3]
  | _ => simp [Op.operands] at h; simp only [execOp, h]

end Go.Hop
