/- What is proved here: the rule for a region whose order is drawn. -/
import Derived.Test.YtompaigbpfekhaaGreatDoorHopChain
namespace Go.Hop

def allValS : List RS → Bool
  | [] => true
  | .val _ :: S => allValS S
  | _ :: _ => false
/-- All that the mask names are reckoned. -/
def predsVal (m : Nat) : List RS → Nat → Bool
  | [], _ => true
  | s :: S, j => match m.testBit j with
    | true => match s with
      | .val _ => predsVal m S (j + 1)
      | _ => false
    | false => predsVal m S (j + 1)
def cands (b : List Nat) (S : List RS) : List RS → Nat → List (Nat × Env)
  | [], _ => []
  | .eff E :: R, i => match predsVal (b.getD i 0) S 0 with
    | true => (i, E) :: cands b S R (i + 1)
    | false => cands b S R (i + 1)
  | _ :: R, i => cands b S R (i + 1)
/-- Whatever is not reckoned hangs on something that is not. -/
def progOK (b : List Nat) (S : List RS) : List RS → Nat → Bool
  | [], _ => true
  | .unk :: R, i => match predsVal (b.getD i 0) S 0 with
    | true => false
    | false => progOK b S R (i + 1)
  | _ :: R, i => progOK b S R (i + 1)

inductive Stg where
  | fin (E : Env) (p : Prop)
  | next (cs : List (Nat × Env)) (S : List RS) (p : Prop)

def stage (P : Program) (tab : Tab) (n : Nat) (ops : List Oper) (b effs : List Nat) (hints : Env) (done : List Nat) (σ : Sg) (L : List Assn) (E : Env) (keep : List Nat) : Option Stg :=
  match evalS P tab n ops b effs hints done σ L ops 0 E with
  | some (S, E2, p) => match allValS S with
    | true => match keepE E2 keep with
      | some E' => some (.fin E' p)
      | none => none
    | false => match progOK b S S 0 with
      | true => some (.next (cands b S S 0) S p)
      | false => none
  | none => none

/-- Values that are fixed besides: of operations that are not reckoned alone. -/
def extraOK (S : List RS) (hints : Env) : Env → Bool
  | [] => true
  | (i, _) :: X => match S[i]?, lk hints i with
    | some .unk, none => extraOK S hints X
    | _, _ => false

def Chain (P : Program) (tab : Tab) (n : Nat) (ops : List Oper) (b effs : List Nat) (σ : Sg) (E : Env) (keep : List Nat) (fin : Env → List Assn → Prop) : Nat → Env → List Nat → List Assn → Prop
  | 0, hints, done, L => ∃ E' p, stage P tab n ops b effs hints done σ L E keep = some (.fin E' p) ∧ p ∧ fin E' L
  | k + 1, hints, done, L => (∃ E' p, stage P tab n ops b effs hints done σ L E keep = some (.fin E' p) ∧ p ∧ fin E' L) ∨
    (∃ cs S p, stage P tab n ops b effs hints done σ L E keep = some (.next cs S p) ∧ p ∧
      ∀ c Ec, (c, Ec) ∈ cs → ∃ o, ops[c]? = some o ∧ ∃ post, Eff P σ Ec o L post ∧
        ∀ v L', post v L' → ∃ X, extraOK S hints X = true ∧ Chain P tab n ops b effs σ E keep fin k ((c, v) :: (X ++ hints)) (c :: done) L')

section
variable {P : Program} {tab : Tab} {n : Nat} {ops : List Oper} {effs : List Nat} {σ : Sg} {E : Env} {keep : List Nat} {fin : Env → List Assn → Prop} {Q : Exit → Act → World → Prop}

theorem predsVal_of {m : Nat} : ∀ {R : List RS} {j : Nat}, (∀ (k : Nat) (s : RS), R[k]? = some s → m.testBit (j + k) = true → s.isVal = true) → predsVal m R j = true
  | [], _, _ => rfl
  | s :: R, j, h => by
    have hr : predsVal m R (j + 1) = true := predsVal_of fun k s' hs hb => h (k + 1) s' (by simpa using hs) (by rw [show j + (k + 1) = j + 1 + k by omega]; exact hb)
    simp only [predsVal]
    cases hb : m.testBit j with
    | false => exact hr
    | true =>
      have := h 0 s (by simp) (by simpa using hb)
      cases s <;> first | exact hr | cases this
theorem cands_of {b : List Nat} {S : List RS} : ∀ {R : List RS} {i : Nat} (k : Nat) (Ek : Env), R[k]? = some (.eff Ek) → predsVal (b.getD (i + k) 0) S 0 = true → (i + k, Ek) ∈ cands b S R i
  | [], i, k, Ek, h, _ => by simp at h
  | s :: R, i, k, Ek, h, hp => by
    cases k with
    | zero =>
      have : s = .eff Ek := by simpa using h
      subst this
      simp only [Nat.add_zero] at hp
      simp only [cands, hp]
      simp
    | succ k =>
      have ih := cands_of (b := b) (S := S) (R := R) (i := i + 1) k Ek (by simpa using h) (by rw [show i + 1 + k = i + (k + 1) by omega]; exact hp)
      rw [show i + 1 + k = i + (k + 1) by omega] at ih
      cases s with
      | eff E0 => simp only [cands]; split
                  · exact List.mem_cons_of_mem _ ih
                  · exact ih
      | val v => exact ih
      | unk => exact ih
theorem progOK_spec {b : List Nat} {S : List RS} : ∀ {R : List RS} {i : Nat}, progOK b S R i = true → ∀ k, R[k]? = some .unk → predsVal (b.getD (i + k) 0) S 0 = false
  | [], i, _, k, h => by simp at h
  | s :: R, i, hp, k, h => by
    have hr : progOK b S R (i + 1) = true := by
      cases s with
      | unk => simp only [progOK] at hp; split at hp
               · cases hp
               · exact hp
      | val v => exact hp
      | eff E0 => exact hp
    cases k with
    | zero =>
      have : s = .unk := by simpa using h
      subst this
      simp only [progOK] at hp
      split at hp
      · cases hp
      · rename_i hq; simpa using hq
    | succ k =>
      have := progOK_spec hr k (by simpa using h)
      rw [show i + (k + 1) = i + 1 + k by omega]; exact this
theorem allValS_spec : ∀ {S : List RS}, allValS S = true ↔ ∀ (k : Nat) (s : RS), S[k]? = some s → s.isVal = true
  | [] => by simp [allValS]
  | s :: S => by
    constructor
    · intro h k t hk
      cases s with
      | val v =>
        cases k with
        | zero => have : RS.val v = t := by simpa using hk
                  subst this; rfl
        | succ k => exact (allValS_spec (S := S)).1 h k t (by simpa using hk)
      | eff E0 => cases h
      | unk => cases h
    · intro h
      have h0 := h 0 s (by simp)
      cases s with
      | val v => exact (allValS_spec (S := S)).2 fun k t hk => h (k + 1) t (by simpa using hk)
      | eff E0 => cases h0
      | unk => cases h0
theorem extraOK_spec {S : List RS} {hints : Env} : ∀ {X : Env}, extraOK S hints X = true → ∀ i v, lk X i = some v → S[i]? = some .unk ∧ lk hints i = none
  | [], _, i, v, h => by cases h
  | (j, u) :: X, hx, i, v, h => by
    simp only [extraOK] at hx
    split at hx
    · rename_i hS hn
      rw [lk_cons] at h
      by_cases e : j = i
      · subst e; exact ⟨hS, hn⟩
      · rw [if_neg e] at h; exact extraOK_spec hx i v h
    · cases hx
theorem lk_append {A B : Env} {k : Nat} : lk (A ++ B) k = (match lk A k with | some v => some v | none => lk B k) := by
  induction A with
  | nil => rfl
  | cons p A ih =>
    obtain ⟨j, v⟩ := p
    rw [List.cons_append, lk_cons, lk_cons]
    by_cases e : j = k
    · simp [e]
    · rw [if_neg e, if_neg e, ih]

/-- What is known in a drawn order, when the set 'listed' has been run. -/
structure Inv (n : Nat) (ops : List Oper) (E : Env) (S : List RS) (done : List Nat) (listed : Array Bool) (a : Act) : Prop where
  defers : a.defers = []
  size : a.tmps.size = n
  lsize : listed.size = ops.length
  shut : Shut ops fun i => listed.getD i false = true
  isval : ∀ k, listed.getD k false = true → ∃ v, S[k]? = some (.val v)
  vals : ∀ (k : Nat) (o : Oper) (v : Value) (t : Nat), listed.getD k false = true → ops[k]? = some o → o.dst = some t → S[k]? = some (.val v) → a.tmps[t]? = some v
  rest : ∀ t u, lk E t = some u → (∀ (k : Nat) (o : Oper), listed.getD k false = true → ops[k]? = some o → o.dst ≠ some t) → a.tmps[t]? = some u
  done : ∀ c ∈ done, listed.getD c false = true

def mix (E : Env) (a : Act) (x : Operand) : Value := match ev E x with
  | some u => u
  | none => a.eval x
theorem mix_agr {E : Env} {a : Act} : Agr E (mix E a) := fun x u h => by simp [mix, h]

theorem tmpsOf_mem {t : Nat} : ∀ {xs : List Operand}, .tmp t ∈ xs → t ∈ tmpsOf xs
  | x :: xs, h => by
    rcases List.mem_cons.1 h with rfl | h
    · simp [tmpsOf]
    · have := tmpsOf_mem h
      cases x <;> simp only [tmpsOf] <;> first | exact this | exact List.mem_cons_of_mem _ this

theorem listed_set {listed : Array Bool} {i k : Nat} (hi : i < listed.size) : (listed.setIfInBounds i true).getD k false = if i = k then true else listed.getD k false := by
  simp only [Array.getD_eq_getD_getElem?, Array.getElem?_setIfInBounds]
  by_cases e : i = k
  · subst e; simp [hi]
  · simp [e]

theorem mem_ready {ops : Array Oper} {listed : Array Bool} {i : Nat} (h : i ∈ Region.ready .any ops listed) :
    ∃ o, ops[i]? = some o ∧ listed.getD i true = false ∧ ∀ e ∈ o.after.toList, bindsB e = true → listed.getD e.on false = true := by
  simp only [Region.ready, List.mem_filter, List.mem_range, Bool.and_eq_true] at h
  obtain ⟨h1, h2, h3⟩ := h
  have : ops[i]? = some ops[i] := by simp [h1]
  refine ⟨ops[i], this, by simpa using h2, fun e he hb => ?_⟩
  rw [this] at h3
  simp only [Option.map_some, Option.getD_some, Array.all_eq_true'] at h3
  have := h3 e (by simpa using he)
  rw [binds_any, hb] at this
  simpa using this
theorem ready_of {ops : List Oper} {listed : Array Bool} {i : Nat} {o : Oper} (ho : ops[i]? = some o) (hl : listed.getD i true = false) (he : ∀ e ∈ o.after.toList, bindsB e = true → listed.getD e.on false = true) :
    i ∈ Region.ready .any ops.toArray listed := by
  have hlt : i < ops.length := (List.getElem?_eq_some_iff.1 ho).1
  simp only [Region.ready, List.mem_filter, List.mem_range, Bool.and_eq_true]
  refine ⟨by simpa using hlt, by simpa using hl, ?_⟩
  simp only [List.getElem?_toArray, ho, Option.map_some, Option.getD_some, Array.all_eq_true']
  intro e hm
  rw [binds_any]
  cases hb : bindsB e with
  | false => rfl
  | true => simpa using he e (by simpa using hm) hb

def unl (m : Nat) (listed : Array Bool) : Nat := (List.range m).countP fun i => !listed.getD i true

theorem countP_less {p q : Nat → Bool} {i : Nat} (hp : p i = true) (hq : q i = false) (hpq : ∀ j, j ≠ i → q j = p j) : ∀ {l : List Nat}, i ∈ l → l.countP q < l.countP p := by
  intro l
  have le : ∀ l : List Nat, l.countP q ≤ l.countP p := fun l => List.countP_mono_left fun j _ hj => by
    by_cases e : j = i
    · subst e; rw [hq] at hj; cases hj
    · rw [← hpq j e]; exact hj
  induction l with
  | nil => intro h; simp at h
  | cons j l ih =>
    intro h
    by_cases e : j = i
    · subst e
      rw [List.countP_cons_of_pos hp, List.countP_cons_of_neg (by rw [hq]; simp)]
      have := le l; omega
    · have hm : i ∈ l := by
        rcases List.mem_cons.1 h with h | h
        · exact absurd h.symm e
        · exact h
      have := ih hm
      simp only [List.countP_cons, hpq j e]
      omega

theorem unl_set {m : Nat} {listed : Array Bool} {i : Nat} (hi : i < listed.size) (hm : i < m) (hl : listed.getD i true = false) : unl m (listed.setIfInBounds i true) < unl m listed := by
  refine countP_less (i := i) (by simp [hl]) ?_ ?_ (List.mem_range.2 hm)
  · simp [Array.getD_eq_getD_getElem?, hi]
  · intro j hj
    have hij : ¬ i = j := fun e => hj e.symm
    simp [Array.getD_eq_getD_getElem?, Array.getElem?_setIfInBounds, hij]

theorem getD_tf {listed : Array Bool} {i : Nat} (h : i < listed.size) : listed.getD i true = listed.getD i false := by
  rw [Array.getD_eq_getD_getElem?, Array.getD_eq_getD_getElem?]
  have : listed[i]? = some listed[i] := by simp [h]
  rw [this]; rfl

theorem path_lt (hc : chk ops = true) {k m : Nat} (hb : ((masks ops []).getD k 0).testBit m = true) : m < k := by
  have back : ∀ (os : List Oper) (acc : List Nat), (∀ (k b' : Nat), acc[k]? = some b' → ∀ m, b'.testBit m = true → m < k) → (∀ (m : Nat) (p : Oper), os[m]? = some p → ∀ e ∈ p.after.toList, bindsB e = true → e.on < acc.length + m) →
      ∀ k m, ((masks os acc).getD k 0).testBit m = true → m < k := by
    intro os
    induction os with
    | nil =>
      intro acc h _ k m hb
      simp only [masks] at hb
      cases hk : acc[k]? with
      | none => rw [List.getD_eq_getElem?_getD, hk] at hb; simp at hb
      | some b' => rw [List.getD_eq_getElem?_getD, hk] at hb; exact h k b' hk m hb
    | cons p os ih =>
      intro acc h hed k m hb
      simp only [masks] at hb
      refine ih (acc ++ [depMask acc p.after.toList]) ?_ ?_ k m hb
      · intro k b' hk m hm
        by_cases hlt : k < acc.length
        · rw [List.getElem?_append_left hlt] at hk; exact h k b' hk m hm
        · rw [List.getElem?_append_right (by omega)] at hk
          have : k - acc.length = 0 := by
            rcases Nat.eq_zero_or_pos (k - acc.length) with h0 | h0
            · exact h0
            · rw [List.getElem?_eq_none (by simp; omega)] at hk; cases hk
          rw [this] at hk
          simp only [List.getElem?_cons_zero, Option.some.injEq] at hk
          subst hk
          obtain ⟨e, he1, he2, he3⟩ := depMask_bit hm
          have hlt' := hed 0 p (by simp) e he1 he2
          rcases he3 with rfl | he3
          · omega
          · cases hq : acc[e.on]? with
            | none => rw [List.getD_eq_getElem?_getD, hq] at he3; simp at he3
            | some b2 =>
              rw [List.getD_eq_getElem?_getD, hq] at he3
              have := h _ b2 hq m he3; omega
      · intro m p' hp' e he1 he2
        have := hed (m + 1) p' (by simpa using hp') e he1 he2
        simp; omega
  exact back ops [] (by simp) (fun m p hp e hm hb => by
    have := (chkOps_spec (chk_ops hc) m p hp).2.1 e hm hb
    simpa using this) k m hb

/-- THE VALUES THAT AN OPERATION READS, WHEN IT COMES UP. -/
theorem reads_ok {listed : Array Bool} {a : Act} {S : List RS} {done : List Nat} (hc : chk ops = true) (hI : Inv n ops E S done listed a) {i : Nat} {o : Oper} {Ei : Env}
    (ho : ops[i]? = some o) (hl : listed.getD i false = false) (he : ∀ e ∈ o.after.toList, bindsB e = true → listed.getD e.on false = true) (hfrom : ∀ t u, lk Ei t = some u → From E ops S i t u) :
    (∀ x ∈ o.op.operands.toList, a.eval x = mix Ei a x) ∧
    (∀ j want oj t u, o.guard = some (j, want) → ops[j]? = some oj → oj.dst = some t → lk Ei t = some u → a.tmps[t]? = some u) := by
  have hnd := chk_nodup hc
  have hc0 := hc
  replace hc := chk_ops hc
  · obtain ⟨h1, h2, h3⟩ := chkOps_spec hc i o ho
    simp only [Nat.zero_add] at h1 h2 h3
    -- all that the mask names has been run
    have hpath : ∀ j, ((masks ops []).getD i 0).testBit j = true → listed.getD j false = true := by
      intro j hj
      have hD : Shut ops fun k => listed.getD k false = true ∨ k = i := by
        intro k p hp hk e hm hb
        rcases hk with hk | rfl
        · exact .inl (hI.shut k p hp hk e hm hb)
        · have : p = o := by rw [ho] at hp; exact (Option.some.inj hp).symm
          subst this
          exact .inl (he e hm hb)
      rcases path_shut hD hj (.inr rfl) with h | h
      · exact h
      · subst h
        have := path_lt hc0 hj
        omega
    have slot : ∀ t u, lk Ei t = some u → (∀ (k : Nat) (p : Oper), ops[k]? = some p → p.dst = some t → k ≠ i → (k < i ∧ ((masks ops []).getD i 0).testBit k = true) ∨ (i < k ∧ ((masks ops []).getD k 0).testBit i = true)) → a.tmps[t]? = some u := by
      intro t u hl' hord
      rcases hfrom t u hl' with ⟨k, p, hk, hp, hd, hS⟩ | ⟨hno, hE⟩
      · rcases hord k p hp hd (by omega) with ⟨_, hb⟩ | ⟨hlt, _⟩
        · exact hI.vals k p u t (hpath k hb) hp hd hS
        · omega
      · refine hI.rest t u hE fun k p hk hp hd => ?_
        by_cases e : k = i
        · subst e; rw [hl] at hk; cases hk
        · rcases hord k p hp hd e with ⟨hlt, _⟩ | ⟨_, hb⟩
          · exact hno k p hlt hp hd
          · have := path_shut hI.shut hb hk
            rw [hl] at this; cases this
    refine ⟨fun x hx => ?_, fun j want oj t u hg hj hd hl' => ?_⟩
    · cases x with
      | tmp t =>
        unfold mix
        cases hv : ev Ei (.tmp t) with
        | none => rfl
        | some u =>
          have hs := slot t u hv fun k p hp hd hne => by
            have := orderedB_spec (h1 t (tmpsOf_mem hx)) k p hp hd (by simpa using hne)
            simpa using this
          simp only [Act.eval, Array.getD_eq_getD_getElem?, hs, Option.getD_some]
      | const v => rfl
      | «global» g => rfl
      | func f => rfl
    · obtain ⟨hlt, hb⟩ := h3 j want hg
      refine slot t u hl' fun k p hp hdp hne => ?_
      have : k = j := nodupB_spec hnd k j p oj t hp hj hdp hd
      subst this
      exact .inl ⟨hlt, hb⟩

end
end Go.Hop
