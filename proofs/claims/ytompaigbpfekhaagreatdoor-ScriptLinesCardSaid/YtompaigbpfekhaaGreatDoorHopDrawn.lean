/- What is proved here: the rule for a region whose order is drawn, whole. -/
import Derived.Test.YtompaigbpfekhaaGreatDoorHopOrder
namespace Go.Hop
section
variable {P : Program} {tab : Tab} {n : Nat} {ops : List Oper} {effs : List Nat} {σ : Sg} {E : Env} {keep : List Nat} {fin : Env → List Assn → Prop} {Q : Exit → Act → World → Prop}

/-- The same statuses, more known. -/
def Le (S S' : List RS) : Prop := ∀ (i : Nat) (v : Value), S[i]? = some (.val v) → S'[i]? = some (.val v)

theorem upd_keep {E E' : Env} {d : Option Nat} {s : RS} (h : updE n E d s = some E') {t : Nat} {u : Value} (hd : d ≠ some t) (hl : lk E t = some u) : lk E' t = some u := by
  have hrm : ∀ {d : Option Nat}, d ≠ some t → rmO E d = some E' → lk E' t = some u := by
    intro d hd h
    cases d with
    | none => simp only [rmO] at h; cases h; exact hl
    | some d => exact rmE_keep (show rmE E d = some E' from h) t u (fun e => hd (by rw [e])) hl
  cases s with
  | val v =>
    cases d with
    | none => simp only [updE, putE] at h; cases h; exact hl
    | some d =>
      simp only [updE, putE] at h
      cases hb : Nat.blt d n with
      | false => rw [hb] at h; cases h
      | true => rw [hb] at h; cases h; rw [lk_cons, if_neg (fun e => hd (by rw [e]))]; exact hl
  | eff E0 => exact hrm hd h
  | unk => exact hrm hd h

theorem tr_le {b : List Nat} {hints hints' : Env} {done done' : List Nat} {L L' : List Assn} (hh : ∀ i v, lk hints i = some v → lk hints' i = some v) :
    ∀ {os : List Oper} {i : Nat} {E E1 : Env} {S : List RS}, Tr P tab n ops b effs hints done σ L i E os S E1 → ∀ {E' E1' : Env} {S' : List RS}, Tr P tab n ops b effs hints' done' σ L' i E' os S' E1' → Ext E E' →
      (∀ (k : Nat) (v : Value), lk hints' (i + k) = some v → lk hints (i + k) = some v ∨ S[k]? = some .unk ∨ (∃ E0, S[k]? = some (.eff E0)) ∨ os.length ≤ k) → Le S S' ∧ ∀ (k : Nat) (v : Value) (E0 : Env), S[k]? = some (.eff E0) → lk hints' (i + k) = some v → S'[k]? = some (.val v) := by
  intro os i E E1 S h
  induction h with
  | nil => intro E' E1' S' _ _ _; exact ⟨fun k v hk => by simp at hk, fun k v E0 hk => by simp at hk⟩
  | @cons i E E2 E1 o os s S hs hu ht ih =>
    intro E' E1' S' h' hext hnew
    cases h' with
    | @cons _ _ E2' _ _ _ s' S' hs' hu' ht' =>
      have key : ∀ v, s = .val v → s' = .val v := by
        rintro v rfl
        have hn0 := hnew 0
        simp only [Nat.add_zero, List.getElem?_cons_zero, List.length_cons] at hn0
        rcases hs with ⟨hg, rfl⟩ | ⟨hg, hs⟩
        · have hg' := hext.guardV hg
          cases s' with
          | val v' =>
            rcases hs' with ⟨_, rfl⟩ | ⟨hg2, _⟩
            · rfl
            · rw [hg'] at hg2; cases hg2
          | eff E0 => obtain ⟨_, hg2, _⟩ := hs'; rw [hg'] at hg2; cases hg2
          | unk => rcases hs' with hg2 | ⟨hg2, _⟩ <;> rw [hg'] at hg2 <;> cases hg2
        · have hg' := hext.guardV hg
          have hval : ∀ v', (lk hints' i = some v' ∨ (lk hints' i = none ∧ qv tab E' o.op = some v')) → v' = v := by
            intro v' hv'
            rcases hs with ⟨hl, _⟩ | ⟨hl, _, hq⟩
            · rcases hv' with h1 | ⟨h1, _⟩
              · rw [hh i v hl] at h1; cases h1; rfl
              · rw [hh i v hl] at h1; cases h1
            · rcases hv' with h1 | ⟨_, h2⟩
              · rcases hn0 v' h1 with h3 | h3 | ⟨E0, h3⟩ | h3
                · rw [hl] at h3; cases h3
                · cases h3
                · cases h3
                · omega
              · rw [hext.qv hq] at h2; cases h2; rfl
          cases s' with
          | val v' =>
            rcases hs' with ⟨hg2, _⟩ | ⟨_, ⟨hl, _⟩ | ⟨hl, _, hq⟩⟩
            · rw [hg'] at hg2; cases hg2
            · rw [hval v' (.inl hl)]
            · rw [hval v' (.inr ⟨hl, hq⟩)]
          | eff E0 =>
            obtain ⟨_, _, hl, hm⟩ := hs'
            rcases hs with ⟨hl2, _⟩ | ⟨_, hm2, _⟩
            · rw [hh i v hl2] at hl; cases hl
            · rw [hm] at hm2; cases hm2
          | unk =>
            rcases hs' with hg2 | ⟨_, hl2, _, hq2⟩
            · rw [hg'] at hg2; cases hg2
            · rcases hs with ⟨hl, _⟩ | ⟨_, _, hq⟩
              · rw [hh i v hl] at hl2; cases hl2
              · rw [hext.qv hq] at hq2; cases hq2
      have keff : ∀ v E0, s = .eff E0 → lk hints' i = some v → s' = .val v := by
        rintro v E0 rfl hlk
        obtain ⟨_, hg, _, _⟩ := hs
        have hg' := hext.guardV hg
        cases s' with
        | val v' =>
          rcases hs' with ⟨hg2, _⟩ | ⟨_, ⟨hl, _⟩ | ⟨hl, _, _⟩⟩
          · rw [hg'] at hg2; cases hg2
          · rw [hlk] at hl; cases hl; rfl
          · rw [hlk] at hl; cases hl
        | eff E1 => obtain ⟨_, _, hl, _⟩ := hs'; rw [hlk] at hl; cases hl
        | unk =>
          rcases hs' with hg2 | ⟨_, hl, _⟩
          · rw [hg'] at hg2; cases hg2
          · rw [hlk] at hl; cases hl
      have hext2 : Ext E2 E2' := by
        intro t u hl
        rcases updE_lk hu hl with ⟨hd, rfl⟩ | ⟨hd, hl2⟩
        · have := key u rfl
          subst this
          cases hdd : o.dst with
          | none => rw [hdd] at hd; cases hd
          | some d =>
            rw [hdd] at hd hu'
            have e : d = t := Option.some.inj hd
            rw [e] at hu'
            simp only [updE, putE] at hu'
            cases hb : Nat.blt t n with
            | false => rw [hb] at hu'; cases hu'
            | true => rw [hb] at hu'; cases hu'; simp [lk_cons]
        · exact upd_keep hu' hd (hext t u hl2)
      obtain ⟨i1, i2⟩ := ih ht' hext2 (fun k v h => by
        have := hnew (k + 1) v (by rw [show i + (k + 1) = i + 1 + k by omega]; exact h)
        rw [show i + 1 + k = i + (k + 1) by omega]
        simpa using this)
      refine ⟨fun k v hk => ?_, fun k v E0 hk hlk => ?_⟩
      · cases k with
        | zero =>
          have : s = .val v := by simpa using hk
          simp [key v this]
        | succ k => simpa using i1 k v (by simpa using hk)
      · cases k with
        | zero =>
          have : s = .eff E0 := by simpa using hk
          simp [keff v E0 this (by simpa using hlk)]
        | succ k => simpa using i2 k v E0 (by simpa using hk) (by rw [show i + 1 + k = i + (k + 1) by omega]; exact hlk)

theorem eval_lk {b : List Nat} {hints : Env} {done : List Nat} {L : List Assn} {S : List RS} {E2 : Env} {p : Prop} (h : evalS P tab n ops b effs hints done σ L ops 0 E = some (S, E2, p)) (hp : p) :
    Tr P tab n ops b effs hints done σ L 0 E ops S E2 := evalS_tr h hp

/-- A quiet step. -/
theorem inv_step {S : List RS} {done : List Nat} {listed : Array Bool} {a : Act} (hc : chk ops = true) (hI : Inv n ops E S done listed a) {i : Nat} {o : Oper} {v : Value} (ho : ops[i]? = some o) (hl : listed.getD i true = false)
    (he : ∀ e ∈ o.after.toList, bindsB e = true → listed.getD e.on false = true) (hS : S[i]? = some (.val v)) (hd : dstOK n o.dst = true) :
    Inv n ops E S done (listed.setIfInBounds i true) (a.put o.dst v) := by
  have hnd := chk_nodup hc
  have hlt : i < ops.length := (List.getElem?_eq_some_iff.1 ho).1
  have hi : i < listed.size := by rw [hI.lsize]; exact hlt
  have hlf : listed.getD i false = false := by
    rw [Array.getD_eq_getD_getElem?] at hl ⊢
    have : listed[i]? = some listed[i] := by simp [hi]
    rw [this] at hl ⊢; exact hl
  have hget : ∀ k, (listed.setIfInBounds i true).getD k false = true ↔ k = i ∨ listed.getD k false = true := by
    intro k
    rw [listed_set hi]
    by_cases e : i = k
    · subst e; simp
    · rw [if_neg e]
      constructor
      · exact .inr
      · rintro (h | h)
        · exact absurd h.symm e
        · exact h
  have hput : ∀ (t : Nat) (u : Value), o.dst ≠ some t → a.tmps[t]? = some u → (a.put o.dst v).tmps[t]? = some u := by
    intro t u hne h
    cases hdd : o.dst with
    | none => exact h
    | some d =>
      simp only [Act.put, Array.getElem?_setIfInBounds]
      rw [if_neg (fun e => hne (by rw [hdd, e]))]
      exact h
  refine ⟨?_, ?_, ?_, ?_, ?_, ?_, ?_, ?_⟩
  · cases hdd : o.dst <;> exact hI.defers
  · cases hdd : o.dst <;> simp [Act.put, hI.size]
  · simp [hI.lsize]
  · intro k p hp hk e hm hb
    rw [hget] at hk ⊢
    rcases hk with rfl | hk
    · have : p = o := by rw [ho] at hp; exact (Option.some.inj hp).symm
      subst this
      exact .inr (he e hm hb)
    · exact .inr (hI.shut k p hp hk e hm hb)
  · intro k hk
    rcases (hget k).1 hk with rfl | hk
    · exact ⟨v, hS⟩
    · exact hI.isval k hk
  · intro k p u t hk hp hdp hSk
    rcases (hget k).1 hk with rfl | hk'
    · have : p = o := by rw [ho] at hp; exact (Option.some.inj hp).symm
      subst this
      rw [hS] at hSk
      cases hSk
      rw [hdp] at hd ⊢
      have : t < n := Nat.le_of_ble_eq_true hd
      simp only [Act.put, Array.getElem?_setIfInBounds]
      rw [if_pos trivial, if_pos (by rw [hI.size]; exact this)]
    · refine hput t u (fun hdo => ?_) (hI.vals k p u t hk' hp hdp hSk)
      have : k = i := nodupB_spec hnd k i p o t hp ho hdp hdo
      subst this
      rw [hlf] at hk'; cases hk'
  · intro t u hlk hno
    refine hput t u (hno i o ((hget i).2 (.inl rfl)) ho) (hI.rest t u hlk fun k p hk hp => hno k p ((hget k).2 (.inr hk)) hp)
  · intro c hcm
    exact (hget c).2 (.inr (hI.done c hcm))

theorem inv_mono {S S' : List RS} {done : List Nat} {listed : Array Bool} {a : Act} (hI : Inv n ops E S done listed a) (hle : Le S S') : Inv n ops E S' done listed a := by
  refine ⟨hI.defers, hI.size, hI.lsize, hI.shut, fun k hk => ?_, fun k o v t hk ho hd hS => ?_, hI.rest, hI.done⟩
  · obtain ⟨v, hv⟩ := hI.isval k hk
    exact ⟨v, hle k v hv⟩
  · obtain ⟨u, hu⟩ := hI.isval k hk
    have := hle k u hu
    rw [hS] at this
    cases this
    exact hI.vals k o v t hk ho hd hu

theorem owes_true {b done : List Nat} {i : Nat} (h1 : i ∉ done) (h2 : ∀ c ∈ done, (b.getD c 0).testBit i = false) : owes b done i = true := by
  have go : ∀ l : List Nat, (∀ c ∈ l, (b.getD c 0).testBit i = false) → owes.go b i l = true := by
    intro l
    induction l with
    | nil => intro _; rfl
    | cons c l ih =>
      intro h
      simp only [owes.go, h c (by simp)]
      exact ih fun d hd => h d (by simp [hd])
  unfold owes
  cases hm : memB i done with
  | true => exact absurd (memB_iff.1 hm) h1
  | false => exact go done h2

theorem chain_open {b : List Nat} {k : Nat} {hints : Env} {done : List Nat} {L : List Assn} (h : Chain P tab n ops b effs σ E keep fin k hints done L) :
    ∃ S E2 p, evalS P tab n ops b effs hints done σ L ops 0 E = some (S, E2, p) ∧ p ∧
      ((allValS S = true ∧ ∃ E', keepE E2 keep = some E' ∧ fin E' L) ∨
       (allValS S = false ∧ progOK b S S 0 = true ∧ ∃ k', ∀ c Ec, (c, Ec) ∈ cands b S S 0 → ∃ o, ops[c]? = some o ∧ ∃ post, Eff P σ Ec o L post ∧
        ∀ v L', post v L' → ∃ X, extraOK S hints X = true ∧ Chain P tab n ops b effs σ E keep fin k' ((c, v) :: (X ++ hints)) (c :: done) L')) := by
  have hfin : (∃ E' p, stage P tab n ops b effs hints done σ L E keep = some (.fin E' p) ∧ p ∧ fin E' L) → ∃ S E2 p, evalS P tab n ops b effs hints done σ L ops 0 E = some (S, E2, p) ∧ p ∧
      (allValS S = true ∧ ∃ E', keepE E2 keep = some E' ∧ fin E' L) := by
    rintro ⟨E', p, hs, hp, hf⟩
    unfold stage at hs
    split at hs
    · rename_i S E2 p' he
      split at hs
      · rename_i hv
        split at hs
        · rename_i E3 hk
          cases hs
          exact ⟨S, E2, p, he, hp, hv, E', hk, hf⟩
        · cases hs
      · split at hs <;> cases hs
    · cases hs
  cases k with
  | zero =>
    obtain ⟨S, E2, p, h1, h2, h3⟩ := hfin h
    exact ⟨S, E2, p, h1, h2, .inl h3⟩
  | succ k =>
    rcases h with h | ⟨cs, S0, p, hs, hp, hc⟩
    · obtain ⟨S, E2, p, h1, h2, h3⟩ := hfin h
      exact ⟨S, E2, p, h1, h2, .inl h3⟩
    · unfold stage at hs
      split at hs
      · rename_i S E2 p' he
        split at hs
        · split at hs <;> cases hs
        · rename_i hv
          split at hs
          · rename_i hpr
            cases hs
            exact ⟨S0, E2, p, he, hp, .inr ⟨by simpa using hv, hpr, k, hc⟩⟩
          · cases hs
      · cases hs

theorem dstOK_of {E1 E2 : Env} {d : Option Nat} {v : Value} (h : updE n E1 d (.val v) = some E2) : dstOK n d = true := by
  cases d with
  | none => rfl
  | some d =>
    simp only [updE, putE] at h
    simp only [dstOK]
    cases hb : Nat.blt d n with
    | false => rw [hb] at h; cases h
    | true => rfl

theorem unl_zero {listed : Array Bool} {m i : Nat} (hi : i < m) (hl : listed.getD i true = false) : 0 < unl m listed := by
  unfold unl
  rw [List.countP_pos_iff]
  exact ⟨i, List.mem_range.2 hi, by simp [hl]⟩

/-- All has been run. -/
theorem any_end (ht : tab.OK P) {listed : Array Bool} {a : Act} {w : World} {k : Nat} {hints : Env} {done : List Nat} {L : List Assn}
    (hch : Chain P tab n ops (masks ops []) effs σ E keep fin k hints done L)
    (hinv : ∀ S E2 p, evalS P tab n ops (masks ops []) effs hints done σ L ops 0 E = some (S, E2, p) → p → Inv n ops E S done listed a)
    (hQ : ∀ E' L' a' w', fin E' L' → Knows n E' a' → Holds σ w' L' → Q .normal a' w')
    (hh : Holds σ w L) (hc : chk ops = true) (hr : Region.ready .any ops.toArray listed = []) : Q .normal a w := by
  obtain ⟨S, E2, p, he, hp, hcase⟩ := chain_open hch
  have hI := hinv S E2 p he hp
  have htr := eval_lk he hp
  have hall : ∀ i, i < ops.length → listed.getD i false = true := by
    intro i
    induction i using Nat.strongRecOn with
    | _ i ih =>
      intro hi
      cases hl : listed.getD i true with
      | true => rw [getD_tf (by rw [hI.lsize]; exact hi)] at hl; exact hl
      | false =>
        have ho : ops[i]? = some ops[i] := by simp [hi]
        have := ready_of ho hl fun e hm hb => by
          have hlt := (chkOps_spec (chk_ops hc) i _ ho).2.1 e hm hb
          simp only [Nat.zero_add] at hlt
          exact ih e.on hlt (by omega)
        rw [hr] at this
        cases this
  have hval : allValS S = true := allValS_spec.2 fun i s hs => by
    have hlt : i < ops.length := by
      have := (List.getElem?_eq_some_iff.1 hs).1
      rw [htr.last.1] at this; exact this
    obtain ⟨v, hv⟩ := hI.isval i (hall i hlt)
    rw [hs] at hv; cases hv; rfl
  rcases hcase with ⟨_, E', hk, hf⟩ | ⟨hf, _⟩
  · refine hQ E' L a w hf ⟨hI.defers, hI.size, fun t u hl => ?_⟩ hh
    rcases htr.last.2 t u (keepE_lk hk t u hl) with ⟨j, o, hj, ho, hd, hS⟩ | ⟨hno, hE⟩
    · exact hI.vals j o u t (hall j hj) ho hd hS
    · exact hI.rest t u hE fun j o hj ho => hno j o (by
        have := (List.getElem?_eq_some_iff.1 ho).1; exact this) ho
  · rw [hval] at hf; cases hf

/-- WHATEVER THE ORDER: by the number of operations that are left. -/
theorem chain_any (ht : tab.OK P) (hc : chk ops = true) (hQ : ∀ E' L' a' w', fin E' L' → Knows n E' a' → Holds σ w' L' → Q .normal a' w') :
    ∀ (fuel : Nat) (listed : Array Bool) (a : Act) (w : World) (k : Nat) (hints : Env) (done : List Nat) (L : List Assn),
    Chain P tab n ops (masks ops []) effs σ E keep fin k hints done L →
    (∀ S E2 p, evalS P tab n ops (masks ops []) effs hints done σ L ops 0 E = some (S, E2, p) → p → Inv n ops E S done listed a) →
    Holds σ w L → unl ops.length listed ≤ fuel → wpAny P .any ops.toArray Q fuel listed a w := by
  intro fuel
  induction fuel with
  | zero =>
    intro listed a w k hints done L hch hinv hh hu
    have hr : Region.ready .any ops.toArray listed = [] := by
      cases hrr : Region.ready .any ops.toArray listed with
      | nil => rfl
      | cons i r =>
        obtain ⟨o, ho, hl, _⟩ := mem_ready (show i ∈ Region.ready .any ops.toArray listed by rw [hrr]; simp)
        have hi : i < ops.length := by
          have := (Array.getElem?_eq_some_iff.1 ho).1; simpa using this
        have := unl_zero hi hl
        omega
    exact ⟨hr, any_end ht hch hinv hQ hh hc hr⟩
  | succ fuel ih =>
    intro listed a w k hints done L hch hinv hh hu
    refine ⟨fun hr => any_end ht hch hinv hQ hh hc hr, fun i hi => ?_⟩
    obtain ⟨o, ho', hl, he⟩ := mem_ready hi
    have ho : ops[i]? = some o := by simpa using ho'
    have hlen : i < ops.length := (List.getElem?_eq_some_iff.1 ho).1
    obtain ⟨S, E2, p, hev, hp, hcase⟩ := chain_open hch
    have hI := hinv S E2 p hev hp
    have htr := eval_lk hev hp
    have hlf : listed.getD i false = false := by rw [← getD_tf (by rw [hI.lsize]; exact hlen)]; exact hl
    have hul : unl ops.length (listed.setIfInBounds i true) ≤ fuel := by
      have := unl_set (m := ops.length) (listed := listed) (i := i) (by rw [hI.lsize]; exact hlen) hlen hl
      omega
    obtain ⟨s, Ei, Ek, hS, hspec, hupd, hfrom⟩ := htr.at i o ho
    simp only [Nat.zero_add] at hspec
    obtain ⟨hops, hguard⟩ := reads_ok hc hI ho hlf he hfrom
    have hcongr : execOp a.eval o = execOp (mix Ei a) o := execOp_congr (noSel_spec (chk_sel hc) i o ho) hops
    have hpath : ∀ j, ((masks ops []).getD i 0).testBit j = true → j ≠ i → listed.getD j false = true := by
      intro j hj hne
      have hD : Shut ops fun m => listed.getD m false = true ∨ m = i := by
        intro m q hq hm e hme hb
        rcases hm with hm | rfl
        · exact .inl (hI.shut m q hq hm e hme hb)
        · have : q = o := by rw [ho] at hq; exact (Option.some.inj hq).symm
          subst this
          exact .inl (he e hme hb)
      rcases path_shut hD hj (.inr rfl) with h | h
      · exact h
      · exact absurd h hne
    have hpv : predsVal ((masks ops []).getD i 0) S 0 = true := by
      refine predsVal_of fun j s' hs' hb => ?_
      simp only [Nat.zero_add] at hb
      have hlt := path_lt hc hb
      obtain ⟨v, hv⟩ := hI.isval j (hpath j hb (by omega))
      rw [hs'] at hv; cases hv; rfl
    have hdone : owes (masks ops []) done i = true := by
      refine owes_true (fun hm => ?_) (fun c hm => ?_)
      · have := hI.done i hm; rw [hlf] at this; cases this
      · cases hb : ((masks ops []).getD c 0).testBit i with
        | false => rfl
        | true => have := path_shut hI.shut hb (hI.done c hm); rw [hlf] at this; cases this
    show wpOp P ops.toArray Q i _ a w
    unfold wpOp
    rw [ho']
    simp only
    cases s with
    | val v =>
      have hI' : ∀ S' E2' p', evalS P tab n ops (masks ops []) effs hints done σ L ops 0 E = some (S', E2', p') → p' → Inv n ops E S' done (listed.setIfInBounds i true) (a.put o.dst v) := by
        intro S' E2' p' he' hp'
        rw [hev] at he'
        cases he'
        exact inv_step hc hI ho hl he hS (dstOK_of hupd)
      rcases hspec with ⟨hg, rfl⟩ | ⟨hg, hval⟩
      · have hw : Region.wanted o (yielded ops.toArray a.tmps) = false := guardV_wanted hg hguard
        rw [if_neg (by rw [hw]; simp)]
        exact ih _ _ _ k hints done L hch hI' hh hul
      · have hw : Region.wanted o (yielded ops.toArray a.tmps) = true := guardV_wanted hg hguard
        rw [if_pos hw]
        left
        have hrun : (execOp a.eval o).run P w = .ok (.value v) w := by
          rw [hcongr]
          rcases hval with ⟨_, hob⟩ | ⟨_, _, hq⟩
          · exact hob hdone w _ mix_agr hh
          · exact qv_run ht mix_agr hq
        unfold Oper.wp
        rw [hrun]
        exact ih _ _ _ k hints done L hch hI' hh hul
    | eff E0 =>
      obtain ⟨rfl, hg, hlk, hm⟩ := hspec
      have hw : Region.wanted o (yielded ops.toArray a.tmps) = true := guardV_wanted hg hguard
      rw [if_pos hw]
      left
      rcases hcase with ⟨hv, _⟩ | ⟨_, _, k', hc'⟩
      · have := allValS_spec.1 hv i _ hS; cases this
      · obtain ⟨o', ho2, post, heff, hnext⟩ := hc' i E0 (by simpa using cands_of (i := 0) i E0 hS (by simpa using hpv))
        have : o' = o := by rw [ho] at ho2; exact (Option.some.inj ho2).symm
        subst this
        unfold Oper.wp
        rw [hcongr]
        refine heff w _ a _ Q mix_agr hh fun v w' L' hpost hh' => ?_
        obtain ⟨X, hX, hchX⟩ := hnext v L' hpost
        refine ih _ _ _ k' _ _ L' hchX (fun S' E2' p' he' hp' => ?_) hh' hul
        have htr' := eval_lk he' hp'
        have hlkX : ∀ j u, lk ((i, v) :: (X ++ hints)) j = some u → j = i ∨ (lk X j = some u) ∨ (lk X j = none ∧ lk hints j = some u) := by
          intro j u h
          rw [lk_cons] at h
          by_cases e : i = j
          · exact .inl e.symm
          · rw [if_neg e, lk_append] at h
            split at h
            · rename_i hx; exact .inr (.inl (by rw [hx]; exact h))
            · rename_i hx; exact .inr (.inr ⟨hx, h⟩)
        obtain ⟨hle, heffv⟩ := tr_le (hints' := (i, v) :: (X ++ hints)) (fun j u hj => by
            rw [lk_cons]
            by_cases e : i = j
            · subst e; rw [hlk] at hj; cases hj
            · rw [if_neg e, lk_append]
              split
              · rename_i u' hx
                have := (extraOK_spec hX j u' hx).2
                rw [hj] at this; cases this
              · exact hj) htr htr' (fun _ _ h => h) (fun j u hj => by
            simp only [Nat.zero_add] at hj ⊢
            rcases hlkX j u hj with rfl | hx | ⟨_, hx⟩
            · exact .inr (.inr (.inl ⟨E0, hS⟩))
            · exact .inr (.inl (extraOK_spec hX j u hx).1)
            · exact .inl hx)
        have hSi : S'[i]? = some (.val v) := heffv i v E0 hS (by simp [lk_cons])
        obtain ⟨s', Ei', Ek', hS', _, hupd', _⟩ := htr'.at i o' ho
        have : s' = .val v := by rw [hSi] at hS'; exact (Option.some.inj hS').symm
        subst this
        have hI2 := inv_step hc (inv_mono hI hle) ho hl he hSi (dstOK_of hupd')
        exact ⟨hI2.defers, hI2.size, hI2.lsize, hI2.shut, hI2.isval, hI2.vals, hI2.rest, fun c hcm => by
          rcases List.mem_cons.1 hcm with rfl | hcm
          · rw [listed_set (by rw [hI.lsize]; exact hlen)]; simp
          · exact hI2.done c hcm⟩
    | unk =>
      exfalso
      rcases hcase with ⟨hv, _⟩ | ⟨_, hpr, _⟩
      · have := allValS_spec.1 hv i _ hS; cases this
      · have := progOK_spec hpr i hS
        simp only [Nat.zero_add] at this
        rw [hpv] at this; cases this

/-- THE RULE. -/
theorem reg_drawn (ht : tab.OK P) (hm : P.follows .mixedOrders = true) {id : Nat} {a : Act} {w : World} {L : List Assn} (hk : Knows n E a) (hh : Holds σ w L) (hc : chk ops = true) (k : Nat) (hints : Env)
    (hch : Chain P tab n ops (masks ops []) effs σ E keep fin k hints [] L)
    (hQ : ∀ E' L' a' w', fin E' L' → Knows n E' a' → Holds σ w' L' → Q .normal a' w') : (Code.region id ops.toArray true).wp P Q a w := by
  refine wp_region_any hm ?_
  refine chain_any ht hc hQ _ _ _ _ k hints [] L hch (fun S E2 p _ _ => ?_) hh.drew ?_
  · have h0 : ∀ k, ¬ ((Array.replicate ops.toArray.size false).getD k false = true) := by
      intro k
      rw [Array.getD_eq_getD_getElem?, Array.getElem?_replicate]
      split <;> simp
    exact ⟨hk.defers, hk.size, by simp, fun i o _ hi => absurd hi (h0 i), fun i hi => absurd hi (h0 i), fun i o v t hi => absurd hi (h0 i), fun t u hl _ => hk.val t u hl, fun c hcm => by cases hcm⟩
  · unfold unl
    refine Nat.le_trans List.countP_le_length (by simp)

/-- The rule, with what comes behind. -/
theorem reg_d (ht : tab.OK P) (hm : P.follows .mixedOrders = true) {id : Nat} {a : Act} {w : World} {L : List Assn} (hk : Knows n E a) (hh : Holds σ w L) (effs : List Nat) (keep : List Nat) (hc : chk ops = true) (k : Nat) (hints : Env)
    (hch : Chain P tab n ops (masks ops []) effs σ E keep (fun E' L' => ∀ a w, Knows n E' a → Holds σ w L' → Q .normal a w) k hints [] L) : (Code.region id ops.toArray true).wp P Q a w :=
  reg_drawn ht hm hk hh hc k hints hch fun _ _ a' w' hf hk' hh' => hf a' w' hk' hh'

variable {b : List Nat} {hints : Env} {done : List Nat} {L : List Assn}
theorem chain_fin {k : Nat} {E' : Env} {p : Prop} (hs : stage P tab n ops b effs hints done σ L E keep = some (.fin E' p)) (hp : p) (hf : fin E' L) : Chain P tab n ops b effs σ E keep fin k hints done L := by
  cases k with
  | zero => exact ⟨E', p, hs, hp, hf⟩
  | succ k => exact .inl ⟨E', p, hs, hp, hf⟩
theorem chain_one {k c : Nat} {Ec : Env} {S : List RS} {p : Prop} {o : Oper} {post : Value → List Assn → Prop} (hs : stage P tab n ops b effs hints done σ L E keep = some (.next [(c, Ec)] S p)) (hp : p) (ho : ops[c]? = some o)
    (he : Eff P σ Ec o L post) (hn : ∀ v L', post v L' → ∃ X, extraOK S hints X = true ∧ Chain P tab n ops b effs σ E keep fin k ((c, v) :: (X ++ hints)) (c :: done) L') : Chain P tab n ops b effs σ E keep fin (k + 1) hints done L := by
  refine .inr ⟨_, S, p, hs, hp, fun c' Ec' hm => ?_⟩
  simp only [List.mem_singleton, Prod.mk.injEq] at hm
  obtain ⟨rfl, rfl⟩ := hm
  exact ⟨o, ho, post, he, hn⟩
theorem chain_two {k c d : Nat} {Ec Ed : Env} {S : List RS} {p : Prop} {o o' : Oper} {post post' : Value → List Assn → Prop} (hs : stage P tab n ops b effs hints done σ L E keep = some (.next [(c, Ec), (d, Ed)] S p)) (hp : p)
    (ho : ops[c]? = some o) (he : Eff P σ Ec o L post) (hn : ∀ v L', post v L' → ∃ X, extraOK S hints X = true ∧ Chain P tab n ops b effs σ E keep fin k ((c, v) :: (X ++ hints)) (c :: done) L')
    (ho' : ops[d]? = some o') (he' : Eff P σ Ed o' L post') (hn' : ∀ v L', post' v L' → ∃ X, extraOK S hints X = true ∧ Chain P tab n ops b effs σ E keep fin k ((d, v) :: (X ++ hints)) (d :: done) L') : Chain P tab n ops b effs σ E keep fin (k + 1) hints done L := by
  refine .inr ⟨_, S, p, hs, hp, fun c' Ec' hm => ?_⟩
  simp only [List.mem_cons, Prod.mk.injEq, List.not_mem_nil, or_false] at hm
  rcases hm with ⟨rfl, rfl⟩ | ⟨rfl, rfl⟩
  · exact ⟨o, ho, post, he, hn⟩
  · exact ⟨o', ho', post', he', hn'⟩
end
end Go.Hop
