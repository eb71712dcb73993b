/- What is proved here: a region whose order is drawn, by reckoned values, with its effects one by one. -/
import Derived.Test.YtompaigbpfekhaaGreatDoorHopReg
namespace Go.Hop

/-! more knowledge, the same values -/
def Ext (E E' : Env) : Prop := ∀ k v, lk E k = some v → lk E' k = some v
theorem Ext.ev {E E' : Env} (h : Ext E E') {x : Operand} {u : Value} (hx : ev E x = some u) : ev E' x = some u := by
  cases x with
  | tmp t => exact h t u hx
  | const v => exact hx
  | «global» g => exact hx
  | func f => exact hx
theorem Ext.evs {E E' : Env} (h : Ext E E') : ∀ {xs : List Operand} {us : List Value}, evs E xs = some us → evs E' xs = some us
  | [], us, hx => hx
  | x :: xs, us, hx => by
    simp only [Hop.evs] at hx ⊢
    cases h1 : Hop.ev E x with
    | none => rw [h1] at hx; cases hx
    | some v =>
      rw [h1] at hx
      simp only at hx
      rw [h.ev h1]
      cases h2 : Hop.evs E xs with
      | none => rw [h2] at hx; cases hx
      | some vs => rw [h2] at hx; rw [h.evs h2]; exact hx
theorem Ext.fillV {E E' : Env} (h : Ext E E') {pl : List (Nat × Nat)} : ∀ {ps : List (Nat × Operand)} {cs r : List Value}, fillV E pl ps cs = some r → fillV E' pl ps cs = some r
  | [], cs, r, hx => hx
  | (i, x) :: ps, cs, r, hx => by
    simp only [Hop.fillV] at hx ⊢
    split at hx
    · rename_i off sz hp
      try rw [hp]
      try simp only
      split at hx
      · rename_i v hv
        rw [h.ev hv]
        simp only
        cases hb : Nat.beq sz v.cells.toList.length with
        | false => rw [hb] at hx; cases hx
        | true =>
          rw [hb] at hx
          simp only [cond_true] at hx ⊢
          split at hx
          · exact h.fillV hx
          · cases hx
      · cases hx
    · cases hx
theorem Ext.qv {E E' : Env} (h : Ext E E') {tab : Tab} {o : Op} {r : Value} (hx : qv tab E o = some r) : qv tab E' o = some r := by
  cases o with
  | move x => exact h.ev hx
  | assign x => exact h.ev hx
  | pick c x y =>
    simp only [Hop.qv] at hx ⊢
    split at hx
    · rename_i hc; rw [h.ev hc]; exact h.ev hx
    · rename_i hc; rw [h.ev hc]; exact h.ev hx
    · cases hx
  | binOp op T x y T' =>
    simp only [Hop.qv] at hx ⊢
    split at hx
    · rename_i u v hu hv; rw [h.ev hu, h.ev hv]; exact hx
    · cases hx
  | unOp op T x =>
    simp only [Hop.qv] at hx ⊢
    split at hx
    · rename_i u hu; rw [h.ev hu]; exact hx
    · cases hx
  | convert s d x =>
    simp only [Hop.qv] at hx ⊢
    split at hx
    · rename_i u hu; rw [h.ev hu]; exact hx
    · cases hx
  | fieldAddr T x f =>
    simp only [Hop.qv] at hx ⊢
    split at hx
    · rename_i u hu; rw [h.ev hu]; exact hx
    · cases hx
  | extract x i =>
    simp only [Hop.qv] at hx ⊢
    split at hx
    · rename_i u hu; rw [h.ev hu]; exact hx
    · cases hx
  | nilCheck x =>
    simp only [Hop.qv] at hx ⊢
    split at hx
    · rename_i u hu; rw [h.ev hu]; exact hx
    · cases hx
  | makeFunc fn f c =>
    simp only [Hop.qv] at hx ⊢
    split at hx
    · rename_i u v hu hv; rw [h.evs hu, h.evs hv]; exact hx
    · cases hx
  | makeInterface T x =>
    simp only [Hop.qv] at hx ⊢
    split at hx
    · rename_i u hu; rw [h.ev hu]; exact hx
    · cases hx
  | build T ps =>
    simp only [Hop.qv] at hx ⊢
    split at hx
    · rename_i cs hb
      have : buildV tab E' T ps.toList = some cs := by
        unfold buildV at hb ⊢
        split at hb
        · rename_i hT
          split at hb
          · rename_i pl hpl
            try rw [hpl]
            exact h.fillV hb
          · cases hb
        · cases hb
      rw [this]; exact hx
    · cases hx
  | call c =>
    simp only [Hop.qv, callV] at hx ⊢
    split at hx
    · rename_i x hc ha
      split at hx
      · rename_i v hv; rw [h.ev hv]; exact hx
      · cases hx
    · rename_i x y hc ha
      split at hx
      · rename_i hu hv; rw [h.ev hu, h.ev hv]; exact hx
      · cases hx
    · rename_i x y hc ha
      split at hx
      · rename_i hu hv; rw [h.ev hu, h.ev hv]; exact hx
      · cases hx
    · cases hx
  | _ => cases hx
theorem Ext.guardV {E E' : Env} (h : Ext E E') {ops : List Oper} {g : Option (Nat × Bool)} {b : Bool} (hx : guardV ops E g = some b) : guardV ops E' g = some b := by
  unfold Hop.guardV at hx ⊢
  split at hx
  · exact hx
  · split at hx
    · rename_i oj hj
      split at hx
      · rename_i t ht
        split at hx
        · rename_i hl; rw [h _ _ hl]; exact hx
        · rename_i hl; rw [h _ _ hl]; exact hx
        · cases hx
      · cases hx
    · cases hx

/-! the edges -/
def bindsB (e : Edge) : Bool := match e.ground with
  | .textOnly _ => false
  | .gcOnly _ => false
  | _ => true
theorem binds_any (e : Edge) : Region.binds .any e = bindsB e := by
  unfold Region.binds bindsB
  cases e.ground <;> rfl
def depMask (acc : List Nat) : List Edge → Nat
  | [] => 0
  | e :: es => match bindsB e with
    | true => (1 <<< e.on) ||| acc.getD e.on 0 ||| depMask acc es
    | false => depMask acc es
def masks : List Oper → List Nat → List Nat
  | [], acc => acc
  | o :: os, acc => masks os (acc ++ [depMask acc o.after.toList])

/-- A set of operations that holds, with one, all that it hangs on. -/
def Shut (ops : List Oper) (D : Nat → Prop) : Prop := ∀ i o, ops[i]? = some o → D i → ∀ e ∈ o.after.toList, bindsB e = true → D e.on

theorem depMask_bit {acc : List Nat} {j : Nat} : ∀ {es : List Edge}, (depMask acc es).testBit j = true → ∃ e ∈ es, bindsB e = true ∧ (e.on = j ∨ (acc.getD e.on 0).testBit j = true)
  | [], h => by simp [depMask] at h
  | e :: es, h => by
    simp only [depMask] at h
    cases hb : bindsB e with
    | true =>
      rw [hb] at h
      simp only [Nat.testBit_or, Bool.or_eq_true] at h
      rcases h with (h | h) | h
      · refine ⟨e, by simp, hb, .inl ?_⟩
        rw [Nat.one_shiftLeft, Nat.testBit_two_pow] at h
        simpa using h
      · exact ⟨e, by simp, hb, .inr h⟩
      · obtain ⟨e', h1, h2⟩ := depMask_bit h
        exact ⟨e', List.mem_cons_of_mem _ h1, h2⟩
    | false =>
      rw [hb] at h
      obtain ⟨e', h1, h2⟩ := depMask_bit h
      exact ⟨e', List.mem_cons_of_mem _ h1, h2⟩

theorem masks_shut {D : Nat → Prop} : ∀ {os pre : List Oper} {acc : List Nat}, Shut (pre ++ os) D → acc.length = pre.length →
    (∀ i j, (acc.getD i 0).testBit j = true → D i → D j) → ∀ i j, ((masks os acc).getD i 0).testBit j = true → D i → D j
  | [], pre, acc, _, _, h => h
  | o :: os, pre, acc, hs, hl, h => by
    simp only [masks]
    refine masks_shut (pre := pre ++ [o]) (by simpa using hs) (by simp [hl]) ?_
    intro i j hb hi
    by_cases hlt : i < acc.length
    · rw [List.getD_eq_getElem?_getD, List.getElem?_append_left hlt, ← List.getD_eq_getElem?_getD] at hb
      exact h i j hb hi
    · by_cases he : i = acc.length
      · subst he
        rw [List.getD_eq_getElem?_getD, List.getElem?_append_right (Nat.le_refl _), Nat.sub_self] at hb
        simp only [List.getElem?_cons_zero, Option.getD_some] at hb
        obtain ⟨e, hm, hbd, hor⟩ := depMask_bit hb
        have hD : D e.on := hs acc.length o (by rw [List.getElem?_append_right (by omega)]; simp [hl]) hi e hm hbd
        rcases hor with rfl | hor
        · exact hD
        · exact h _ _ hor hD
      · rw [List.getD_eq_getElem?_getD, List.getElem?_eq_none (by simp; omega)] at hb
        simp at hb
theorem path_shut {ops : List Oper} {D : Nat → Prop} (hs : Shut ops D) {i j : Nat} (h : ((masks ops []).getD i 0).testBit j = true) (hi : D i) : D j :=
  masks_shut (pre := []) hs rfl (by intro i j h; simp at h) i j h hi

def memB (i : Nat) : List Nat → Bool
  | [] => false
  | j :: js => cond (Nat.beq i j) true (memB i js)
theorem memB_iff {i : Nat} : ∀ {l : List Nat}, memB i l = true ↔ i ∈ l
  | [] => by simp [memB]
  | j :: js => by
    simp only [memB, List.mem_cons]
    cases hb : Nat.beq i j with
    | true => simp [Nat.eq_of_beq_eq_true hb]
    | false =>
      have hne : i ≠ j := fun e => by subst e; rw [Nat.beq_refl] at hb; cases hb
      simp only [cond_false, memB_iff, hne, false_or]

/-! the look over a region's text -/
def dsts : List Oper → List Nat
  | [] => []
  | o :: os => match o.dst with
    | some d => d :: dsts os
    | none => dsts os
def nodupB : List Nat → Bool
  | [] => true
  | d :: ds => match memB d ds with
    | true => false
    | false => nodupB ds
def tmpsOf : List Operand → List Nat
  | [] => []
  | .tmp t :: xs => t :: tmpsOf xs
  | _ :: xs => tmpsOf xs
/-- Writer k (of slot t) and reader i: one comes ahead of the other. -/
def orderedB (b : List Nat) (i t : Nat) : List Oper → Nat → Bool
  | [], _ => true
  | o :: os, k => match o.dst with
    | none => orderedB b i t os (k + 1)
    | some d => match Nat.beq d t with
      | false => orderedB b i t os (k + 1)
      | true => match Nat.beq k i with
        | true => orderedB b i t os (k + 1)
        | false => match (cond (Nat.blt k i) ((b.getD i 0).testBit k) ((b.getD k 0).testBit i)) with
          | true => orderedB b i t os (k + 1)
          | false => false
def allOrdered (ops : List Oper) (b : List Nat) (i : Nat) : List Nat → Bool
  | [] => true
  | t :: ts => match orderedB b i t ops 0 with
    | true => allOrdered ops b i ts
    | false => false
def edgesOK (i : Nat) : List Edge → Bool
  | [] => true
  | e :: es => match bindsB e with
    | true => match Nat.blt e.on i with
      | true => edgesOK i es
      | false => false
    | false => edgesOK i es
def chkOps (ops : List Oper) (b : List Nat) : List Oper → Nat → Bool
  | [], _ => true
  | o :: os, i => match allOrdered ops b i (tmpsOf o.op.operands.toList) with
    | false => false
    | true => match edgesOK i o.after.toList with
      | false => false
      | true => match o.guard with
        | none => chkOps ops b os (i + 1)
        | some (g, _) => match Nat.blt g i with
          | false => false
          | true => match (b.getD i 0).testBit g with
            | true => chkOps ops b os (i + 1)
            | false => false
def noSel : List Oper → Bool
  | [] => true
  | o :: os => match o.op with
    | .select _ _ => false
    | _ => noSel os
theorem noSel_spec : ∀ {os : List Oper}, noSel os = true → ∀ (i : Nat) (o : Oper), os[i]? = some o → ∀ cs bl, o.op ≠ .select cs bl
  | [], _, i, o, h => by simp at h
  | p :: os, hn, i, o, h => by
    simp only [noSel] at hn
    split at hn
    · cases hn
    · rename_i hns
      cases i with
      | zero =>
        have : p = o := by simpa using h
        subst this
        exact fun cs bl e => hns cs bl e
      | succ i => exact noSel_spec hn i o (by simpa using h)
def chk (ops : List Oper) : Bool := match nodupB (dsts ops) with
  | true => match noSel ops with
    | true => chkOps ops (masks ops []) ops 0
    | false => false
  | false => false
theorem chk_nodup {ops : List Oper} (h : chk ops = true) : nodupB (dsts ops) = true := by
  unfold chk at h
  split at h
  · assumption
  · cases h
theorem chk_sel {ops : List Oper} (h : chk ops = true) : noSel ops = true := by
  unfold chk at h
  split at h
  · split at h
    · assumption
    · cases h
  · cases h
theorem chk_ops {ops : List Oper} (h : chk ops = true) : chkOps ops (masks ops []) ops 0 = true := by
  unfold chk at h
  split at h
  · split at h
    · exact h
    · cases h
  · cases h

theorem orderedB_spec {b : List Nat} {i t : Nat} : ∀ {os : List Oper} {k : Nat}, orderedB b i t os k = true → ∀ m o, os[m]? = some o → o.dst = some t → k + m ≠ i →
    (k + m < i ∧ (b.getD i 0).testBit (k + m) = true) ∨ (i < k + m ∧ (b.getD (k + m) 0).testBit i = true)
  | [], k, _, m, o, h, _, _ => by simp at h
  | p :: os, k, hB, m, o, h, hd, hne => by
    have rec' : orderedB b i t os (k + 1) = true → ∀ m', m = m' + 1 → (k + m < i ∧ (b.getD i 0).testBit (k + m) = true) ∨ (i < k + m ∧ (b.getD (k + m) 0).testBit i = true) := by
      rintro hr m' rfl
      have := orderedB_spec hr m' o (by simpa using h) hd (by omega)
      rw [show k + (m' + 1) = k + 1 + m' by omega]
      exact this
    cases m with
    | succ m' =>
      refine rec' ?_ m' rfl
      simp only [orderedB] at hB
      split at hB
      · exact hB
      · split at hB
        · exact hB
        · split at hB
          · exact hB
          · split at hB
            · exact hB
            · cases hB
    | zero =>
      have : p = o := by simpa using h
      subst this
      simp only [orderedB, hd, Nat.beq_refl, Nat.add_zero] at hB ⊢
      have hbk : Nat.beq k i = false := by
        cases hb : Nat.beq k i with
        | false => rfl
        | true => exact absurd (Nat.eq_of_beq_eq_true hb) (by simpa using hne)
      rw [hbk] at hB
      simp only at hB
      split at hB
      · rename_i hx
        cases hlt : Nat.blt k i with
        | true => rw [hlt] at hx; exact .inl ⟨Nat.le_of_ble_eq_true hlt, hx⟩
        | false =>
          rw [hlt] at hx
          refine .inr ⟨?_, hx⟩
          have hnot : ¬ k < i := fun hc => by
            have := Nat.ble_eq_true_of_le (show k + 1 ≤ i from hc)
            unfold Nat.blt at hlt
            rw [show k.succ = k + 1 from rfl] at hlt
            rw [this] at hlt; cases hlt
          have : k ≠ i := by simpa using hne
          omega
      · cases hB

theorem allOrdered_spec {ops : List Oper} {b : List Nat} {i : Nat} : ∀ {ts : List Nat}, allOrdered ops b i ts = true → ∀ t ∈ ts, orderedB b i t ops 0 = true
  | [], _, t, h => by simp at h
  | s :: ts, hB, t, h => by
    simp only [allOrdered] at hB
    split at hB
    · rename_i hs
      rcases List.mem_cons.1 h with rfl | h
      · exact hs
      · exact allOrdered_spec hB t h
    · cases hB
theorem edgesOK_spec {i : Nat} : ∀ {es : List Edge}, edgesOK i es = true → ∀ e ∈ es, bindsB e = true → e.on < i
  | [], _, e, h => by simp at h
  | d :: es, hB, e, h => by
    simp only [edgesOK] at hB
    intro hb
    rcases List.mem_cons.1 h with rfl | h
    · rw [hb] at hB
      simp only at hB
      split at hB
      · rename_i hlt; exact Nat.le_of_ble_eq_true hlt
      · cases hB
    · split at hB
      · split at hB
        · exact edgesOK_spec hB e h hb
        · cases hB
      · exact edgesOK_spec hB e h hb
theorem chkOps_spec {ops : List Oper} {b : List Nat} : ∀ {os : List Oper} {k : Nat}, chkOps ops b os k = true → ∀ m o, os[m]? = some o →
    (∀ t ∈ tmpsOf o.op.operands.toList, orderedB b (k + m) t ops 0 = true) ∧ (∀ e ∈ o.after.toList, bindsB e = true → e.on < k + m) ∧
    (∀ g want, o.guard = some (g, want) → g < k + m ∧ (b.getD (k + m) 0).testBit g = true)
  | [], k, _, m, o, h => by simp at h
  | p :: os, k, hB, m, o, h => by
    simp only [chkOps] at hB
    split at hB
    · cases hB
    · rename_i h1
      split at hB
      · cases hB
      · rename_i h2
        have hrest : chkOps ops b os (k + 1) = true := by
          split at hB
          · exact hB
          · split at hB
            · cases hB
            · split at hB
              · exact hB
              · cases hB
        cases m with
        | succ m' =>
          have := chkOps_spec hrest m' o (by simpa using h)
          rw [show k + (m' + 1) = k + 1 + m' by omega]
          exact this
        | zero =>
          have : p = o := by simpa using h
          subst this
          refine ⟨fun t ht => by simpa using allOrdered_spec h1 t ht, fun e he hb => by simpa using edgesOK_spec h2 e he hb, fun g want hg => ?_⟩
          rw [hg] at hB
          simp only at hB
          split at hB
          · cases hB
          · rename_i hlt
            split at hB
            · rename_i hb; exact ⟨by have := Nat.le_of_ble_eq_true hlt; omega, by simpa using hb⟩
            · cases hB
theorem nodupB_spec : ∀ {os : List Oper}, nodupB (dsts os) = true → ∀ (i j : Nat) (o p : Oper) (d : Nat), os[i]? = some o → os[j]? = some p → o.dst = some d → p.dst = some d → i = j
  | [], _, i, j, o, p, d, h, _, _, _ => by simp at h
  | q :: os, hB, i, j, o, p, d, hi, hj, ho, hp => by
    have mem : ∀ {os : List Oper} {k : Nat} {o : Oper}, os[k]? = some o → o.dst = some d → d ∈ dsts os := by
      intro os
      induction os with
      | nil => intro k o h; simp at h
      | cons r os ih =>
        intro k o h hd
        cases k with
        | zero => have : r = o := by simpa using h
                  subst this; simp [dsts, hd]
        | succ k =>
          have := ih (k := k) (by simpa using h) hd
          simp only [dsts]
          split
          · exact List.mem_cons_of_mem _ this
          · exact this
    cases i with
    | zero =>
      cases j with
      | zero => rfl
      | succ j =>
        have : q = o := by simpa using hi
        subst this
        have hm := mem (os := os) (k := j) (by simpa using hj) hp
        simp only [dsts, ho, nodupB] at hB
        rw [memB_iff.2 hm] at hB
        cases hB
    | succ i =>
      cases j with
      | zero =>
        have : q = p := by simpa using hj
        subst this
        have hm := mem (os := os) (k := i) (by simpa using hi) ho
        simp only [dsts, hp, nodupB] at hB
        rw [memB_iff.2 hm] at hB
        cases hB
      | succ j =>
        have hr : nodupB (dsts os) = true := by
          simp only [dsts] at hB
          split at hB
          · simp only [nodupB] at hB
            split at hB
            · cases hB
            · exact hB
          · exact hB
        have := nodupB_spec hr i j o p d (by simpa using hi) (by simpa using hj) ho hp
        omega

end Go.Hop
