/- What is proved here: an operation whose value is reckoned by 'qv' runs to that value, and leaves the world as it is. -/
import Derived.Test.YtompaigbpfekhaaGreatDoorHopRun
import Derived.Laws.Strings
namespace Go.Hop

theorem bytes_toList (s : List UInt8) : (ByteArray.mk ⟨s⟩).toList = s := ByteArray.toList_eq _

section
variable {P : Program} {w : World} {tab : Tab} {E : Env} {ρ : Operand → Value}

theorem binInt_run {op : BinOp} {T : Nat} {k : IntKind} {m n : Int} {v : Value} (h : binInt op k m n = some v) : (binOp op T (.int k m) (.int k n)).run P w = .ok v w := by
  cases op <;> simp only [binInt] at h <;> first
    | (cases h; done)
    | (injection h with h; subst h; simp [binOp, Op.intArith, Op.intCmp, Op.intBits, bitsV]; done)

theorem binStr_run {op : BinOp} {T : Nat} {s t : List UInt8} {v : Value} (h : binStr op s t = some v) : (binOp op T (.string ⟨⟨s⟩⟩) (.string ⟨⟨t⟩⟩)).run P w = .ok v w := by
  cases op <;> simp only [binStr] at h <;> first
    | (cases h; done)
    | (injection h with h; subst h; simp [binOp, Op.stringOp]; done)

theorem eqGuard_run {op : BinOp} {T : Nat} {x y : Operand} {u v : Value} (h : (match u, v with | .nilIface, .nilIface => false | .agg _, .agg _ => false | _, _ => true) = true) :
    (eqGuard op T x y u v).run P w = .ok () w := by
  unfold eqGuard
  cases op <;> cases u <;> cases v <;> first | rfl | cases h

theorem binEq_run {op : BinOp} {T : Nat} {u v : Value} {b : Bool} {r : Value} (h : binEq op b = some r) (he : (Op.equal T u v).run P w = .ok b w)
    (hu : (match u, v with | .bool _, .bool _ => true | .pointer _, .pointer _ => true | .slice _ _ _, .slice _ _ _ => true | _, _ => false) = true) : (binOp op T u v).run P w = .ok r w := by
  cases op <;> simp only [binEq] at h <;> (try (cases h; done)) <;> injection h with h <;> subst h <;> cases u <;> cases v <;> first
    | (cases hu; done)
    | (simp [binOp, he]; done)

theorem equal_bool {d T : Nat} (h : (underlying T).run P w = .ok .bool w) (a b : Bool) : (Op.equalIn (d + 1) T (.bool a) (.bool b)).run P w = .ok (a == b) w := by
  rw [Op.equalIn]; simp only [Sem.run_bind, h, Result.andThen_ok]; rfl
theorem equal_ptr_nil {d T e : Nat} (h : (underlying T).run P w = .ok (.pointer e) w) (b : Option Addr) : (Op.equalIn (d + 1) T (.pointer none) (.pointer b)).run P w = .ok b.isNone w := by
  rw [Op.equalIn]; simp only [Sem.run_bind, h, Result.andThen_ok]; rfl
theorem equal_ptr_nil' {d T e : Nat} (h : (underlying T).run P w = .ok (.pointer e) w) (a : Addr) : (Op.equalIn (d + 1) T (.pointer (some a)) (.pointer none)).run P w = .ok false w := by
  rw [Op.equalIn]; simp only [Sem.run_bind, h, Result.andThen_ok]; rfl
theorem equal_slice_nil {d T e n c m k : Nat} (h : (underlying T).run P w = .ok (.slice e) w) (b : Option Addr) : (Op.equalIn (d + 1) T (.slice none n c) (.slice b m k)).run P w = .ok b.isNone w := by
  rw [Op.equalIn]; simp only [Sem.run_bind, h, Result.andThen_ok]; rfl
theorem equal_slice_nil' {d T e n c m k : Nat} (h : (underlying T).run P w = .ok (.slice e) w) (a : Addr) : (Op.equalIn (d + 1) T (.slice (some a) n c) (.slice none m k)).run P w = .ok false w := by
  rw [Op.equalIn]; simp only [Sem.run_bind, h, Result.andThen_ok]; rfl
theorem equal_is {T : Nat} {x y : Value} {b : Bool} (h : (Op.equalIn (9999 + 1) T x y).run P w = .ok b w) : (Op.equal T x y).run P w = .ok b w := h

theorem binV_run (ht : tab.OK P) {op : BinOp} {T : Nat} {u v r : Value} (h : binV tab op T u v = some r) : (binOp op T u v).run P w = .ok r w := by
  unfold binV at h
  split at h
  · rename_i k m k' n
    cases hk : ikEq k k' with
    | false => rw [hk] at h; cases h
    | true => rw [hk] at h; obtain rfl := ikEq_eq hk; exact binInt_run h
  · exact binStr_run h
  · split at h
    · rename_i e; exact binEq_run h (equal_is (equal_bool (ht.get e).run_underlying _ _)) rfl
    · cases h
  · split at h
    · rename_i e; exact binEq_run h (equal_is (equal_ptr_nil (ht.get e).run_underlying _)) rfl
    · cases h
  · split at h
    · rename_i e; exact binEq_run h (equal_is (equal_ptr_nil' (ht.get e).run_underlying _)) rfl
    · cases h
  · split at h
    · rename_i e; exact binEq_run h (equal_is (equal_slice_nil (ht.get e).run_underlying _)) rfl
    · cases h
  · split at h
    · rename_i e; exact binEq_run h (equal_is (equal_slice_nil' (ht.get e).run_underlying _)) rfl
    · cases h
  · cases h

theorem binV_guard {op : BinOp} {T : Nat} {x y : Operand} {u v r : Value} (h : binV tab op T u v = some r) : (eqGuard op T x y u v).run P w = .ok () w := by
  refine eqGuard_run ?_
  cases u <;> cases v <;> first | rfl | (simp [binV] at h; done)

theorem unV_run {op : UnOp} {u r : Value} (h : unV op u = some r) : (Op.unary op u).run P w = .ok r w := by
  unfold unV at h
  split at h
  · injection h with h; subst h; rfl
  · injection h with h; subst h; rfl
  · injection h with h; subst h; simp [Op.unary, Op.intBits, bitsV]
  · cases h

theorem convV_run (ht : tab.OK P) {src dst : Nat} {u r : Value} (h : convV tab src dst u = some r) : (convert src dst u).run P w = .ok r w := by
  unfold convV at h
  split at h
  · rename_i e1 k _ _ _ _ n h1 h2
    injection h with h; subst h
    have t1 := ht.get h1
    have t2 := ht.get h2
    simp only [convert, Sem.run_bind, t1.run_underlying, t2.run_underlying, Result.andThen_ok]
    cases e1.desc <;> simp [Conv.intToInt]
  · rename_i e1 _ _ _ s h1 h2
    injection h with h; subst h
    have t1 := ht.get h1
    have t2 := ht.get h2
    simp only [convert, Sem.run_bind, t1.run_underlying, t2.run_underlying, Result.andThen_ok]
    cases e1.desc <;> simp
  · cases h

theorem addr_add {b o n : Nat} : (⟨b, o, none⟩ : Addr).add n = ⟨b, o + n, none⟩ := by
  unfold Addr.add
  split
  · rename_i h; subst h; rfl
  · rfl

theorem fieldV_run (ht : tab.OK P) {T : Nat} {u r : Value} {f : Nat} (h : fieldV tab T u f = some r) : (Instr.fieldAt T u f).run P w = .ok r w := by
  unfold fieldV at h
  split at h
  · rename_i fs _ _ _ b o h1
    have t1 := ht.get h1
    split at h
    · rename_i fd hf
      split at h
      · rename_i te hte
        have t2 := ht.get hte
        cases hb : Nat.beq te.size 0 with
        | true => rw [hb] at h; cases h
        | false =>
          rw [hb] at h
          injection h with h; subst h
          have hne : te.size ≠ 0 := fun e => by rw [e] at hb; cases hb
          simp [Instr.fieldAt, t1.run_underlying, hf, Instr.sureAddr, fieldPlace, t2.run_sizeOf, hne, addr_add]
      · cases h
    · cases h
  · cases h

theorem lenV_run (ht : tab.OK P) {tys : Array Nat} {T' : Nat} {u r : Value} (h : lenV tab tys[0]? u = some r) : (Builtin.len_ tys T' #[u]).run P w = .ok r w := by
  unfold lenV at h
  split at h
  · cases h
  · rename_i T hT
    split at h
    · rename_i s h1
      injection h with h; subst h
      simp only [Builtin.len_, hT, List.getElem?_toArray, List.getElem?_cons_zero, Sem.run_bind, (ht.get h1).run_underlying, Result.andThen_ok]; rfl
    · rename_i n _ h1
      injection h with h; subst h
      simp only [Builtin.len_, hT, List.getElem?_toArray, List.getElem?_cons_zero, Sem.run_bind, (ht.get h1).run_underlying, Result.andThen_ok]; rfl
    · cases h

theorem evs_map (ha : Agr E ρ) : ∀ {xs : List Operand} {vs : List Value}, evs E xs = some vs → xs.map ρ = vs
  | [], vs, h => by cases h; rfl
  | x :: xs, vs, h => by
    simp only [evs] at h
    cases hx : ev E x with
    | none => rw [hx] at h; cases h
    | some v =>
      rw [hx] at h
      simp only at h
      cases hr : evs E xs with
      | none => rw [hr] at h; cases h
      | some us =>
        rw [hr] at h
        cases h
        rw [List.map_cons, ha x v hx, evs_map ha hr]

theorem callV_run (ht : tab.OK P) (ha : Agr E ρ) {c : Call} {T : Nat} {r : Value} (h : callV tab E c = some r) : (do let d ← resolve ρ c T; invoke d.target d.args : Sem Next).run P w = .ok (.value r) w := by
  unfold callV at h
  split at h
  · rename_i x hc hargs
    split at h
    · rename_i v hx
      have hmap : c.args.map ρ = #[v] := by rw [hargs]; simp [ha x v hx]
      simp only [resolve, hc, hmap, Sem.run_bind, Sem.run_pure, Result.andThen_ok, invoke, builtin]
      rw [lenV_run ht h]; rfl
    · cases h
  · rename_i x y hc hargs
    split at h
    · rename_i k m k' n hx hy
      injection h with h; subst h
      have hmap : c.args.map ρ = #[.int k m, .int k' n] := by rw [hargs]; simp [ha _ _ hx, ha _ _ hy]
      simp [resolve, hc, hmap, invoke, builtin, Builtin.min_, Builtin.min2]
    · cases h
  · rename_i x y hc hargs
    split at h
    · rename_i k m k' n hx hy
      injection h with h; subst h
      have hmap : c.args.map ρ = #[.int k m, .int k' n] := by rw [hargs]; simp [ha _ _ hx, ha _ _ hy]
      simp [resolve, hc, hmap, invoke, builtin, Builtin.max_, Builtin.max2]
    · cases h
  · cases h

theorem layAt_len : ∀ {cs : List Value} {i : Nat} {vs r : List Value}, layAt cs i vs = some r → i + vs.length ≤ cs.length ∧ r.length = cs.length ∧ ∀ j, r[j]? = if i ≤ j ∧ j < i + vs.length then vs[j - i]? else cs[j]?
  | cs, 0, [], r, h => by
    have : r = cs := by cases cs <;> (cases h; rfl)
    subst this
    exact ⟨by simp, rfl, fun j => by rw [if_neg (by simp)]⟩
  | c :: cs, 0, v :: vs, r, h => by
    simp only [layAt] at h
    cases hr : layAt cs 0 vs with
    | none => rw [hr] at h; cases h
    | some q =>
      rw [hr] at h
      cases h
      obtain ⟨h1, h2, h3⟩ := layAt_len hr
      refine ⟨by simp at *; omega, by simp [h2], fun j => ?_⟩
      cases j with
      | zero => simp
      | succ j =>
        have := h3 j
        simp only [Nat.zero_le, true_and, Nat.zero_add, List.getElem?_cons_succ, List.length_cons, Nat.sub_zero] at this ⊢
        rw [this]
        by_cases hj : j < vs.length
        · rw [if_pos hj, if_pos (by omega)]
        · rw [if_neg hj, if_neg (by omega)]
  | c :: cs, i + 1, vs, r, h => by
    simp only [layAt] at h
    cases hr : layAt cs i vs with
    | none => rw [hr] at h; cases h
    | some q =>
      rw [hr] at h
      cases h
      obtain ⟨h1, h2, h3⟩ := layAt_len hr
      refine ⟨by simp; omega, by simp [h2], fun j => ?_⟩
      cases j with
      | zero => simp
      | succ j =>
        have := h3 j
        simp only [List.getElem?_cons_succ]
        rw [this]
        by_cases hj : i ≤ j ∧ j < i + vs.length
        · rw [if_pos hj, if_pos (by omega), show j + 1 - (i + 1) = j - i by omega]
        · rw [if_neg hj, if_neg (by omega)]
  | [], i + 1, vs, r, h => by cases vs <;> cases h
  | [], 0, v :: vs, r, h => by cases h

theorem foldl_lay (vs : List Value) : ∀ (cs : Array Value) (k off : Nat) (j : Nat), off + k + vs.length ≤ cs.size →
    ((vs.zipIdx k).foldl (fun (a : Array Value) (p : Value × Nat) => a.setIfInBounds (off + p.2) p.1) cs)[j]? = if off + k ≤ j ∧ j < off + k + vs.length then vs[j - (off + k)]? else cs[j]? := by
  induction vs with
  | nil => intro cs k off j _; simp; omega
  | cons v vs ih =>
    intro cs k off j h
    simp only [List.length_cons] at h
    rw [List.zipIdx_cons, List.foldl_cons, ih _ (k + 1) off j (by simp; omega)]
    simp only [Array.getElem?_setIfInBounds]
    by_cases e1 : off + k = j
    · subst e1
      rw [if_neg (by omega), if_pos rfl, if_pos (by omega), if_pos (by simp), Nat.sub_self]; rfl
    · by_cases e2 : off + (k + 1) ≤ j ∧ j < off + (k + 1) + vs.length
      · rw [if_pos e2, if_pos (by simp; omega), show j - (off + k) = (j - (off + (k + 1))) + 1 by omega, List.getElem?_cons_succ]
      · rw [if_neg e2, if_neg e1, if_neg (by simp; omega)]

theorem fill_lay {cs r : List Value} {off : Nat} {v : Value} (h : layAt cs off v.cells.toList = some r) :
    v.cells.zipIdx.foldl (fun (a : Array Value) (p : Value × Nat) => a.setIfInBounds (off + p.2) p.1) ⟨cs⟩ = ⟨r⟩ := by
  obtain ⟨h1, h2, h3⟩ := layAt_len h
  rw [← Array.foldl_toList, Array.toList_zipIdx]
  apply Array.ext_getElem?
  intro j
  rw [foldl_lay _ _ 0 off j (by simpa using h1)]
  simp only [Nat.add_zero]
  have := h3 j
  simp only [List.getElem?_toArray] at this ⊢
  rw [this]

theorem fill_run : ∀ {ps : List (Nat × Operand)} {pl : List (Nat × Nat)} {cs r : List Value}, Agr E ρ → fillV E pl ps cs = some r →
    Instr.fill ((⟨pl⟩ : Array (Nat × Nat))[·]?) ⟨cs⟩ (ps.map fun p => (p.1, ρ p.2)) = some ⟨r⟩
  | [], pl, cs, r, _, h => by cases h; rfl
  | (i, x) :: ps, pl, cs, r, ha, h => by
    simp only [fillV] at h
    split at h
    · rename_i off sz hp
      split at h
      · rename_i v hx
        cases hb : Nat.beq sz v.cells.toList.length with
        | false => rw [hb] at h; cases h
        | true =>
          rw [hb] at h
          simp only [cond_true] at h
          split at h
          · rename_i q hq
            have hs : v.cells.size = sz := by have := Nat.eq_of_beq_eq_true hb; simpa using this.symm
            have hl := (layAt_len hq).1
            rw [List.map_cons, Instr.fill]
            simp only [List.getElem?_toArray, hp, ha x v hx]
            rw [if_neg (by simp [hs]; simp at hl; omega), fill_lay hq]
            have := fill_run ha h
            simpa only [List.getElem?_toArray] using this
          · cases h
      · cases h
    · cases h

theorem places_run (ht : tab.OK P) : ∀ {fs : List Field} {pl : List (Nat × Nat)}, placesV tab fs = some pl →
    (fs.mapM fun f => (do pure (f.offset, ← sizeOf f.type) : Sem (Nat × Nat))).run P w = .ok pl w
  | [], pl, h => by cases h; rfl
  | f :: fs, pl, h => by
    simp only [placesV] at h
    split at h
    · rename_i te hte
      split at h
      · rename_i q hq
        cases h
        have := places_run ht hq
        simp only [List.mapM_cons, Sem.run_bind, (ht.get hte).run_sizeOf, Result.andThen_ok, Sem.run_pure] at this ⊢
        rw [this]
        rfl
      · cases h
    · cases h

theorem buildV_run (ht : tab.OK P) (ha : Agr E ρ) {T : Nat} {ps : Array (Nat × Operand)} {cs : List Value} (h : buildV tab E T ps.toList = some cs) :
    (Instr.build T (ps.map fun (i, x) => (i, ρ x))).run P w = .ok (.agg ⟨cs⟩) w := by
  unfold buildV at h
  split at h
  · rename_i fs _ z _ hT
    split at h
    · rename_i pl hpl
      have t1 := ht.get hT
      obtain ⟨zv, hz, hzc⟩ := t1.run_zeroValue (w := w)
      have hpl' := places_run (w := w) ht hpl
      have hfill := fill_run ha h
      have hm : ((⟨fs⟩ : Array Field).mapM fun f => (do pure (f.offset, ← sizeOf f.type) : Sem (Nat × Nat))).run P w = .ok ⟨pl⟩ w := by
        rw [Array.mapM_eq_mapM_toList, Sem.run_map, hpl']; rfl
      have hzc' : zv.cells = ⟨z⟩ := by
        have : zv.cells.toList = z := hzc
        rw [← this]
      have hps : (ps.map fun (i, x) => (i, ρ x)).toList = ps.toList.map fun p => (p.1, ρ p.2) := by rw [Array.toList_map]
      simp only [Instr.build, Sem.run_bind, hz, Result.andThen_ok, t1.run_underlying, hm, hzc', hps, hfill, Sem.run_pure]
    · cases h
  · cases h

theorem extV_run {u r : Value} {i : Nat} (h : extV u i = some r) : (Instr.extract u i).run P w = .ok r w := by
  unfold extV at h
  split at h
  · rename_i vs
    simp [Instr.extract, h]
  · cases h

/-- THE RECKONED VALUE IS WHAT THE OPERATION COMES TO. -/
theorem qv_run (ht : tab.OK P) (ha : Agr E ρ) {o : Oper} {r : Value} (h : qv tab E o.op = some r) : (execOp ρ o).run P w = .ok (.value r) w := by
  obtain ⟨d, op, ty, pos, af, g⟩ := o
  simp only at h
  unfold qv at h
  cases op with
  | move x => simp only at h; simp [execOp, ha x r h]
  | assign x => simp only at h; simp [execOp, ha x r h]
  | pick c x y =>
    simp only at h
    split at h
    · rename_i hc; simp [execOp, ha _ _ hc, asBool, ha _ _ h]
    · rename_i hc; simp [execOp, ha _ _ hc, asBool, ha _ _ h]
    · cases h
  | binOp op T x y T' =>
    simp only at h
    split at h
    · rename_i u v hx hy
      simp only [execOp, ha _ _ hx, ha _ _ hy, Sem.run_bind, binV_guard h, binV_run ht h, Result.andThen_ok, Sem.run_pure]
    · cases h
  | unOp op T x =>
    simp only at h
    split at h
    · rename_i u hx
      simp only [execOp, ha _ _ hx, Sem.run_bind, unV_run h, Result.andThen_ok, Sem.run_pure]
    · cases h
  | convert src dst x =>
    simp only at h
    split at h
    · rename_i u hx
      simp only [execOp, ha _ _ hx, Sem.run_bind, convV_run ht h, Result.andThen_ok, Sem.run_pure]
    · cases h
  | fieldAddr T x f =>
    simp only at h
    split at h
    · rename_i u hx
      simp only [execOp, ha _ _ hx, Sem.run_bind, fieldV_run ht h, Result.andThen_ok, Sem.run_pure]
    · cases h
  | extract x i =>
    simp only at h
    split at h
    · rename_i u hx
      simp only [execOp, ha _ _ hx, Sem.run_bind, extV_run h, Result.andThen_ok, Sem.run_pure]
    · cases h
  | nilCheck x =>
    simp only at h
    split at h
    · rename_i u hx
      unfold nilV at h
      split at h
      · injection h with h; subst h; simp [execOp, ha _ _ hx]
      · injection h with h; subst h; simp [execOp, ha _ _ hx]
      · cases h
    · cases h
  | makeFunc fn f c =>
    simp only at h
    split at h
    · rename_i fi ca hf hc
      injection h with h; subst h
      have h1 : f.map ρ = ⟨fi⟩ := by rw [← evs_map ha hf, ← Array.toList_map]
      have h2 : c.map ρ = ⟨ca⟩ := by rw [← evs_map ha hc, ← Array.toList_map]
      simp [execOp, Instr.makeFunc, h1, h2]
    · cases h
  | makeInterface T x =>
    simp only at h
    split at h
    · rename_i u hx
      unfold ifaceV at h
      split at h
      · cases h
      · rename_i e hne hT
        injection h with h; subst h
        have t1 := ht.get hT
        simp only [execOp, ha _ _ hx, Instr.makeInterface, Sem.run_bind, t1.run_underlying, Result.andThen_ok]
        obtain ⟨ds, sz, z, by_⟩ := e
        cases ds <;> first
          | rfl
          | exact (hne _ _ _ _ rfl).elim
      · cases h
    · cases h
  | build T ps =>
    simp only at h
    split at h
    · rename_i cs hb
      injection h with h; subst h
      have := buildV_run (w := w) ht ha hb
      simp only [execOp, Sem.run_bind, this, Result.andThen_ok, Sem.run_pure]
    · cases h
  | call c =>
    simp only at h
    exact callV_run ht ha h
  | _ => cases h

end
end Go.Hop
