/- What is proved here: how a contract lifts to a row's statement. -/
import Derived.Test.YtompaigbpfekhaaGreatDoorSt0
import Derived.Test.YtompaigbpfekhaaGreatDoorSt2
import Derived.Test.YtompaigbpfekhaaGreatDoorSt4
import Derived.Test.YtompaigbpfekhaaGreatDoorSt5
import Derived.SizedLaws
import Derived.ChangeSame
import Derived.ChangeVars
import Derived.ChangeMaps5
import Derived.JoinedOf
import Derived.JoinedAt
import Derived.RowKit
import Derived.RowKit3
import Derived.RowKitTokens
import Derived.Lib.LaidU8
import Derived.Deep.Slices
namespace Go.Proofs.YtompaigbpfekhaaGreatDoor
open Go Go.Hop Go.ChangeShapes Go.WideShapes Go.ChangeAt Go.RowKit
open Go.ChangeMaps (open_string shut_string)
theorem returns_both {H : Type} {enc : TypeId × Value → H} {a : Assume} {C : Checked} {os : Os} {f : FuncId} {fn : Func} {s : ChangeSpec} {conds : List PathCond} {apart fresh handsOn again : Bool} {X : World → Array Value → Prop}
    (hX : ∀ (w w' : World) (args : Array Value), w.heap = w'.heap → X w args → X w' args)
    (own : ownKnob C.prog.godebug = none) (started : os.Started) (noInit : C.prog.inits.idxOf? f = none) (hfn : C.prog.funcs[f]? = some fn)
    (witness : ∃ (w : World) (tape : Tape) (i : Input), w.os = os ∧ (w.forCall tape i).Shaped C.prog ∧ i.vars = [] ∧ Input.okWide C.prog (w.forCall tape i) .any w.heap.size f i ∧
      ((s.pre enc C.prog fn conds apart (w.forCall tape i).memory i.args ∧ X (w.forCall tape i).memory i.args) ∧ sizedMet enc C.prog fn (OpenSpec.ofChange s) apart (w.forCall tape i).memory i.args) ∧ a.holds C.prog (lone (Frame.enter C.prog f i.args .normal) [] (w.forCall tape i)))
    (contract : ∀ (W : World) (base : Nat) (args : Array Value) (ds gs : List (DataW H)) (before : List MemPlace),
      (∀ (j : Nat) t v, fn.params[j]? = some t → args[j]? = some v → Value.okWide C.prog W .any base t v) →
      DataW.Whole enc C.prog fn.params.toList s.vars apart W args.toList ds gs before →
      conds.all (PathCond.test C.prog ⟨fn.params.toList, ds, s.plain.varTypes C.prog, gs⟩) = true →
      (DataW.weightsEach C.prog (fn.params.toList ++ s.plain.varTypes C.prog) (ds ++ gs)).all (· ≤ reachBytes) = true → X W args → W.ShapedOpen C.prog →
      Calls C.prog f args W fun e W' => ∃ v, e = .returned v ∧ s.post enc C.prog fn apart fresh handsOn again W args v W') :
    ReturnsInHanded a C os f .any (fun w args => (s.pre enc C.prog fn conds apart w args ∧ X w args) ∧ sizedMet enc C.prog fn (OpenSpec.ofChange s) apart w args) (s.post enc C.prog fn apart fresh handsOn again) := by
  refine returnsInHanded_of_calls own started noInit witness ?_
  intro w tape i _ hsh _ hok hpre _
  obtain ⟨_, _, _, fn', hfn', _, _, _, _, hval⟩ := hok
  have e : fn' = fn := Option.some.inj (hfn'.symm.trans hfn)
  subst e
  obtain ⟨⟨⟨ds, gs, before, hw, hc⟩, hx⟩, hz⟩ := hpre
  have hw' := DataW.Whole.of_heap (w' := w.forCall tape i) (by rfl) hw
  refine (contract (w.forCall tape i) w.heap.size i.args ds gs before hval hw' hc (hz.weights hw) (hX _ _ _ (by rfl) hx) hsh).mono fun e W' ⟨v, he, hp⟩ => ?_
  subst he
  exact ChangeSpec.post_blind hp

end Go.Proofs.YtompaigbpfekhaaGreatDoor
/- What is proved here: a world to start in. -/
namespace Go.Proofs.YtompaigbpfekhaaGreatDoor
open Go Go.Hop Go.ChangeShapes Go.WideShapes Go.ChangeAt Go.RowKit
/-- A start: the heap that the door's run leaves, and the pinned table. -/
noncomputable def startW (os : Os) : World :=
  let w0 := World.doorLaid Tryz.prog 600 os
  { w0 with heap := w0.heap.modify 2 fun
      | .cells _ t fz => .cells (Lib.firstTab.map (Value.int .u8)).toArray t fz
      | o => o }
end Go.Proofs.YtompaigbpfekhaaGreatDoor
/- What is proved here: data in memory that stays as it is: slices, and slices in slices, as trees of cells. -/
namespace Go.Hop
/-- A cell: a plain value, or a slice of elements of some cells each. -/
inductive Dt where
  | v (u : Value)
  | sl (els : List (List Dt))
/-- Cells hold data: what the slices lead to stays as it is. -/
inductive Rp : List Value → List Dt → Hp → Prop where
  | nil : Rp [] [] Hp.emp
  | one {u : Value} {cs : List Value} {ds : List Dt} {h : Hp} (hu : oneB u = true) (hr : Rp cs ds h) : Rp (u :: cs) (.v u :: ds) h
  | sl0 {a : Option Addr} {c : Nat} {cs : List Value} {ds : List Dt} {h : Hp} (hr : Rp cs ds h) : Rp (.slice a 0 c :: cs) (.sl [] :: ds) h
  | sl {b o n c k : Nat} {T : TypeId} {fz : Nat × Nat} {row inner : List Value} {els : List (List Dt)} {cs : List Value} {ds : List Dt} {h1 h2 : Hp}
      (hn : n = els.length) (h0 : 0 < n) (hcap : n ≤ c) (hk : ∀ e ∈ els, e.length = k) (hc : cut row o (n * k) = some inner) (hi : Rp inner els.flatten h1) (hr : Rp cs ds h2)
      (s1 : (Hp.one b true (.cells ⟨row⟩ T fz)).sep h1) (s2 : ((Hp.one b true (.cells ⟨row⟩ T fz)).join h1).sep h2) :
      Rp (.slice (some ⟨b, o, none⟩) n c :: cs) (.sl els :: ds) (((Hp.one b true (.cells ⟨row⟩ T fz)).join h1).join h2)
abbrev dat (cs : List Value) (ds : List Dt) : Assn := Rp cs ds
theorem Hp.sep_self_join {a b : Hp} (ha : a.sep a) (hb : b.sep b) (s : a.sep b) : (a.join b).sep (a.join b) :=
  (Hp.join_sep s).2 ⟨(Hp.sep_join s).2 ⟨ha, s⟩, (Hp.sep_join s).2 ⟨s.symm, hb⟩⟩
theorem Rp.pers {cs : List Value} {ds : List Dt} {h : Hp} (r : Rp cs ds h) : h.sep h := by
  induction r with
  | nil => exact Hp.emp_sep _
  | one _ _ ih => exact ih
  | sl0 _ ih => exact ih
  | sl _ _ _ _ _ _ _ s1 s2 ih1 ih2 => exact Hp.sep_self_join (Hp.sep_self_join (Pers.im _ _ _ rfl) ih1 s1) ih2 s2
theorem dat_pers {cs : List Value} {ds : List Dt} : Pers (dat cs ds) := fun _ r => r.pers
theorem Rp.len {cs : List Value} {ds : List Dt} {h : Hp} (r : Rp cs ds h) : cs.length = ds.length := by
  induction r with
  | nil => rfl
  | one _ _ ih => simp [ih]
  | sl0 _ ih => simp [ih]
  | sl _ _ _ _ _ _ _ _ _ _ ih2 => simp [ih2]
theorem Rp.allOne {cs : List Value} {ds : List Dt} {h : Hp} (r : Rp cs ds h) : allOne cs = true := by
  induction r with
  | nil => rfl
  | one hu _ ih => simp [Hop.allOne, hu, ih]
  | sl0 _ ih => simp [Hop.allOne, oneB, ih]
  | sl _ _ _ _ _ _ _ _ _ _ ih2 => simp [Hop.allOne, oneB, ih2]
theorem Rp.append {c1 : List Value} {d1 : List Dt} {h1 : Hp} (r : Rp c1 d1 h1) : ∀ {c2 : List Value} {d2 : List Dt} {h2 : Hp}, Rp c2 d2 h2 → h1.sep h2 → Rp (c1 ++ c2) (d1 ++ d2) (h1.join h2) := by
  induction r with
  | nil => intro c2 d2 h2 r2 _; rw [Hp.emp_join]; exact r2
  | one hu _ ih => intro c2 d2 h2 r2 s; exact .one hu (ih r2 s)
  | sl0 _ ih => intro c2 d2 h2 r2 s; exact .sl0 (ih r2 s)
  | sl hn h0 hcap hk hc hi hr s1 s2 ih1 ih2 =>
    intro c2 d2 h2 r2 s
    obtain ⟨sa, sb⟩ := (Hp.join_sep s2).1 s
    have := ih2 r2 sb
    rw [Hp.join_assoc]
    exact .sl hn h0 hcap hk hc hi this s1 ((Hp.sep_join sb).2 ⟨s2, sa⟩)
theorem Rp.split : ∀ {d1 : List Dt} {cs : List Value} {d2 : List Dt} {h : Hp}, Rp cs (d1 ++ d2) h → ∃ c1 c2 h1 h2, cs = c1 ++ c2 ∧ Rp c1 d1 h1 ∧ Rp c2 d2 h2 ∧ h1.sep h2 ∧ h = h1.join h2
  | [], cs, d2, h, r => ⟨[], cs, Hp.emp, h, rfl, .nil, r, Hp.emp_sep _, rfl⟩
  | d :: d1, cs, d2, h, r => by
    rw [List.cons_append] at r
    cases r with
    | one hu hr =>
      obtain ⟨c1, c2, h1, h2, rfl, r1, r2, s, rfl⟩ := Rp.split hr
      exact ⟨_ :: c1, c2, h1, h2, rfl, .one hu r1, r2, s, rfl⟩
    | sl0 hr =>
      obtain ⟨c1, c2, h1, h2, rfl, r1, r2, s, rfl⟩ := Rp.split hr
      exact ⟨_ :: c1, c2, h1, h2, rfl, .sl0 r1, r2, s, rfl⟩
    | sl hn h0 hcap hk hc hi hr s1 s2 =>
      obtain ⟨c1, c2, h1, h2, rfl, r1, r2, s, rfl⟩ := Rp.split hr
      obtain ⟨sa, sb⟩ := (Hp.sep_join s).1 s2
      exact ⟨_ :: c1, c2, _, h2, rfl, .sl hn h0 hcap hk hc hi r1 s1 sa, r2, (Hp.join_sep sa).2 ⟨sb, s⟩, (Hp.join_assoc _ _ _).symm⟩

section
variable {σ : Sg} {w : World} {L : List Assn} {cs c1 c2 : List Value} {ds d1 d2 : List Dt} {a : Option Addr} {n c k : Nat} {els : List (List Dt)}
theorem dat_dup (H : Holds σ w (dat cs ds :: L)) : Holds σ w (dat cs ds :: dat cs ds :: L) := H.dup dat_pers
theorem dat_app (H : Holds σ w (dat c1 d1 :: dat c2 d2 :: L)) : Holds σ w (dat (c1 ++ c2) (d1 ++ d2) :: L) := by
  obtain ⟨h, ⟨g1, g2, ha, ⟨g3, g4, hb, hl, s34, rfl⟩, s12, rfl⟩, k⟩ := H.heap
  obtain ⟨s13, s14⟩ := (Hp.sep_join s34).1 s12
  exact ⟨H.os, H.output, H.tape, _, ⟨g1.join g3, g4, Rp.append ha hb s13, hl, (Hp.join_sep s13).2 ⟨s14, s34⟩, (Hp.join_assoc _ _ _).symm⟩, k⟩
theorem dat_split (H : Holds σ w (dat cs (d1 ++ d2) :: L)) : ∃ c1 c2, cs = c1 ++ c2 ∧ c1.length = d1.length ∧ c2.length = d2.length ∧ Holds σ w (dat c1 d1 :: dat c2 d2 :: L) := by
  obtain ⟨h, ⟨g1, g2, ha, hl, s12, rfl⟩, k⟩ := H.heap
  obtain ⟨c1, c2, h1, h2, rfl, r1, r2, s, rfl⟩ := Rp.split ha
  obtain ⟨sa, sb⟩ := (Hp.join_sep s).1 s12
  exact ⟨c1, c2, rfl, r1.len, r2.len, H.os, H.output, H.tape, _, ⟨h1, h2.join g2, r1, ⟨h2, g2, r2, hl, sb, rfl⟩, (Hp.sep_join sb).2 ⟨s, sa⟩, Hp.join_assoc _ _ _⟩, k⟩
theorem dat_len (H : Holds σ w (dat cs ds :: L)) : cs.length = ds.length := by
  obtain ⟨h, ⟨g1, g2, ha, hl, s12, rfl⟩, k⟩ := H.heap
  exact ha.len
theorem dat_one (H : Holds σ w (dat cs ds :: L)) : allOne cs = true := by
  obtain ⟨h, ⟨g1, g2, ha, hl, s12, rfl⟩, k⟩ := H.heap
  exact ha.allOne
theorem dat_nil (H : Holds σ w L) : Holds σ w (dat [] [] :: L) := by
  obtain ⟨h, hs, k⟩ := H.heap
  exact ⟨H.os, H.output, H.tape, h, ⟨Hp.emp, h, .nil, hs, Hp.emp_sep h, rfl⟩, k⟩
/-- Plain cells at the front. -/
theorem dat_v {u : Value} (H : Holds σ w (dat cs (.v u :: ds) :: L)) : ∃ c2, cs = u :: c2 ∧ oneB u = true ∧ Holds σ w (dat c2 ds :: L) := by
  obtain ⟨h, ⟨g1, g2, ha, hl, s12, rfl⟩, k⟩ := H.heap
  cases ha with
  | one hu hr => exact ⟨_, rfl, hu, H.os, H.output, H.tape, _, ⟨_, g2, hr, hl, s12, rfl⟩, k⟩
theorem dat_push {u : Value} (hu : oneB u = true) (H : Holds σ w (dat cs ds :: L)) : Holds σ w (dat (u :: cs) (.v u :: ds) :: L) := H.weaken fun _ r => .one hu r
/-- All cells are plain. -/
def plain : List Dt → Option (List Value)
  | [] => some []
  | .v u :: ds => match plain ds with
    | some r => some (u :: r)
    | none => none
  | .sl _ :: _ => none
theorem Rp.plain_eq {cs : List Value} {ds : List Dt} {h : Hp} (r : Rp cs ds h) : ∀ {vs : List Value}, plain ds = some vs → cs = vs := by
  induction r with
  | nil => intro vs e; cases e; rfl
  | @one u cs ds h hu hr ih =>
    intro vs e
    simp only [plain] at e
    cases hp : plain ds with
    | none => rw [hp] at e; cases e
    | some q => rw [hp] at e; cases e; rw [ih hp]
  | sl0 => intro vs e; cases e
  | sl => intro vs e; cases e
theorem dat_plain {vs : List Value} (hp : plain ds = some vs) (H : Holds σ w (dat cs ds :: L)) : cs = vs := by
  obtain ⟨h, ⟨g1, g2, ha, hl, s12, rfl⟩, k⟩ := H.heap
  exact ha.plain_eq hp
theorem rp_plain : ∀ {vs : List Value} {ds : List Dt}, plain ds = some vs → allOne vs = true → Rp vs ds Hp.emp
  | vs, [], e, _ => by cases e; exact .nil
  | vs, .v u :: ds, e, h => by
    simp only [plain] at e
    cases hp : plain ds with
    | none => rw [hp] at e; cases e
    | some q =>
      rw [hp] at e; cases e
      simp only [allOne] at h
      split at h
      · rename_i hu; exact .one hu (rp_plain hp h)
      · cases h
  | vs, .sl _ :: ds, e, _ => by cases e
theorem dat_of_plain {vs : List Value} (hp : plain ds = some vs) (h1 : allOne vs = true) (H : Holds σ w L) : Holds σ w (dat vs ds :: L) := by
  obtain ⟨h, hs, k⟩ := H.heap
  exact ⟨H.os, H.output, H.tape, h, ⟨Hp.emp, h, rp_plain hp h1, hs, Hp.emp_sep h, rfl⟩, k⟩
/-- A slice's cell. -/
theorem dat_sl (H : Holds σ w (dat cs (.sl els :: ds) :: L)) : ∃ a c c2, cs = .slice a els.length c :: c2 ∧ els.length ≤ c ∧ Holds σ w (dat [.slice a els.length c] [.sl els] :: dat c2 ds :: L) := by
  obtain ⟨h, ⟨g1, g2, ha, hl, s12, rfl⟩, k⟩ := H.heap
  cases ha with
  | @sl0 a c cs ds h hr => exact ⟨a, c, cs, rfl, Nat.zero_le _, H.os, H.output, H.tape, _, ⟨Hp.emp, _, .sl0 .nil, ⟨_, g2, hr, hl, s12, rfl⟩, Hp.emp_sep _, rfl⟩, k⟩
  | @sl b o n c k' T fz row inner els cs ds h1 h2 hn h0 hcap hk hc hi hr s1 s2 =>
    subst hn
    obtain ⟨sa, sb⟩ := (Hp.join_sep s2).1 s12
    refine ⟨_, c, cs, rfl, hcap, H.os, H.output, H.tape, _, ⟨(Hp.one b true (.cells ⟨row⟩ T fz)).join h1, h2.join g2, ?_, ⟨h2, g2, hr, hl, sb, rfl⟩, (Hp.sep_join sb).2 ⟨s2, sa⟩, Hp.join_assoc _ _ _⟩, k⟩
    have := Rp.sl (b := b) (o := o) (c := c) (T := T) (fz := fz) rfl h0 hcap hk hc hi .nil s1 (Hp.sep_emp _)
    rwa [Hp.join_emp] at this
theorem dat_empty {c : Nat} (H : Holds σ w L) : Holds σ w (dat [.slice a 0 c] [.sl []] :: L) := by
  obtain ⟨h, hs, k⟩ := H.heap
  exact ⟨H.os, H.output, H.tape, h, ⟨Hp.emp, h, .sl0 .nil, hs, Hp.emp_sep h, rfl⟩, k⟩
theorem dat_cap (H : Holds σ w (dat [.slice a n c] [.sl els] :: L)) : n = els.length ∧ n ≤ c := by
  obtain ⟨h, ⟨g1, g2, ha, hl, s12, rfl⟩, k⟩ := H.heap
  cases ha with
  | sl0 hr => exact ⟨rfl, Nat.zero_le _⟩
  | sl hn h0 hcap hk hc hi hr s1 s2 => exact ⟨hn, hcap⟩
/-- A slice that is not empty: its row. -/
theorem dat_open (h0 : 0 < n) (H : Holds σ w (dat [.slice a n c] [.sl els] :: L)) :
    ∃ b o T row inner lo hi k, a = some ⟨b, o, none⟩ ∧ (∀ e ∈ els, e.length = k) ∧ cut row o (n * k) = some inner ∧ Holds σ w (rowG true b T row lo hi :: dat inner els.flatten :: L) := by
  obtain ⟨h, ⟨g1, g2, ha, hl, s12, rfl⟩, k⟩ := H.heap
  cases ha with
  | sl0 hr => omega
  | @sl b o n c k' T fz row inner els cs ds h1 h2 hn h0 hcap hk hc hi hr s1 s2 =>
    cases hr
    rw [Hp.join_emp] at s12 k
    obtain ⟨sa, sb⟩ := (Hp.join_sep s1).1 s12
    obtain ⟨lo, hi'⟩ := fz
    exact ⟨b, o, T, row, inner, lo, hi', k', rfl, hk, hc, H.os, H.output, H.tape, _, ⟨_, h1.join g2, rfl, ⟨h1, g2, hi, hl, sb, rfl⟩, (Hp.sep_join sb).2 ⟨s1, sa⟩, Hp.join_assoc _ _ _⟩, k⟩
theorem dat_close {b o : Nat} {T lo hi : Nat} {row inner : List Value} (hn : n = els.length) (h0 : 0 < n) (hcap : n ≤ c) (hk : ∀ e ∈ els, e.length = k) (hc : cut row o (n * k) = some inner)
    (H : Holds σ w (rowG true b T row lo hi :: dat inner els.flatten :: L)) : Holds σ w (dat [.slice (some ⟨b, o, none⟩) n c] [.sl els] :: L) := by
  obtain ⟨h, ⟨g1, g2, rfl, ⟨g3, g4, hb, hl, s34, rfl⟩, s12, rfl⟩, k⟩ := H.heap
  obtain ⟨s13, s14⟩ := (Hp.sep_join s34).1 s12
  have := Rp.sl (b := b) (o := o) (c := c) (T := T) (fz := (lo, hi)) hn h0 hcap hk hc hb .nil s13 (Hp.sep_emp _)
  rw [Hp.join_emp] at this
  exact ⟨H.os, H.output, H.tape, _, ⟨_, g4, this, hl, (Hp.join_sep s13).2 ⟨s14, s34⟩, (Hp.join_assoc _ _ _).symm⟩, k⟩

/-! places in rows -/
theorem cut_some {cs : List Value} {o m : Nat} (h : o + m ≤ cs.length) : cut cs o m = some ((cs.drop o).take m) := by
  induction cs generalizing o m with
  | nil =>
    have h1 : o = 0 := by simp at h; omega
    have h2 : m = 0 := by simp at h; omega
    subst h1; subst h2; rfl
  | cons c cs ih =>
    cases o with
    | zero =>
      cases m with
      | zero => rfl
      | succ m => simp only [cut]; rw [ih (by simp at h ⊢; omega)]; simp
    | succ o =>
      have : cut (c :: cs) (o + 1) m = cut cs o m := by cases m <;> rfl
      rw [this, ih (by simp at h ⊢; omega)]; simp
theorem cut_len {cs r : List Value} {o m : Nat} (h : cut cs o m = some r) : r.length = m := by
  obtain ⟨h1, rfl⟩ := cut_spec h
  rw [List.length_take, List.length_drop]; omega
theorem cut_cut {cs r : List Value} {o m p q : Nat} (h : cut cs o m = some r) (hq : p + q ≤ m) : cut cs (o + p) q = cut r p q := by
  obtain ⟨h1, rfl⟩ := cut_spec h
  rw [cut_some (by omega), cut_some (by rw [List.length_take, List.length_drop]; omega)]
  congr 1
  rw [List.drop_take, List.take_take, List.drop_drop, Nat.min_eq_left (by omega)]
theorem flat_len {α : Type} : ∀ {l : List (List α)} {k : Nat}, (∀ e ∈ l, e.length = k) → l.flatten.length = l.length * k
  | [], k, _ => by simp
  | x :: l, k, h => by
    rw [List.flatten_cons, List.length_append, h x (List.mem_cons_self ..), flat_len fun e he => h e (List.mem_cons_of_mem _ he), List.length_cons, Nat.succ_mul]; omega
theorem flat_take {α : Type} : ∀ {l : List (List α)} {k i : Nat}, (∀ e ∈ l, e.length = k) → l.flatten.take (i * k) = (l.take i).flatten ∧ l.flatten.drop (i * k) = (l.drop i).flatten
  | [], k, i, _ => by simp
  | x :: l, k, 0, h => by simp
  | x :: l, k, i + 1, h => by
    have hx := h x (List.mem_cons_self ..)
    obtain ⟨h1, h2⟩ := flat_take (l := l) (k := k) (i := i) fun e he => h e (List.mem_cons_of_mem _ he)
    rw [Nat.succ_mul, List.flatten_cons, List.take_succ_cons, List.drop_succ_cons, List.flatten_cons]
    constructor
    · rw [List.take_append, hx, List.take_of_length_le (by omega), show i * k + k - k = i * k by omega, h1]
    · rw [List.drop_append, hx, List.drop_of_length_le (by omega), show i * k + k - k = i * k by omega, h2]; rfl

/-- One element's cells. -/
theorem dat_at {inner : List Value} {i : Nat} (hk : ∀ e ∈ els, e.length = k) (hi : i < els.length) (H : Holds σ w (dat inner els.flatten :: L)) :
    ∃ r, cut inner (i * k) k = some r ∧ Holds σ w (dat r els[i] :: L) := by
  have e : els.flatten = (els.take i).flatten ++ (els[i] ++ (els.drop (i + 1)).flatten) := by
    conv => lhs; rw [← List.take_append_drop i els, List.flatten_append, List.drop_eq_getElem_cons hi, List.flatten_cons]
  rw [e] at H
  obtain ⟨c1, c2, rfl, l1, l2, H1⟩ := dat_split H
  obtain ⟨c3, c4, rfl, l3, l4, H2⟩ := dat_split (H1.drop)
  have lk : (els.take i).flatten.length = i * k := by
    rw [flat_len (k := k) fun e he => hk e (List.mem_of_mem_take he), List.length_take, Nat.min_eq_left (by omega)]
  have hki := hk _ (List.getElem_mem hi)
  refine ⟨c3, ?_, ?_⟩
  · rw [cut_some (by simp only [List.length_append]; omega)]
    congr 1
    rw [show i * k = c1.length by omega, List.drop_append_of_le_length (by omega), List.drop_of_length_le (by omega), List.nil_append, List.take_append_of_le_length (by omega), List.take_of_length_le (by omega)]
  · exact (H2.perm (.swap _ _ _)).drop
/-- A part of a slice. -/
theorem dat_sub {lo hi m : Nat} (hk : ∀ e ∈ els, e.length = k) (h1 : lo ≤ hi) (h2 : hi ≤ n) (h3 : hi ≤ m) (_h4 : m ≤ c) (H : Holds σ w (dat [.slice a n c] [.sl els] :: L)) :
    Holds σ w (dat [.slice (if m = lo then a else a.map (·.add (lo * k))) (hi - lo) (m - lo)] [.sl ((els.take hi).drop lo)] :: L) := by
  obtain ⟨hn, hcap⟩ := dat_cap H
  have hlen : ((els.take hi).drop lo).length = hi - lo := by rw [List.length_drop, List.length_take]; omega
  by_cases hz : hi = lo
  · have : (els.take hi).drop lo = [] := List.eq_nil_of_length_eq_zero (by omega)
    rw [this, show hi - lo = 0 by omega]
    exact dat_empty H.drop
  · obtain ⟨b, o, T, row, inner, l0, l1, k', rfl, hk', hc, H1⟩ := dat_open (by omega) H
    have ek : k' = k := by
      have h0 : 0 < els.length := by omega
      rw [← hk _ (List.getElem_mem h0), ← hk' _ (List.getElem_mem h0)]
    subst ek
    rw [if_neg (by omega)]
    simp only [Option.map_some, addr_add]
    have e : els.flatten = (els.take lo).flatten ++ (((els.take hi).drop lo).flatten ++ (els.drop hi).flatten) := by
      rw [← List.flatten_append, ← List.flatten_append]
      congr 1
      conv => lhs; rw [← List.take_append_drop hi els]
      rw [← List.append_assoc]
      congr 1
      conv => lhs; rw [← List.take_append_drop lo (els.take hi)]
      rw [List.take_take, Nat.min_eq_left h1]
    have H2 := H1.perm (.swap _ _ _)
    rw [e] at H2
    obtain ⟨c1, c2, rfl, q1, q2, H3⟩ := dat_split H2
    obtain ⟨c3, c4, rfl, q3, q4, H4⟩ := dat_split H3.drop
    have H5 := ((H4.perm (.swap _ _ _)).drop).perm (.swap _ _ _)
    have z1 : (els.take lo).flatten.length = lo * k' := by
      rw [flat_len (k := k') fun e he => hk e (List.mem_of_mem_take he), List.length_take, Nat.min_eq_left (by omega)]
    have z2 : ((els.take hi).drop lo).flatten.length = (hi - lo) * k' := by
      rw [flat_len (k := k') fun e he => hk e (List.mem_of_mem_take (List.mem_of_mem_drop he)), hlen]
    have z3 : lo * k' + (hi - lo) * k' = hi * k' := by rw [← Nat.add_mul]; congr 1; omega
    have z4 : hi * k' ≤ n * k' := Nat.mul_le_mul_right _ h2
    refine dat_close (k := k') (by omega) (by omega) (by omega) (fun e he => hk e (List.mem_of_mem_take (List.mem_of_mem_drop he))) ?_ H5
    rw [cut_cut hc (by omega), cut_some (by simp only [List.length_append]; omega)]
    congr 1
    rw [show lo * k' = c1.length by omega, List.drop_append_of_le_length (by omega), List.drop_of_length_le (by omega), List.nil_append, List.take_append_of_le_length (by omega), List.take_of_length_le (by omega)]
/-- What is owned becomes data for good. -/
theorem own_freeze {T : Nat} {v : Value} (hk : ∀ e ∈ els, e.length = k) (H : Holds σ w (Own T k v els.length cs :: dat cs els.flatten :: L)) : ∃ a c, v = .slice a els.length c ∧ Holds σ w (dat [.slice a els.length c] [.sl els] :: L) := by
  rcases own_open.1 H with ⟨rfl, h0, rfl, H1⟩ | ⟨b, cap, sp, rfl, h1, h2, h3, H1⟩
  · have : els = [] := List.eq_nil_of_length_eq_zero h0
    subst this
    exact ⟨none, 0, rfl, dat_empty H1.drop⟩
  · refine ⟨_, _, rfl, ?_⟩
    by_cases hz : els.length = 0
    · have : els = [] := List.eq_nil_of_length_eq_zero hz
      subst this
      exact dat_empty H1.drop.drop
    · refine dat_close (k := k) rfl (by omega) h1 hk ?_ (H1.freeze)
      rw [← h2, cut_some (by rw [List.length_append]; omega)]
      congr 1
      simp
/-- Plain elements: their row, and what lies at each place; the data stay. -/
theorem cut_at {α : Type} {f : α → List Value} {row : List Value} {l : List α} {o n i : Nat} (d : α) (hk : ∀ z, (f z).length = k) (hn : n = l.length) (hc : cut row o (n * k) = some (l.map f).flatten) (hi : i < l.length) : cut row (o + i * k) k = some (f (l.getD i d)) := by
  subst hn
  have h1 : (i + 1) * k ≤ l.length * k := Nat.mul_le_mul_right _ hi
  rw [Nat.succ_mul] at h1
  rw [cut_cut hc h1]
  have hall : ∀ e ∈ l.map f, e.length = k := fun e he => by obtain ⟨y, _, rfl⟩ := List.mem_map.1 he; exact hk y
  have hlen := flat_len hall
  rw [List.length_map] at hlen
  rw [cut_some (by omega), (flat_take hall).2, List.drop_eq_getElem_cons (by simpa using hi), List.flatten_cons]
  congr 1
  rw [List.getElem_map, List.take_append_of_le_length (by rw [hk]; omega), List.take_of_length_le (by rw [hk]; omega)]
  simp [List.getD, List.getElem?_eq_getElem hi]
theorem dat_rows {α : Type} {f : α → List Value} {dd : α → List Dt} {l : List α} (d : α) (hp : ∀ l : List α, plain (l.map dd).flatten = some (l.map f).flatten) (hk : ∀ z, (f z).length = k) (hd : ∀ z, (dd z).length = k) (h0 : 0 < n) (H : Holds σ w (dat [.slice a n c] [.sl (l.map dd)] :: L)) :
    ∃ b o T row lo hi, a = some ⟨b, o, none⟩ ∧ (∀ i, i < l.length → cut row (o + i * k) k = some (f (l.getD i d))) ∧ Holds σ w (rowG true b T row lo hi :: dat [.slice a n c] [.sl (l.map dd)] :: L) := by
  have hn := (dat_cap H).1
  rw [List.length_map] at hn
  obtain ⟨b, o, T, row, inner, lo, hi, k', ha, hk', hc, H1⟩ := dat_open h0 (dat_dup H)
  have ek : k' = k := by
    cases l with
    | nil => simp at hn; omega
    | cons z l => rw [← hk' (dd z) (by simp), hd z]
  subst ek
  have H2 := H1.perm (.swap _ _ _)
  have e := dat_plain (hp l) H2
  subst e
  exact ⟨b, o, T, row, lo, hi, ha, fun i h => cut_at d hk hn hc h, H2.drop⟩
end
end Go.Hop
/- What is proved here: an argument that is a slice of plain structs, read as data that stays as it is. -/
namespace Go.Hop
open Go.Proofs Go.RowKit
theorem plain_app : ∀ {d1 : List Dt} {v1 : List Value} {d2 : List Dt} {v2 : List Value}, plain d1 = some v1 → plain d2 = some v2 → plain (d1 ++ d2) = some (v1 ++ v2)
  | [], v1, d2, v2, h1, h2 => by cases h1; exact h2
  | .v u :: d1, v1, d2, v2, h1, h2 => by
    simp only [plain] at h1
    cases hp : plain d1 with
    | none => rw [hp] at h1; cases h1
    | some q => rw [hp] at h1; cases h1; simp only [List.cons_append, plain, plain_app hp h2]
  | .sl _ :: d1, v1, d2, v2, h1, _ => by cases h1
theorem plain_flat {α : Type} {f : α → List Value} {ds : α → List Dt} (hp : ∀ z, plain (ds z) = some (f z)) : ∀ l : List α, plain (l.map ds).flatten = some (l.map f).flatten
  | [] => rfl
  | z :: l => by simp only [List.map_cons, List.flatten_cons]; exact plain_app (hp z) (plain_flat hp l)
theorem allOne_app : ∀ {a b : List Value}, allOne a = true → allOne b = true → allOne (a ++ b) = true
  | [], _, _, h => h
  | u :: a, b, h1, h2 => by
    simp only [allOne] at h1
    split at h1
    · rename_i hu; simp only [List.cons_append, allOne, hu]; exact allOne_app h1 h2
    · cases h1
theorem allOne_flat {α : Type} {f : α → List Value} (h : ∀ z, allOne (f z) = true) : ∀ l : List α, allOne (l.map f).flatten = true
  | [] => rfl
  | z :: l => by simp only [List.map_cons, List.flatten_cons]; exact allOne_app (h z) (allOne_flat h l)
theorem flat_get {α : Type} {f : α → List Value} {k : Nat} (hk : ∀ z, (f z).length = k) : ∀ {l : List α} {i j : Nat} (hi : i < l.length), j < k → (l.map f).flatten[i * k + j]? = (f l[i])[j]?
  | z :: l, 0, j, _, hj => by
    simp only [List.map_cons, List.flatten_cons, Nat.zero_mul, Nat.zero_add, List.getElem_cons_zero]
    rw [List.getElem?_append_left (by rw [hk]; exact hj)]
  | z :: l, i + 1, j, hi, hj => by
    simp only [List.map_cons, List.flatten_cons, List.getElem_cons_succ]
    rw [List.getElem?_append_right (by rw [hk, Nat.succ_mul]; omega), hk, show (i + 1) * k + j - k = i * k + j by rw [Nat.succ_mul]; omega]
    exact flat_get hk (by simpa using hi) hj
section
variable {H : Type} {enc : TypeId × Value → H} {P : Program} {W : World} {base : Nat} {spare : Nat → Bool} {held : Bool}
theorem read_slice {α : Type} [Inhabited α] {k : Nat} (f : α → List Value) (ds : α → List Dt) (Q : α → DataW H → Prop) (hp : ∀ z, plain (ds z) = some (f z)) (h1 : ∀ z, allOne (f z) = true) (hf : ∀ z, (f z).length = k) (hd : ∀ z, (ds z).length = k) (hk0 : 0 < k)
    {t e : TypeId} (ht : P.underlying t = some (.slice e)) (hce : P.cellsOf e = k)
    (helem : ∀ n cs' y, DataW.trod enc P W base spare held n e cs' = some y → ∃ z, cs' = f z ∧ Q z y.1) {fuel : Nat} {cs : List Value} {x : DataW H × List MemPlace} (h : DataW.trod enc P W base spare held fuel t cs = some x) :
    ∃ (l : List α) (a : Option Addr) (c : Nat), cs = [.slice a l.length c] ∧ c ≤ maxLen ∧ l.length ≤ c ∧ (∀ z ∈ l, ∃ (y : DataW H) (els sp : List (DataW H)), x.1 = .slice els sp ∧ y ∈ els ∧ Q z y) ∧ ∀ (σ : Sg) (w : World) (L : List Assn), Holds σ w (Base W :: L) → Holds σ w (dat [.slice a l.length c] [.sl (l.map ds)] :: Base W :: L) := by
  rcases Deep.open_slice ht h with ⟨rfl, _⟩ | ⟨a, len, cap, m, n, D, Pl, rfl, hb, hl, hm, hmm, rfl, hx⟩
  · exact ⟨[], none, 0, rfl, by simp [maxLen], by simp, by simp, fun σ w L H => dat_empty H⟩
  have hlm : len ≤ m := by rw [hmm]; split <;> omega
  rw [hce] at hx
  obtain ⟨z, hz⟩ := Deep.choose_lt (α := α) (p := fun i z => W.cells? base (a.add (i * k)) k = some (f z) ∧ Q z (D i)) (n := len) (fun i hi => by
    obtain ⟨cs', g1, g2⟩ := hx i (by omega)
    obtain ⟨z, rfl, q⟩ := helem _ _ _ g2
    exact ⟨z, g1, q⟩)
  have hll : ((List.range len).map z).length = len := by simp
  refine ⟨(List.range len).map z, some a, cap, by rw [hll], hm, by rw [hll]; exact hl, fun y hy => ?_, fun σ w L HH => ?_⟩
  · obtain ⟨i, hi, rfl⟩ := List.mem_map.1 hy
    exact ⟨D i, _, _, rfl, List.mem_map.2 ⟨i, hi, rfl⟩, (hz i (List.mem_range.1 hi)).2⟩
  rw [hll]
  have hcell : ∀ i j, i < len → j < k → W.cell? (a.add (i * k + j)) = (f (z i))[j]? := fun i j hi hj => by
    obtain ⟨_, _, q⟩ := World.cells?_some (hz i hi).1
    rw [← q j hj, Deep.add_add]
  rcases Nat.eq_zero_or_pos len with h0 | h0
  · subst h0; exact dat_empty HH
  have c00 := hcell 0 0 h0 hk0
  rw [List.getElem?_eq_getElem (by rw [hf]; exact hk0)] at c00
  obtain ⟨arr, T, lo, hi', hblk, hspot⟩ : ∃ arr T lo hi, W.heap[a.block]? = some (.cells arr T (lo, hi)) ∧ a.spot = none := by
    have e0 : a.add (0 * k + 0) = a := by simp [Addr.add]
    rw [e0] at c00
    unfold World.cell? at c00
    split at c00
    · rename_i c T fz hb2
      obtain ⟨lo, hi⟩ := fz
      split at c00
      · cases c00
      · rename_i hs
        exact ⟨c, T, lo, hi, hb2, by simpa using hs⟩
    · cases c00
  obtain ⟨b, o, sp⟩ := a
  simp only at hspot hblk
  subst hspot
  have hcell2 : ∀ i j, i < len → j < k → arr.toList[o + (i * k + j)]? = (f (z i))[j]? := fun i j hi hj => by
    have := hcell i j hi hj
    rw [addr_add] at this
    simp only [World.cell?, hblk] at this
    simpa using this
  have hsz : o + len * k ≤ arr.toList.length := by
    have q := hcell2 (len - 1) (k - 1) (by omega) (by omega)
    rw [List.getElem?_eq_getElem (l := f (z (len - 1))) (by rw [hf]; omega)] at q
    have := (List.getElem?_eq_some_iff.1 q).1
    have e : (len - 1) * k + k = len * k := by rw [← Nat.succ_mul]; congr 1; omega
    omega
  have hinner : cut arr.toList o (len * k) = some (((List.range len).map z).map f).flatten := by
    rw [cut_some hsz]
    congr 1
    have hfl : ((((List.range len).map z).map f).flatten).length = len * k := by
      rw [flat_len (k := k) (fun e he => by obtain ⟨y, _, rfl⟩ := List.mem_map.1 he; exact hf y)]; simp
    apply List.ext_getElem?
    intro p
    by_cases hp2 : p < len * k
    · rw [List.getElem?_take_of_lt hp2, List.getElem?_drop]
      have hi : p / k < len := Nat.div_lt_of_lt_mul (by rw [Nat.mul_comm]; exact hp2)
      have hj : p % k < k := Nat.mod_lt _ hk0
      have hpe : p / k * k + p % k = p := Nat.div_add_mod' p k
      have := flat_get (f := f) hf (l := (List.range len).map z) (i := p / k) (j := p % k) (by simpa using hi) hj
      have q2 := hcell2 _ _ hi hj
      rw [hpe] at this q2
      rw [this, q2]
      simp
    · rw [List.getElem?_eq_none (by rw [List.length_take, List.length_drop]; omega), List.getElem?_eq_none (by omega)]
  have H1 := base_im HH hblk
  have H2 := dat_of_plain (plain_flat (ds := ds) hp ((List.range len).map z)) (allOne_flat h1 _) H1
  have H3 := H2.perm (.swap _ _ _)
  exact dat_close (k := k) (T := T) (lo := lo) (hi := hi') (row := arr.toList) (by simp) h0 hl (fun e he => by obtain ⟨y, _, rfl⟩ := List.mem_map.1 he; exact hd y) hinner H3
end
end Go.Hop
/- What is proved here: acts as lines, lines as acts, in plain Lean. -/
namespace Go.Hop

/-- An act. -/
structure ActL where
  k : Int
  a : Int
  b : Int
  n : Int
  s : List UInt8
instance : DecidableEq ActL := fun x y =>
  if h : x.k = y.k ∧ x.a = y.a ∧ x.b = y.b ∧ x.n = y.n ∧ x.s = y.s then .isTrue (by
    cases x; cases y; simp only at h; obtain ⟨rfl, rfl, rfl, rfl, rfl⟩ := h; rfl)
  else .isFalse (fun e => h (by subst e; exact ⟨rfl, rfl, rfl, rfl, rfl⟩))
abbrev ActL.cs (x : ActL) : List Value := [.int .i64 x.k, .int .i64 x.a, .int .i64 x.b, .int .i64 x.n, S x.s]
def zA : ActL := ⟨0, 0, 0, 0, []⟩
/-- How an act is written. -/
structure Frm where
  w : List UInt8
  k : Int
  f : List UInt8
abbrev Frm.cs (x : Frm) : List Value := [S x.w, .int .i64 x.k, S x.f]
def zF : Frm := ⟨[], 0, []⟩
def formsL : List Frm := [⟨[116, 105, 99, 107], 1, [97, 110]⟩, ⟨[100, 101, 108, 105, 118, 101, 114], 2, [110]⟩, ⟨[100, 114, 111, 112], 3, [110]⟩, ⟨[116, 119, 105, 99, 101], 4, [110]⟩, ⟨[99, 117, 116], 5, [97, 98]⟩,
  ⟨[104, 101, 97, 108], 6, [97, 98]⟩, ⟨[99, 114, 97, 115, 104], 7, [97, 110]⟩, ⟨[108, 101, 97, 100], 8, [97]⟩, ⟨[105, 110, 103, 101, 115, 116], 9, [97, 115, 110]⟩, ⟨[98, 97, 116, 99, 104], 10, [97]⟩,
  ⟨[115, 121, 110, 99], 11, [97]⟩, ⟨[115, 104, 97, 114, 100, 115], 12, [97, 110]⟩, ⟨[108, 111, 111, 107], 13, [97, 115]⟩]
def formsC : List Value := formsL.flatMap Frm.cs
def F (i : Nat) : Frm := formsL.getD i zF
theorem forms_at {i : Nat} (h : i < 13) : cut formsC (i * 3) 3 = some (F i).cs := by
  rcases i with _ | _ | _ | _ | _ | _ | _ | _ | _ | _ | _ | _ | _ | i
  all_goals first | rfl | (exfalso; omega)
theorem forms_ascii {i : Nat} (h : i < 13) : ∀ c ∈ (F i).f, c.toNat < 128 := by
  rcases i with _ | _ | _ | _ | _ | _ | _ | _ | _ | _ | _ | _ | _ | i
  all_goals first | (exfalso; omega) | (simp only [F, formsL]; decide)
theorem forms_len {i : Nat} (h : i < 13) : (F i).f.length ≤ 3 ∧ (F i).w.length ≤ 10 := by
  rcases i with _ | _ | _ | _ | _ | _ | _ | _ | _ | _ | _ | _ | _ | i
  all_goals first | (exfalso; omega) | (simp only [F, formsL]; decide)

/-- A word, put into a field. -/
def setF (x : ActL) (c : Int) (w : List UInt8) : Option ActL :=
  if c = 115 then (if w = [] then none else some { x with s := w }) else
  match numO w with
  | none => none
  | some n => some (if c = 97 then { x with a := n } else if c = 98 then { x with b := n } else { x with n := n })
def fillF : ActL → List UInt8 → List (List UInt8) → Option ActL
  | x, [], _ => some x
  | x, c :: cs, w :: ws => match setF x (c.toNat : Int) w with
    | some y => fillF y cs ws
    | none => none
  | _, _ :: _, [] => none
def readF (f : Frm) (l : List (List UInt8)) : Option ActL :=
  if l.getD 0 [] = f.w ∧ l.length = 1 + f.f.length then fillF ⟨f.k, 0, 0, 0, []⟩ f.f (l.drop 1) else none
def lineO (s : List UInt8) : Option ActL := if 10 ∈ s then none else formsL.findSome? fun f => readF f (spl 32 s)

theorem drop_getD {α : Type} {l : List α} {d : α} {i : Nat} (h : i < l.length) : l.drop i = l.getD i d :: l.drop (i + 1) := by
  rw [List.drop_eq_getElem_cons h]
  simp [List.getD, List.getElem?_eq_getElem h]
theorem getD_ascii {l : List UInt8} (h : ∀ c ∈ l, c.toNat < 128) (k : Nat) : (l.getD k 0).toNat < 128 := by
  rcases Nat.lt_or_ge k l.length with hk | hk
  · apply h
    simp [List.getD, List.getElem?_eq_getElem hk]
  · simp [List.getD, List.getElem?_eq_none hk]
theorem spl_pos {c : UInt8} {s : List UInt8} : 1 ≤ (spl c s).length := by
  rcases h : spl c s with _ | ⟨a, b⟩
  · exact absurd h spA_ne
  · simp
theorem spA_word {c : UInt8} : ∀ {l acc : List UInt8}, ∀ x ∈ spA c acc l, x.length ≤ acc.length + l.length
  | [], acc, x, h => by
    rw [spA, List.mem_singleton] at h
    subst h; simp
  | y :: l, acc, x, h => by
    rw [spA] at h
    split at h
    · rcases List.mem_cons.1 h with rfl | h
      · simp
      · have := spA_word x h
        simp at this ⊢; omega
    · have := spA_word x h
      simp at this ⊢; omega
theorem spl_word {c : UInt8} {s : List UInt8} {i : Nat} : ((spl c s).getD i []).length ≤ s.length := by
  rcases Nat.lt_or_ge i (spl c s).length with hk | hk
  · have hm : (spl c s).getD i [] ∈ spl c s := by simp [List.getD, List.getElem?_eq_getElem hk]
    have := spA_word (acc := []) _ hm
    simpa using this
  · simp [List.getD, List.getElem?_eq_none hk]
theorem fill_hit {x y : ActL} {f : List UInt8} {l : List (List UInt8)} {i j : Nat} {o : Option ActL} (inv : fillF x (f.drop i) (l.drop (1 + i)) = o) (hi : i < f.length) (hl : l.length = 1 + f.length) (hj : j = 1 + i)
    (h : setF x ((f.getD i 0).toNat : Int) (l.getD j []) = some y) : fillF y (f.drop (i + 1)) (l.drop (1 + (i + 1))) = o := by
  subst hj
  rw [drop_getD (d := 0) hi, drop_getD (d := []) (l := l) (by omega)] at inv
  simp only [fillF, h] at inv
  exact inv
theorem fill_miss {x : ActL} {f : List UInt8} {l : List (List UInt8)} {i j : Nat} {o : Option ActL} (inv : fillF x (f.drop i) (l.drop (1 + i)) = o) (hi : i < f.length) (hl : l.length = 1 + f.length) (hj : j = 1 + i)
    (h : setF x ((f.getD i 0).toNat : Int) (l.getD j []) = none) : o = none := by
  subst hj
  rw [drop_getD (d := 0) hi, drop_getD (d := []) (l := l) (by omega)] at inv
  simp only [fillF, h] at inv
  exact inv.symm
theorem fill_end {x : ActL} {f : List UInt8} {l : List (List UInt8)} {i : Nat} {o : Option ActL} (inv : fillF x (f.drop i) (l.drop (1 + i)) = o) (hi : ¬ i < f.length) : o = some x := by
  rw [List.drop_of_length_le (by omega)] at inv
  exact inv.symm
theorem find_hit {l : List (List UInt8)} : ∀ {fs : List Frm} {i : Nat} {x : ActL}, (∀ j, j < i → readF (fs.getD j zF) l = none) → i < fs.length → readF (fs.getD i zF) l = some x → fs.findSome? (fun f => readF f l) = some x
  | [], i, x, _, h, _ => by cases h
  | f :: fs, 0, x, _, _, h => by
    have : readF f l = some x := h
    simp [List.findSome?_cons, this]
  | f :: fs, i + 1, x, hb, hi, h => by
    have h0 : readF f l = none := hb 0 (by omega)
    simp only [List.findSome?_cons, h0]
    exact find_hit (fs := fs) (i := i) (fun j hj => hb (j + 1) (by omega)) (by simpa using hi) h
theorem find_none {l : List (List UInt8)} : ∀ {fs : List Frm}, (∀ j, j < fs.length → readF (fs.getD j zF) l = none) → fs.findSome? (fun f => readF f l) = none
  | [], _ => rfl
  | f :: fs, hb => by
    have h0 : readF f l = none := hb 0 (by simp)
    simp only [List.findSome?_cons, h0]
    exact find_none (fs := fs) fun j hj => hb (j + 1) (by simpa using hj)
theorem line_bad {s : List UInt8} (h : 10 ∈ s) : lineO s = none := by rw [lineO, if_pos h]
theorem line_hit {s : List UInt8} {i : Nat} {x : ActL} (h : ¬ 10 ∈ s) (hb : ∀ j, j < i → readF (F j) (spl 32 s) = none) (hi : i < 13) (hx : readF (F i) (spl 32 s) = some x) : lineO s = some x := by
  rw [lineO, if_neg h]; exact find_hit hb hi hx
theorem line_none {s : List UInt8} (h : ¬ 10 ∈ s) (hb : ∀ j, j < 13 → readF (F j) (spl 32 s) = none) : lineO s = none := by
  rw [lineO, if_neg h]; exact find_none hb

theorem fill_hit2 {x y : ActL} {f : List UInt8} {l : List (List UInt8)} {i m j : Nat} {o : Option ActL} (inv : fillF x (f.drop (i - 1)) (l.drop i) = o) (hi : 1 ≤ i ∧ i < l.length) (hl : l.length = 1 + f.length) (hj : m = i - 1 ∧ j = i)
    (h : setF x ((f.getD m 0).toNat : Int) (l.getD j []) = some y) : fillF y (f.drop (i + 1 - 1)) (l.drop (i + 1)) = o := by
  obtain ⟨rfl, rfl⟩ := hj
  obtain ⟨n, rfl⟩ : ∃ n, j = n + 1 := ⟨j - 1, by omega⟩
  simp only [Nat.add_sub_cancel] at inv h ⊢
  rw [drop_getD (d := 0) (l := f) (by omega), drop_getD (d := []) (l := l) hi.2] at inv
  simp only [fillF, h] at inv
  exact inv
theorem fill_miss2 {x : ActL} {f : List UInt8} {l : List (List UInt8)} {i m j : Nat} {o : Option ActL} (inv : fillF x (f.drop (i - 1)) (l.drop i) = o) (hi : 1 ≤ i ∧ i < l.length) (hl : l.length = 1 + f.length) (hj : m = i - 1 ∧ j = i)
    (h : setF x ((f.getD m 0).toNat : Int) (l.getD j []) = none) : o = none := by
  obtain ⟨rfl, rfl⟩ := hj
  obtain ⟨n, rfl⟩ : ∃ n, j = n + 1 := ⟨j - 1, by omega⟩
  simp only [Nat.add_sub_cancel] at inv h
  rw [drop_getD (d := 0) (l := f) (by omega), drop_getD (d := []) (l := l) hi.2] at inv
  simp only [fillF, h] at inv
  exact inv.symm
theorem fill_end2 {x : ActL} {f : List UInt8} {l : List (List UInt8)} {i : Nat} {o : Option ActL} (inv : fillF x (f.drop (i - 1)) (l.drop i) = o) (hi : f.length ≤ i - 1) : o = some x := by
  rw [List.drop_of_length_le hi] at inv
  exact inv.symm
/-! the document's own -/
theorem byte_eq {c : UInt8} {n : Nat} (hn : n < 256) (h : ((c.toNat : Nat) : Int) = n) : c = UInt8.ofNat n := by
  apply UInt8.toNat.inj
  rw [UInt8.toNat_ofNat']
  omega
theorem words_hit {s : List UInt8} {i p : Nat} {O : List (List UInt8)} {r : List (List UInt8)} (inv : O ++ spA 32 ((s.take i).drop p) (s.drop i) = r) (h : i < s.length) (hc : ((s.getD i 0).toNat : Int) = 32) :
    (O ++ [(s.take i).drop p]) ++ spA 32 ((s.take (i + 1)).drop (i + 1)) (s.drop (i + 1)) = r := by
  have h32 : s.getD i 0 = 32 := byte_eq (n := 32) (by omega) hc
  rw [drop_getD (d := 0) h, spA, if_pos h32] at inv
  rw [← inv, List.append_assoc]
  have : (s.take (i + 1)).drop (i + 1) = [] := by simp
  rw [this]; rfl
theorem words_miss {s : List UInt8} {i p : Nat} {O : List (List UInt8)} {r : List (List UInt8)} (inv : O ++ spA 32 ((s.take i).drop p) (s.drop i) = r) (h : i < s.length) (hp : p ≤ i) (hc : ¬ ((s.getD i 0).toNat : Int) = 32) :
    O ++ spA 32 ((s.take (i + 1)).drop p) (s.drop (i + 1)) = r := by
  have h32 : ¬ s.getD i 0 = 32 := fun e => hc (by rw [e]; rfl)
  rw [drop_getD (d := 0) h, spA, if_neg h32] at inv
  rw [← inv]
  congr 2
  have hg : s.getD i 0 = s[i] := by simp [List.getD, List.getElem?_eq_getElem h]
  rw [List.take_succ_eq_append_getElem h, List.drop_append_of_le_length (by simp; omega), hg]
theorem words_end {s : List UInt8} {i p : Nat} {O : List (List UInt8)} {r : List (List UInt8)} (inv : O ++ spA 32 ((s.take i).drop p) (s.drop i) = r) (h : ¬ i < s.length) : O ++ [s.drop p] = r := by
  rw [List.drop_of_length_le (l := s) (i := i) (by omega), List.take_of_length_le (by omega)] at inv
  exact inv
theorem len_snoc {α : Type} {O : List α} {x : α} : O.length + 1 = (O ++ [x]).length := by simp
theorem map_snoc {α β : Type} {f : α → β} {O : List α} {x : α} : O.map f ++ [f x] = (O ++ [x]).map f := by simp
theorem map_S_at2 {l : List (List UInt8)} {sp : List Value} {i : Nat} (h : i < l.length) : (l.map S ++ sp)[i]? = some (S (l.getD i [])) := by
  rw [List.getElem?_append_left (by simpa using h)]
  exact map_S_at h
def up (c : UInt8) : UInt8 := if c = 97 then 65 else if c = 98 then 66 else c
def upL (l : List UInt8) : List UInt8 := l.map up
theorem names_at {i : Nat} (h : i < 13) : (formsL.map fun f => S f.w)[i]? = some (S (F i).w) := by
  rw [List.getElem?_map, F, List.getD, List.getElem?_eq_getElem (show i < formsL.length from h)]; rfl
theorem kinds_at {i : Nat} (h : i < 13) : (formsL.map fun f => Value.int .i64 f.k)[i]? = some (.int .i64 (F i).k) := by
  rw [List.getElem?_map, F, List.getD, List.getElem?_eq_getElem (show i < formsL.length from h)]; rfl
theorem likes_at {i : Nat} (h : i < 13) : (formsL.map fun f => S (upL f.f))[i]? = some (S (upL (F i).f)) := by
  rw [List.getElem?_map, F, List.getD, List.getElem?_eq_getElem (show i < formsL.length from h)]; rfl
/-- What the document's table tells of a word. -/
def FormIs (w : List UInt8) (k : Int) (lk : List UInt8) : Prop :=
  (∃ i, i < 13 ∧ (F i).w = w ∧ k = (F i).k ∧ lk = upL (F i).f) ∨ (k = 0 ∧ lk = [] ∧ ∀ i, i < 13 → (F i).w ≠ w)
theorem forms_k {i : Nat} (h : i < 13) : 1 ≤ (F i).k ∧ (F i).k ≤ 13 := by
  rcases i with _ | _ | _ | _ | _ | _ | _ | _ | _ | _ | _ | _ | _ | i
  all_goals first | (exfalso; omega) | (simp only [F, formsL]; decide)
theorem forms_up {i : Nat} (h : i < 13) : ∀ c ∈ (F i).f, c ≠ 65 ∧ c ≠ 66 := by
  rcases i with _ | _ | _ | _ | _ | _ | _ | _ | _ | _ | _ | _ | _ | i
  all_goals first | (exfalso; omega) | (simp only [F, formsL]; decide)
theorem forms_inj {i j : Nat} (hi : i < 13) (hj : j < 13) (h : (F i).w = (F j).w) : i = j := by
  revert h
  have : ∀ i j : Fin 13, (F i.val).w = (F j.val).w → i.val = j.val := by decide
  exact this ⟨i, hi⟩ ⟨j, hj⟩
theorem upL_at {f : List UInt8} {m : Nat} (h : m < f.length) : (upL f).getD m 0 = up (f.getD m 0) := by
  simp [upL, List.getD, List.getElem?_eq_getElem h]
theorem upL_len {f : List UInt8} : (upL f).length = f.length := by simp [upL]
section
variable {x : ActL} {f : List UInt8} {w : List UInt8} {m : Nat}
theorem memD (hm : m < f.length) : f.getD m 0 ∈ f := by simp [List.getD, List.getElem?_eq_getElem hm]
theorem up_s (hm : m < f.length) (h : (((upL f).getD m 0).toNat : Int) = 115) : ((f.getD m 0).toNat : Int) = 115 := by
  have := byte_eq (n := 115) (by omega) h
  rw [upL_at hm, up] at this
  split at this
  · cases this
  · split at this
    · cases this
    · rw [this]; rfl
theorem up_s_not (hm : m < f.length) (h : ¬ (((upL f).getD m 0).toNat : Int) = 115) : ¬ ((f.getD m 0).toNat : Int) = 115 := by
  intro e
  have := byte_eq (n := 115) (by omega) e
  apply h
  rw [upL_at hm, this]; rfl
theorem up_a (hm : m < f.length) (hu : ∀ c ∈ f, c ≠ 65 ∧ c ≠ 66) (h : (((upL f).getD m 0).toNat : Int) = 65) : ((f.getD m 0).toNat : Int) = 97 := by
  have := byte_eq (n := 65) (by omega) h
  rw [upL_at hm, up] at this
  split at this
  · rename_i e; rw [e]; rfl
  · split at this
    · cases this
    · exact absurd this (hu _ (memD hm)).1
theorem up_b (hm : m < f.length) (hu : ∀ c ∈ f, c ≠ 65 ∧ c ≠ 66) (h : (((upL f).getD m 0).toNat : Int) = 66) : ((f.getD m 0).toNat : Int) = 98 := by
  have := byte_eq (n := 66) (by omega) h
  rw [upL_at hm, up] at this
  split at this
  · cases this
  · split at this
    · rename_i e; rw [e]; rfl
    · exact absurd this (hu _ (memD hm)).2
theorem up_a_not (hm : m < f.length) (h : ¬ (((upL f).getD m 0).toNat : Int) = 65) : ¬ ((f.getD m 0).toNat : Int) = 97 := by
  intro e
  have := byte_eq (n := 97) (by omega) e
  apply h
  rw [upL_at hm, this]; rfl
theorem up_b_not (hm : m < f.length) (h : ¬ (((upL f).getD m 0).toNat : Int) = 66) : ¬ ((f.getD m 0).toNat : Int) = 98 := by
  intro e
  have := byte_eq (n := 98) (by omega) e
  apply h
  rw [upL_at hm, this]; rfl
theorem set_s (hm : m < f.length) (h : (((upL f).getD m 0).toNat : Int) = 115) (hw : ¬ w = []) : setF x ((f.getD m 0).toNat : Int) w = some { x with s := w } := by
  rw [setF, if_pos (up_s hm h), if_neg hw]
theorem set_s0 (hm : m < f.length) (h : (((upL f).getD m 0).toNat : Int) = 115) (hw : w = []) : setF x ((f.getD m 0).toNat : Int) w = none := by
  rw [setF, if_pos (up_s hm h), if_pos hw]
theorem set_no (hm : m < f.length) (h : ¬ (((upL f).getD m 0).toNat : Int) = 115) (hw : numO w = none) : setF x ((f.getD m 0).toNat : Int) w = none := by
  rw [setF, if_neg (up_s_not hm h), hw]
theorem set_n {n : Int} (hm : m < f.length) (h : ¬ (((upL f).getD m 0).toNat : Int) = 115) (h1 : ¬ (((upL f).getD m 0).toNat : Int) = 65) (h2 : ¬ (((upL f).getD m 0).toNat : Int) = 66) (hw : numO w = some n) : setF x ((f.getD m 0).toNat : Int) w = some { x with n := n } := by
  rw [setF, if_neg (up_s_not hm h), hw]
  simp only
  rw [if_neg (up_a_not hm h1), if_neg (up_b_not hm h2)]
theorem set_a {n : Int} (hm : m < f.length) (hu : ∀ c ∈ f, c ≠ 65 ∧ c ≠ 66) (h : ¬ (((upL f).getD m 0).toNat : Int) = 115) (h1 : (((upL f).getD m 0).toNat : Int) = 65) (hw : numO w = some n) : setF x ((f.getD m 0).toNat : Int) w = some { x with a := n } := by
  rw [setF, if_neg (up_s_not hm h), hw]
  simp only
  rw [if_pos (up_a hm hu h1)]
theorem set_b {n : Int} (hm : m < f.length) (hu : ∀ c ∈ f, c ≠ 65 ∧ c ≠ 66) (h : ¬ (((upL f).getD m 0).toNat : Int) = 115) (h1 : ¬ (((upL f).getD m 0).toNat : Int) = 65) (h2 : (((upL f).getD m 0).toNat : Int) = 66) (hw : numO w = some n) : setF x ((f.getD m 0).toNat : Int) w = some { x with b := n } := by
  rw [setF, if_neg (up_s_not hm h), hw]
  simp only
  rw [if_neg (up_a_not hm h1), if_pos (up_b hm hu h2)]
end
theorem mem_nl {s : List UInt8} {i : Nat} (h : i < s.length) (hc : ((s.getD i 0).toNat : Int) = 10) : 10 ∈ s := by
  have := byte_eq (n := 10) (by omega) hc
  have hm : s.getD i 0 ∈ s := by simp [List.getD, List.getElem?_eq_getElem h]
  rw [this] at hm; exact hm
theorem nl_step {s : List UInt8} {i : Nat} (inv : 10 ∉ s.take i) (h : i < s.length) (hc : ¬ ((s.getD i 0).toNat : Int) = 10) : 10 ∉ s.take (i + 1) := by
  rw [List.take_succ_eq_append_getElem h, List.mem_append, List.mem_singleton]
  rintro (hh | hh)
  · exact inv hh
  · apply hc
    have hg : s.getD i 0 = s[i] := by simp [List.getD, List.getElem?_eq_getElem h]
    rw [hg, ← hh]; rfl
theorem nl_end {s : List UInt8} {i : Nat} (inv : 10 ∉ s.take i) (h : ¬ i < s.length) : ¬ 10 ∈ s := by
  rw [List.take_of_length_le (by omega)] at inv; exact inv
theorem FormIs.len {w lk : List UInt8} {k : Int} (h : FormIs w k lk) : lk.length ≤ 3 := by
  rcases h with ⟨i, hi, _, _, rfl⟩ | ⟨_, rfl, _⟩
  · rw [upL_len]; exact (forms_len hi).1
  · simp
/-- No form has this word. -/
theorem line_noform {s : List UInt8} (h : ¬ 10 ∈ s) (hf : ∀ i, i < 13 → (F i).w ≠ (spl 32 s).getD 0 []) : lineO s = none :=
  line_none h fun j hj => by rw [readF, if_neg (fun e => hf j hj e.1.symm)]
theorem line_form {s : List UInt8} {i : Nat} {o : Option ActL} (h : ¬ 10 ∈ s) (hi : i < 13) (hw : (F i).w = (spl 32 s).getD 0 []) (ho : readF (F i) (spl 32 s) = o) : lineO s = o := by
  have hb : ∀ j, j < 13 → j ≠ i → readF (F j) (spl 32 s) = none := fun j hj hne => by
    rw [readF, if_neg (fun e => hne (forms_inj hj hi (by rw [hw, e.1])))]
  cases o with
  | some x => exact line_hit h (fun j hj => hb j (by omega) (by omega)) hi ho
  | none =>
    refine line_none h fun j hj => ?_
    by_cases e : j = i
    · rw [e]; exact ho
    · exact hb j hj e
theorem readF_len {f : Frm} {l : List (List UInt8)} (h : ¬ l.length = 1 + f.f.length) : readF f l = none := by rw [readF, if_neg (fun e => h e.2)]
theorem readF_fill {f : Frm} {l : List (List UInt8)} (hw : f.w = l.getD 0 []) (h : l.length = 1 + f.f.length) : readF f l = fillF ⟨f.k, 0, 0, 0, []⟩ f.f (l.drop 1) := by rw [readF, if_pos ⟨hw.symm, h⟩]

/-! acts as lines -/
def fldT (x : ActL) (c : UInt8) : List UInt8 := if c = 97 then Lib.itoa x.a else if c = 98 then Lib.itoa x.b else if c = 115 then x.s else Lib.itoa x.n
def wordsT (fw ff : List UInt8) (x : ActL) : List (List UInt8) := fw :: ff.map (fldT x)
def showT (fw ff : List UInt8) (x : ActL) : List UInt8 := [32].intercalate (wordsT fw ff x)
/-- The line that is the act, or nothing. -/
def textO (x : ActL) : List UInt8 := (formsL.findSome? fun f => if f.k = x.k ∧ lineO (showT f.w f.f x) = some x then some (showT f.w f.f x) else none).getD []
theorem fld_a {x : ActL} {c : UInt8} (h : (c.toNat : Int) = 97) : fldT x c = Lib.itoa x.a := by
  have this : c = 97 := byte_eq (n := 97) (by omega) h
  rw [fldT, if_pos this]
theorem not_b {c : UInt8} {n : Nat} (h : ¬ (c.toNat : Int) = n) (d : UInt8) (hd : d.toNat = n) : ¬ c = d := fun e => h (by rw [e, hd])
theorem fld_b {x : ActL} {c : UInt8} (h1 : ¬ (c.toNat : Int) = 97) (h : (c.toNat : Int) = 98) : fldT x c = Lib.itoa x.b := by
  have this : c = 98 := byte_eq (n := 98) (by omega) h
  rw [fldT, if_neg (not_b h1 97 rfl), if_pos this]
theorem fld_s {x : ActL} {c : UInt8} (h1 : ¬ (c.toNat : Int) = 97) (h2 : ¬ (c.toNat : Int) = 98) (h : (c.toNat : Int) = 115) : fldT x c = x.s := by
  have this : c = 115 := byte_eq (n := 115) (by omega) h
  rw [fldT, if_neg (not_b h1 97 rfl), if_neg (not_b h2 98 rfl), if_pos this]
theorem fld_n {x : ActL} {c : UInt8} (h1 : ¬ (c.toNat : Int) = 97) (h2 : ¬ (c.toNat : Int) = 98) (h : ¬ (c.toNat : Int) = 115) : fldT x c = Lib.itoa x.n := by
  rw [fldT, if_neg (not_b h1 97 rfl), if_neg (not_b h2 98 rfl), if_neg (not_b h 115 rfl)]
theorem words_step {x : ActL} {fw ff t : List UInt8} {i : Nat} {O : List (List UInt8)} (inv : O = fw :: (ff.take i).map (fldT x)) (h : i < ff.length) (ht : fldT x (ff.getD i 0) = t) : O ++ [t] = fw :: (ff.take (i + 1)).map (fldT x) := by
  have hg : ff.getD i 0 = ff[i] := by simp [List.getD, List.getElem?_eq_getElem h]
  rw [List.take_succ_eq_append_getElem h, List.map_append, inv, ← ht, hg]
  rfl
theorem words_fin {x : ActL} {fw ff : List UInt8} {i : Nat} {O : List (List UInt8)} (inv : O = fw :: (ff.take i).map (fldT x)) (h : ¬ i < ff.length) : O = wordsT fw ff x := by
  rw [inv, List.take_of_length_le (by omega)]; rfl
theorem inter_len {c : UInt8} {m : Nat} : ∀ {l : List (List UInt8)}, (∀ x ∈ l, x.length ≤ m) → ([c].intercalate l).length ≤ l.length * (m + 1)
  | [], _ => by simp [List.intercalate]
  | [x], h => by
    have := h x (List.mem_cons_self ..)
    simp [List.intercalate]; omega
  | x :: y :: l, h => by
    have h1 := h x (List.mem_cons_self ..)
    have ih := inter_len (c := c) (l := y :: l) fun z hz => h z (List.mem_cons_of_mem _ hz)
    have e : [c].intercalate (x :: y :: l) = x ++ ([c] ++ [c].intercalate (y :: l)) := by simp [List.intercalate, List.intersperse]
    rw [e, List.length_append, List.length_append]
    simp only [List.length_cons, List.length_nil] at ih ⊢
    rw [Nat.succ_mul]
    omega
/-- What can be written. -/
structure ActOK (x : ActL) : Prop where
  a : I64 x.a
  b : I64 x.b
  n : I64 x.n
  s : x.s.length ≤ 900000000
theorem fld_len {x : ActL} (h : ActOK x) (c : UInt8) : (fldT x c).length ≤ 900000000 := by
  unfold fldT
  split
  · exact Nat.le_trans (itoa_len h.a) (by omega)
  · split
    · exact Nat.le_trans (itoa_len h.b) (by omega)
    · split
      · exact h.s
      · exact Nat.le_trans (itoa_len h.n) (by omega)
theorem show_len {x : ActL} {fw ff : List UInt8} (h : ActOK x) (hf : ff.length ≤ 3) (hw : fw.length ≤ 10) : (showT fw ff x).length ≤ 3700000000 := by
  have := inter_len (c := 32) (m := 900000000) (l := wordsT fw ff x) (by
    intro y hy
    rcases List.mem_cons.1 hy with rfl | hy
    · omega
    · obtain ⟨c, _, rfl⟩ := List.mem_map.1 hy
      exact fld_len h c)
  have hl : (wordsT fw ff x).length ≤ 4 := by simp [wordsT]; omega
  have := Nat.le_trans this (Nat.mul_le_mul_right 900000001 hl)
  exact Nat.le_trans this (by decide)
theorem text_hit {x : ActL} {i : Nat} (hb : ∀ j, j < i → ¬ ((F j).k = x.k ∧ lineO (showT (F j).w (F j).f x) = some x)) (hi : i < 13) (hk : (F i).k = x.k) (hl : lineO (showT (F i).w (F i).f x) = some x) : textO x = showT (F i).w (F i).f x := by
  have key : ∀ {fs : List Frm} {i : Nat}, (∀ j, j < i → ¬ ((fs.getD j zF).k = x.k ∧ lineO (showT (fs.getD j zF).w (fs.getD j zF).f x) = some x)) → i < fs.length → ((fs.getD i zF).k = x.k ∧ lineO (showT (fs.getD i zF).w (fs.getD i zF).f x) = some x) →
      fs.findSome? (fun f => if f.k = x.k ∧ lineO (showT f.w f.f x) = some x then some (showT f.w f.f x) else none) = some (showT (fs.getD i zF).w (fs.getD i zF).f x) := by
    intro fs
    induction fs with
    | nil => intro i _ h _; cases h
    | cons f fs ih =>
      intro i hb hi hx
      cases i with
      | zero =>
        have h1 : f.k = x.k ∧ lineO (showT f.w f.f x) = some x := hx
        simp only [List.findSome?_cons]
        rw [if_pos h1]; rfl
      | succ i =>
        have h0 : ¬ (f.k = x.k ∧ lineO (showT f.w f.f x) = some x) := hb 0 (by omega)
        simp only [List.findSome?_cons]
        rw [if_neg h0]
        exact ih (i := i) (fun j hj => hb (j + 1) (by omega)) (by simpa using hi) hx
  rw [textO, key (fs := formsL) (i := i) hb hi ⟨hk, hl⟩]; rfl
theorem text_none {x : ActL} (hb : ∀ j, j < 13 → ¬ ((F j).k = x.k ∧ lineO (showT (F j).w (F j).f x) = some x)) : textO x = [] := by
  have key : ∀ {fs : List Frm}, (∀ j, j < fs.length → ¬ ((fs.getD j zF).k = x.k ∧ lineO (showT (fs.getD j zF).w (fs.getD j zF).f x) = some x)) →
      fs.findSome? (fun f => if f.k = x.k ∧ lineO (showT f.w f.f x) = some x then some (showT f.w f.f x) else none) = none := by
    intro fs
    induction fs with
    | nil => intro _; rfl
    | cons f fs ih =>
      intro hb
      have h0 : ¬ (f.k = x.k ∧ lineO (showT f.w f.f x) = some x) := hb 0 (by simp)
      simp only [List.findSome?_cons]
      rw [if_neg h0]
      exact ih fun j hj => hb (j + 1) (by simpa using hj)
  rw [textO, key (fs := formsL) hb]; rfl
end Go.Hop
/- What is proved here: slices that own their row, looked into. -/
namespace Go.Hop
section
variable {P : Program} {tab : Tab} {σ : Sg} {L M : List Assn} {E : Env}
theorem len_q {x : Operand} {T el n c sz by_ : Nat} {z : List Value} {a : Option Addr} {rt : List TypeId} (hx : ev E x = some (.slice a n c)) (hT : tab.get T = some ⟨.slice el, sz, z, by_⟩) :
    qv tab E (.call ⟨.builtin .len, ⟨[x]⟩, ⟨T :: rt⟩⟩) = some (.int .i64 (n : Int)) := by
  simp [qv, callV, hx, lenV, hT]
theorem ob_lenOwn (ht : tab.OK P) {d : Option Tmp} {x : Operand} {T ty : TypeId} {rt : List TypeId} {pos : String} {af : Array Edge} {g : Option (Nat × Bool)} {v : Value} {n T' k sz by_ el : Nat} {cs z : List Value}
    (i : Nat) (hx : ev E x = some v) (hT : tab.get T = some ⟨.slice el, sz, z, by_⟩) (hi : pickAt L i = some (Own T' k v n cs, M)) : Ob P σ L E ⟨d, .call ⟨.builtin .len, ⟨[x]⟩, ⟨T :: rt⟩⟩, ty, pos, af, g⟩ (.int .i64 (n : Int)) := by
  intro w ρ ha hh
  rcases own_open.1 (hh.at_ i hi) with ⟨rfl, rfl, _, _⟩ | ⟨b, cap, sp, rfl, _⟩
  · exact qv_run ht ha (len_q hx hT)
  · exact qv_run ht ha (len_q hx hT)
theorem own_ne {w : World} {T k n : Nat} {v : Value} {cs : List Value} (hh : Holds σ w (Own T k v n cs :: M)) (h : 0 < n) :
    ∃ b cap sp, v = .slice (some ⟨b, 0, none⟩) n cap ∧ (n ≤ cap ∧ cs.length = n * k ∧ sp.length = (cap - n) * k) ∧ Holds σ w (row b T (cs ++ sp) :: M) := by
  rcases own_open.1 hh with ⟨_, rfl, _, _⟩ | ⟨b, cap, sp, h1, h2, h3, h4, H⟩
  · omega
  · exact ⟨b, cap, sp, h1, ⟨h2, h3, h4⟩, H⟩
theorem own_again {w : World} {T k n b cap : Nat} {cs sp : List Value} (h : n ≤ cap ∧ cs.length = n * k ∧ sp.length = (cap - n) * k) (hh : Holds σ w (row b T (cs ++ sp) :: M)) : Holds σ w (Own T k (.slice (some ⟨b, 0, none⟩) n cap) n cs :: M) :=
  own_open.2 (.inr ⟨b, cap, sp, rfl, h.1, h.2.1, h.2.2, hh⟩)
end
end Go.Hop
/- What is proved here: a text's acts, and the numbers of lines that are none, in plain Lean. -/
namespace Go.Hop
/-- The acts of lines, from a line on, with so many seen; and the numbers of the others. -/
def parseL : List (List UInt8) → Nat → Nat → List ActL × List Int
  | [], _, _ => ([], [])
  | x :: ls, n, seen =>
    if x = [] then parseL ls (n + 1) seen else
    if 400 < seen + 1 then ([], []) else
    match lineO x with
    | some a => (a :: (parseL ls (n + 1) (seen + 1)).1, (parseL ls (n + 1) (seen + 1)).2)
    | none => ((parseL ls (n + 1) (seen + 1)).1, ((n : Int) + 1) :: (parseL ls (n + 1) (seen + 1)).2)
def parseO (s : List UInt8) : List ActL × List Int := parseL (spl 10 s) 0 0
abbrev actC (A : List ActL) : List Value := A.flatMap ActL.cs
abbrev intC (B : List Int) : List Value := B.map fun n => Value.int .i64 n
/-- What is still to come, put behind what there is. -/
def PInv (ls : List (List UInt8)) (i seen : Nat) (A : List ActL) (B : List Int) (r : List ActL × List Int) : Prop := (A ++ (parseL (ls.drop i) i seen).1, B ++ (parseL (ls.drop i) i seen).2) = r
variable {ls : List (List UInt8)} {i seen : Nat} {A : List ActL} {B : List Int} {r : List ActL × List Int} {x : ActL}
theorem PInv.start : PInv ls 0 0 [] [] (parseL ls 0 0) := by simp [PInv]
theorem PInv.empty (h : PInv ls i seen A B r) (hi : i < ls.length) (hx : ls.getD i [] = []) : PInv ls (i + 1) seen A B r := by
  unfold PInv at h ⊢
  rw [drop_getD (d := []) hi, parseL, if_pos hx] at h
  exact h
theorem PInv.act (h : PInv ls i seen A B r) (hi : i < ls.length) (hx : ¬ ls.getD i [] = []) (hs : ¬ 400 < seen + 1) (hl : lineO (ls.getD i []) = some x) : PInv ls (i + 1) (seen + 1) (A ++ [x]) B r := by
  unfold PInv at h ⊢
  rw [drop_getD (d := []) hi, parseL, if_neg hx, if_neg hs, hl] at h
  rw [← h, List.append_assoc]; rfl
theorem PInv.none (h : PInv ls i seen A B r) (hi : i < ls.length) (hx : ¬ ls.getD i [] = []) (hs : ¬ 400 < seen + 1) (hl : lineO (ls.getD i []) = Option.none) : PInv ls (i + 1) (seen + 1) A (B ++ [(i : Int) + 1]) r := by
  unfold PInv at h ⊢
  rw [drop_getD (d := []) hi, parseL, if_neg hx, if_neg hs, hl] at h
  rw [← h, List.append_assoc]; rfl
theorem PInv.full (h : PInv ls i seen A B r) (hi : i < ls.length) (hx : ¬ ls.getD i [] = []) (hs : 400 < seen + 1) : r = (A, B) := by
  unfold PInv at h
  rw [drop_getD (d := []) hi, parseL, if_neg hx, if_pos hs] at h
  rw [← h]; simp
theorem PInv.fin (h : PInv ls i seen A B r) (hi : ¬ i < ls.length) : r = (A, B) := by
  unfold PInv at h
  rw [List.drop_of_length_le (by omega)] at h
  rw [← h]; simp [parseL]
theorem flat_snoc {A : List ActL} {k a b n : Int} {s : List UInt8} : actC A ++ [.int .i64 k, .int .i64 a, .int .i64 b, .int .i64 n, S s] = actC (A ++ [⟨k, a, b, n, s⟩]) := by
  simp [actC]
theorem ints_snoc {B : List Int} {n : Int} : intC B ++ [.int .i64 n] = intC (B ++ [n]) := by simp [intC]
theorem cut_of {cs : List Value} : ∀ {o n : Nat}, o + n ≤ cs.length → cut cs o n = some ((cs.drop o).take n) := by
  intro o n h
  induction cs generalizing o n with
  | nil =>
    have h1 : o = 0 := by simp at h; omega
    have h2 : n = 0 := by simp at h; omega
    subst h1; subst h2; rfl
  | cons c cs ih =>
    cases o with
    | zero =>
      cases n with
      | zero => rfl
      | succ n => simp only [cut]; rw [ih (by simp at h ⊢; omega)]; simp
    | succ o =>
      have : cut (c :: cs) (o + 1) n = cut cs o n := by cases n <;> rfl
      rw [this, ih (by simp at h ⊢; omega)]; simp
theorem acts_len {A : List ActL} : (actC A).length = A.length * 5 := by
  induction A with
  | nil => rfl
  | cons a A ih => simp only [actC, List.flatMap_cons, List.length_append, List.length_cons, List.length_nil] at ih ⊢; omega
theorem acts_drop {A : List ActL} {sp : List Value} : ∀ {k : Nat}, k < A.length → ((actC A ++ sp).drop (k * 5)).take 5 = (A.getD k zA).cs := by
  induction A with
  | nil => intro k h; cases h
  | cons a A ih =>
    intro k h
    cases k with
    | zero => simp [actC]
    | succ k =>
      have := ih (k := k) (by simpa using h)
      have e : (actC (a :: A) ++ sp).drop ((k + 1) * 5) = (actC A ++ sp).drop (k * 5) := by
        rw [show (k + 1) * 5 = 5 + k * 5 by omega, ← List.drop_drop]
        simp [actC]
      rw [e, this]
      simp [List.getD]
theorem acts_at {A : List ActL} {sp : List Value} {k : Nat} (h : k < A.length) : cut (actC A ++ sp) (k * 5) 5 = some (A.getD k zA).cs := by
  rw [cut_of (by rw [List.length_append, acts_len]; omega), acts_drop h]
theorem ints_at {B : List Int} {sp : List Value} {k : Nat} (h : k < B.length) : (intC B ++ sp)[k]? = some (.int .i64 (B.getD k 0)) := by
  rw [List.getElem?_append_left (by simpa using h)]
  simp [intC, List.getD, List.getElem?_eq_getElem h]
theorem act_beq (p q : ActL) : (p.k == q.k && (p.a == q.a && (p.b == q.b && (p.n == q.n && (p.s == q.s && true))))) = decide (p = q) := by
  by_cases h : p = q
  · subst h; simp
  · rw [decide_eq_false h]
    cases p; cases q
    simp only [ActL.mk.injEq, not_and] at h
    apply Bool.eq_false_iff.2
    intro e
    simp only [Bool.and_eq_true, beq_iff_eq, and_true] at e
    exact h e.1 e.2.1 e.2.2.1 e.2.2.2.1 e.2.2.2.2
theorem act_eq (p q : ActL) : Value.bool (p.k == q.k && (p.a == q.a && (p.b == q.b && (p.n == q.n && (p.s == q.s && true))))) = .bool (decide (p = q)) := by rw [act_beq]
theorem act_ne (p q : ActL) : Value.bool (!(p.k == q.k && (p.a == q.a && (p.b == q.b && (p.n == q.n && (p.s == q.s && true)))))) = .bool (!(decide (p = q))) := by rw [act_beq]

theorem line_known {o : Option ActL} {x y : ActL} {ok : Bool} (h : o = if ok = true then some x else none) (e : o = some y) : ok = true ∧ x = y := by
  cases ok <;> simp_all
theorem line_unknown {o : Option ActL} {x : ActL} {ok : Bool} (h : o = if ok = true then some x else none) (hz : ok = false → x = zA) (e : o = none) : ok = false ∧ x = zA := by
  cases ok <;> simp_all
theorem itoa_one {n : Int} (h : 0 ≤ n ∧ n < 10) : Lib.itoa n = [UInt8.ofNat (48 + n.toNat)] := by
  rw [Lib.itoa, if_neg (by omega), Lib.decDigits_one (by omega)]
theorem num0 : numO [48] = some 0 := by have := numO_itoa (m := 0) (by unfold I64; omega); rwa [itoa_one (by omega)] at this
theorem num1 : numO [49] = some 1 := by have := numO_itoa (m := 1) (by unfold I64; omega); rwa [itoa_one (by omega)] at this
theorem num2 : numO [50] = some 2 := by have := numO_itoa (m := 2) (by unfold I64; omega); rwa [itoa_one (by omega)] at this
theorem num5 : numO [53] = some 5 := by have := numO_itoa (m := 5) (by unfold I64; omega); rwa [itoa_one (by omega)] at this
theorem spl_lead0 : spl 32 [108, 101, 97, 100, 32, 48] = [[108, 101, 97, 100], [48]] := by decide
theorem spl_lead : spl 32 [108, 101, 97, 100] = [[108, 101, 97, 100]] := by decide
def ingT : List UInt8 := [105, 110, 103, 101, 115, 116, 32, 49, 32, 97, 61, 49, 32, 53]
def nonT : List UInt8 := [110, 111, 110, 115, 101, 110, 115, 101]
def tikT : List UInt8 := [116, 105, 99, 107, 32, 49, 32, 50]
def ingA : ActL := ⟨9, 1, 0, 5, [97, 61, 49]⟩
def tikA : ActL := ⟨1, 1, 0, 2, []⟩
theorem spl_ing : spl 32 ingT = [[105, 110, 103, 101, 115, 116], [49], [97, 61, 49], [53]] := by decide
theorem spl_non : spl 32 nonT = [nonT] := by decide
theorem spl_tik : spl 32 tikT = [[116, 105, 99, 107], [49], [50]] := by decide
theorem line_lead0 : lineO [108, 101, 97, 100, 32, 48] = some ⟨8, 0, 0, 0, []⟩ := by
  refine line_form (i := 7) (by decide) (by omega) (by rw [spl_lead0]; rfl) ?_
  rw [spl_lead0, readF_fill (by rfl) (by rfl)]
  show fillF ⟨8, 0, 0, 0, []⟩ [97] [[48]] = _
  simp [fillF, setF, num0]
theorem line_lead : lineO [108, 101, 97, 100] = none := by
  refine line_form (i := 7) (by decide) (by omega) (by rw [spl_lead]; rfl) ?_
  rw [spl_lead]
  exact readF_len (by decide)
theorem line_ing : lineO ingT = some ingA := by
  refine line_form (i := 8) (by decide) (by omega) (by rw [spl_ing]; rfl) ?_
  rw [spl_ing, readF_fill (by rfl) (by rfl)]
  show fillF ⟨9, 0, 0, 0, []⟩ [97, 115, 110] [[49], [97, 61, 49], [53]] = _
  simp [fillF, setF, num1, num5, ingA]
theorem line_non : lineO nonT = none := by
  refine line_none (by decide) fun j hj => ?_
  rw [spl_non, readF, if_neg]
  intro h
  have h1 := h.1
  revert h1
  have : ∀ j : Fin 13, ¬ ([nonT].getD 0 [] = (F j.val).w) := by decide
  exact this ⟨j, hj⟩
theorem line_tik : lineO tikT = some tikA := by
  refine line_form (i := 0) (by decide) (by omega) (by rw [spl_tik]; rfl) ?_
  rw [spl_tik, readF_fill (by rfl) (by rfl)]
  show fillF ⟨1, 0, 0, 0, []⟩ [97, 110] [[49], [50]] = _
  simp [fillF, setF, num1, num2, tikA]
def knownT : List UInt8 := ingT ++ [10, 10] ++ nonT ++ [10] ++ tikT
theorem parse_known : parseO knownT = ([ingA, tikA], [3]) := by
  have e : spl 10 knownT = [ingT, [], nonT, tikT] := by decide
  have h1 : ingT ≠ [] := by decide
  have h2 : nonT ≠ [] := by decide
  have h3 : tikT ≠ [] := by decide
  rw [parseO, e]
  simp [parseL, h1, h2, h3, line_ing, line_non, line_tik]
theorem text_zero : textO ⟨0, 0, 0, 0, []⟩ = [] := by
  refine text_none fun j hj => ?_
  have hk := forms_k hj
  intro h
  have : (F j).k = 0 := h.1
  omega
theorem show_ing : showT (F 8).w (F 8).f ingA = ingT := by
  show [32].intercalate [[105, 110, 103, 101, 115, 116], fldT ingA 97, fldT ingA 115, fldT ingA 110] = _
  have h1 : fldT ingA 97 = [49] := by rw [fld_a rfl]; exact itoa_one (by decide)
  have h2 : fldT ingA 115 = [97, 61, 49] := fld_s (by decide) (by decide) rfl
  have h3 : fldT ingA 110 = [53] := by rw [fld_n (by decide) (by decide) (by decide)]; exact itoa_one (by decide)
  rw [h1, h2, h3]; rfl
theorem text_ing : textO ingA = ingT := by
  have := text_hit (x := ingA) (i := 8) ?_ (by omega) rfl (by rw [show_ing]; exact line_ing)
  · rw [this, show_ing]
  · intro j hj h
    have h1 := h.1
    revert h1
    have : ∀ j : Fin 8, ¬ ((F j.val).k = ingA.k) := by decide
    exact this ⟨j, hj⟩
theorem ing_ok : ActOK ingA := ⟨by unfold I64; decide, by unfold I64; decide, by unfold I64; decide, by decide⟩
theorem zero_ok : ActOK ⟨0, 0, 0, 0, []⟩ := ⟨by unfold I64; decide, by unfold I64; decide, by unfold I64; decide, by decide⟩
theorem list_ext0 {A B : List Int} {i : Nat} (h : A.length = B.length) (inv : ∀ j, j < i → A.getD j 0 = B.getD j 0) (hi : ¬ i < A.length) : A = B := by
  apply List.ext_getElem h
  intro j h1 h2
  have := inv j (by omega)
  simpa [List.getD, List.getElem?_eq_getElem h1, List.getElem?_eq_getElem h2] using this
end Go.Hop
/- What is proved here: numbers brought into bounds, acts as they are drawn, in plain Lean. -/
namespace Go.Hop
/-- A number of lo .. hi as it is; another one brought into them. -/
def withinI (n lo hi : Int) : Int := if lo ≤ n ∧ n ≤ hi then n else lo + (if n.tmod (hi - lo + 1) < 0 then n.tmod (hi - lo + 1) + hi - lo + 1 else n.tmod (hi - lo + 1))
theorem tmod_rng (n : Int) {d : Int} (h : 0 < d) : -d < n.tmod d ∧ n.tmod d < d := by
  rcases Int.le_total 0 n with h0 | h0
  · have h1 := Int.tmod_nonneg d h0
    have h2 := Int.tmod_lt_of_pos n h
    omega
  · have e : (-n).tmod d = -(n.tmod d) := Int.neg_tmod n d
    have h1 := Int.tmod_nonneg d (show 0 ≤ -n by omega)
    have h2 := Int.tmod_lt_of_pos (-n) h
    omega
theorem within_rng {n lo hi : Int} (h : lo ≤ hi) : lo ≤ withinI n lo hi ∧ withinI n lo hi ≤ hi := by
  have := tmod_rng n (d := hi - lo + 1) (by omega)
  unfold withinI
  split
  · assumption
  · split <;> omega
abbrev maxI (a b : Int) : Int := if b > a then b else a
/-- The names of series. -/
def namesL : List (List UInt8) := [[97, 61, 49], [97, 61, 50], [97, 61, 49, 44, 98, 61, 120], [106, 111, 98, 61, 97, 112, 105, 44, 122, 111, 110, 101, 61, 101, 117], [106, 111, 98, 61, 119, 101, 98], [107, 61, 118], [110, 61, 48], [97, 61, 51, 44, 99, 61, 57]]
theorem namesS_at {i : Nat} (h : i < 8) : (namesL.map S)[i]? = some (S (namesL.getD i [])) := map_S_at h
/-- An act as it is drawn. -/
structure DrawL where
  k : Int
  a : Int
  b : Int
  n : Int
abbrev DrawL.cs (x : DrawL) : List Value := [.int .i64 x.k, .int .i64 x.a, .int .i64 x.b, .int .i64 x.n]
def zD : DrawL := ⟨0, 0, 0, 0⟩
def actO (d : DrawL) (r n g : Int) : ActL :=
  if withinI d.k 0 31 < 4 then ⟨1, withinI d.a 0 (maxI (n - 1) 0), 0, 1 + (withinI d.n 0 1000).tmod 9, []⟩ else
  if withinI d.k 0 31 < 6 then ⟨1, r + withinI d.a 0 (maxI (n - r) 1 - 1), 0, 1 + (withinI d.n 0 1000).tmod 40, []⟩ else
  if withinI d.k 0 31 < 15 then ⟨2, 0, 0, (withinI d.n 0 1000).tmod (maxI g 1), []⟩ else
  if withinI d.k 0 31 = 15 then ⟨3, 0, 0, (withinI d.n 0 1000).tmod (maxI g 1), []⟩ else
  if withinI d.k 0 31 = 16 then ⟨4, 0, 0, (withinI d.n 0 1000).tmod (maxI g 1), []⟩ else
  if withinI d.k 0 31 = 17 then ⟨5, withinI d.a 0 (maxI (n - 1) 0), withinI d.b 0 (maxI (n - 1) 0), 0, []⟩ else
  if withinI d.k 0 31 = 18 then ⟨6, withinI d.a 0 (maxI (n - 1) 0), withinI d.b 0 (maxI (n - 1) 0), 0, []⟩ else
  if withinI d.k 0 31 = 19 then ⟨7, withinI d.a 0 (maxI (n - 1) 0), 0, (withinI d.n 0 1000).tmod 70, []⟩ else
  if withinI d.k 0 31 < 22 then ⟨8, withinI d.a 0 (maxI (r - 1) 0), 0, 0, []⟩ else
  if withinI d.k 0 31 < 26 then ⟨9, r + withinI d.a 0 (maxI (n - r) 1 - 1), 0, 1 + withinI d.n 0 1000, namesL.getD (withinI d.b 0 7).toNat []⟩ else
  if withinI d.k 0 31 < 29 then ⟨10, r + withinI d.a 0 (maxI (n - r) 1 - 1), 0, 0, []⟩ else
  if withinI d.k 0 31 = 29 then ⟨11, r + withinI d.a 0 (maxI (n - r) 1 - 1), 0, 0, []⟩ else
  if withinI d.k 0 31 = 30 then ⟨12, r + withinI d.a 0 (maxI (n - r) 1 - 1), 0, 1 + (withinI d.n 0 1000).tmod 4, []⟩ else
  ⟨13, r + withinI d.a 0 (maxI (n - r) 1 - 1), 0, 0, namesL.getD (withinI d.b 0 7).toNat []⟩
theorem names_len (i : Nat) : (namesL.getD i []).length ≤ 15 := by
  rcases Nat.lt_or_ge i 8 with h | h
  · have : ∀ j : Fin 8, (namesL.getD j.val []).length ≤ 15 := by decide
    exact this ⟨i, h⟩
  · rw [List.getD, List.getElem?_eq_none h]; simp
theorem ok_ite {c : Prop} [Decidable c] {x y : ActL} (h1 : ActOK x) (h2 : ActOK y) : ActOK (if c then x else y) := by split <;> assumption
theorem ok_mk {k a b n : Int} {s : List UInt8} (h1 : I64 a) (h2 : I64 b) (h3 : I64 n) (h4 : s.length ≤ 900000000) : ActOK ⟨k, a, b, n, s⟩ := ⟨h1, h2, h3, h4⟩
theorem actO_ok {d : DrawL} {r n g : Int} (hr : 0 ≤ r ∧ r ≤ 8) (hn : 0 ≤ n ∧ n ≤ 8) (hg : 0 ≤ g ∧ g ≤ 1000) : ActOK (actO d r n g) := by
  have h1 := within_rng (n := d.a) (lo := 0) (hi := maxI (n - 1) 0) (by unfold maxI; split <;> omega)
  have h2 := within_rng (n := d.a) (lo := 0) (hi := maxI (n - r) 1 - 1) (by unfold maxI; split <;> omega)
  have h3 := within_rng (n := d.b) (lo := 0) (hi := maxI (n - 1) 0) (by unfold maxI; split <;> omega)
  have h4 := within_rng (n := d.n) (lo := 0) (hi := 1000) (by omega)
  have h5 := within_rng (n := d.a) (lo := 0) (hi := maxI (r - 1) 0) (by unfold maxI; split <;> omega)
  have m1 : maxI (n - 1) 0 ≤ 8 := by unfold maxI; split <;> omega
  have m2 : maxI (n - r) 1 ≤ 8 := by unfold maxI; split <;> omega
  have m3 : maxI (r - 1) 0 ≤ 8 := by unfold maxI; split <;> omega
  have m4 : 1 ≤ maxI g 1 ∧ maxI g 1 ≤ 1000 := by unfold maxI; split <;> omega
  have t1 := tmod_rng (withinI d.n 0 1000) (d := 9) (by omega)
  have t2 := tmod_rng (withinI d.n 0 1000) (d := 40) (by omega)
  have t3 := tmod_rng (withinI d.n 0 1000) (d := maxI g 1) (by omega)
  have t4 := tmod_rng (withinI d.n 0 1000) (d := 70) (by omega)
  have t5 := tmod_rng (withinI d.n 0 1000) (d := 4) (by omega)
  have hs := names_len (withinI d.b 0 7).toNat
  have hq : ∀ {x : Int}, -1000000 ≤ x ∧ x ≤ 1000000 → I64 x := fun h => by unfold I64; omega
  unfold actO
  repeat' (refine ok_ite ?_ ?_)
  all_goals refine ok_mk (hq ?_) (hq ?_) (hq ?_) ?_
  all_goals (try simp only [List.length_nil])
  all_goals omega
theorem text_len {x : ActL} {m : Nat} (hx : ActOK x) (hm : 20 ≤ m) (hs : x.s.length ≤ m) : (textO x).length ≤ 4 * (m + 1) := by
  have key : ∀ j : Nat, j < 13 → (showT (F j).w (F j).f x).length ≤ 4 * (m + 1) := fun j hj => by
    have hf := forms_len hj
    have hfl : ∀ c, (fldT x c).length ≤ m := fun c => by
      have := itoa_len hx.a
      have := itoa_len hx.b
      have := itoa_len hx.n
      unfold fldT
      split
      · omega
      · split
        · omega
        · split <;> omega
    have := inter_len (c := 32) (m := m) (l := wordsT (F j).w (F j).f x) (by
      intro y hy
      rcases List.mem_cons.1 hy with rfl | hy
      · omega
      · obtain ⟨c, _, rfl⟩ := List.mem_map.1 hy
        exact hfl c)
    have hl : (wordsT (F j).w (F j).f x).length ≤ 4 := by simp [wordsT]; omega
    exact Nat.le_trans this (Nat.mul_le_mul_right _ hl)
  by_cases h : ∃ j, j < 13 ∧ (F j).k = x.k ∧ lineO (showT (F j).w (F j).f x) = some x
  · have hex : ∃ j, (j < 13 ∧ (F j).k = x.k ∧ lineO (showT (F j).w (F j).f x) = some x) ∧ ∀ i, i < j → ¬ (i < 13 ∧ (F i).k = x.k ∧ lineO (showT (F i).w (F i).f x) = some x) := by
      obtain ⟨j, hj⟩ := h
      induction j using Nat.strongRecOn with
      | _ j ih =>
        by_cases q : ∃ i, i < j ∧ (i < 13 ∧ (F i).k = x.k ∧ lineO (showT (F i).w (F i).f x) = some x)
        · obtain ⟨i, h1, h2⟩ := q; exact ih i h1 h2
        · exact ⟨j, hj, fun i hi h => q ⟨i, hi, h⟩⟩
    obtain ⟨j, ⟨h1, h2, h3⟩, h4⟩ := hex
    rw [text_hit (fun i hi e => h4 i hi ⟨by omega, e⟩) h1 h2 h3]
    exact key j h1
  · rw [text_none fun j hj e => h ⟨j, hj, e⟩]; simp
theorem actO_s {d : DrawL} {r n g : Int} : (actO d r n g).s.length ≤ 15 := by
  have ite : ∀ {c : Prop} [Decidable c] {x y : ActL}, x.s.length ≤ 15 → y.s.length ≤ 15 → (if c then x else y).s.length ≤ 15 := fun h1 h2 => by split <;> assumption
  have hs := names_len (withinI d.b 0 7).toNat
  unfold actO
  repeat' (refine ite ?_ ?_)
  all_goals first | exact hs | exact Nat.zero_le _
theorem drawn_len (d : DrawL) : (textO (actO d 3 5 9)).length ≤ 84 := text_len (actO_ok (by omega) (by omega) (by omega)) (m := 20) (by omega) (Nat.le_trans actO_s (by omega))
/-! draws and acts as data -/
abbrev DrawL.ds (x : DrawL) : List Dt := [.v (.int .i64 x.k), .v (.int .i64 x.a), .v (.int .i64 x.b), .v (.int .i64 x.n)]
abbrev ActL.ds (x : ActL) : List Dt := [.v (.int .i64 x.k), .v (.int .i64 x.a), .v (.int .i64 x.b), .v (.int .i64 x.n), .v (S x.s)]
theorem pf_of {α : Type} {f : α → List Value} {dd : α → List Dt} (h : ∀ z r, plain (dd z ++ r) = (plain r).map (f z ++ ·)) : ∀ l : List α, plain (l.map dd).flatten = some (l.map f).flatten
  | [] => rfl
  | z :: l => by simp only [List.map_cons, List.flatten_cons, h, pf_of h l, Option.map_some]
theorem draw_pf : ∀ l : List DrawL, plain (l.map DrawL.ds).flatten = some (l.map DrawL.cs).flatten := pf_of fun z r => by
  simp only [List.cons_append, List.nil_append, plain]; cases plain r <;> rfl
theorem acts_pf : ∀ l : List ActL, plain (l.map ActL.ds).flatten = some (l.map ActL.cs).flatten := pf_of fun z r => by
  simp only [List.cons_append, List.nil_append, plain]; cases plain r <;> rfl
end Go.Hop
/- What is proved here: what a function of the text computes. Printed by program. -/
namespace Go.Hop
open Go.Proofs
set_option maxRecDepth 4000
set_option maxHeartbeats 4000000
theorem within_spec (n lo hi : Int) (h1 : lo ≤ hi) (h2 : -1000000000000 ≤ lo) (h3 : hi ≤ 1000000000000) (σ : Sg) (w : World) (R : List Assn) (hh : Holds σ w (R)) :
    Calls Tryz.prog 13 ⟨[.int .i64 n, .int .i64 lo, .int .i64 hi]⟩ w fun e w' => ∃ v L', e = .returned v ∧ (v = .int .i64 (withinI n lo hi) ∧ L' = R) ∧ Holds σ w' L' := by
  refine enter Tryz.func13 rfl Tryz.ntmps13 rfl fun a hk => ?_
  have hr := tmod_rng n (d := hi - lo + 1) (by omega)
  refine wp_seq_k fun K1 hK1 => ?_
  refine reg_q tabOK hk hh [] [0, 1, 2] rfl trivial (fun a hk => ?_)
  refine hK1 a w ?_; try clear hK1 K1
  refine wp_seq_k fun K2 hK2 => ?_
  refine wp_seq_k fun K3 hK3 => ?_
  by_cases c1 : n ≥ lo
  · refine reg_q tabOK hk hh [(2, .bool true)] [0, 1, 2, 14] rfl ?_ (fun a hk => ?_)
    · exact ⟨ob_eq tabOK rfl (v_dt c1), trivial⟩
    refine hK3 a w ?_; try clear hK3 K3
    refine code_cond hk rfl (fun c2 => ?_) (fun c2 => ?_)
    · replace c2 : n ≤ hi := (of_decide_eq_true c2)
      refine wp_seq_k fun K4 hK4 => ?_
      refine reg_q tabOK hk hh [] [0, 1, 2, 6] rfl trivial (fun a hk => ?_)
      refine hK4 a w ?_; try clear hK4 K4
      refine wp_ret ?_
      refine then_ret ?_
      refine fin_ret hk (show Tryz.f13.results = ⟨[.tmp 6]⟩ from rfl) (by exact (res_tmp hk rfl .nil)) ?_
      refine ⟨_, _, rfl, ⟨?_, rfl⟩, hh⟩
      have e : withinI n lo hi = n := by unfold withinI; split <;> first | omega | (split <;> omega)
      rw [e]; rfl
    · replace c2 : ¬ (n ≤ hi) := (of_decide_eq_false c2)
      refine wp_skip ?_
      refine hK2 a w ?_; try clear hK2 K2
      refine wp_seq_k fun K5 hK5 => ?_
      refine reg_q tabOK hk hh [(3, .int .i64 (hi - lo)), (4, .int .i64 (hi - lo + 1)), (5, .int .i64 (n.tmod (hi - lo + 1)))] [0, 1, 2] rfl ?_ (fun a hk => ?_)
      · exact ⟨ob_eq tabOK rfl (eq_i64 (by omega)), ob_eq tabOK rfl (eq_i64 (by omega)), ob_rem rfl rfl (by omega), trivial⟩
      refine hK5 a w ?_; try clear hK5 K5
      refine wp_seq_k fun K6 hK6 => ?_
      refine wp_seq_k fun K7 hK7 => ?_
      refine reg_q tabOK hk hh [] [0, 1, 2, 23] rfl trivial (fun a hk => ?_)
      refine hK7 a w ?_; try clear hK7 K7
      refine code_cond hk rfl (fun c3 => ?_) (fun c3 => ?_)
      · replace c3 : n.tmod (hi - lo + 1) < 0 := (of_decide_eq_true c3)
        refine reg_q tabOK hk hh [(2, .int .i64 (n.tmod (hi - lo + 1) + hi)), (4, .int .i64 (n.tmod (hi - lo + 1) + hi - lo)), (5, .int .i64 (n.tmod (hi - lo + 1) + hi - lo + 1))] [0, 1] rfl ?_ (fun a hk => ?_)
        · exact ⟨ob_eq tabOK rfl (eq_i64 (by omega)), ob_eq tabOK rfl (eq_i64 (by omega)), ob_eq tabOK rfl (eq_i64 (by omega)), trivial⟩
        refine hK6 a w ?_; try clear hK6 K6
        refine wp_seq_k fun K8 hK8 => ?_
        refine reg_q tabOK hk hh [(2, .int .i64 (lo + (n.tmod (hi - lo + 1) + hi - lo + 1)))] [6] rfl ?_ (fun a hk => ?_)
        · exact ⟨ob_eq tabOK rfl (eq_i64 (by omega)), trivial⟩
        refine hK8 a w ?_; try clear hK8 K8
        refine wp_ret ?_
        refine fin_ret hk (show Tryz.f13.results = ⟨[.tmp 6]⟩ from rfl) (by exact (res_tmp hk rfl .nil)) ?_
        refine ⟨_, _, rfl, ⟨?_, rfl⟩, hh⟩
        have e : withinI n lo hi = lo + (n.tmod (hi - lo + 1) + hi - lo + 1) := by unfold withinI; split <;> first | omega | (split <;> omega)
        rw [e]; rfl
      · replace c3 : ¬ (n.tmod (hi - lo + 1) < 0) := (of_decide_eq_false c3)
        refine wp_skip ?_
        refine hK6 a w ?_; try clear hK6 K6
        refine wp_seq_k fun K9 hK9 => ?_
        refine reg_q tabOK hk hh [(2, .int .i64 (lo + (n.tmod (hi - lo + 1))))] [6] rfl ?_ (fun a hk => ?_)
        · exact ⟨ob_eq tabOK rfl (eq_i64 (by omega)), trivial⟩
        refine hK9 a w ?_; try clear hK9 K9
        refine wp_ret ?_
        refine fin_ret hk (show Tryz.f13.results = ⟨[.tmp 6]⟩ from rfl) (by exact (res_tmp hk rfl .nil)) ?_
        refine ⟨_, _, rfl, ⟨?_, rfl⟩, hh⟩
        have e : withinI n lo hi = lo + (n.tmod (hi - lo + 1)) := by unfold withinI; split <;> first | omega | (split <;> omega)
        rw [e]; rfl
  · refine reg_q tabOK hk hh [(2, .bool false)] [0, 1, 2, 14] rfl ?_ (fun a hk => ?_)
    · exact ⟨ob_eq tabOK rfl (v_df c1), trivial⟩
    refine hK3 a w ?_; try clear hK3 K3
    refine code_cond hk rfl (fun h => by cases h) (fun _ => ?_)
    refine wp_skip ?_
    refine hK2 a w ?_; try clear hK2 K2
    refine wp_seq_k fun K10 hK10 => ?_
    refine reg_q tabOK hk hh [(3, .int .i64 (hi - lo)), (4, .int .i64 (hi - lo + 1)), (5, .int .i64 (n.tmod (hi - lo + 1)))] [0, 1, 2] rfl ?_ (fun a hk => ?_)
    · exact ⟨ob_eq tabOK rfl (eq_i64 (by omega)), ob_eq tabOK rfl (eq_i64 (by omega)), ob_rem rfl rfl (by omega), trivial⟩
    refine hK10 a w ?_; try clear hK10 K10
    refine wp_seq_k fun K11 hK11 => ?_
    refine wp_seq_k fun K12 hK12 => ?_
    refine reg_q tabOK hk hh [] [0, 1, 2, 23] rfl trivial (fun a hk => ?_)
    refine hK12 a w ?_; try clear hK12 K12
    refine code_cond hk rfl (fun c4 => ?_) (fun c4 => ?_)
    · replace c4 : n.tmod (hi - lo + 1) < 0 := (of_decide_eq_true c4)
      refine reg_q tabOK hk hh [(2, .int .i64 (n.tmod (hi - lo + 1) + hi)), (4, .int .i64 (n.tmod (hi - lo + 1) + hi - lo)), (5, .int .i64 (n.tmod (hi - lo + 1) + hi - lo + 1))] [0, 1] rfl ?_ (fun a hk => ?_)
      · exact ⟨ob_eq tabOK rfl (eq_i64 (by omega)), ob_eq tabOK rfl (eq_i64 (by omega)), ob_eq tabOK rfl (eq_i64 (by omega)), trivial⟩
      refine hK11 a w ?_; try clear hK11 K11
      refine wp_seq_k fun K13 hK13 => ?_
      refine reg_q tabOK hk hh [(2, .int .i64 (lo + (n.tmod (hi - lo + 1) + hi - lo + 1)))] [6] rfl ?_ (fun a hk => ?_)
      · exact ⟨ob_eq tabOK rfl (eq_i64 (by omega)), trivial⟩
      refine hK13 a w ?_; try clear hK13 K13
      refine wp_ret ?_
      refine fin_ret hk (show Tryz.f13.results = ⟨[.tmp 6]⟩ from rfl) (by exact (res_tmp hk rfl .nil)) ?_
      refine ⟨_, _, rfl, ⟨?_, rfl⟩, hh⟩
      have e : withinI n lo hi = lo + (n.tmod (hi - lo + 1) + hi - lo + 1) := by unfold withinI; split <;> first | omega | (split <;> omega)
      rw [e]; rfl
    · replace c4 : ¬ (n.tmod (hi - lo + 1) < 0) := (of_decide_eq_false c4)
      refine wp_skip ?_
      refine hK11 a w ?_; try clear hK11 K11
      refine wp_seq_k fun K14 hK14 => ?_
      refine reg_q tabOK hk hh [(2, .int .i64 (lo + (n.tmod (hi - lo + 1))))] [6] rfl ?_ (fun a hk => ?_)
      · exact ⟨ob_eq tabOK rfl (eq_i64 (by omega)), trivial⟩
      refine hK14 a w ?_; try clear hK14 K14
      refine wp_ret ?_
      refine fin_ret hk (show Tryz.f13.results = ⟨[.tmp 6]⟩ from rfl) (by exact (res_tmp hk rfl .nil)) ?_
      refine ⟨_, _, rfl, ⟨?_, rfl⟩, hh⟩
      have e : withinI n lo hi = lo + (n.tmod (hi - lo + 1)) := by unfold withinI; split <;> first | omega | (split <;> omega)
      rw [e]; rfl

end Go.Hop
/- What is proved here: what a function of the text computes. Printed by program. -/
namespace Go.Hop
open Go.Proofs
set_option maxRecDepth 4000
set_option maxHeartbeats 4000000
theorem names_spec  (σ : Sg) (w : World) (R : List Assn) (hh : Holds σ w (R)) :
    Calls Tryz.prog 23 ⟨[]⟩ w fun e w' => ∃ v L', e = .returned v ∧ (∃ b, v = .slice (some ⟨b, 0, none⟩) 8 8 ∧ L' = row b 9 (namesL.map S) :: R) ∧ Holds σ w' L' := by
  refine enter Tryz.func23 rfl Tryz.ntmps23 rfl fun a hk => ?_
  refine wp_seq_k fun K1 hK1 => ?_
  refine reg_q tabOK hk hh [] [] rfl trivial (fun a hk => ?_)
  refine hK1 a w ?_; try clear hK1 K1
  refine wp_seq_k fun K2 hK2 => ?_
  refine wp_region_lit ?_
  refine seq_eff hk hh rfl rfl (eff_lit tabOK rfl rfl rfl (by decide) rfl) (fun v L a w hp hk hh => ?_)
  obtain ⟨b1, rfl, hL⟩ := hp; rw [hL] at hh; clear hL
  refine rest_q tabOK (i := 1) hk hh [] [0] rfl trivial (fun a hk => ?_)
  refine hK2 a w ?_; try clear hK2 K2
  refine wp_ret ?_
  refine fin_ret hk (show Tryz.f23.results = ⟨[.tmp 0]⟩ from rfl) (by exact (res_tmp hk rfl .nil)) ?_
  refine ⟨_, _, rfl, ⟨_, rfl, rfl⟩, hh⟩

end Go.Hop
