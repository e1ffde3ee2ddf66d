/- Alike values are equal; an operation looks at the slots that it names. -/
import Derived.Test.YtiiajdfjnamfcaaGreatAbsRun4
set_option autoImplicit false
set_option linter.unusedSimpArgs false
set_option linter.unusedVariables false
namespace Go.Abs
open Go Go.RowKit
theorem beq_eq {a b : Nat} (h : Nat.beq a b = true) : a = b := Nat.eq_of_beq_eq_true h
theorem neq_eq3 : ∀ {a b : List Nat}, neq a b = true → a = b
 | [], [], _ => rfl
 | [], _ :: _, h => by simp [neq] at h
 | _ :: _, [], h => by simp [neq] at h
 | a :: x, b :: y, h => by
  simp only [neq, Bool.and_eq_true] at h
  rw [beq_eq h.1, neq_eq3 h.2]
theorem ieq_eq2 {a b : Int} (h : ieq a b = true) : a = b := by
 cases a <;> cases b <;> simp only [ieq] at h
 ·rw [beq_eq h]
 ·simp at h
 ·simp at h
 ·rw [beq_eq h]
theorem keq_eq2 {a b : IntKind} (h : keq a b = true) : a = b := by cases a <;> cases b <;> first | rfl | simp [keq] at h
mutual
theorem same_eq : ∀ (a b : AV), AV.same a b = true → a = b
 | .bool a, b, h => by cases b <;> simp [AV.same] at h; rw [h]
 | .int k a, b, h => by
  cases b <;> simp only [AV.same] at h <;> try (simp at h; done)
  rw [Bool.and_eq_true] at h
  rw [keq_eq2 h.1, ieq_eq2 h.2]
 | .str a, b, h => by
            cases b <;> simp only [AV.same] at h <;> try (simp at h; done)
            rw [neq_eq3 h]
 | .ptr a b c d, x, h => by
  cases x <;> simp only [AV.same] at h <;> try (simp at h; done)
  simp only [Bool.and_eq_true] at h
  obtain ⟨⟨⟨h1, h2⟩, h3⟩, h4⟩ := h
  rw [beq_eq h1, beq_eq h2, beq_eq h3, beq_eq h4]
 | .iptr a, x, h => by
  cases x <;> simp only [AV.same] at h <;> try (simp at h; done)
  rw [sames_eq _ _ h]
 | .nilptr, x, h => by cases x <;> simp only [AV.same] at h <;> first | rfl | simp at h
 | .slc a b c d e f, x, h => by
  cases x <;> simp only [AV.same] at h <;> try (simp at h; done)
  simp only [Bool.and_eq_true] at h
  obtain ⟨⟨⟨⟨⟨h1, h2⟩, h3⟩, h4⟩, h5⟩, h6⟩ := h
  rw [beq_eq h1, beq_eq h2, beq_eq h3, beq_eq h4, beq_eq h5, beq_eq h6]
 | .isl a m n, x, h => by
  cases x <;> simp only [AV.same] at h <;> try (simp at h; done)
  simp only [Bool.and_eq_true] at h
  rw [sames_eq _ _ h.1.1, beq_eq h.1.2, beq_eq h.2]
 | .eslc, x, h => by cases x <;> simp only [AV.same] at h <;> first | rfl | simp at h
 | .nilslc, x, h => by cases x <;> simp only [AV.same] at h <;> first | rfl | simp at h
 | .map a, x, h => by
  cases x <;> simp only [AV.same] at h <;> try (simp at h; done)
  rw [beq_eq h]
 | .nilmap, x, h => by cases x <;> simp only [AV.same] at h <;> first | rfl | simp at h
 | .fn f a b, x, h => by
  cases x <;> simp only [AV.same] at h <;> try (simp at h; done)
  simp only [Bool.and_eq_true] at h
  rw [beq_eq h.1.1, sames_eq _ _ h.1.2, sames_eq _ _ h.2]
 | .nilfn, x, h => by cases x <;> simp only [AV.same] at h <;> first | rfl | simp at h
 | .ifc t a, x, h => by
  cases x <;> simp only [AV.same] at h <;> try (simp at h; done)
  simp only [Bool.and_eq_true] at h
  rw [beq_eq h.1, same_eq _ _ h.2]
 | .nilifc, x, h => by cases x <;> simp only [AV.same] at h <;> first | rfl | simp at h
 | .agg a, x, h => by
  cases x <;> simp only [AV.same] at h <;> try (simp at h; done)
  rw [sames_eq _ _ h]
 | .tup a, x, h => by
  cases x <;> simp only [AV.same] at h <;> try (simp at h; done)
  rw [sames_eq _ _ h]
 | .it a, x, h => by
  cases x <;> simp only [AV.same] at h <;> try (simp at h; done)
  rw [beq_eq h]
theorem sames_eq : ∀ (a b : List AV), AV.sames a b = true → a = b
 | [], [], _ => rfl
 | [], _ :: _, h => by simp [AV.sames] at h
 | _ :: _, [], h => by simp [AV.sames] at h
 | a :: x, b :: y, h => by
  simp only [AV.sames, Bool.and_eq_true] at h
  rw [same_eq _ _ h.1, sames_eq _ _ h.2]
end
theorem osame_eq {a : Option AV} {b : AV} (h : osame a b = true) : a = some b := by
 cases a with
 | none => simp [osame] at h
 | some a =>
  have := same_eq a b (by simpa [osame] using h)
  rw [this]
section
variable {fr fr1 : Fr}
theorem ev_congr {x : AO} (h : ∀ t, t ∈ x.tmps → fr.get t = fr1.get t) : x.ev fr = x.ev fr1 := by
 cases x with
 | t n => exact h n (by simp [AO.tmps])
 | c v => rfl
theorem evs_congr : ∀ {l : List AO}, (∀ t, t ∈ lTmps l → fr.get t = fr1.get t) → evs fr l = evs fr1 l
 | [], _ => rfl
 | x :: l, h => by
  have h1 : x.ev fr = x.ev fr1 := ev_congr fun t ht => h t (by simp [lTmps]; exact .inl ht)
  have h2 : evs fr l = evs fr1 l := evs_congr fun t ht => h t (by simp only [lTmps, List.flatMap_cons, List.mem_append]; exact .inr ht)
  simp only [evs, h1, h2]
theorem evo_congr {x : Option AO} (h : ∀ t, t ∈ oTmps x → fr.get t = fr1.get t) : evo fr x = evo fr1 x := by
 cases x with
 | none => rfl
 | some x => simp only [evo]; rw [ev_congr (fr := fr) (fr1 := fr1) (x := x) h]
theorem fillA_congr : ∀ {l : List (Nat × Nat × AO)} {zs : List AV}, (∀ t, t ∈ pTmps l → fr.get t = fr1.get t) → fillA fr zs l = fillA fr1 zs l
 | [], zs, _ => rfl
 | (off, size, x) :: l, zs, h => by
  have h1 : x.ev fr = x.ev fr1 := ev_congr fun t ht => h t (by simp only [pTmps, List.flatMap_cons, List.mem_append]; exact .inl ht)
  simp only [fillA, h1]
  split
  ·rfl
  ·rw [fillA_congr fun t ht => h t (by simp only [pTmps, List.flatMap_cons, List.mem_append]; exact .inr ht)]
theorem apure_congr {p : POp} (h : ∀ t, t ∈ p.tmps → fr.get t = fr1.get t) : apure fr p = apure fr1 p := by
 cases p <;> simp only [POp.tmps, List.mem_append] at h <;> simp only [apure]
 case mov x => exact ev_congr h
 case pick c a b =>
  rw [ev_congr (fr := fr) (fr1 := fr1) (x := c) fun t ht => h t (.inl (.inl ht)), ev_congr (fr := fr) (fr1 := fr1) (x := a) fun t ht => h t (.inl (.inr ht)), ev_congr (fr := fr) (fr1 := fr1) (x := b) fun t ht => h t (.inr ht)]
 case build zs l => rw [fillA_congr h]
 case nilchk x => rw [ev_congr (fr := fr) (fr1 := fr1) h]
 case bin op x y => rw [ev_congr (fr := fr) (fr1 := fr1) (x := x) fun t ht => h t (.inl ht), ev_congr (fr := fr) (fr1 := fr1) (x := y) fun t ht => h t (.inr ht)]
 case eq ng k x y => rw [ev_congr (fr := fr) (fr1 := fr1) (x := x) fun t ht => h t (.inl ht), ev_congr (fr := fr) (fr1 := fr1) (x := y) fun t ht => h t (.inr ht)]
 case un op x => rw [ev_congr (fr := fr) (fr1 := fr1) h]
 case toInt k x => rw [ev_congr (fr := fr) (fr1 := fr1) h]
 case same x => rw [ev_congr (fr := fr) (fr1 := fr1) h]
 case mkifc t x => rw [ev_congr (fr := fr) (fr1 := fr1) h]
 case mkfn f a b => rw [evs_congr (fr := fr) (fr1 := fr1) (l := a) fun t ht => h t (.inl ht), evs_congr (fr := fr) (fr1 := fr1) (l := b) fun t ht => h t (.inr ht)]
 case sstr x lo hi =>
  rw [ev_congr (fr := fr) (fr1 := fr1) (x := x) fun t ht => h t (.inl (.inl ht)), evo_congr (fr := fr) (fr1 := fr1) (x := lo) fun t ht => h t (.inl (.inr ht)), evo_congr (fr := fr) (fr1 := fr1) (x := hi) fun t ht => h t (.inr ht)]
 case sslc sz x lo hi mx =>
  rw [ev_congr (fr := fr) (fr1 := fr1) (x := x) fun t ht => h t (.inl (.inl (.inl ht))), evo_congr (fr := fr) (fr1 := fr1) (x := lo) fun t ht => h t (.inl (.inl (.inr ht))), evo_congr (fr := fr) (fr1 := fr1) (x := hi) fun t ht => h t (.inl (.inr ht)), evo_congr (fr := fr) (fr1 := fr1) (x := mx) fun t ht => h t (.inr ht)]
 case sarr n sz x lo hi mx =>
  rw [ev_congr (fr := fr) (fr1 := fr1) (x := x) fun t ht => h t (.inl (.inl (.inl ht))), evo_congr (fr := fr) (fr1 := fr1) (x := lo) fun t ht => h t (.inl (.inl (.inr ht))), evo_congr (fr := fr) (fr1 := fr1) (x := hi) fun t ht => h t (.inl (.inr ht)), evo_congr (fr := fr) (fr1 := fr1) (x := mx) fun t ht => h t (.inr ht)]
 case fadr off size x => rw [ev_congr (fr := fr) (fr1 := fr1) h]
 case field ag off size x => rw [ev_congr (fr := fr) (fr1 := fr1) h]
 case iadr sz x y => rw [ev_congr (fr := fr) (fr1 := fr1) (x := x) fun t ht => h t (.inl ht), ev_congr (fr := fr) (fr1 := fr1) (x := y) fun t ht => h t (.inr ht)]
 case aadr n sz x y => rw [ev_congr (fr := fr) (fr1 := fr1) (x := x) fun t ht => h t (.inl ht), ev_congr (fr := fr) (fr1 := fr1) (x := y) fun t ht => h t (.inr ht)]
 case idxs x y => rw [ev_congr (fr := fr) (fr1 := fr1) (x := x) fun t ht => h t (.inl ht), ev_congr (fr := fr) (fr1 := fr1) (x := y) fun t ht => h t (.inr ht)]
 case idxa ag n sz x y => rw [ev_congr (fr := fr) (fr1 := fr1) (x := x) fun t ht => h t (.inl ht), ev_congr (fr := fr) (fr1 := fr1) (x := y) fun t ht => h t (.inr ht)]
 case len st x => rw [ev_congr (fr := fr) (fr1 := fr1) h]
 case mmax l => rw [evs_congr (fr := fr) (fr1 := fr1) h]
 case mmin l => rw [evs_congr (fr := fr) (fr1 := fr1) h]
 case tas t z ok x => rw [ev_congr (fr := fr) (fr1 := fr1) h]
 case ext x i => rw [ev_congr (fr := fr) (fr1 := fr1) h]
theorem amake_congr {id : Nat} {p : LOp} (h : ∀ t, t ∈ p.tmps → fr.get t = fr1.get t) : amake fr id p = amake fr1 id p := by
 cases p <;> simp only [LOp.tmps, List.mem_append] at h <;> simp only [amake]
 case box x => rw [ev_congr (fr := fr) (fr1 := fr1) h]
 case lits len sz zs l => rw [fillA_congr h]
 case mkslc sz by' zs x y => rw [ev_congr (fr := fr) (fr1 := fr1) (x := x) fun t ht => h t (.inl ht), ev_congr (fr := fr) (fr1 := fr1) (x := y) fun t ht => h t (.inr ht)]
 case s2b x => rw [ev_congr (fr := fr) (fr1 := fr1) h]
theorem aeff_congr {call : CallF} {s : St} {p : EOp} (h : ∀ t, t ∈ p.tmps → fr.get t = fr1.get t) : aeff call fr s p = aeff call fr1 s p := by
 cases p <;> simp only [EOp.tmps, List.mem_append] at h <;> simp only [aeff]
 case store n x y => rw [ev_congr (fr := fr) (fr1 := fr1) (x := x) fun t ht => h t (.inl ht), ev_congr (fr := fr) (fr1 := fr1) (x := y) fun t ht => h t (.inr ht)]
 case append n b x y => rw [ev_congr (fr := fr) (fr1 := fr1) (x := x) fun t ht => h t (.inl ht), ev_congr (fr := fr) (fr1 := fr1) (x := y) fun t ht => h t (.inr ht)]
 case copy n x y => rw [ev_congr (fr := fr) (fr1 := fr1) (x := x) fun t ht => h t (.inl ht), ev_congr (fr := fr) (fr1 := fr1) (x := y) fun t ht => h t (.inr ht)]
 case mupd ag ks m k v => rw [ev_congr (fr := fr) (fr1 := fr1) (x := m) fun t ht => h t (.inl (.inl ht)), ev_congr (fr := fr) (fr1 := fr1) (x := k) fun t ht => h t (.inl (.inr ht)), ev_congr (fr := fr) (fr1 := fr1) (x := v) fun t ht => h t (.inr ht)]
 case mdel ag ks x y => rw [ev_congr (fr := fr) (fr1 := fr1) (x := x) fun t ht => h t (.inl ht), ev_congr (fr := fr) (fr1 := fr1) (x := y) fun t ht => h t (.inr ht)]
 case ment ag ks z x y => rw [ev_congr (fr := fr) (fr1 := fr1) (x := x) fun t ht => h t (.inl ht), ev_congr (fr := fr) (fr1 := fr1) (x := y) fun t ht => h t (.inr ht)]
 case mput m k v => rw [ev_congr (fr := fr) (fr1 := fr1) (x := m) fun t ht => h t (.inl (.inl ht)), ev_congr (fr := fr) (fr1 := fr1) (x := k) fun t ht => h t (.inl (.inr ht)), ev_congr (fr := fr) (fr1 := fr1) (x := v) fun t ht => h t (.inr ht)]
 case rng st x => rw [ev_congr (fr := fr) (fr1 := fr1) h]
 case next st x => rw [ev_congr (fr := fr) (fr1 := fr1) h]
 case call f l => rw [evs_congr (fr := fr) (fr1 := fr1) h]
 case callv x l => rw [ev_congr (fr := fr) (fr1 := fr1) (x := x) fun t ht => h t (.inl ht), evs_congr (fr := fr) (fr1 := fr1) (l := l) fun t ht => h t (.inr ht)]
theorem wants_congr {g : Option (Nat × Bool)} (h : ∀ t, t ∈ gTmps g → fr.get t = fr1.get t) : wants fr g = wants fr1 g := by
 cases g with
 | none => rfl
 | some q => obtain ⟨t, b⟩ := q; simp only [wants]; rw [h t (by simp [gTmps])]
end
end Go.Abs
namespace Go.Abs
open Go Go.RowKit
inductive Stp (call : CallF) (id i : Nat) (o : AOper) (d d' : DS) : AV → Option AObj → Bool → Prop
 | off : wants d.fr o.guard = some false → d' = { d with fr := putO d.fr o.dst (.tup []) } → Stp call id i o d d' (.tup []) none false
 | p {p : POp} {v : AV} : wants d.fr o.guard = some true → o.op = .p p → apure d.fr p = some v → d' = { d with fr := putO d.fr o.dst v } → Stp call id i o d d' v none false
 | r {k : RK} {x y : AO} {xv yv v : AV} : wants d.fr o.guard = some true → o.op = .r k x y → x.ev d.fr = some xv → y.ev d.fr = some yv → aread k xv yv d.s = some v → effsOk o.pre k xv yv v d.effs = true →
   d' = { d with fr := putO d.fr o.dst v, rds := ⟨i, k, xv, yv, v⟩ :: d.rds } → Stp call id i o d d' v none false
 | a {p : LOp} {ob : AObj} {v : AV} : wants d.fr o.guard = some true → o.op = .a p → amake d.fr id p = some (ob, v) → d' = { d with fr := putO d.fr o.dst v, pend := (id, ob) :: d.pend } → Stp call id i o d d' v (some ob) false
 | e {e : EOp} {v : AV} {s' : St} : wants d.fr o.guard = some true → o.op = .e e → aeff call d.fr (flush d.s d.pend) e = some (v, s') → readsOk o.pre s' d.rds = true →
   d' = { fr := putO d.fr o.dst v, s := s', pend := [], effs := (i, d.s) :: d.effs, rds := d.rds } → Stp call id i o d d' v none true
theorem adop_stp {call : CallF} {id i : Nat} {o : AOper} {d d' : DS} (hw : wants d.fr o.guard = some true) (h : adop call id i o d = some d') : ∃ v al ef, Stp call id i o d d' v al ef := by
 unfold adop at h
 split at h
 ·rename_i p hp
  split at h <;> simp at h
  rename_i v hv
  exact ⟨v, none, false, .p hw hp hv h.symm⟩
 ·rename_i k x y hp
  split at h
  ·rename_i xv yv hx hy
   split at h
   ·rename_i v hv
    obtain ⟨he, h⟩ := bif_some h
    simp at h
    exact ⟨v, none, false, .r hw hp hx hy hv he h.symm⟩
   ·simp at h
  ·simp at h
 ·rename_i p hp
  split at h <;> simp at h
  rename_i ob v hv
  exact ⟨v, some ob, false, .a hw hp hv h.symm⟩
 ·rename_i e hp
  split at h
  ·rename_i v s' hv
   obtain ⟨he, h⟩ := bif_some h
   simp at h
   exact ⟨v, none, true, .e hw hp hv he h.symm⟩
  ·simp at h
theorem adraws_trace {call : CallF} : ∀ {L : List AOper} {id i : Nat} {d0 dm : DS}, adraws call id i L d0 = some dm →
  ∃ (d : Nat → DS) (val : Nat → AV) (al : Nat → Option AObj) (ef : Nat → Bool), d 0 = d0 ∧ d L.length = dm ∧ ∀ j o, L[j]? = some o → Stp call (id + j) (i + j) o (d j) (d (j + 1)) (val j) (al j) (ef j)
 | [], id, i, d0, dm, h => by
  simp [adraws] at h
  subst h
  exact ⟨fun _ => d0, fun _ => .tup [], fun _ => none, fun _ => false, rfl, rfl, by simp⟩
 | o :: L, id, i, d0, dm, h => by
  have hstep : ∃ d1 v al ef, Stp call id i o d0 d1 v al ef ∧ adraws call (id + 1) (i + 1) L d1 = some dm := by
   simp only [adraws] at h
   cases hw : wants d0.fr o.guard with
   | none => simp [hw] at h
   | some b =>
    cases b with
    | false => simp only [hw] at h; exact ⟨_, _, _, _, .off hw rfl, h⟩
    | true =>
     simp only [hw] at h
     cases ha : adop call id i o d0 with
     | none => simp [ha] at h
     | some d1 =>
      simp only [ha] at h
      obtain ⟨v, al, ef, hs⟩ := adop_stp hw ha
      exact ⟨d1, v, al, ef, hs, h⟩
  obtain ⟨d1, v, a0, e0, hs, h⟩ := hstep
  obtain ⟨d, val, al, ef, h1, h2, h3⟩ := adraws_trace h
  refine ⟨fun j => match j with | 0 => d0 | j + 1 => d j, fun j => match j with | 0 => v | j + 1 => val j, fun j => match j with | 0 => a0 | j + 1 => al j, fun j => match j with | 0 => e0 | j + 1 => ef j, rfl, h2, ?_⟩
  intro j o' ho
  cases j with
  | zero => simp at ho; subst ho; simp only [Nat.zero_add, Nat.add_zero]; rw [h1]; exact hs
  | succ j =>
   have := h3 j o' (by simpa using ho)
   have e1 : id + (j + 1) = id + 1 + j := by omega
   have e2 : i + (j + 1) = i + 1 + j := by omega
   rw [e1, e2]
   exact this
theorem flush_next (s : St) : ∀ l : List (Nat × AObj), (flush s l).next = s.next
 | [] => rfl
 | (id, o) :: l => by simp only [flush, St.put]; exact flush_next s l
structure Trace (call : Nat → CallF) (base : Nat) (L : List AOper) (d : Nat → DS) (val : Nat → AV) (al : Nat → Option AObj) (ef : Nat → Bool) : Prop where
 step : ∀ i o, L[i]? = some o → Stp (call i) (base + i) i o (d i) (d (i + 1)) (val i) (al i) (ef i)
 ini : (d 0).pend = [] ∧ (d 0).effs = [] ∧ (d 0).rds = []
 keeps : ∀ i, KeepsF (call i)
 next0 : base + L.length ≤ (d 0).s.next
structure TrP (base m : Nat) (d : Nat → DS) (al : Nat → Option AObj) (e : Nat) : Prop where
 pa : ∀ id o, (d e).s.objs.get id = some o → (flush (d e).s (d e).pend).objs.get id = some o
 pb : ∀ id o, (d e).s.objs.get id = none → (flush (d e).s (d e).pend).objs.get id = some o → ∃ i, i < e ∧ id = base + i ∧ al i = some o
 pc : ∀ i ob, i < e → al i = some ob → (flush (d e).s (d e).pend).objs.get (base + i) ≠ none
 pd : ∀ i, i < m → (e ≤ i ∨ al i = none) → (flush (d e).s (d e).pend).objs.get (base + i) = none
 pe : base + m ≤ (d e).s.next
 pf : Keeps base (d 0).s (flush (d e).s (d e).pend)
section
variable {call : Nat → CallF} {base : Nat} {L : List AOper} {d : Nat → DS} {val : Nat → AV} {al : Nat → Option AObj} {ef : Nat → Bool}
theorem trace_P (T : Trace call base L d val al ef) (none0 : ∀ i, i < L.length → (d 0).s.objs.get (base + i) = none) : ∀ e, e ≤ L.length → TrP base L.length d al e
 | 0, _ => by
  have hp := T.ini.1
  refine ⟨?_, ?_, ?_, ?_, T.next0, ?_⟩ <;> rw [hp]
  ·intro id o h; exact h
  ·intro id o h h2; simp only [flush] at h2; rw [h] at h2; simp at h2
  ·intro i ob h; omega
  ·intro i h _; exact none0 i h
  ·exact Keeps.refl _ _
 | e + 1, he => by
  have IH := trace_P T none0 e (by omega)
  have ho : ∃ o, L[e]? = some o := ⟨L[e], by simp [List.getElem?_eq_getElem (show e < L.length by omega)]⟩
  obtain ⟨o, ho⟩ := ho
  have same : al e = none → (d (e + 1)).s = (d e).s → (d (e + 1)).pend = (d e).pend → TrP base L.length d al (e + 1) := by
   intro h0 h1 h2
   refine ⟨?_, ?_, ?_, ?_, ?_, ?_⟩ <;> rw [h1] <;> try rw [h2]
   ·exact IH.pa
   ·intro id o h3 h4
    obtain ⟨i, i1, i2, i3⟩ := IH.pb id o h3 h4
    exact ⟨i, by omega, i2, i3⟩
   ·intro i ob h3 h4
    rcases Nat.lt_or_ge i e with h | h
    ·exact IH.pc i ob h h4
    ·have : i = e := by omega
     subst this
     rw [h0] at h4; simp at h4
   ·intro i h3 h4
    refine IH.pd i h3 ?_
    rcases h4 with h4 | h4
    ·left; omega
    ·right; exact h4
   ·exact IH.pe
   ·exact IH.pf
  have st := T.step e o ho
  generalize hv : val e = v at st
  generalize ha : al e = aa at st
  generalize hef : ef e = ee at st
  cases st with
  | off hw hd => exact same ha (by rw [hd]) (by rw [hd])
  | p hw hp hv2 hd => exact same ha (by rw [hd]) (by rw [hd])
  | r hw hp hx hy hr hef2 hd => exact same ha (by rw [hd]) (by rw [hd])
  | @a p ob v2 hw hp hm hd =>
   have hs : (d (e + 1)).s = (d e).s := by rw [hd]
   have hpe : (d (e + 1)).pend = (base + e, ob) :: (d e).pend := by rw [hd]
   have hfree := IH.pd e (by omega) (.inl (Nat.le_refl _))
   refine ⟨?_, ?_, ?_, ?_, ?_, ?_⟩ <;> rw [hs] <;> try rw [hpe]
   ·intro id o2 h
    have h2 := IH.pa id o2 h
    simp only [flush, St.put, Tr.get_set]
    rw [if_neg (fun e1 => by rw [e1, hfree] at h2; simp at h2)]
    exact h2
   ·intro id o2 h1 h2
    simp only [flush, St.put, Tr.get_set] at h2
    by_cases e1 : id = base + e
    ·rw [if_pos e1] at h2
     simp at h2
     exact ⟨e, by omega, e1, by rw [ha, h2]⟩
    ·rw [if_neg e1] at h2
     obtain ⟨i, i1, i2, i3⟩ := IH.pb id o2 h1 h2
     exact ⟨i, by omega, i2, i3⟩
   ·intro i ob2 h1 h2
    simp only [flush, St.put, Tr.get_set]
    by_cases e1 : base + i = base + e
    ·rw [if_pos e1]; simp
    ·rw [if_neg e1]; exact IH.pc i ob2 (by omega) h2
   ·intro i h1 h2
    simp only [flush, St.put, Tr.get_set]
    rw [if_neg ?_]
    ·refine IH.pd i h1 ?_
     rcases h2 with h2 | h2
     ·left; omega
     ·right; exact h2
    ·intro e1
     have : i = e := by omega
     subst this
     rcases h2 with h2 | h2
     ·omega
     ·rw [ha] at h2; simp at h2
   ·exact IH.pe
   ·refine ⟨IH.pf.1, fun j => ⟨fun hj hn => ?_, fun hn => ?_⟩⟩
    ·simp only [flush, St.put, Tr.get_set]
     rw [if_neg (by omega)]
     exact (IH.pf.2 j).1 hj hn
    ·simp only [flush, St.put, Tr.get_set] at hn
     by_cases e1 : j = base + e
     ·rw [if_pos e1] at hn; simp at hn
     ·rw [if_neg e1] at hn; exact (IH.pf.2 j).2 hn
  | @e eo v2 s' hw hp hm hr hd =>
   have hs : (d (e + 1)).s = s' := by rw [hd]
   have hpe : (d (e + 1)).pend = [] := by rw [hd]
   have hk := aeff_keeps (T.keeps _) hm
   rw [flush_next] at hk
   refine ⟨?_, ?_, ?_, ?_, ?_, ?_⟩ <;> rw [hs] <;> try rw [hpe]
   ·intro id o2 h; exact h
   ·intro id o2 h h2; simp only [flush] at h2; rw [h] at h2; simp at h2
   ·intro i ob h1 h2 h3
    simp only [flush] at h3
    have hie : i < e := by
     rcases Nat.lt_or_ge i e with h | h
     ·exact h
     ·have : i = e := by omega
      subst this; rw [ha] at h2; simp at h2
    exact IH.pc i ob hie h2 ((hk.2 _).2 h3)
   ·intro i h1 h2
    simp only [flush]
    have he := IH.pe
    refine (hk.2 _).1 (by omega) (IH.pd i h1 ?_)
    rcases h2 with h2 | h2
    ·left; omega
    ·right; exact h2
   ·have h1 := IH.pe
    have h2 := hk.1
    rw [flush_next] at h2
    omega
   ·simp only [flush]
    have he := IH.pe
    exact IH.pf.trans (hk.mono (by omega))
noncomputable def GT (L : List AOper) (d : Nat → DS) (val : Nat → AV) (D : Nat → Bool) : Nat → Fr
 | 0 => (d 0).fr
 | k + 1 => bif D k then putO (GT L d val D k) ((L[k]?).bind (·.dst)) (val k) else GT L d val D k
theorem stp_fr {id i : Nat} {o : AOper} {d d' : DS} {v : AV} {aa : Option AObj} {b : Bool} {call : CallF} (h : Stp call id i o d d' v aa b) : d'.fr = putO d.fr o.dst v := by
 cases h <;> rename_i hd <;> rw [hd]
theorem trace_fr (T : Trace call base L d val al ef) : ∀ k, k ≤ L.length → (d k).fr = GT L d val (fun _ => true) k
 | 0, _ => rfl
 | k + 1, hk => by
  have ho : L[k]? = some L[k] := by simp [List.getElem?_eq_getElem (show k < L.length by omega)]
  rw [stp_fr (T.step k _ ho), trace_fr T k (by omega)]
  simp only [GT, cond_true, ho, Option.bind_some]
theorem putO_get {fr : Fr} {dst : Option Nat} {v : AV} {t : Nat} : (putO fr dst v).get t = if dst = some t then some v else fr.get t := by
 cases dst with
 | none => simp [putO]
 | some x =>
  simp only [putO, Tr.get_set]
  by_cases h : t = x
  ·subst h; simp
  ·rw [if_neg h, if_neg (fun e => h (Option.some.inj e).symm)]
theorem GT_drop {D : Nat → Bool} {t j : Nat} : ∀ k, j ≤ k → (∀ i, j ≤ i → i < k → (L[i]?).bind (·.dst) = some t → D i = false) → (GT L d val D k).get t = (GT L d val D j).get t
 | 0, h, _ => by
         have : j = 0 := by omega
         rw [this]
 | k + 1, h, hD => by
  rcases Nat.lt_or_ge k j with hk | hk
  ·have : j = k + 1 := by omega
   rw [this]
  ·have ih := GT_drop k hk fun i h1 h2 h3 => hD i h1 (by omega) h3
   simp only [GT]
   cases hb : D k with
   | false => simp only [cond_false]; exact ih
   | true =>
    simp only [cond_true, putO_get]
    rw [if_neg (fun e => by have := hD k hk (by omega) e; rw [hb] at this; simp at this)]
    exact ih
theorem GT_same {D E : Nat → Bool} {t : Nat} : ∀ k, (∀ i, i < k → (L[i]?).bind (·.dst) = some t → D i = E i) → (GT L d val D k).get t = (GT L d val E k).get t
 | 0, _ => rfl
 | k + 1, h => by
  have ih := GT_same k fun i h1 h2 => h i (by omega) h2
  simp only [GT]
  by_cases ht : (L[k]?).bind (·.dst) = some t
  ·rw [h k (by omega) ht]
   cases E k <;> simp [putO_get, ht, ih]
  ·cases D k <;> cases E k <;> simp [putO_get, ht, ih]
theorem GT_at {D : Nat → Bool} {t j m : Nat} (hj : j ≤ m) (h1 : ∀ i, i < j → (L[i]?).bind (·.dst) = some t → D i = true) (h2 : ∀ i, j ≤ i → i < m → (L[i]?).bind (·.dst) = some t → D i = false) :
  (GT L d val D m).get t = (GT L d val (fun _ => true) j).get t := by
 rw [GT_drop m hj h2]
 exact GT_same j h1
theorem GT_put {D : Nat → Bool} {j m t : Nat} (hj : j < m) (h2 : ∀ i t, j < i → i < m → (L[i]?).bind (·.dst) = some t → (L[j]?).bind (·.dst) = some t → D i = false) :
  (GT L d val (fun i => D i || i == j) m).get t = if (L[j]?).bind (·.dst) = some t then some (val j) else (GT L d val D m).get t := by
 by_cases ht : (L[j]?).bind (·.dst) = some t
 ·rw [if_pos ht]
  have : (GT L d val (fun i => D i || i == j) m).get t = (GT L d val (fun i => D i || i == j) (j + 1)).get t := by
   refine GT_drop m (by omega) ?_
   intro i h3 h4 h5
   have := h2 i t (by omega) h4 h5 ht
   simp [this]
   omega
  rw [this]
  simp [GT, putO_get, ht]
 ·rw [if_neg ht]
  refine GT_same m ?_
  intro i h3 h4
  have : (i == j) = false := by
   simp
   intro e
   subst e
   exact ht h4
  simp [this]
theorem effsOk_mem {pre : Nat} {k : RK} {x y v : AV} : ∀ {l : List (Nat × St)} {i : Nat} {s : St}, effsOk pre k x y v l = true → (i, s) ∈ l → Nat.testBit pre i = true ∨ aread k x y s = some v
 | [], i, s, h, hm => by simp at hm
 | (j, s1) :: l, i, s, h, hm => by
  simp only [effsOk, Bool.and_eq_true, Bool.or_eq_true] at h
  rcases List.mem_cons.1 hm with hm | hm
  ·cases hm
   rcases h.1 with h1 | h1
   ·exact .inl h1
   ·exact .inr (osame_eq h1)
  ·exact effsOk_mem h.2 hm
theorem readsOk_mem {pre : Nat} {s : St} : ∀ {l : List Rd} {r : Rd}, readsOk pre s l = true → r ∈ l → Nat.testBit pre r.i = true ∨ aread r.k r.x r.y s = some r.v
 | [], r, h, hm => by simp at hm
 | q :: l, r, h, hm => by
  simp only [readsOk, Bool.and_eq_true, Bool.or_eq_true] at h
  rcases List.mem_cons.1 hm with hm | hm
  ·cases hm
   rcases h.1 with h1 | h1
   ·exact .inl h1
   ·exact .inr (osame_eq h1)
  ·exact readsOk_mem h.2 hm
theorem trace_effs (T : Trace call base L d val al ef) {i : Nat} (hef : ef i = true) : ∀ j, i < j → j ≤ L.length → (i, (d i).s) ∈ (d j).effs
 | 0, h, _ => by omega
 | j + 1, h, hj => by
  have ho : L[j]? = some L[j] := by simp [List.getElem?_eq_getElem (show j < L.length by omega)]
  have st := T.step j _ ho
  rcases Nat.lt_or_ge i j with hij | hij
  ·have ih := trace_effs T hef j hij (by omega)
   generalize hv : val j = v at st
   generalize ha : al j = aa at st
   generalize hee : ef j = ee at st
   cases st with
   | off hw hd => rw [hd]; exact ih
   | p hw hp hv2 hd => rw [hd]; exact ih
   | r hw hp hx hy hr hef2 hd => rw [hd]; exact ih
   | a hw hp hm hd => rw [hd]; exact ih
   | e hw hp hm hr hd => rw [hd]; exact List.mem_cons_of_mem _ ih
  ·have : i = j := by omega
   subst this
   generalize hv : val i = v at st
   generalize ha : al i = aa at st
   rw [hef] at st
   cases st with
   | e hw hp hm hr hd => rw [hd]; exact List.mem_cons_self ..
theorem trace_rds (T : Trace call base L d val al ef) {i : Nat} {r : Rd} (hr : r ∈ (d (i + 1)).rds) : ∀ j, i < j → j ≤ L.length → r ∈ (d j).rds
 | 0, h, _ => by omega
 | j + 1, h, hj => by
  rcases Nat.lt_or_ge i j with hij | hij
  ·have ih := trace_rds T hr j hij (by omega)
   have ho : L[j]? = some L[j] := by simp [List.getElem?_eq_getElem (show j < L.length by omega)]
   have st := T.step j _ ho
   generalize hv : val j = v at st
   generalize ha : al j = aa at st
   generalize hee : ef j = ee at st
   cases st with
   | off hw hd => rw [hd]; exact ih
   | p hw hp hv2 hd => rw [hd]; exact ih
   | r hw hp hx hy hr hef2 hd => rw [hd]; exact List.mem_cons_of_mem _ ih
   | a hw hp hm hd => rw [hd]; exact ih
   | e hw hp hm hr hd => rw [hd]; exact ih
  ·have : i = j := by omega
   subst this
   exact hr
theorem trace_s (T : Trace call base L d val al ef) {e : Nat} : ∀ e', e ≤ e' → e' ≤ L.length → (∀ i, e ≤ i → i < e' → ef i = false) → (d e').s = (d e).s
 | 0, h, _, _ => by
           have : e = 0 := by omega
           rw [this]
 | j + 1, h, hj, hn => by
  rcases Nat.lt_or_ge j e with hij | hij
  ·have : e = j + 1 := by omega
   rw [this]
  ·have ih := trace_s T j hij (by omega) fun i h1 h2 => hn i h1 (by omega)
   have ho : L[j]? = some L[j] := by simp [List.getElem?_eq_getElem (show j < L.length by omega)]
   have st := T.step j _ ho
   have hf := hn j hij (by omega)
   generalize hv : val j = v at st
   generalize ha : al j = aa at st
   rw [hf] at st
   cases st with
   | off hw hd => rw [hd]; exact ih
   | p hw hp hv2 hd => rw [hd]; exact ih
   | r hw hp hx hy hr hef2 hd => rw [hd]; exact ih
   | a hw hp hm hd => rw [hd]; exact ih
end
end Go.Abs
namespace Go.Abs
open Go Go.RowKit
section
variable {call : Nat → CallF} {base : Nat} {L : List AOper} {d : Nat → DS} {val : Nat → AV} {al : Nat → Option AObj} {ef : Nat → Bool}
theorem trace_K (T : Trace call base L d val al ef) : ∀ e, e ≤ L.length → base + L.length ≤ (d e).s.next ∧ Keeps base (d 0).s (flush (d e).s (d e).pend)
 | 0, _ => by
  refine ⟨T.next0, ?_⟩
  rw [T.ini.1]
  exact Keeps.refl _ _
 | e + 1, he => by
  obtain ⟨IH1, IH2⟩ := trace_K T e (by omega)
  have ho : L[e]? = some L[e] := by simp [List.getElem?_eq_getElem (show e < L.length by omega)]
  have st := T.step e _ ho
  generalize hv : val e = v at st
  generalize ha : al e = aa at st
  generalize hef : ef e = ee at st
  cases st with
  | off hw hd => rw [hd]; exact ⟨IH1, IH2⟩
  | p hw hp hv2 hd => rw [hd]; exact ⟨IH1, IH2⟩
  | r hw hp hx hy hr hef2 hd => rw [hd]; exact ⟨IH1, IH2⟩
  | @a p ob v2 hw hp hm hd =>
   rw [hd]
   refine ⟨IH1, IH2.1, fun j => ⟨fun hj hn => ?_, fun hn => ?_⟩⟩
   ·simp only [flush, St.put, Tr.get_set]
    rw [if_neg (by omega)]
    exact (IH2.2 j).1 hj hn
   ·simp only [flush, St.put, Tr.get_set] at hn
    by_cases e1 : j = base + e
    ·rw [if_pos e1] at hn; simp at hn
    ·rw [if_neg e1] at hn; exact (IH2.2 j).2 hn
  | @e eo v2 s' hw hp hm hr hd =>
   have hk := aeff_keeps (T.keeps _) hm
   rw [flush_next] at hk
   rw [hd]
   refine ⟨?_, IH2.trans (hk.mono (by omega))⟩
   have h2 := hk.1
   rw [flush_next] at h2
   simp only
   omega
theorem least (ef : Nat → Bool) (e : Nat) : ∀ j, (∀ i, e ≤ i → i < j → ef i = false) ∨ ∃ i, e ≤ i ∧ i < j ∧ ef i = true ∧ ∀ k, e ≤ k → k < i → ef k = false
 | 0 => .inl fun i _ h => by omega
 | j + 1 => by
  rcases least ef e j with h | ⟨i, h1, h2, h3, h4⟩
  ·by_cases hj : e ≤ j ∧ ef j = true
   ·exact .inr ⟨j, hj.1, by omega, hj.2, h⟩
   ·refine .inl fun i h1 h2 => ?_
    rcases Nat.lt_or_ge i j with h3 | h3
    ·exact h i h1 h3
    ·have : i = j := by omega
     subst this
     cases hq : ef i with
     | false => rfl
     | true => exact absurd ⟨h1, hq⟩ hj
  ·exact .inr ⟨i, h1, by omega, h3, h4⟩
theorem greatest (ef : Nat → Bool) (e : Nat) : ∀ j, (∀ i, e ≤ i → i < j → ef i = false) ∨ ∃ i, e ≤ i ∧ i < j ∧ ef i = true ∧ ∀ k, i < k → k < j → ef k = false
 | 0 => .inl fun i _ h => by omega
 | j + 1 => by
  by_cases hj : e ≤ j ∧ ef j = true
  ·exact .inr ⟨j, hj.1, by omega, hj.2, fun k h1 h2 => by omega⟩
  ·have hj2 : e ≤ j → ef j = false := fun h => by
    cases hq : ef j with
    | false => rfl
    | true => exact absurd ⟨h, hq⟩ hj
   rcases greatest ef e j with h | ⟨i, h1, h2, h3, h4⟩
   ·refine .inl fun i h1 h2 => ?_
    rcases Nat.lt_or_ge i j with h3 | h3
    ·exact h i h1 h3
    ·have : i = j := by omega
     subst this
     exact hj2 h1
   ·refine .inr ⟨i, h1, by omega, h3, fun k h5 h6 => ?_⟩
    rcases Nat.lt_or_ge k j with h7 | h7
    ·exact h4 k h5 h7
    ·have : k = j := by omega
     subst this
     exact hj2 (by omega)
theorem pair_hit {i : Nat} {o p : AOper} (h : pairOk i o p = true) (hh : o.hits p = true ∨ p.hits o = true) : Nat.testBit p.pre i = true := by
 unfold pairOk at h
 rcases hh with hh | hh <;> simp [hh] at h <;> exact h
theorem pair_eff {i : Nat} {o p : AOper} (h : pairOk i o p = true) (h1 : o.op.isE = true ∨ o.op.isA = true) (h2 : p.op.isE = true) : Nat.testBit p.pre i = true := by
 unfold pairOk at h
 rcases h1 with h1 | h1 <;> simp [h1, h2] at h <;> exact h
theorem rowOk_get {i : Nat} {o : AOper} : ∀ {l : List AOper} {j : Nat} {p : AOper}, rowOk i o l = true → l[j]? = some p → pairOk i o p = true
 | [], j, p, _, h => by simp at h
 | q :: l, 0, p, h, hj => by simp at hj; subst hj; simp only [rowOk, Bool.and_eq_true] at h; exact h.1
 | q :: l, j + 1, p, h, hj => by simp only [rowOk, Bool.and_eq_true] at h; exact rowOk_get h.2 (by simpa using hj)
theorem drawOk_pair : ∀ {l : List AOper} {k i j : Nat} {o p : AOper}, drawOk k l = true → l[i]? = some o → l[j]? = some p → i < j → pairOk (k + i) o p = true
 | [], k, i, j, o, p, _, h, _, _ => by simp at h
 | q :: l, k, 0, j, o, p, h, hi, hj, hij => by
  simp at hi
  subst hi
  simp only [drawOk, Bool.and_eq_true] at h
  cases j with
  | zero => omega
  | succ j => exact rowOk_get h.1.2 (by simpa using hj)
 | q :: l, k, i + 1, j, o, p, h, hi, hj, hij => by
  simp only [drawOk, Bool.and_eq_true] at h
  cases j with
  | zero => omega
  | succ j =>
   have := drawOk_pair h.2 (by simpa using hi) (by simpa using hj) (by omega : i < j)
   have e : k + 1 + i = k + (i + 1) := by omega
   rw [e] at this
   exact this
theorem compOpers_get {P : Program} {ops : Array Oper} : ∀ {l : List Oper} {pres : List Nat} {r : List AOper}, compOpers P ops l pres = some r → r.length = l.length ∧ ∀ j op, l[j]? = some op →
  ∃ o, r[j]? = some o ∧ o.dst = op.dst ∧ compOp P op.op = some o.op ∧ compGuard ops op.guard = some o.guard ∧ o.pre = preOf (pres ++ (r.take j).map (·.pre)) op
 | [], pres, r, h => by simp [compOpers] at h; subst h; exact ⟨rfl, by simp⟩
 | op :: l, pres, r, h => by
  simp only [compOpers] at h
  cases h1 : compOp P op.op with
  | none => simp [h1] at h
  | some ao =>
   cases h2 : compGuard ops op.guard with
   | none => simp [h1, h2] at h
   | some g =>
    simp only [h1, h2] at h
    cases h3 : compOpers P ops l (pres ++ [preOf pres op]) with
    | none => simp [h3] at h
    | some l' =>
     simp [h3] at h
     subst h
     obtain ⟨k1, k2⟩ := compOpers_get h3
     refine ⟨by simp [k1], ?_⟩
     intro j op' hj
     cases j with
     | zero =>
      simp at hj
      subst hj
      exact ⟨_, rfl, rfl, h1, h2, by simp⟩
     | succ j =>
      obtain ⟨o, q1, q2, q3, q4, q5⟩ := k2 j op' (by simpa using hj)
      refine ⟨o, by simpa using q1, q2, q3, q4, ?_⟩
      rw [q5]
      simp
noncomputable def XD (X : Nat → Option AObj) (base : Nat) (al : Nat → Option AObj) (D : Nat → Bool) : Nat → Option AObj := fun id =>
 if base ≤ id then match al (id - base) with
  | some ob => if D (id - base) = true then some ob else X id
  | none => X id
 else X id
theorem XD_at {X : Nat → Option AObj} {D : Nat → Bool} {i : Nat} {ob : AObj} (h : al i = some ob) (hd : D i = true) : XD X base al D (base + i) = some ob := by
 unfold XD
 rw [if_pos (by omega)]
 have : base + i - base = i := by omega
 rw [this, h]
 simp [hd]
theorem XD_off {X : Nat → Option AObj} {D : Nat → Bool} {i : Nat} (hd : D i = false) : XD X base al D (base + i) = X (base + i) := by
 unfold XD
 rw [if_pos (by omega)]
 have : base + i - base = i := by omega
 rw [this]
 split <;> simp [hd]
theorem XD_none {X : Nat → Option AObj} {D : Nat → Bool} {i : Nat} (h : al i = none) : XD X base al D (base + i) = X (base + i) := by
 unfold XD
 rw [if_pos (by omega)]
 have : base + i - base = i := by omega
 rw [this, h]
theorem XD_low {X : Nat → Option AObj} {D : Nat → Bool} {id : Nat} (h : id < base) : XD X base al D id = X id := by
 unfold XD
 rw [if_neg (by omega)]
theorem XD_add_none {X : Nat → Option AObj} {D : Nat → Bool} {j : Nat} (h : al j = none) : XD X base al (fun i => D i || i == j) = XD X base al D := by
 funext id
 rcases Nat.lt_or_ge id base with hl | hl
 ·rw [XD_low hl, XD_low hl]
 ·obtain ⟨i, rfl⟩ : ∃ i, id = base + i := ⟨id - base, by omega⟩
  by_cases hij : i = j
  ·subst hij; rw [XD_none h, XD_none h]
  ·cases hd : D i with
   | true =>
    cases ha : al i with
    | none => rw [XD_none ha, XD_none ha]
    | some ob => rw [XD_at ha (by simp [hd]), XD_at ha hd]
   | false => rw [XD_off (by simp [hd, hij]), XD_off hd]
theorem XD_add {X : Nat → Option AObj} {D : Nat → Bool} {j : Nat} {ob : AObj} {s : St} (h : al j = some ob) (hs : s.objs.get (base + j) = none) : upd (s.view (XD X base al D)) (base + j) ob = s.view (XD X base al (fun i => D i || i == j)) := by
 funext id
 unfold upd
 by_cases he : id = base + j
 ·rw [if_pos he]
  subst he
  simp only [St.view, hs]
  rw [XD_at h (by simp)]
 ·rw [if_neg he]
  simp only [St.view]
  cases s.objs.get id with
  | some o => rfl
  | none =>
   simp only
   rcases Nat.lt_or_ge id base with hl | hl
   ·rw [XD_low hl, XD_low hl]
   ·obtain ⟨i, rfl⟩ : ∃ i, id = base + i := ⟨id - base, by omega⟩
    have hij : i ≠ j := fun e => he (by rw [e])
    cases hd : D i with
    | true =>
     cases ha : al i with
     | none => rw [XD_none ha, XD_none ha]
     | some ob2 => rw [XD_at ha hd, XD_at ha (by simp [hd])]
    | false => rw [XD_off hd, XD_off (by simp [hd, hij])]
end
structure Dr (P : Program) (call : Nat → CallF) (base n : Nat) (ops : Array Oper) (L : List AOper) (d : Nat → DS) (val : Nat → AV) (al : Nat → Option AObj) (ef : Nat → Bool) (X : Nat → Option AObj) : Prop where
 snd : ∀ i, Sound P (call i)
 T : Trace call base L d val al ef
 comp : compOpers P ops ops.toList [] = some L
 dst : dstsOk n L = true
 ok : drawOk 0 L = true
 non : ∀ i, i < L.length → (d 0).s.objs.get (base + i) = none
 X0 : ∀ i, i < L.length → X (base + i) = none
structure Inv (L : List AOper) (base n : Nat) (d : Nat → DS) (val : Nat → AV) (al : Nat → Option AObj) (ef : Nat → Bool) (X : Nat → Option AObj) (ι : IM) (w0 : World) (a0 : Act) (D : Nat → Bool) (κ : IM) (e : Nat) (a : Act) (w : World) : Prop where
 lt : ∀ i, D i = true → i < L.length
 cl : ∀ j o i, L[j]? = some o → D j = true → Nat.testBit o.pre i = true → D i = true
 cut : e ≤ L.length ∧ (∀ i, i < e → ef i = true → D i = true) ∧ (∀ i, e ≤ i → i < L.length → ef i = true → D i = false)
 le : ι.le κ
 fr : FR κ w0 (GT L d val D L.length) a
 sr : SR κ w0 ((d e).s.view (XD X base al D)) (d e).s.next w
 size : a.tmps.size = a0.tmps.size
 dfr : a.defers = a0.defers
section
variable {P : Program} {call : Nat → CallF} {base n : Nat} {ops : Array Oper} {L : List AOper} {d : Nat → DS} {val : Nat → AV} {al : Nat → Option AObj} {ef : Nat → Bool} {X : Nat → Option AObj} {ι : IM} {w0 : World} {a0 : Act}
theorem stp_alA {call : CallF} {id i : Nat} {o : AOper} {d d' : DS} {v : AV} {ob : AObj} {b : Bool} (h : Stp call id i o d d' v (some ob) b) : o.op.isA = true ∧ b = false := by
 cases h
 rename_i h1 _ _ _
 exact ⟨by simp_all [AOp.isA], rfl⟩
theorem stp_efE {call : CallF} {id i : Nat} {o : AOper} {d d' : DS} {v : AV} {aa : Option AObj} (h : Stp call id i o d d' v aa true) : o.op.isE = true ∧ aa = none := by
 cases h
 rename_i h1 _ _ _ _
 exact ⟨by simp_all [AOp.isE], rfl⟩
theorem get_of_lt {i : Nat} (h : i < L.length) : ∃ o, L[i]? = some o := ⟨L[i], by simp [List.getElem?_eq_getElem h]⟩
theorem inv_uses (R : Dr P call base n ops L d val al ef X) {D : Nat → Bool} {κ : IM} {e : Nat} {a : Act} {w : World} (I : Inv L base n d val al ef X ι w0 a0 D κ e a w) {j : Nat} {o : AOper} (ho : L[j]? = some o) (hD : D j = false)
  (hp : ∀ i, Nat.testBit o.pre i = true → D i = true) : ∀ t, t ∈ o.uses → (GT L d val D L.length).get t = (d j).fr.get t := by
 intro t ht
 have hj : j < L.length := (List.getElem?_eq_some_iff.1 ho).1
 rw [trace_fr R.T j (by omega)]
 refine GT_at (by omega) ?_ ?_
 ·intro i hi hd
  obtain ⟨q, hq⟩ := get_of_lt (L := L) (show i < L.length by omega)
  rw [hq] at hd
  simp at hd
  have hpr := drawOk_pair R.ok hq ho hi
  rw [Nat.zero_add] at hpr
  refine hp i (pair_hit hpr (.inl ?_))
  unfold AOper.hits
  rw [hd]
  simp [ht]
 ·intro i hi him hd
  rcases Nat.lt_or_ge j i with hji | hji
  ·obtain ⟨q, hq⟩ := get_of_lt (L := L) him
   rw [hq] at hd
   simp at hd
   have hpr := drawOk_pair R.ok ho hq hji
   rw [Nat.zero_add] at hpr
   have := pair_hit hpr (.inr (by unfold AOper.hits; rw [hd]; simp [ht]))
   cases hDi : D i with
   | false => rfl
   | true =>
    have := I.cl i q j hq hDi this
    rw [hD] at this; simp at this
  ·have : i = j := by omega
   subst this
   exact hD
theorem inv_later (R : Dr P call base n ops L d val al ef X) {D : Nat → Bool} {κ : IM} {e : Nat} {a : Act} {w : World} (I : Inv L base n d val al ef X ι w0 a0 D κ e a w) {j : Nat} {o : AOper} (ho : L[j]? = some o) (hD : D j = false) :
  ∀ i t, j < i → i < L.length → (L[i]?).bind (·.dst) = some t → (L[j]?).bind (·.dst) = some t → D i = false := by
 intro i t hji him h1 h2
 obtain ⟨q, hq⟩ := get_of_lt (L := L) him
 rw [hq] at h1
 rw [ho] at h2
 simp at h1 h2
 have hpr := drawOk_pair R.ok ho hq hji
 rw [Nat.zero_add] at hpr
 have := pair_hit hpr (.inl (by unfold AOper.hits; rw [h2]; simp [h1]))
 cases hDi : D i with
 | false => rfl
 | true =>
  have := I.cl i q j hq hDi this
  rw [hD] at this; simp at this
theorem inv_free (R : Dr P call base n ops L d val al ef X) {D : Nat → Bool} {κ : IM} {e : Nat} {a : Act} {w : World} (I : Inv L base n d val al ef X ι w0 a0 D κ e a w) {j : Nat} {o : AOper} (ho : L[j]? = some o) (hD : D j = false) :
  (d e).s.objs.get (base + j) = none := by
 have hj : j < L.length := (List.getElem?_eq_some_iff.1 ho).1
 have get0 : ∀ k, k ≤ L.length → (k ≤ j ∨ al j = none) → (d k).s.objs.get (base + j) = none := by
  intro k hk hh
  have TP := trace_P R.T R.non k hk
  have := TP.pd j hj hh
  cases hq : (d k).s.objs.get (base + j) with
  | none => rfl
  | some ob => rw [TP.pa _ _ hq] at this; simp at this
 cases ha : al j with
 | none => exact get0 e I.cut.1 (.inr ha)
 | some ob =>
  rcases Nat.lt_or_ge j e with hje | hje
  ·have st := R.T.step j o ho
   rw [ha] at st
   obtain ⟨hA, hef⟩ := stp_alA st
   have hno : ∀ i, j ≤ i → i < e → ef i = false := by
    intro i h1 h2
    rcases Nat.lt_or_ge j i with h3 | h3
    ·cases hfi : ef i with
     | false => rfl
     | true =>
      obtain ⟨q, hq⟩ := get_of_lt (L := L) (show i < L.length by have := I.cut.1; omega)
      have st2 := R.T.step i q hq
      rw [hfi] at st2
      have hpr := drawOk_pair R.ok ho hq h3
      rw [Nat.zero_add] at hpr
      have := I.cl i q j hq (I.cut.2.1 i h2 hfi) (pair_eff hpr (.inr hA) (stp_efE st2).1)
      rw [hD] at this; simp at this
    ·have : i = j := by omega
     subst this
     exact hef
   rw [trace_s R.T e (by omega) I.cut.1 hno]
   exact get0 j (by omega) (.inl (Nat.le_refl _))
  ·exact get0 e I.cut.1 (.inl hje)
theorem inv_step (R : Dr P call base n ops L d val al ef X) {D : Nat → Bool} {κ κ' : IM} {e e' : Nat} {a : Act} {w w' : World} (I : Inv L base n d val al ef X ι w0 a0 D κ e a w) {j : Nat} {o : AOper} (ho : L[j]? = some o) (hD : D j = false)
  (hp : ∀ i, Nat.testBit o.pre i = true → D i = true) (hn : n ≤ a0.tmps.size) {v' : Value} (hl : κ.le κ') (hv : rel κ' w0 (val j) v') (hs : SR κ' w0 ((d e').s.view (XD X base al (fun i => D i || i == j))) (d e').s.next w')
  (hc : e' ≤ L.length ∧ (∀ i, i < e' → ef i = true → (D i || i == j) = true) ∧ (∀ i, e' ≤ i → i < L.length → ef i = true → (D i || i == j) = false)) :
  Inv L base n d val al ef X ι w0 a0 (fun i => D i || i == j) κ' e' (a.put o.dst v') w' := by
 have hj : j < L.length := (List.getElem?_eq_some_iff.1 ho).1
 refine ⟨?_, ?_, hc, IM.le_trans I.le hl, ?_, hs, ?_, ?_⟩
 ·intro i hi
  simp at hi
  rcases hi with hi | hi
  ·exact I.lt i hi
  ·omega
 ·intro i q k hq hi hk
  simp at hi
  rcases hi with hi | hi
  ·simp [I.cl i q k hq hi hk]
  ·subst hi
   rw [ho] at hq
   cases hq
   simp [hp k hk]
 ·have hsz : ∀ t, o.dst = some t → t < a.tmps.size := by
   intro t ht
   have hd := R.dst
   simp only [dstsOk, List.all_eq_true] at hd
   have := hd o (List.mem_of_getElem? ho)
   rw [ht] at this
   exact Nat.lt_of_lt_of_le (blt_lt this) (by rw [I.size]; exact hn)
  have hF := FR_put (FR_mono hl I.fr) hv hsz
  intro t v hg
  refine hF t v ?_
  rw [GT_put hj (inv_later R I ho hD)] at hg
  rw [putO_get, ← hg]
  simp [ho]
 ·rw [put_size]; exact I.size
 ·rw [put_defers]; exact I.dfr
end
end Go.Abs
namespace Go.Abs
open Go Go.RowKit
section
variable {P : Program} {call : Nat → CallF} {base n : Nat} {ops : Array Oper} {L : List AOper} {d : Nat → DS} {val : Nat → AV} {al : Nat → Option AObj} {ef : Nat → Bool} {X : Nat → Option AObj} {ι : IM} {w0 : World} {a0 : Act}
theorem upd_tmps_p {o : AOper} {p : POp} (h : o.op = .p p) : ∀ t, t ∈ p.tmps → t ∈ o.uses := by
 intro t ht; unfold AOper.uses; rw [h]; simp [AOp.tmps, ht]
theorem upd_tmps_a {o : AOper} {p : LOp} (h : o.op = .a p) : ∀ t, t ∈ p.tmps → t ∈ o.uses := by
 intro t ht; unfold AOper.uses; rw [h]; simp [AOp.tmps, ht]
theorem upd_tmps_e {o : AOper} {p : EOp} (h : o.op = .e p) : ∀ t, t ∈ p.tmps → t ∈ o.uses := by
 intro t ht; unfold AOper.uses; rw [h]; simp [AOp.tmps, ht]
theorem inv_read (R : Dr P call base n ops L d val al ef X) {D : Nat → Bool} {κ : IM} {e : Nat} {a : Act} {w : World} (I : Inv L base n d val al ef X ι w0 a0 D κ e a w) {j : Nat} {o : AOper} (ho : L[j]? = some o) (hD : D j = false)
  (hp : ∀ i, Nat.testBit o.pre i = true → D i = true) {k : RK} {xv yv v : AV} (hr : aread k xv yv (d j).s = some v) (hok : effsOk o.pre k xv yv v (d j).effs = true) (hrd : (⟨j, k, xv, yv, v⟩ : Rd) ∈ (d (j + 1)).rds) (hef : ef j = false) :
  aread k xv yv (d e).s = some v := by
 have hj : j < L.length := (List.getElem?_eq_some_iff.1 ho).1
 rcases Nat.lt_or_ge j e with hje | hje
 ·rcases greatest ef j e with h | ⟨i, h1, h2, h3, h4⟩
  ·rw [trace_s R.T e (by omega) I.cut.1 h]; exact hr
  ·have hij : j < i := by
    rcases Nat.lt_or_ge j i with h | h
    ·exact h
    ·have : i = j := by omega
     subst this; rw [hef] at h3; simp at h3
   have hi : i < L.length := by have := I.cut.1; omega
   obtain ⟨q, hq⟩ := get_of_lt (L := L) hi
   have st := R.T.step i q hq
   have hmem := trace_rds R.T hrd i hij (by omega)
   have hsi : (d e).s = (d (i + 1)).s := trace_s R.T e (by omega) I.cut.1 fun k h5 h6 => h4 k (by omega) h6
   have hnp : ¬ Nat.testBit q.pre j = true := fun h => by
    have := I.cl i q j hq (I.cut.2.1 i h2 h3) h
    rw [hD] at this; simp at this
   rw [h3] at st
   generalize hv : val i = v2 at st
   generalize ha : al i = aa at st
   cases st with
   | e hw hp2 hm hro hd =>
    rw [hsi, hd]
    exact (readsOk_mem hro hmem).resolve_left hnp
 ·rcases least ef e j with h | ⟨i, h1, h2, h3, h4⟩
  ·rw [← trace_s R.T j hje (by omega) h]; exact hr
  ·have hsi : (d i).s = (d e).s := trace_s R.T i h1 (by omega) h4
   rw [← hsi]
   refine (effsOk_mem hok (trace_effs R.T h3 j h2 (by omega))).resolve_left ?_
   intro h
   have := I.cut.2.2 i h1 (by omega) h3
   rw [hp i h] at this; simp at this
theorem inv_eff (R : Dr P call base n ops L d val al ef X) {D : Nat → Bool} {κ : IM} {e : Nat} {a : Act} {w : World} (I : Inv L base n d val al ef X ι w0 a0 D κ e a w) {j : Nat} {o : AOper} (ho : L[j]? = some o) (hD : D j = false)
  (hp : ∀ i, Nat.testBit o.pre i = true → D i = true) (hef : ef j = true) : e ≤ j ∧ (d j).s = (d e).s ∧ (∀ i, e ≤ i → i < j → ef i = false) ∧
  (d e).s.view (XD X base al D) = (flush (d j).s (d j).pend).view (XD X base al D) := by
 have hj : j < L.length := (List.getElem?_eq_some_iff.1 ho).1
 have st := R.T.step j o ho
 rw [hef] at st
 have hE := (stp_efE st).1
 have hej : e ≤ j := by
  rcases Nat.lt_or_ge j e with h | h
  ·have := I.cut.2.1 j h hef
   rw [hD] at this; simp at this
  ·exact h
 have hno : ∀ i, e ≤ i → i < j → ef i = false := by
  intro i h1 h2
  cases hfi : ef i with
  | false => rfl
  | true =>
   obtain ⟨q, hq⟩ := get_of_lt (L := L) (show i < L.length by omega)
   have st2 := R.T.step i q hq
   rw [hfi] at st2
   have hpr := drawOk_pair R.ok hq ho h2
   rw [Nat.zero_add] at hpr
   have h3 := hp i (pair_eff hpr (.inl (stp_efE st2).1) hE)
   have := I.cut.2.2 i h1 (by omega) hfi
   rw [h3] at this; simp at this
 have hs := trace_s R.T j hej (by omega) hno
 refine ⟨hej, hs, hno, ?_⟩
 rw [← hs]
 have TP := trace_P R.T R.non j (by omega)
 funext id
 simp only [St.view]
 cases h1 : (d j).s.objs.get id with
 | some ob => rw [TP.pa _ _ h1]
 | none =>
  simp only
  cases h2 : (flush (d j).s (d j).pend).objs.get id with
  | none => rfl
  | some ob =>
   obtain ⟨i, i1, rfl, i3⟩ := TP.pb id ob h1 h2
   obtain ⟨q, hq⟩ := get_of_lt (L := L) (show i < L.length by omega)
   have st2 := R.T.step i q hq
   rw [i3] at st2
   have hpr := drawOk_pair R.ok hq ho i1
   rw [Nat.zero_add] at hpr
   exact XD_at i3 (hp i (pair_eff hpr (.inr (stp_alA st2).1) hE))
theorem inv_op (R : Dr P call base n ops L d val al ef X) {D : Nat → Bool} {κ : IM} {e : Nat} {a : Act} {w : World} (I : Inv L base n d val al ef X ι w0 a0 D κ e a w) (hn : n ≤ a0.tmps.size) {j : Nat} {op : Oper} (hop : ops[j]? = some op) (hD : D j = false)
  (hp : ∀ o, L[j]? = some o → ∀ i, Nat.testBit o.pre i = true → D i = true) {next : Act → World → Prop} {Q : Exit → Act → World → Prop}
  (hk : ∀ κ' e' a' w', Inv L base n d val al ef X ι w0 a0 (fun i => D i || i == j) κ' e' a' w' → next a' w') :
  if Region.wanted op (yielded ops a.tmps) then op.wp P a w next Q ∨ (op.asks P a w ∧ LetsOut Q) else next (a.put op.dst undef) w := by
 obtain ⟨hlen, hget⟩ := compOpers_get R.comp
 obtain ⟨o, ho, o1, o2, o3, o4⟩ := hget j op (by simpa using hop)
 have hp := hp o ho
 have hj : j < L.length := (List.getElem?_eq_some_iff.1 ho).1
 have huse := inv_uses R I ho hD hp
 have hfree := inv_free R I ho hD
 have hfree2 : (d e).s.view (XD X base al D) (base + j) = none := by
  simp only [St.view, hfree]
  rw [XD_off hD]
  exact R.X0 j hj
 have hK := trace_K R.T e I.cut.1
 have hnx : base + j < (d e).s.next := by omega
 have hguard : ∀ b, wants (d j).fr o.guard = some b → Region.wanted op (yielded ops a.tmps) = b := by
  intro b hb
  refine wants_sim o3 I.fr ?_
  rw [wants_congr (fr1 := (d j).fr)]
  ·exact hb
  ·intro t ht
   exact huse t (by unfold AOper.uses; simp [ht])
 have cutS : ef j = false → e ≤ L.length ∧ (∀ i, i < e → ef i = true → (D i || i == j) = true) ∧ (∀ i, e ≤ i → i < L.length → ef i = true → (D i || i == j) = false) := by
  intro hef
  refine ⟨I.cut.1, fun i h1 h2 => by simp [I.cut.2.1 i h1 h2], fun i h1 h2 h3 => ?_⟩
  simp [I.cut.2.2 i h1 h2 h3]
  intro e1
  subst e1
  rw [hef] at h3; simp at h3
 have st := R.T.step j o ho
 rw [← o1]
 generalize hv : val j = v at st
 generalize ha : al j = aa at st
 generalize hef : ef j = ee at st
 cases st with
 | off hw hd =>
  rw [hguard false hw]
  simp only [Bool.false_eq_true, if_false]
  refine hk κ e _ w (inv_step R I ho hD hp hn (IM.le_refl _) (by rw [hv]; exact rel_undef) ?_ (cutS hef))
  rw [XD_add_none ha]
  exact I.sr
 | @p p v hw hpo hv2 hd =>
  rw [hguard true hw]
  simp only [if_true]
  left
  have h2 : aop (call j) (base + j) (GT L d val D L.length) (d e).s o.op = some (v, (d e).s) := by
   rw [hpo]
   simp only [aop]
   rw [apure_congr (fr1 := (d j).fr) fun t ht => huse t (upd_tmps_p hpo t ht), hv2]
  refine aop_wp (R.snd j) o2 I.fr I.sr hnx hfree2 h2 ?_
  intro v' w' κ' k1 k2 k3
  rw [← o1]
  refine hk κ' e _ w' (inv_step R I ho hD hp hn k1 (by rw [hv]; exact k2) ?_ (cutS hef))
  rw [XD_add_none ha]
  exact k3
 | @r k x y xv yv v hw hpo hx hy hr heo hd =>
  rw [hguard true hw]
  simp only [if_true]
  left
  have hux : ∀ t, t ∈ x.tmps ∨ t ∈ y.tmps → t ∈ o.uses := by
   intro t ht; unfold AOper.uses; rw [hpo]; simp only [AOp.tmps, List.mem_append]; exact .inl ht
  have h2 : aop (call j) (base + j) (GT L d val D L.length) (d e).s o.op = some (v, (d e).s) := by
   rw [hpo]
   simp only [aop]
   rw [ev_congr (fr1 := (d j).fr) (x := x) fun t ht => huse t (hux t (.inl ht)), ev_congr (fr1 := (d j).fr) (x := y) fun t ht => huse t (hux t (.inr ht)), hx, hy]
   simp only
   rw [inv_read R I ho hD hp hr heo (by rw [hd]; exact List.mem_cons_self ..) hef]
  refine aop_wp (R.snd j) o2 I.fr I.sr hnx hfree2 h2 ?_
  intro v' w' κ' k1 k2 k3
  rw [← o1]
  refine hk κ' e _ w' (inv_step R I ho hD hp hn k1 (by rw [hv]; exact k2) ?_ (cutS hef))
  rw [XD_add_none ha]
  exact k3
 | @a p ob v hw hpo hm hd =>
  rw [hguard true hw]
  simp only [if_true]
  left
  have h2 : aop (call j) (base + j) (GT L d val D L.length) (d e).s o.op = some (v, (d e).s.put (base + j) ob) := by
   rw [hpo]
   simp only [aop]
   rw [amake_congr (fr1 := (d j).fr) fun t ht => huse t (upd_tmps_a hpo t ht), hm]
  refine aop_wp (R.snd j) o2 I.fr I.sr hnx hfree2 h2 ?_
  intro v' w' κ' k1 k2 k3
  rw [← o1]
  refine hk κ' e _ w' (inv_step R I ho hD hp hn k1 (by rw [hv]; exact k2) ?_ (cutS hef))
  rw [view_put, XD_add ha hfree] at k3
  exact k3
 | @e eo v s' hw hpo hm hro hd =>
  rw [hguard true hw]
  simp only [if_true]
  left
  obtain ⟨q1, q2, q3, q4⟩ := inv_eff R I ho hD hp hef
  have hKj := trace_K R.T j (by omega)
  have h2 : aop (call j) (base + j) (GT L d val D L.length) (flush (d j).s (d j).pend) o.op = some (v, s') := by
   rw [hpo]
   simp only [aop]
   rw [aeff_congr (fr1 := (d j).fr) fun t ht => huse t (upd_tmps_e hpo t ht), hm]
  have hsr := I.sr
  rw [q4] at hsr hfree2
  have hnx2 : (d e).s.next = (flush (d j).s (d j).pend).next := by rw [flush_next, q2]
  rw [hnx2] at hsr
  refine aop_wp (R.snd j) o2 I.fr hsr (by rw [flush_next]; omega) hfree2 h2 ?_
  intro v' w' κ' k1 k2 k3
  rw [← o1]
  refine hk κ' (j + 1) _ w' (inv_step R I ho hD hp hn k1 (by rw [hv]; exact k2) ?_ ?_)
  ·rw [XD_add_none ha, hd]
   exact k3
  ·refine ⟨by omega, fun i h3 h4 => ?_, fun i h3 h4 h5 => ?_⟩
   ·rcases Nat.lt_or_ge i e with h6 | h6
    ·simp [I.cut.2.1 i h6 h4]
    ·rcases Nat.lt_or_ge i j with h7 | h7
     ·rw [q3 i h6 h7] at h4; simp at h4
     ·have : i = j := by omega
      simp [this]
   ·simp [I.cut.2.2 i (by omega) h4 h5]
    omega
inductive Topo (ops : Array Oper) : (Nat → Bool) → List Nat → Prop
 | nil {D : Nat → Bool} : (∀ i, i < ops.size → D i = true) → Topo ops D []
 | cons {D : Nat → Bool} {i : Nat} {op : Oper} {l : List Nat} : ops[i]? = some op → D i = false → (∀ e, e ∈ op.after.toList → Region.binds .any e = true → D e.on = true) → Topo ops (fun k => D k || k == i) l → Topo ops D (i :: l)
theorem foldl_pre {pres : List Nat} {D : Nat → Bool} (hD : ∀ j i, D j = true → Nat.testBit (pres.getD j 0) i = true → D i = true) : ∀ (l : List Edge) (s : Nat), (∀ e, e ∈ l → Region.binds .any e = true → D e.on = true) → (∀ i, Nat.testBit s i = true → D i = true) →
  ∀ i, Nat.testBit (l.foldl (fun s e => if Region.binds .any e then s ||| 2 ^ e.on ||| pres.getD e.on 0 else s) s) i = true → D i = true
 | [], s, _, hs, i, h => hs i h
 | e :: l, s, hl, hs, i, h => by
  simp only [List.foldl_cons] at h
  refine foldl_pre hD l _ (fun e he => hl e (List.mem_cons_of_mem _ he)) ?_ i h
  intro i hi
  by_cases hb : Region.binds .any e = true
  ·rw [if_pos hb] at hi
   simp only [Nat.testBit_or, Bool.or_eq_true] at hi
   have he := hl e (List.mem_cons_self ..) hb
   rcases hi with (hi | hi) | hi
   ·exact hs i hi
   ·rw [Nat.testBit_two_pow] at hi
    simp at hi
    rw [← hi]; exact he
   ·exact hD e.on i he hi
  ·rw [if_neg hb] at hi
   exact hs i hi
theorem inv_topo (R : Dr P call base n ops L d val al ef X) (hn : n ≤ a0.tmps.size) {Q : Exit → Act → World → Prop} : ∀ {l : List Nat} {D : Nat → Bool}, Topo ops D l → ∀ {κ : IM} {e : Nat} {a : Act} {w : World}, Inv L base n d val al ef X ι w0 a0 D κ e a w →
  (∀ D κ e a w, (∀ i, i < L.length → D i = true) → Inv L base n d val al ef X ι w0 a0 D κ e a w → Q .normal a w) → wpOps P ops Q l a w := by
 intro l D ht
 obtain ⟨hlen, hget⟩ := compOpers_get R.comp
 have hsz : L.length = ops.size := by simpa using hlen
 induction ht with
 | nil h => intro κ e a w I hq; exact hq _ κ e a w (fun i hi => h i (by omega)) I
 | @cons D i op l hop hD hpre ht ih =>
  intro κ e a w I hq
  simp only [wpOps, hop]
  refine inv_op R I hn hop hD ?_ fun κ' e' a' w' I' => ih I' hq
  intro o ho
  obtain ⟨o', ho', o1, o2, o3, o4⟩ := hget i op (by simpa using hop)
  rw [ho] at ho'
  cases ho'
  intro k hk
  rw [o4] at hk
  simp only [List.nil_append] at hk
  unfold preOf at hk
  refine foldl_pre ?_ _ 0 hpre (fun i h => by simp at h) k hk
  intro j k2 hj hk2
  by_cases hlt : j < i
  ·have hjL : j < L.length := I.lt j hj
   obtain ⟨q, hq2⟩ := get_of_lt (L := L) hjL
   have : ((L.take i).map (·.pre)).getD j 0 = q.pre := by
    rw [List.getD_eq_getElem?_getD, List.getElem?_map, List.getElem?_take_of_lt hlt, hq2]
    rfl
   rw [this] at hk2
   exact I.cl j q k2 hq2 hj hk2
  ·have : ((L.take i).map (·.pre)).getD j 0 = 0 := by
    rw [List.getD_eq_getElem?_getD, List.getElem?_eq_none]
    ·rfl
    ·simp; omega
   rw [this] at hk2
   simp at hk2
end
end Go.Abs
namespace Go.Abs
open Go Go.RowKit
theorem filter_pos {p : Nat → Bool} : ∀ {l : List Nat}, 0 < (l.filter p).length → ∃ i, i ∈ l ∧ p i = true
 | l, h => by
  cases hq : l.filter p with
  | nil => rw [hq] at h; simp at h
  | cons x r =>
   have : x ∈ l.filter p := by rw [hq]; simp
   rw [List.mem_filter] at this
   exact ⟨x, this⟩
theorem filter_zero {p : Nat → Bool} {l : List Nat} (h : (l.filter p).length = 0) : ∀ i, i ∈ l → p i = false := by
 intro i hi
 cases hp : p i with
 | false => rfl
 | true =>
  have : i ∈ l.filter p := List.mem_filter.2 ⟨hi, hp⟩
  have h2 := List.eq_nil_of_length_eq_zero h
  rw [h2] at this; simp at this
theorem least_of {p : Nat → Bool} : ∀ n, (∃ i, i < n ∧ p i = true) → ∃ i, i < n ∧ p i = true ∧ ∀ k, k < i → p k = false
 | 0, ⟨i, h, _⟩ => by omega
 | n + 1, ⟨i, h, hp⟩ => by
  by_cases he : ∃ i, i < n ∧ p i = true
  ·obtain ⟨k, h1, h2, h3⟩ := least_of n he
   exact ⟨k, by omega, h2, h3⟩
  ·refine ⟨n, by omega, ?_, fun k hk => ?_⟩
   ·rcases Nat.lt_or_ge i n with h4 | h4
    ·exact absurd ⟨i, h4, hp⟩ he
    ·have : i = n := by omega
     rw [← this]; exact hp
   ·cases hq : p k with
    | false => rfl
    | true => exact absurd ⟨k, hk, hq⟩ he
theorem filter_less {p q : Nat → Bool} {i : Nat} : ∀ {l : List Nat}, l.Nodup → i ∈ l → p i = true → (∀ k, q k = (p k && !(k == i))) → (l.filter q).length + 1 = (l.filter p).length
 | [], _, h, _, _ => by simp at h
 | x :: l, hn, hm, hp, hq => by
  rw [List.nodup_cons] at hn
  by_cases hx : x = i
  ·subst hx
   have hqx : q x = false := by rw [hq]; simp
   rw [List.filter_cons_of_neg (by simp [hqx]), List.filter_cons_of_pos hp]
   have : l.filter q = l.filter p := by
    apply List.filter_congr
    intro y hy
    rw [hq]
    have : (y == x) = false := by
     simp
     intro e
     subst e
     exact hn.1 hy
    simp [this]
   simp [this]
  ·have hm2 : i ∈ l := by
    rcases List.mem_cons.1 hm with h | h
    ·exact absurd h.symm hx
    ·exact h
   have ih := filter_less hn.2 hm2 hp hq
   have hqx : q x = p x := by rw [hq]; simp [hx]
   cases hpx : p x with
   | true => rw [List.filter_cons_of_pos (by rw [hqx, hpx]), List.filter_cons_of_pos hpx]; simp [← ih]
   | false => rw [List.filter_cons_of_neg (by rw [hqx, hpx]; simp), List.filter_cons_of_neg (by rw [hpx]; simp)]; exact ih
theorem topo_ext {ops : Array Oper} {D E : Nat → Bool} {l : List Nat} (h : Topo ops D l) (he : D = E) : Topo ops E l := he ▸ h
theorem go_topo {ops : Array Oper} (hedge : ∀ i op, ops[i]? = some op → ∀ e, e ∈ op.after.toList → Region.binds .any e = true → e.on < i) : ∀ (fuel t : Nat) (listed : Array Bool) (acc : List Nat), listed.size = ops.size →
  ((List.range ops.size).filter fun i => !listed.getD i true).length = fuel → ∃ l, Region.linearise.go .any ops fuel t listed acc = acc.reverse ++ l ∧ Topo ops (fun i => listed.getD i false) l
 | 0, t, listed, acc, hs, hc => by
  refine ⟨[], by simp [Region.linearise.go], .nil fun i hi => ?_⟩
  have := filter_zero hc i (by simp [hi])
  simp at this
  have hlt : i < listed.size := by omega
  simp only [Array.getD_eq_getD_getElem?, Array.getElem?_eq_getElem hlt] at this ⊢
  simpa using this
 | fuel + 1, t, listed, acc, hs, hc => by
  simp only [Region.linearise.go]
  generalize hrs : (List.range ops.size).filter (fun i => !listed.getD i true && ((ops[i]?).map (·.after.all fun e => !Region.binds .any e || listed.getD e.on false)).getD false) = rs
  have hmem : ∀ i, i ∈ rs → ∃ op, ops[i]? = some op ∧ listed.getD i false = false ∧ i < listed.size ∧ ∀ e, e ∈ op.after.toList → Region.binds .any e = true → listed.getD e.on false = true := by
   intro i hi
   rw [← hrs, List.mem_filter] at hi
   obtain ⟨h1, h2⟩ := hi
   have hlt : i < ops.size := by simpa using h1
   rw [Bool.and_eq_true] at h2
   obtain ⟨h2, h3⟩ := h2
   refine ⟨ops[i], by simp [hlt], ?_, by omega, ?_⟩
   ·rw [Array.getD_eq_getD_getElem?, Array.getElem?_eq_getElem (by omega)] at h2 ⊢
    simpa using h2
   ·intro e he hb
    rw [Array.getElem?_eq_getElem hlt] at h3
    simp only [Option.map_some, Option.getD_some, Array.all_eq_true_iff_forall_mem] at h3
    have := h3 e (by simpa using he)
    rw [hb] at this
    simpa using this
  have hne : rs ≠ [] := by
   obtain ⟨i0, hi0, hp0⟩ := filter_pos (l := List.range ops.size) (p := fun i => !listed.getD i true) (by omega)
   obtain ⟨i, h1, h2, h3⟩ := least_of (p := fun i => !listed.getD i true) ops.size ⟨i0, by simpa using hi0, hp0⟩
   intro hnil
   have : i ∈ rs := by
    rw [← hrs, List.mem_filter]
    refine ⟨by simpa using h1, ?_⟩
    rw [Bool.and_eq_true]
    refine ⟨h2, ?_⟩
    rw [Array.getElem?_eq_getElem h1]
    simp only [Option.map_some, Option.getD_some, Array.all_eq_true_iff_forall_mem]
    intro e he
    cases hb : Region.binds .any e with
    | false => rfl
    | true =>
     have hlt := hedge i ops[i] (by simp [h1]) e (by simpa using he) hb
     have := h3 e.on hlt
     simp only [Bool.not_true, Bool.false_or]
     have hlt2 : e.on < listed.size := by omega
     rw [Array.getD_eq_getD_getElem?, Array.getElem?_eq_getElem hlt2] at this ⊢
     simpa using this
   rw [hnil] at this; simp at this
  have hpos : 0 < rs.length := List.length_pos_iff.2 hne
  have hlt : t % rs.length < rs.length := Nat.mod_lt _ hpos
  rw [List.getElem?_eq_getElem hlt]
  simp only
  generalize hi : rs[t % rs.length] = i
  have him : i ∈ rs := by rw [← hi]; exact List.getElem_mem hlt
  obtain ⟨op, m1, m2, m3, m4⟩ := hmem i him
  have hset : ∀ k b, (listed.setIfInBounds i true).getD k b = if k = i then true else listed.getD k b := by
   intro k b
   rw [Array.getD_eq_getD_getElem?, Array.getElem?_setIfInBounds, Array.getD_eq_getD_getElem?]
   by_cases e : k = i
   ·subst e; simp [m3]
   ·rw [if_neg (fun h => e h.symm), if_neg e]
  have hcount : ((List.range ops.size).filter fun k => !(listed.setIfInBounds i true).getD k true).length = fuel := by
   have hp : (!listed.getD i true) = true := by
    rw [Array.getD_eq_getD_getElem?, Array.getElem?_eq_getElem m3] at m2 ⊢
    simpa using m2
   have := filter_less (l := List.range ops.size) (p := fun k => !listed.getD k true) (q := fun k => !(listed.setIfInBounds i true).getD k true) (i := i) List.nodup_range (by simp; omega) hp (by
    intro k
    rw [hset]
    by_cases e : k = i
    ·subst e; simp
    ·simp [e])
   omega
  obtain ⟨l, l1, l2⟩ := go_topo hedge fuel (t / rs.length) (listed.setIfInBounds i true) (i :: acc) (by simpa using hs) hcount
  refine ⟨i :: l, by rw [l1]; simp, ?_⟩
  refine .cons m1 m2 m4 (topo_ext l2 ?_)
  funext k
  rw [hset]
  by_cases e : k = i
  ·subst e; simp
  ·simp [e]
theorem lin_topo {ops : Array Oper} (hedge : ∀ i op, ops[i]? = some op → ∀ e, e ∈ op.after.toList → Region.binds .any e = true → e.on < i) (t : Nat) : Topo ops (fun _ => false) (Region.linearise .any ops t) := by
 unfold Region.linearise
 obtain ⟨l, l1, l2⟩ := go_topo hedge ops.size t (Array.replicate ops.size false) [] (by simp) (by
  have : (List.range ops.size).filter (fun i => !(Array.replicate ops.size false).getD i true) = List.range ops.size := by
   rw [List.filter_eq_self]
   intro i hi
   have : i < ops.size := by simpa using hi
   simp [Array.getD_eq_getD_getElem?, this]
  rw [this]; simp)
 rw [l1]
 simp only [List.reverse_nil, List.nil_append]
 refine topo_ext l2 ?_
 funext i
 rw [Array.getD_eq_getD_getElem?]
 by_cases h : i < ops.size
 ·simp [h]
 ·simp [h]
theorem GT_congr {L : List AOper} {d : Nat → DS} {val : Nat → AV} {D E : Nat → Bool} : ∀ k, (∀ i, i < k → D i = E i) → GT L d val D k = GT L d val E k
 | 0, _ => rfl
 | k + 1, h => by
  simp only [GT]
  rw [h k (by omega), GT_congr k fun i hi => h i (by omega)]
theorem draw_core {P : Program} (hM : P.follows .mixedOrders = true) {call : Nat → CallF} {n : Nat} {ops : Array Oper} {l' : List AOper} {id : Nat} (hg : ∀ i, Sound P (call i)) (h1 : compOpers P ops ops.toList [] = some l') (hd : dstsOk n l' = true) (hok : drawOk 0 l' = true) (hedge : edgesOk ops.toList = true)
  {fr : Fr} {s : St} {dm : DS} {d : Nat → DS} {val : Nat → AV} {al : Nat → Option AObj} {ef : Nat → Bool} (e0 : d 0 = ⟨fr, { s with next := s.next + l'.length }, [], [], []⟩) (em : d l'.length = dm)
  (hst : ∀ j o, l'[j]? = some o → Stp (call j) (s.next + j) (0 + j) o (d j) (d (j + 1)) (val j) (al j) (ef j)) :
  Keeps s.next s (flush dm.s dm.pend) ∧ ∀ (ι : IM) (w0 : World) (X : Nat → Option AObj) (a : Act) (w : World), n ≤ a.tmps.size → FR ι w0 fr a → SR ι w0 (s.view X) s.next w →
   (Code.region id ops true).wp P (fun e a' w' => e = .normal ∧ After ι w0 X a dm.fr (flush dm.s dm.pend) a' w') a w := by
  have hedge : ∀ i op, ops[i]? = some op → ∀ e, e ∈ op.after.toList → Region.binds .any e = true → e.on < i := by
   intro i op hi e he hb
   simp only [edgesOk, List.all_eq_true] at hedge
   have hm : (op, i) ∈ ops.toList.zipIdx := by
    rw [List.mem_zipIdx_iff_getElem?]
    simpa using hi
   have := hedge (op, i) hm e he
   simp [hb] at this
   exact this
  have hT : Trace call s.next l' d val al ef := by
   refine ⟨fun i o ho => by have := hst i o ho; rw [Nat.zero_add] at this; exact this, by rw [e0]; exact ⟨rfl, rfl, rfl⟩, fun i => (hg i).keeps, by rw [e0]; exact Nat.le_refl _⟩
  have hK := trace_K hT l'.length (Nat.le_refl _)
  rw [e0, em] at hK
  refine ⟨⟨by have := hK.2.1; simp at this; omega, fun j => by simpa using hK.2.2 j⟩, ?_⟩
  intro ι w0 X a w hn hf hs
  apply wp_region_draw
  intro t
  have hsched : Region.schedule (P.follows .mixedOrders) ops t = Region.linearise .any ops t := by
   unfold Region.schedule
   rw [hM]
   simp
  rw [hsched]
  have hfree : ∀ i, s.objs.get (s.next + i) = none ∧ X (s.next + i) = none := by
   intro i
   have := hs.fresh (s.next + i) (by omega)
   simp only [St.view] at this
   cases hq : s.objs.get (s.next + i) with
   | none => rw [hq] at this; exact ⟨rfl, this⟩
   | some o => rw [hq] at this; simp at this
  have R : Dr P call s.next n ops l' d val al ef X := ⟨hg, hT, h1, hd, hok, fun i _ => by rw [e0]; exact (hfree i).1, fun i _ => (hfree i).2⟩
  have hs' : SR ι w0 (s.view X) s.next { w with drawn := w.drawn + 1 } := SR_heap hs rfl rfl rfl rfl
  have hXD : XD X s.next al (fun _ => false) = X := by
   funext id
   unfold XD
   split
   ·split <;> simp
   ·rfl
  have I0 : Inv l' s.next n d val al ef X ι w0 a (fun _ => false) ι 0 a { w with drawn := w.drawn + 1 } := by
   refine ⟨fun i h => by simp at h, fun j o i h1 h2 h3 => by simp at h2, ⟨Nat.zero_le _, fun i h => by omega, fun _ _ _ _ => rfl⟩, IM.le_refl _, ?_, ?_, rfl, rfl⟩
   ·have : (GT l' d val (fun _ => false) l'.length) = fr := by
     have : ∀ k, GT l' d val (fun _ => false) k = fr := by
      intro k
      induction k with
      | zero => simp only [GT]; rw [e0]
      | succ k ih => simp only [GT, cond_false]; exact ih
     exact this _
    rw [this]
    exact hf
   ·rw [hXD, e0]
    exact SR.up hs' (by simp)
  refine inv_topo R hn (lin_topo hedge t) I0 ?_
  intro D κ e a' w' hD I
  refine ⟨rfl, κ, I.le, ?_, ?_, I.size, I.dfr⟩
  ·rw [← em, trace_fr hT _ (Nat.le_refl _)]
   have := GT_congr (L := l') (d := d) (val := val) (D := D) (E := fun _ => true) l'.length fun i hi => hD i hi
   rw [← this]
   exact I.fr
  ·have hno : ∀ i, e ≤ i → i < l'.length → ef i = false := by
    intro i h4 h5
    cases hfi : ef i with
    | false => rfl
    | true =>
     have := I.cut.2.2 i h4 h5 hfi
     rw [hD i h5] at this; simp at this
   have hse := trace_s hT l'.length I.cut.1 (Nat.le_refl _) hno
   have hsr := I.sr
   rw [← hse, em] at hsr
   have TP := trace_P hT (fun i _ => by rw [e0]; exact (hfree i).1) l'.length (Nat.le_refl _)
   have hview : dm.s.view (XD X s.next al D) = (flush dm.s dm.pend).view X := by
    rw [← em]
    funext id
    simp only [St.view]
    cases q1 : (d l'.length).s.objs.get id with
    | some ob => rw [TP.pa _ _ q1]
    | none =>
     simp only
     cases q2 : (flush (d l'.length).s (d l'.length).pend).objs.get id with
     | some ob =>
      obtain ⟨i, i1, rfl, i3⟩ := TP.pb id ob q1 q2
      exact XD_at i3 (hD i i1)
     | none =>
      simp only
      rcases Nat.lt_or_ge id s.next with hl | hl
      ·exact XD_low hl
      ·obtain ⟨i, rfl⟩ : ∃ i, id = s.next + i := ⟨id - s.next, by omega⟩
       cases hal : al i with
       | none => exact XD_none hal
       | some ob =>
        cases hDi : D i with
        | false => exact XD_off hDi
        | true => exact absurd q2 (TP.pc i ob (I.lt i hDi) hal)
   rw [hview] at hsr
   rw [flush_next]
   exact hsr
theorem draw_comp {P : Program} {n : Nat} {ops : Array Oper} {l : List AOper} (hc : compReg P n ops true = some (.draw l)) : compOpers P ops ops.toList [] = some l ∧ dstsOk n l = true ∧ drawOk 0 l = true ∧ edgesOk ops.toList = true := by
 unfold compReg at hc
 cases h1 : compOpers P ops ops.toList [] with
 | none => simp [h1] at hc
 | some l' =>
  simp only [h1] at hc
  split at hc
  ·rename_i hd
   simp only [if_true] at hc
   split at hc
   ·rename_i hok
    simp at hc
    subst hc
    rw [Bool.and_eq_true] at hok
    exact ⟨rfl, hd, hok.1, hok.2⟩
   ·simp at hc
  ·simp at hc
theorem draw_sim {P : Program} (hM : P.follows .mixedOrders = true) : DrawOk P := by
 intro call fuel n ops l id hg hc
 obtain ⟨h1, hd, hok, hedge⟩ := draw_comp hc
 intro fr s x fr' s' h
 simp only [acode] at h
 split at h <;> simp at h
 rename_i fr1 s1 h2
 obtain ⟨rfl, rfl, rfl⟩ := h
 unfold adraw at h2
 split at h2
 ·rename_i dm h3
  simp at h2
  obtain ⟨rfl, rfl⟩ := h2
  obtain ⟨d, val, al, ef, e0, em, hst⟩ := adraws_trace h3
  exact draw_core hM (fun _ => hg) h1 hd hok hedge e0 em hst
 ·simp at h2
theorem acall_ok {P : Program} (hM : P.follows .mixedOrders = true) {E : FuncId → Option (List AV → St → Option (AV × St))} (hE : ∀ f g, E f = some g → SoundF P f g) (n : Nat) : Sound P (acall (comp P) E n) :=
 acall_sound (draw_sim hM) hE n
end Go.Abs
