/- Alike values are equal; an operation looks at the slots that it names. -/
import Derived.Test.YtggpnokhhpnnaaaAbsRun4
set_option autoImplicit false
set_option linter.unusedSimpArgs false
set_option linter.unusedVariables false
namespace Go.Abs
open Go Go.RowKit

theorem beq_eq {a b : Nat} (h : Nat.beq a b = true) : a = b := Nat.eq_of_beq_eq_true h

theorem neq_eq3 : ∀ {a b : List Nat}, neq a b = true → a = b
  | [], [], _ => rfl
  | [], _ :: _, h => by simp [neq] at h
  | _ :: _, [], h => by simp [neq] at h
  | a :: x, b :: y, h => by
    simp only [neq, Bool.and_eq_true] at h
    rw [beq_eq h.1, neq_eq3 h.2]

theorem ieq_eq2 {a b : Int} (h : ieq a b = true) : a = b := by
  cases a <;> cases b <;> simp only [ieq] at h
  · rw [beq_eq h]
  · simp at h
  · simp at h
  · rw [beq_eq h]

theorem keq_eq2 {a b : IntKind} (h : keq a b = true) : a = b := by cases a <;> cases b <;> first | rfl | simp [keq] at h

mutual
theorem same_eq : ∀ (a b : AV), AV.same a b = true → a = b
  | .bool a, b, h => by cases b <;> simp [AV.same] at h; rw [h]
  | .int k a, b, h => by
    cases b <;> simp only [AV.same] at h <;> try (simp at h; done)
    rw [Bool.and_eq_true] at h
    rw [keq_eq2 h.1, ieq_eq2 h.2]
  | .str a, b, h => by cases b <;> simp only [AV.same] at h <;> try (simp at h; done)
                       rw [neq_eq3 h]
  | .ptr a b c d, x, h => by
    cases x <;> simp only [AV.same] at h <;> try (simp at h; done)
    simp only [Bool.and_eq_true] at h
    obtain ⟨⟨⟨h1, h2⟩, h3⟩, h4⟩ := h
    rw [beq_eq h1, beq_eq h2, beq_eq h3, beq_eq h4]
  | .iptr a, x, h => by
    cases x <;> simp only [AV.same] at h <;> try (simp at h; done)
    rw [sames_eq _ _ h]
  | .nilptr, x, h => by cases x <;> simp only [AV.same] at h <;> first | rfl | simp at h
  | .slc a b c d e f, x, h => by
    cases x <;> simp only [AV.same] at h <;> try (simp at h; done)
    simp only [Bool.and_eq_true] at h
    obtain ⟨⟨⟨⟨⟨h1, h2⟩, h3⟩, h4⟩, h5⟩, h6⟩ := h
    rw [beq_eq h1, beq_eq h2, beq_eq h3, beq_eq h4, beq_eq h5, beq_eq h6]
  | .isl a m n, x, h => by
    cases x <;> simp only [AV.same] at h <;> try (simp at h; done)
    simp only [Bool.and_eq_true] at h
    rw [sames_eq _ _ h.1.1, beq_eq h.1.2, beq_eq h.2]
  | .eslc, x, h => by cases x <;> simp only [AV.same] at h <;> first | rfl | simp at h
  | .nilslc, x, h => by cases x <;> simp only [AV.same] at h <;> first | rfl | simp at h
  | .map a, x, h => by
    cases x <;> simp only [AV.same] at h <;> try (simp at h; done)
    rw [beq_eq h]
  | .nilmap, x, h => by cases x <;> simp only [AV.same] at h <;> first | rfl | simp at h
  | .fn f a b, x, h => by
    cases x <;> simp only [AV.same] at h <;> try (simp at h; done)
    simp only [Bool.and_eq_true] at h
    rw [beq_eq h.1.1, sames_eq _ _ h.1.2, sames_eq _ _ h.2]
  | .nilfn, x, h => by cases x <;> simp only [AV.same] at h <;> first | rfl | simp at h
  | .ifc t a, x, h => by
    cases x <;> simp only [AV.same] at h <;> try (simp at h; done)
    simp only [Bool.and_eq_true] at h
    rw [beq_eq h.1, same_eq _ _ h.2]
  | .nilifc, x, h => by cases x <;> simp only [AV.same] at h <;> first | rfl | simp at h
  | .agg a, x, h => by
    cases x <;> simp only [AV.same] at h <;> try (simp at h; done)
    rw [sames_eq _ _ h]
  | .tup a, x, h => by
    cases x <;> simp only [AV.same] at h <;> try (simp at h; done)
    rw [sames_eq _ _ h]
  | .it a, x, h => by
    cases x <;> simp only [AV.same] at h <;> try (simp at h; done)
    rw [beq_eq h]
theorem sames_eq : ∀ (a b : List AV), AV.sames a b = true → a = b
  | [], [], _ => rfl
  | [], _ :: _, h => by simp [AV.sames] at h
  | _ :: _, [], h => by simp [AV.sames] at h
  | a :: x, b :: y, h => by
    simp only [AV.sames, Bool.and_eq_true] at h
    rw [same_eq _ _ h.1, sames_eq _ _ h.2]
end

theorem osame_eq {a : Option AV} {b : AV} (h : osame a b = true) : a = some b := by
  cases a with
  | none => simp [osame] at h
  | some a =>
    have := same_eq a b (by simpa [osame] using h)
    rw [this]

section
variable {fr fr1 : Fr}

theorem ev_congr {x : AO} (h : ∀ t, t ∈ x.tmps → fr.get t = fr1.get t) : x.ev fr = x.ev fr1 := by
  cases x with
  | t n => exact h n (by simp [AO.tmps])
  | c v => rfl

theorem evs_congr : ∀ {l : List AO}, (∀ t, t ∈ lTmps l → fr.get t = fr1.get t) → evs fr l = evs fr1 l
  | [], _ => rfl
  | x :: l, h => by
    have h1 : x.ev fr = x.ev fr1 := ev_congr fun t ht => h t (by simp [lTmps]; exact .inl ht)
    have h2 : evs fr l = evs fr1 l := evs_congr fun t ht => h t (by simp only [lTmps, List.flatMap_cons, List.mem_append]; exact .inr ht)
    simp only [evs, h1, h2]

theorem evo_congr {x : Option AO} (h : ∀ t, t ∈ oTmps x → fr.get t = fr1.get t) : evo fr x = evo fr1 x := by
  cases x with
  | none => rfl
  | some x => simp only [evo]; rw [ev_congr (fr := fr) (fr1 := fr1) (x := x) h]

theorem fillA_congr : ∀ {l : List (Nat × Nat × AO)} {zs : List AV}, (∀ t, t ∈ pTmps l → fr.get t = fr1.get t) → fillA fr zs l = fillA fr1 zs l
  | [], zs, _ => rfl
  | (off, size, x) :: l, zs, h => by
    have h1 : x.ev fr = x.ev fr1 := ev_congr fun t ht => h t (by simp only [pTmps, List.flatMap_cons, List.mem_append]; exact .inl ht)
    simp only [fillA, h1]
    split
    · rfl
    · rw [fillA_congr fun t ht => h t (by simp only [pTmps, List.flatMap_cons, List.mem_append]; exact .inr ht)]

theorem apure_congr {p : POp} (h : ∀ t, t ∈ p.tmps → fr.get t = fr1.get t) : apure fr p = apure fr1 p := by
  cases p <;> simp only [POp.tmps, List.mem_append] at h <;> simp only [apure]
  case mov x => exact ev_congr h
  case pick c a b =>
    rw [ev_congr (fr := fr) (fr1 := fr1) (x := c) fun t ht => h t (.inl (.inl ht)), ev_congr (fr := fr) (fr1 := fr1) (x := a) fun t ht => h t (.inl (.inr ht)), ev_congr (fr := fr) (fr1 := fr1) (x := b) fun t ht => h t (.inr ht)]
  case build zs l => rw [fillA_congr h]
  case nilchk x => rw [ev_congr (fr := fr) (fr1 := fr1) h]
  case bin op x y => rw [ev_congr (fr := fr) (fr1 := fr1) (x := x) fun t ht => h t (.inl ht), ev_congr (fr := fr) (fr1 := fr1) (x := y) fun t ht => h t (.inr ht)]
  case eq ng k x y => rw [ev_congr (fr := fr) (fr1 := fr1) (x := x) fun t ht => h t (.inl ht), ev_congr (fr := fr) (fr1 := fr1) (x := y) fun t ht => h t (.inr ht)]
  case un op x => rw [ev_congr (fr := fr) (fr1 := fr1) h]
  case toInt k x => rw [ev_congr (fr := fr) (fr1 := fr1) h]
  case same x => rw [ev_congr (fr := fr) (fr1 := fr1) h]
  case mkifc t x => rw [ev_congr (fr := fr) (fr1 := fr1) h]
  case mkfn f a b => rw [evs_congr (fr := fr) (fr1 := fr1) (l := a) fun t ht => h t (.inl ht), evs_congr (fr := fr) (fr1 := fr1) (l := b) fun t ht => h t (.inr ht)]
  case sstr x lo hi =>
    rw [ev_congr (fr := fr) (fr1 := fr1) (x := x) fun t ht => h t (.inl (.inl ht)), evo_congr (fr := fr) (fr1 := fr1) (x := lo) fun t ht => h t (.inl (.inr ht)), evo_congr (fr := fr) (fr1 := fr1) (x := hi) fun t ht => h t (.inr ht)]
  case sslc sz x lo hi mx =>
    rw [ev_congr (fr := fr) (fr1 := fr1) (x := x) fun t ht => h t (.inl (.inl (.inl ht))), evo_congr (fr := fr) (fr1 := fr1) (x := lo) fun t ht => h t (.inl (.inl (.inr ht))), evo_congr (fr := fr) (fr1 := fr1) (x := hi) fun t ht => h t (.inl (.inr ht)), evo_congr (fr := fr) (fr1 := fr1) (x := mx) fun t ht => h t (.inr ht)]
  case sarr n sz x lo hi mx =>
    rw [ev_congr (fr := fr) (fr1 := fr1) (x := x) fun t ht => h t (.inl (.inl (.inl ht))), evo_congr (fr := fr) (fr1 := fr1) (x := lo) fun t ht => h t (.inl (.inl (.inr ht))), evo_congr (fr := fr) (fr1 := fr1) (x := hi) fun t ht => h t (.inl (.inr ht)), evo_congr (fr := fr) (fr1 := fr1) (x := mx) fun t ht => h t (.inr ht)]
  case fadr off size x => rw [ev_congr (fr := fr) (fr1 := fr1) h]
  case field ag off size x => rw [ev_congr (fr := fr) (fr1 := fr1) h]
  case iadr sz x y => rw [ev_congr (fr := fr) (fr1 := fr1) (x := x) fun t ht => h t (.inl ht), ev_congr (fr := fr) (fr1 := fr1) (x := y) fun t ht => h t (.inr ht)]
  case aadr n sz x y => rw [ev_congr (fr := fr) (fr1 := fr1) (x := x) fun t ht => h t (.inl ht), ev_congr (fr := fr) (fr1 := fr1) (x := y) fun t ht => h t (.inr ht)]
  case idxs x y => rw [ev_congr (fr := fr) (fr1 := fr1) (x := x) fun t ht => h t (.inl ht), ev_congr (fr := fr) (fr1 := fr1) (x := y) fun t ht => h t (.inr ht)]
  case idxa ag n sz x y => rw [ev_congr (fr := fr) (fr1 := fr1) (x := x) fun t ht => h t (.inl ht), ev_congr (fr := fr) (fr1 := fr1) (x := y) fun t ht => h t (.inr ht)]
  case len st x => rw [ev_congr (fr := fr) (fr1 := fr1) h]
  case mmax l => rw [evs_congr (fr := fr) (fr1 := fr1) h]
  case mmin l => rw [evs_congr (fr := fr) (fr1 := fr1) h]
  case tas t z ok x => rw [ev_congr (fr := fr) (fr1 := fr1) h]
  case ext x i => rw [ev_congr (fr := fr) (fr1 := fr1) h]

theorem amake_congr {id : Nat} {p : LOp} (h : ∀ t, t ∈ p.tmps → fr.get t = fr1.get t) : amake fr id p = amake fr1 id p := by
  cases p <;> simp only [LOp.tmps, List.mem_append] at h <;> simp only [amake]
  case box x => rw [ev_congr (fr := fr) (fr1 := fr1) h]
  case lits len sz zs l => rw [fillA_congr h]
  case mkslc sz by' zs x y => rw [ev_congr (fr := fr) (fr1 := fr1) (x := x) fun t ht => h t (.inl ht), ev_congr (fr := fr) (fr1 := fr1) (x := y) fun t ht => h t (.inr ht)]
  case s2b x => rw [ev_congr (fr := fr) (fr1 := fr1) h]

theorem aeff_congr {call : CallF} {s : St} {p : EOp} (h : ∀ t, t ∈ p.tmps → fr.get t = fr1.get t) : aeff call fr s p = aeff call fr1 s p := by
  cases p <;> simp only [EOp.tmps, List.mem_append] at h <;> simp only [aeff]
  case store n x y => rw [ev_congr (fr := fr) (fr1 := fr1) (x := x) fun t ht => h t (.inl ht), ev_congr (fr := fr) (fr1 := fr1) (x := y) fun t ht => h t (.inr ht)]
  case append n b x y => rw [ev_congr (fr := fr) (fr1 := fr1) (x := x) fun t ht => h t (.inl ht), ev_congr (fr := fr) (fr1 := fr1) (x := y) fun t ht => h t (.inr ht)]
  case copy n x y => rw [ev_congr (fr := fr) (fr1 := fr1) (x := x) fun t ht => h t (.inl ht), ev_congr (fr := fr) (fr1 := fr1) (x := y) fun t ht => h t (.inr ht)]
  case mupd ag ks m k v => rw [ev_congr (fr := fr) (fr1 := fr1) (x := m) fun t ht => h t (.inl (.inl ht)), ev_congr (fr := fr) (fr1 := fr1) (x := k) fun t ht => h t (.inl (.inr ht)), ev_congr (fr := fr) (fr1 := fr1) (x := v) fun t ht => h t (.inr ht)]
  case mdel ag ks x y => rw [ev_congr (fr := fr) (fr1 := fr1) (x := x) fun t ht => h t (.inl ht), ev_congr (fr := fr) (fr1 := fr1) (x := y) fun t ht => h t (.inr ht)]
  case ment ag ks z x y => rw [ev_congr (fr := fr) (fr1 := fr1) (x := x) fun t ht => h t (.inl ht), ev_congr (fr := fr) (fr1 := fr1) (x := y) fun t ht => h t (.inr ht)]
  case mput m k v => rw [ev_congr (fr := fr) (fr1 := fr1) (x := m) fun t ht => h t (.inl (.inl ht)), ev_congr (fr := fr) (fr1 := fr1) (x := k) fun t ht => h t (.inl (.inr ht)), ev_congr (fr := fr) (fr1 := fr1) (x := v) fun t ht => h t (.inr ht)]
  case rng st x => rw [ev_congr (fr := fr) (fr1 := fr1) h]
  case next st x => rw [ev_congr (fr := fr) (fr1 := fr1) h]
  case call f l => rw [evs_congr (fr := fr) (fr1 := fr1) h]
  case callv x l => rw [ev_congr (fr := fr) (fr1 := fr1) (x := x) fun t ht => h t (.inl ht), evs_congr (fr := fr) (fr1 := fr1) (l := l) fun t ht => h t (.inr ht)]

theorem wants_congr {g : Option (Nat × Bool)} (h : ∀ t, t ∈ gTmps g → fr.get t = fr1.get t) : wants fr g = wants fr1 g := by
  cases g with
  | none => rfl
  | some q => obtain ⟨t, b⟩ := q; simp only [wants]; rw [h t (by simp [gTmps])]
end
end Go.Abs
