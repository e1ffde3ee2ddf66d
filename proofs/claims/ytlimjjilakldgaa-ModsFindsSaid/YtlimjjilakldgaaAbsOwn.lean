/- Slices that are owned: what append makes of them. -/
import Derived.Test.YtlimjjilakldgaaAbsView
set_option autoImplicit false
set_option linter.unusedSimpArgs false
set_option linter.unusedVariables false
namespace Go.Abs
open Go

/-- A slice's object is another one. -/
def offId (v : AV) (id : Nat) : Prop := match v with
  | .slc j _ _ _ _ _ => j ≠ id
  | _ => True
theorem Slv.put {s : St} {sz : Nat} {v : AV} {rows : List (List AV)} (h : Slv s sz v rows) {id : Nat} (hi : offId v id) (o : AObj) : Slv (s.put id o) sz v rows := by
  refine ⟨h.1, ?_⟩
  have h2 := h.2
  cases v <;> simp only at h2 ⊢ <;> try exact h2
  obtain ⟨h1, h2, h3, vs, h4, h5⟩ := h2
  refine ⟨h1, h2, h3, vs, ?_, h5⟩
  simp only [St.cells, get_put]
  rw [if_neg hi]; exact h4
theorem Slv.offNew {s : St} {sz : Nat} {v : AV} {rows : List (List AV)} (h : Slv s sz v rows) {id : Nat} (hi : s.next ≤ id) : offId v id := by
  have h2 := h.2
  cases v <;> simp only [offId] at h2 ⊢
  obtain ⟨_, _, h3, _⟩ := h2
  omega
theorem Slv.row {s : St} {sz : Nat} {v : AV} {rows : List (List AV)} (h : Slv s sz v rows) : s.row sz rows.length v = some rows.flatten ∧ ilen v = some rows.length ∧ slen v = some rows.length := by
  have h1 := h.1
  have h2 := h.2
  cases v <;> simp only at h2 <;> try exact h2.elim
  · obtain ⟨rfl, rfl, h3, vs, h4, h5⟩ := h2
    refine ⟨?_, rfl, rfl⟩
    simp only [St.row, h4, h5, Nat.ble_eq_true_of_le (Nat.le_refl _)]
    simp
  · obtain ⟨rfl, rfl, rfl⟩ := h2
    refine ⟨?_, rfl, rfl⟩
    simp only [St.row, Nat.ble_eq_true_of_le (Nat.le_refl _)]
    rw [← flatten_len h1, List.take_length]
    simp
  · subst h2; exact ⟨rfl, rfl, rfl⟩
  · subst h2; exact ⟨rfl, rfl, rfl⟩

/-- A slice that nobody else holds, at a place from lo on; or nil. -/
def Own (s : St) (lo sz : Nat) (v : AV) (rows : List (List AV)) : Prop :=
  (∀ r, r ∈ rows → r.length = sz) ∧ lo ≤ s.next ∧ ((v = .nilslc ∧ rows = []) ∨ ∃ id gen, v = .slc id gen 0 rows.length rows.length sz ∧ lo ≤ id ∧ id < s.next ∧ s.objs.get id = some (.cells rows.flatten gen gen true))
theorem Own.slv {s : St} {lo sz : Nat} {v : AV} {rows : List (List AV)} (h : Own s lo sz v rows) : Slv s sz v rows := by
  obtain ⟨h1, h0, ⟨rfl, rfl⟩ | ⟨id, gen, rfl, h2, h3, h4⟩⟩ := h
  · exact ⟨h1, rfl⟩
  · refine ⟨h1, rfl, rfl, h3, rows.flatten, ?_, ?_⟩
    · simp only [St.cells, h4, Nat.ble_eq_true_of_le (Nat.le_refl _)]; simp
    · rw [seg_some, flatten_len h1]; simp
      rw [← flatten_len h1, List.take_length]
theorem Own.nil {s : St} {lo sz : Nat} (h : lo ≤ s.next) : Own s lo sz .nilslc [] := ⟨by simp, h, .inl ⟨rfl, rfl⟩⟩
theorem Own.ext {s s' : St} {lo sz : Nat} {v : AV} {rows : List (List AV)} (h : Own s lo sz v rows) (k : Ext s s') : Own s' lo sz v rows := by
  obtain ⟨h1, h0, h2 | ⟨id, gen, rfl, h2, h3, h4⟩⟩ := h
  · exact ⟨h1, Nat.le_trans h0 k.next, .inl h2⟩
  · exact ⟨h1, Nat.le_trans h0 k.next, .inr ⟨id, gen, rfl, h2, Nat.lt_of_lt_of_le h3 k.next, by rw [k.old id h3]; exact h4⟩⟩
theorem Own.put {s : St} {lo sz : Nat} {v : AV} {rows : List (List AV)} (h : Own s lo sz v rows) {id : Nat} (hi : offId v id) (o : AObj) : Own (s.put id o) lo sz v rows := by
  obtain ⟨h1, h0, h2 | ⟨j, gen, rfl, h2, h3, h4⟩⟩ := h
  · exact ⟨h1, h0, .inl h2⟩
  · exact ⟨h1, h0, .inr ⟨j, gen, rfl, h2, h3, by rw [get_put, if_neg hi]; exact h4⟩⟩
/-- All but one object stays; what is new stands from lo on. -/
structure Turn (lo : Nat) (v : AV) (s s' : St) : Prop where
  next : s.next ≤ s'.next
  old : ∀ id, id < s.next → offId v id → s'.objs.get id = s.objs.get id
theorem Turn.slv {lo : Nat} {v w : AV} {s s' : St} {sz : Nat} {rows : List (List AV)} (t : Turn lo v s s') (h : Slv s sz w rows) (hd : ∀ id, ¬ offId w id → offId v id) : Slv s' sz w rows := by
  refine ⟨h.1, ?_⟩
  have h2 := h.2
  cases w <;> simp only at h2 ⊢ <;> try exact h2
  obtain ⟨h1, h2, h3, vs, h4, h5⟩ := h2
  refine ⟨h1, h2, Nat.lt_of_lt_of_le h3 t.next, vs, ?_, h5⟩
  simp only [St.cells] at h4 ⊢
  rw [t.old _ h3 (hd _ (by simp [offId]))]; exact h4
theorem Own.append {s : St} {lo sz bytes : Nat} {a b : AV} {rows new : List (List AV)} (h : Own s lo sz a rows) (hb : Slv s sz b new) (hne : new ≠ []) (hbig : (rows.length + new.length) * (bytes + 1) ≤ lim) :
    ∃ v s', aappend s sz bytes a b = some (v, s') ∧ Own s' lo sz v (rows ++ new) ∧ Turn lo a s s' ∧ (∀ id, offId a id → id < s.next → offId v id) := by
  obtain ⟨r1, r2, _⟩ := hb.row
  have hn : new.length ≠ 0 := by simpa using hne
  have hn' : Nat.beq new.length 0 = false := by
    cases hq : Nat.beq new.length 0 with
    | false => rfl
    | true => exact absurd (Nat.eq_of_beq_eq_true hq) hn
  obtain ⟨h1, h0, ⟨rfl, rfl⟩ | ⟨id, gen, rfl, h2, h3, h4⟩⟩ := h
  · refine ⟨.slc s.next 0 0 new.length new.length sz, s.new (.cells new.flatten 0 0 true), ?_, ⟨by simpa using hb.1, Nat.le_trans h0 (Nat.le_succ _), .inr ⟨s.next, 0, by simp, h0, Nat.lt_succ_self _, ?_⟩⟩, ⟨Nat.le_succ _, ?_⟩, ?_⟩
    · simp only [aappend, r1, r2, hn', cond_false]
      rw [Nat.ble_eq_true_of_le (by simpa using hbig)]
      rfl
    · simp only [St.new, Tr.get_set]; simp
    · intro j hj _
      simp only [St.new, Tr.get_set]
      rw [if_neg (by omega)]
    · intro j _ hj
      simp only [offId]; omega
  · refine ⟨.slc id (gen + 1) 0 (rows.length + new.length) (rows.length + new.length) sz, s.put id (.cells (rows.flatten ++ new.flatten) (gen + 1) (gen + 1) true), ?_, ⟨?_, h0, .inr ⟨id, gen + 1, by simp, h2, h3, ?_⟩⟩, ⟨Nat.le_refl _, ?_⟩, ?_⟩
    · simp only [aappend, r1, r2, hn', cond_false, h4]
      rw [show (Nat.beq sz sz && Nat.ble ((rows.length + new.length) * (bytes + 1)) lim) = true by rw [Nat.ble_eq_true_of_le hbig]; simp]
      have : seg rows.flatten 0 (rows.length * sz) = some rows.flatten := by
        rw [seg_some, flatten_len h1]; simp
        rw [← flatten_len h1, List.take_length]
      simp only [cond_true, this]
      simp
    · intro r hr
      rcases List.mem_append.1 hr with hr | hr
      · exact h1 r hr
      · exact hb.1 r hr
    · rw [get_put]; simp
    · intro j hj ho
      rw [get_put, if_neg (fun e => ho e.symm)]
    · intro j ho _
      exact ho
theorem Own.app {s : St} {lo sz bytes : Nat} {a b : AV} {rows new : List (List AV)} (h : Own s lo sz a rows) (hb : Slv s sz b new) (hbig : (rows.length + new.length) * (bytes + 1) ≤ lim) :
    ∃ v s', aappend s sz bytes a b = some (v, s') ∧ Own s' lo sz v (rows ++ new) ∧ Turn lo a s s' ∧ (∀ id, offId a id → id < s.next → offId v id) := by
  by_cases hne : new = []
  · subst hne
    refine ⟨a, s, ?_, by simpa using h, ⟨Nat.le_refl _, fun _ _ _ => rfl⟩, fun _ h _ => h⟩
    obtain ⟨r1, r2, _⟩ := hb.row
    obtain ⟨h1, h0, ⟨rfl, rfl⟩ | ⟨id, gen, rfl, h2, h3, h4⟩⟩ := h
    · simp only [aappend, r1, r2]; rfl
    · simp only [aappend, r1, r2]; rfl
  · exact h.append hb hne hbig
theorem offId_cases (v : AV) (id : Nat) : offId v id ∨ ¬ offId v id := Classical.em _
/-- Two slices do not share an object. -/
def Apart (v w : AV) : Prop := ∀ id, offId v id ∨ offId w id
theorem Apart.symm {v w : AV} (h : Apart v w) : Apart w v := fun id => (h id).symm
theorem Slv.lt {s : St} {sz : Nat} {v : AV} {rows : List (List AV)} (h : Slv s sz v rows) {id : Nat} (hi : ¬ offId v id) : id < s.next := by
  have h2 := h.2
  cases v <;> simp only [offId, not_true_eq_false] at h2 hi
  obtain ⟨_, _, h3, _⟩ := h2
  simp at hi
  omega
theorem Turn.stay {lo : Nat} {v w : AV} {s s' : St} {sz : Nat} {rows : List (List AV)} (t : Turn lo v s s') (h : Slv s sz w rows) (hd : Apart v w) : Slv s' sz w rows :=
  t.slv h fun id hw => (hd id).resolve_right hw
/-- What is new of an appended slice is away from all that was. -/
theorem apart_app {s : St} {a v w : AV} {sz : Nat} {rows : List (List AV)} (hw : Slv s sz w rows) (ha : Apart a w) (hv : ∀ id, offId a id → id < s.next → offId v id) : Apart v w := by
  intro id
  rcases offId_cases w id with h | h
  · exact .inr h
  · exact .inl (hv id ((ha id).resolve_right h) (hw.lt h))
theorem Own.apartNew {s s1 : St} {sz sz1 : Nat} {v w : AV} {rows rows1 : List (List AV)} (h : Slv s sz v rows) (k : Own s1 s.next sz1 w rows1) : Apart v w := by
  intro id
  by_cases hi : id < s.next
  · right
    obtain ⟨h1, h0, ⟨rfl, rfl⟩ | ⟨j, gen, rfl, h2, h3, h4⟩⟩ := k
    · trivial
    · simp only [offId]; omega
  · exact .inl (h.offNew (by omega))
theorem Own.offOld {s : St} {lo sz : Nat} {v : AV} {rows : List (List AV)} (h : Own s lo sz v rows) {id : Nat} (hi : id < lo) : offId v id := by
  obtain ⟨h1, h0, ⟨rfl, rfl⟩ | ⟨j, gen, rfl, h2, h3, h4⟩⟩ := h
  · trivial
  · simp only [offId]; omega
/-- What stood ahead of lo stays. -/
theorem Turn.ext {lo : Nat} {v : AV} {s0 s s' : St} (h : Ext s0 s) (t : Turn lo v s s') (ho : ∀ id, id < s0.next → offId v id) : Ext s0 s' :=
  ⟨Nat.le_trans h.next t.next, fun id hi => (t.old id (Nat.lt_of_lt_of_le hi h.next) (ho id hi)).trans (h.old id hi)⟩
end Go.Abs
