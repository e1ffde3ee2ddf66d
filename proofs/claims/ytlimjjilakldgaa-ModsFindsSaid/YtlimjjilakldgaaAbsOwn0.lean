/- Slices that are owned: what append makes of them. -/
import Derived.Test.YtlimjjilakldgaaAbsOwn
set_option autoImplicit false
set_option linter.unusedSimpArgs false
set_option linter.unusedVariables false
namespace Go.Abs
open Go
/-- As Own, or an empty literal. -/
def Own0 (s : St) (lo sz : Nat) (v : AV) (rows : List (List AV)) : Prop :=
  Own s lo sz v rows ∨ (rows = [] ∧ lo ≤ s.next ∧ ∃ id, v = .slc id 0 0 0 0 sz ∧ lo ≤ id ∧ id < s.next ∧ s.objs.get id = some (.cells [] 0 0 false))
theorem Own0.slv {s : St} {lo sz : Nat} {v : AV} {rows : List (List AV)} (h : Own0 s lo sz v rows) : Slv s sz v rows := by
  rcases h with h | ⟨rfl, h0, id, rfl, h1, h2, h3⟩
  · exact h.slv
  · refine ⟨by simp, rfl, rfl, h2, [], by simp only [St.cells, h3]; rfl, ?_⟩
    rw [Nat.zero_mul]; rfl
theorem Own0.offOld {s : St} {lo sz : Nat} {v : AV} {rows : List (List AV)} (h : Own0 s lo sz v rows) {id : Nat} (hi : id < lo) : offId v id := by
  rcases h with h | ⟨rfl, h0, j, rfl, h1, h2, h3⟩
  · exact h.offOld hi
  · simp only [offId]; omega
theorem Own0.ext {s s' : St} {lo sz : Nat} {v : AV} {rows : List (List AV)} (h : Own0 s lo sz v rows) (k : Ext s s') : Own0 s' lo sz v rows := by
  rcases h with h | ⟨rfl, h0, j, rfl, h1, h2, h3⟩
  · exact .inl (h.ext k)
  · exact .inr ⟨rfl, Nat.le_trans h0 k.next, j, rfl, h1, Nat.lt_of_lt_of_le h2 k.next, by rw [k.old j h2]; exact h3⟩
theorem Own0.app {s : St} {lo sz bytes : Nat} {a b : AV} {rows new : List (List AV)} (h : Own0 s lo sz a rows) (hb : Slv s sz b new) (hbig : (rows.length + new.length) * (bytes + 1) ≤ lim) :
    ∃ v s', aappend s sz bytes a b = some (v, s') ∧ Own0 s' lo sz v (rows ++ new) ∧ Turn lo a s s' ∧ (∀ id, offId a id → id < s.next → offId v id) := by
  rcases h with h | ⟨rfl, h0, id, rfl, h1, h2, h3⟩
  · obtain ⟨v, s', k1, k2, k3, k4⟩ := h.app hb hbig
    exact ⟨v, s', k1, .inl k2, k3, k4⟩
  · obtain ⟨r1, r2, _⟩ := hb.row
    by_cases hne : new = []
    · subst hne
      refine ⟨_, s, ?_, .inr ⟨rfl, h0, id, rfl, h1, h2, h3⟩, ⟨Nat.le_refl _, fun _ _ _ => rfl⟩, fun _ h _ => h⟩
      simp only [aappend, r1, r2]; rfl
    · have hn : new.length ≠ 0 := by simpa using hne
      have hn' : Nat.beq new.length 0 = false := by
        cases hq : Nat.beq new.length 0 with
        | false => rfl
        | true => exact absurd (Nat.eq_of_beq_eq_true hq) hn
      have hn2 : Nat.ble (0 + new.length) 0 = false := by
        cases hq : Nat.ble (0 + new.length) 0 with
        | false => rfl
        | true => have := Nat.le_of_ble_eq_true hq; omega
      refine ⟨.slc s.next 0 0 (0 + new.length) (0 + new.length) sz, s.new (.cells ([] ++ new.flatten) 0 0 true), ?_, .inl ⟨by simpa using hb.1, Nat.le_trans h0 (Nat.le_succ _), .inr ⟨s.next, 0, by simp, h0, Nat.lt_succ_self _, ?_⟩⟩, ⟨Nat.le_succ _, ?_⟩, ?_⟩
      · simp only [aappend, r1, r2, hn', cond_false, h3]
        rw [show (Nat.beq sz sz && Nat.ble ((0 + new.length) * (bytes + 1)) lim) = true by rw [Nat.ble_eq_true_of_le (by simpa using hbig)]; simp]
        have : seg [] 0 (0 * sz) = some ([] : List AV) := by rw [Nat.zero_mul]; rfl
        simp only [cond_true, hn2, cond_false, this]
        simp
      · simp only [St.new, Tr.get_set]; simp
      · intro j hj _
        simp only [St.new, Tr.get_set]
        rw [if_neg (by omega)]
      · intro j _ hj
        simp only [offId]; omega
end Go.Abs
