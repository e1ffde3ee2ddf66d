/- What slices and pointers stand for in a store, and what stays when a store grows. -/
import Derived.Test.YtiiajdfjnamfcaaGreatAbsSym
set_option autoImplicit false
set_option linter.unusedSimpArgs false
set_option linter.unusedVariables false
namespace Go.Abs
open Go
theorem get_put (s : St) (id : Nat) (o : AObj) (j : Nat) : (s.put id o).objs.get j = if j = id then some o else s.objs.get j := by simp only [St.put, Tr.get_set]
theorem flatten_at {α : Type} {sz : Nat} : ∀ {rows : List (List α)} {k : Nat} {r : List α}, (∀ r, r ∈ rows → r.length = sz) → rows[k]? = some r → (rows.flatten.drop (k * sz)).take sz = r ∧ (k + 1) * sz ≤ rows.flatten.length
 | [], k, r, h, hk => by simp at hk
 | x :: rows, 0, r, h, hk => by
  simp at hk
  subst hk
  have := h x (by simp)
  simp [List.take_append, this]
 | x :: rows, k + 1, r, h, hk => by
  have hx := h x (by simp)
  have := flatten_at (rows := rows) (k := k) (r := r) (fun r hr => h r (by simp [hr])) (by simpa using hk)
  simp only [List.flatten_cons]
  constructor
  ·rw [show (k + 1) * sz = x.length + k * sz by rw [hx, Nat.add_mul]; omega, ← List.drop_drop, List.drop_left]
   exact this.1
  ·simp only [List.length_append, hx]
   have := this.2
   rw [show (k + 1 + 1) * sz = sz + (k + 1) * sz by rw [Nat.add_mul (k + 1) 1]; omega]
   omega
theorem add64 {a b : Nat} (h : a + b ≤ 9223372036854775807) : awrap .i64 (Int.ofNat a + Int.ofNat b) = Int.ofNat (a + b) := by
 show awrap .i64 (Int.ofNat (a + b)) = _
 simp only [awrap, top]
 rw [Nat.ble_eq_true_of_le h]
 rfl
theorem ilt_nat (a b : Nat) : ilt (.ofNat a) (.ofNat b) = decide (a < b) := by
 simp only [ilt]
 by_cases h : a < b
 ·rw [show Nat.blt a b = true from Nat.ble_eq_true_of_le h, decide_eq_true h]
 ·rw [decide_eq_false h]
  cases hb : Nat.blt a b with
  | false => rfl
  | true => exact absurd (Nat.le_of_ble_eq_true hb) h
theorem ieq_nat (a b : Nat) : ieq (.ofNat a) (.ofNat b) = decide (a = b) := by
 simp only [ieq]
 by_cases h : a = b
 ·subst h; simp
 ·rw [decide_eq_false h]
  cases hb : Nat.beq a b with
  | false => rfl
  | true => exact absurd (Nat.eq_of_beq_eq_true hb) h
theorem neq_dec : ∀ (a b : List Nat), neq a b = decide (a = b)
 | [], [] => by simp [neq]
 | [], b :: y => by simp [neq]
 | a :: x, [] => by simp [neq]
 | a :: x, b :: y => by
  simp only [neq, neq_dec x y]
  by_cases h : a = b
  ·subst h; simp
  ·have : Nat.beq a b = false := by
    cases hb : Nat.beq a b with
    | false => rfl
    | true => exact absurd (Nat.eq_of_beq_eq_true hb) h
   simp [this, h]
theorem add_nat {a b : Nat} (h : a + b ≤ 9223372036854775807) : abin .add (.int .i64 (.ofNat a)) (.int .i64 (.ofNat b)) = some (.int .i64 (.ofNat (a + b))) := by
 rw [← add64 h]; rfl
theorem sub_nat {a b : Nat} (h : b ≤ a) (ha : a ≤ 9223372036854775807) : abin .sub (.int .i64 (.ofNat a)) (.int .i64 (.ofNat b)) = some (.int .i64 (.ofNat (a - b))) := by
 have : abin .sub (.int .i64 (.ofNat a)) (.int .i64 (.ofNat b)) = some (.int .i64 (awrap .i64 (Int.ofNat a - Int.ofNat b))) := rfl
 rw [this, show (Int.ofNat a - Int.ofNat b) = Int.ofNat (a - b) by simp; omega]
 simp only [awrap, top]
 rw [Nat.ble_eq_true_of_le (by omega)]
 rfl
end Go.Abs
