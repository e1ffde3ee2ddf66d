/- Numbers and texts: the abstract evaluator's small functions are what the model's are. -/
import Derived.Test.YtiiajdfjnamfcaaGreatAbsRel
import Derived.Laws.Strings
set_option autoImplicit false
set_option linter.unusedSimpArgs false
set_option linter.unusedVariables false
namespace Go.Abs
open Go Go.RowKit
theorem ieq_eq (a b : Int) : ieq a b = decide (a = b) := by
 rw [Bool.eq_iff_iff]; cases a <;> cases b <;> simp [ieq] <;> omega
theorem ieq_beq (a b : Int) : ieq a b = (a == b) := by rw [ieq_eq]; rfl
theorem ilt_eq (a b : Int) : ilt a b = decide (a < b) := by
 rw [Bool.eq_iff_iff]; cases a <;> cases b <;> simp [ilt, Nat.blt_eq] <;> omega
theorem keq_eq (a b : IntKind) : keq a b = decide (a = b) := by cases a <;> cases b <;> rfl
theorem nbits_eq (k : IntKind) : nbits k = k.bits := by cases k <;> rfl
theorem wrap_in (k : IntKind) (n : Int) (hs : k.signed = true) (h0 : -(2 ^ (k.bits - 1) : Int) ≤ n) (h1 : n < 2 ^ (k.bits - 1)) : k.wrap n = n := by
 have h2 : (0 : Int) < 2 ^ (k.bits - 1) := Int.pow_pos (by decide)
 have h3 : (2 : Int) ^ k.bits = 2 * 2 ^ (k.bits - 1) := by
  cases k <;> rfl
 unfold IntKind.wrap
 rw [hs, h3]
 generalize (2 : Int) ^ (k.bits - 1) = m at *
 by_cases hn : 0 ≤ n
 ·have e : n % (2 * m) = n := Int.emod_eq_of_lt hn (by omega)
  have : ¬ (m ≤ n) := by omega
  simp [e, this]
 ·have e : n % (2 * m) = n + 2 * m := by
   rw [← Int.add_emod_right, Int.emod_eq_of_lt (by omega) (by omega)]
  have : m ≤ n + 2 * m := by omega
  simp [e, this]
theorem awrap_eq (k : IntKind) (n : Int) : awrap k n = k.wrap n := by
 cases n with
 | ofNat a =>
  simp only [awrap]
  cases h : Nat.ble a (top k) with
  | true =>
   have h := Nat.le_of_ble_eq_true h
   cases k <;> simp [top, IntKind.wrap, IntKind.bits, IntKind.signed] at h ⊢ <;> omega
  | false => cases k <;> simp [IntKind.wrap, IntKind.bits, IntKind.signed]
 | negSucc a =>
  have key : ∀ (c : Bool) (m : Nat), (c = true → a ≤ m) → ∀ k : IntKind, (a ≤ m → Int.negSucc a = k.wrap (Int.negSucc a)) → (bif c then Int.negSucc a else k.wrap (Int.negSucc a)) = k.wrap (Int.negSucc a) := by
   intro c m h k hk
   cases c with
   | true => exact hk (h rfl)
   | false => rfl
  cases k with
  | i8 => exact key _ 127 Nat.le_of_ble_eq_true .i8 fun h => (wrap_in _ _ rfl (by rw [Int.negSucc_eq]; simp only [IntKind.bits]; omega) (by rw [Int.negSucc_eq]; simp only [IntKind.bits]; omega)).symm
  | i16 => exact key _ 32767 Nat.le_of_ble_eq_true .i16 fun h => (wrap_in _ _ rfl (by rw [Int.negSucc_eq]; simp only [IntKind.bits]; omega) (by rw [Int.negSucc_eq]; simp only [IntKind.bits]; omega)).symm
  | i32 => exact key _ 2147483647 Nat.le_of_ble_eq_true .i32 fun h => (wrap_in _ _ rfl (by rw [Int.negSucc_eq]; simp only [IntKind.bits]; omega) (by rw [Int.negSucc_eq]; simp only [IntKind.bits]; omega)).symm
  | i64 => exact key _ 9223372036854775807 Nat.le_of_ble_eq_true .i64 fun h => (wrap_in _ _ rfl (by rw [Int.negSucc_eq]; simp only [IntKind.bits]; omega) (by rw [Int.negSucc_eq]; simp only [IntKind.bits]; omega)).symm
  | u32 => simp only [awrap]; rw [Int.negSucc_eq]; simp only [IntKind.wrap, IntKind.bits, IntKind.signed]; simp; omega
  | u8 => rfl
  | u16 => rfl
  | u64 => rfl
theorem neq_eq : ∀ (a b : List Nat), neq a b = decide (a = b)
 | [], [] => by simp [neq]
 | [], _ :: _ => by simp [neq]
 | _ :: _, [] => by simp [neq]
 | a :: x, b :: y => by rw [Bool.eq_iff_iff]; simp [neq, neq_eq x y]
theorem nat_inj {x y : List UInt8} (h : x.map (·.toNat) = y.map (·.toNat)) : x = y := by
 induction x generalizing y with
 | nil => cases y <;> simp_all
 | cons a x ih =>
  cases y with
  | nil => simp at h
  | cons b y =>
   simp at h
   rw [ih h.2, UInt8.toNat_inj.1 h.1]
theorem natBytes_inj {a b : ByteArray} (h : natBytes a = natBytes b) : a = b := by
 have := nat_inj h
 cases a with | mk a => cases b with | mk b => simp at this; rw [this]
theorem neq_bytes (a b : ByteArray) : neq (natBytes a) (natBytes b) = (a.toList == b.toList) := by
 rw [neq_eq, ByteArray.toList_eq, ByteArray.toList_eq, Bool.eq_iff_iff]
 simp only [decide_eq_true_eq, beq_iff_eq]
 constructor
 ·exact nat_inj
 ·intro h; simp [natBytes, h]
theorem neq_bytes' (a b : ByteArray) : neq (natBytes a) (natBytes b) = (a == b) := by
 have h : (a == b) = (a.data == b.data) := rfl
 rw [neq_eq, Bool.eq_iff_iff, h]
 simp only [decide_eq_true_eq, beq_iff_eq]
 exact ⟨fun h => by rw [natBytes_inj h], fun h => by simp [natBytes, h]⟩
theorem nless_eq : ∀ (x y : List UInt8), nless (x.map (·.toNat)) (y.map (·.toNat)) = Op.bytesLess x y
 | x, [] => by cases x <;> simp [nless, Op.bytesLess]
 | [], _ :: _ => by simp [nless, Op.bytesLess]
 | a :: x, b :: y => by
  simp only [List.map_cons, nless, Op.bytesLess, nless_eq x y]
  congr 1
  ·rw [Bool.eq_iff_iff]; simp [Nat.blt_eq, UInt8.lt_iff_toNat_lt]
  ·congr 1
   rw [Bool.eq_iff_iff]; simp [UInt8.toNat_inj]
theorem nless_bytes (a b : ByteArray) : nless (natBytes a) (natBytes b) = Op.bytesLess a.toList b.toList := by
 rw [ByteArray.toList_eq, ByteArray.toList_eq]; exact nless_eq _ _
theorem natBytes_length (b : ByteArray) : (natBytes b).length = b.size := by simp only [natBytes, List.length_map]; rfl
theorem natBytes_append (a b : ByteArray) : natBytes (a ++ b) = natBytes a ++ natBytes b := by
 simp only [natBytes, ByteArray.data_append, Array.toList_append, List.map_append]
theorem natBytes_extract (s : ByteArray) (l h : Nat) : natBytes (s.extract l h) = ((natBytes s).drop l).take (h - l) := by
 simp only [natBytes, ByteArray.data_extract, Array.toList_extract, List.extract_eq_take_drop, List.map_take, List.map_drop]
theorem natBytes_get (s : ByteArray) (i : Nat) : (natBytes s)[i]? = (s[i]?).map (·.toNat) := by
 have h : s[i]? = s.data.toList[i]? := by
  by_cases h : i < s.size
  ·have h2 : i < s.data.size := h
   rw [getElem?_pos s i h, Array.getElem?_toList, getElem?_pos s.data i h2]; rfl
  ·have h2 : ¬ i < s.data.size := h
   rw [getElem?_neg s i h, Array.getElem?_toList, getElem?_neg s.data i h2]
 rw [h]
 simp only [natBytes, List.getElem?_map]
end Go.Abs
