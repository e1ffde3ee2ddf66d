/- Numbers with a sign; values of three cells, and maps of them. -/
import Derived.Test.YtiiajdfjnamfcaaGreatAbsSym2
import Derived.Test.YtiiajdfjnamfcaaGreatAbsOwn0
set_option autoImplicit false
set_option linter.unusedSimpArgs false
set_option linter.unusedVariables false
namespace Go.Abs
open Go
theorem ilt_dec (a b : Int) : ilt a b = decide (a < b) := by
 cases a with
 | ofNat a => cases b with
  | ofNat b => rw [ilt_nat]; simp
  | negSucc b => simp only [ilt]; rw [decide_eq_false]; simp only [Int.negSucc_eq, Int.ofNat_eq_natCast]; omega
 | negSucc a => cases b with
  | ofNat b => simp only [ilt]; rw [decide_eq_true]; simp only [Int.negSucc_eq, Int.ofNat_eq_natCast]; omega
  | negSucc b =>
   simp only [ilt]
   by_cases h : b < a
   ·rw [show Nat.blt b a = true from Nat.ble_eq_true_of_le h, decide_eq_true (by omega)]
   ·rw [decide_eq_false (by omega)]
    cases hb : Nat.blt b a with
    | false => rfl
    | true => exact absurd (Nat.le_of_ble_eq_true hb) h
theorem ieq_dec (a b : Int) : ieq a b = decide (a = b) := by
 cases a with
 | ofNat a => cases b with
  | ofNat b => rw [ieq_nat]; simp; omega
  | negSucc b => simp only [ieq]; rw [decide_eq_false]; simp only [Int.negSucc_eq, Int.ofNat_eq_natCast]; omega
 | negSucc a => cases b with
  | ofNat b => simp only [ieq]; rw [decide_eq_false]; simp only [Int.negSucc_eq, Int.ofNat_eq_natCast]; omega
  | negSucc b =>
   simp only [ieq]
   by_cases h : a = b
   ·subst h; simp
   ·rw [decide_eq_false (by omega)]
    cases hb : Nat.beq a b with
    | false => rfl
    | true => exact absurd (Nat.eq_of_beq_eq_true hb) h
structure Val where
 k : Int
 n : Int
 s : List Nat
 deriving DecidableEq
def valR (v : Val) : List AV := [.int .i64 v.k, .int .i64 v.n, .str v.s]
def valA (v : Val) : AV := .agg (valR v)
abbrev ksV : List CK := [.i, .i, .s]
theorem keyVal (v : Val) : keyOk true ksV (valA v) = true := rfl
theorem flatVal (a b : Val) : flatEq true ksV (valA a) (valA b) = some (decide (a = b)) := by
 have : flatEq true ksV (valA a) (valA b) = ceqs ksV (valR a) (valR b) := rfl
 rw [this]
 cases a with | mk ak an as => cases b with | mk bk bn bs =>
 simp only [valR, ceqs, ceq, keq, ieq_dec, neq_dec, cond_true, Val.mk.injEq]
 by_cases h1 : ak = bk <;> by_cases h2 : an = bn <;> by_cases h3 : as = bs <;> simp [h1, h2, h3]
abbrev Ent := Val × Val × Nat
def entsA (es : List Ent) : List (AV × AV × Nat) := es.map fun e => (valA e.1, valA e.2.1, e.2.2)
def under (k : Val) : List Ent → Option (Val × Nat)
 | [] => none
 | (a, v, n) :: r => if k = a then some (v, n) else under k r
def putE (k v : Val) (ck : Nat) : List Ent → List Ent
 | [] => [(k, v, ck)]
 | (a, x, n) :: r => if k = a then (k, v, n) :: r else (a, x, n) :: putE k v ck r
def putC (k : Val) (ck : Nat) : List Ent → Nat
 | [] => ck + 1
 | (a, x, n) :: r => if k = a then ck else putC k ck r
def delE (k : Val) : List Ent → List Ent
 | [] => []
 | (a, x, n) :: r => if k = a then r else (a, x, n) :: delE k r
theorem mset_V (k v : Val) (ck : Nat) : ∀ es : List Ent, mset true ksV (valA k) (valA v) ck (entsA es) = some (entsA (putE k v ck es), putC k ck es)
 | [] => rfl
 | (a, x, n) :: r => by
  have ih := mset_V k v ck r
  simp only [entsA] at ih
  simp only [entsA, List.map_cons, mset, flatVal, putE, putC]
  by_cases h : k = a
  ·simp [h, flatVal]
  ·simp only [flatVal, h, decide_false, if_false, ih]
   rfl
theorem mdel_V (k : Val) : ∀ es : List Ent, mdel true ksV (valA k) (entsA es) = some (entsA (delE k es))
 | [] => rfl
 | (a, x, n) :: r => by
  have ih := mdel_V k r
  simp only [entsA] at ih
  simp only [entsA, List.map_cons, mdel, flatVal, delE]
  by_cases h : k = a
  ·simp [h, flatVal]
  ·simp only [flatVal, h, decide_false, if_false, ih]
   rfl
section
variable {call : CallF} {id n i : Nat} {l : SL} {s : St} {pend : List (Nat × AObj)} {effs : List (Nat × St)} {rds : List Rd}
end
end Go.Abs
