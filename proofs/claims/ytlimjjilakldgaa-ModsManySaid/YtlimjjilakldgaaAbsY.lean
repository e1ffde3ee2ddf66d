/- Maps whose keys are told by a plain type. -/
import Derived.Test.YtlimjjilakldgaaAbsW
set_option autoImplicit false
set_option linter.unusedVariables false
set_option linter.unusedSimpArgs false
namespace Go.Abs
open Go
/-- Keys of a type, as cells. -/
structure KE (α : Type) [DecidableEq α] (ag : Bool) (ks : List CK) where
  v : α → AV
  ok : ∀ a, keyOk ag ks (v a) = true
  eq : ∀ a b, flatEq ag ks (v a) (v b) = some (decide (a = b))
abbrev EntG (α : Type) := α × AV × Nat
section
variable {α : Type} [DecidableEq α] {ag : Bool} {ks : List CK} (E : KE α ag ks)
def entsG (es : List (EntG α)) : List (AV × AV × Nat) := es.map fun e => (E.v e.1, e.2.1, e.2.2)
def underG (k : α) : List (EntG α) → Option (AV × Nat)
  | [] => none
  | (a, v, n) :: r => if k = a then some (v, n) else underG k r
def putG (k : α) (v : AV) (ck : Nat) : List (EntG α) → List (EntG α)
  | [] => [(k, v, ck)]
  | (a, x, n) :: r => if k = a then (k, v, n) :: r else (a, x, n) :: putG k v ck r
def putNG (k : α) (ck : Nat) : List (EntG α) → Nat
  | [] => ck + 1
  | (a, x, n) :: r => if k = a then ck else putNG k ck r
theorem find_G (k : α) : ∀ es : List (EntG α), find ag ks (E.v k) (entsG E es) = some (underG k es)
  | [] => rfl
  | (a, v, n) :: r => by
    simp only [entsG, List.map_cons, find, E.eq, underG]
    by_cases h : k = a
    · simp [h]
    · simp only [h, decide_false, if_false]
      exact find_G k r
theorem mset_G (k : α) (v : AV) (ck : Nat) : ∀ es : List (EntG α), mset ag ks (E.v k) v ck (entsG E es) = some (entsG E (putG k v ck es), putNG k ck es)
  | [] => rfl
  | (a, x, n) :: r => by
    have ih := mset_G k v ck r
    simp only [entsG] at ih
    simp only [entsG, List.map_cons, mset, E.eq, putG, putNG]
    by_cases h : k = a
    · simp [h]
    · simp only [h, decide_false, if_false, ih]
      rfl
/-- What is read under a key. -/
def getG (k : α) (z : AV) (es : List (EntG α)) : AV := match underG k es with
  | some p => p.1
  | none => z
variable {P : Program} {nd : Bool} {l : SL} {K : Mem}
theorem Rdk.lookG {m ck : Nat} {es : List (EntG α)} {k : α} {z : AV} (h : InK K m (.map (entsG E es) ck)) : Rdk K (.lookup ag ks z false) (.map m) (E.v k) (getG k z es) := by
  intro s hs
  simp only [aread, E.ok, cond_true, (hs.got _ _ h).1, find_G, getG]
  cases underG k es <;> rfl
theorem Rdk.lookkG {m ck : Nat} {es : List (EntG α)} {k : α} {z : AV} (h : InK K m (.map (entsG E es) ck)) : Rdk K (.lookup ag ks z true) (.map m) (E.v k) (.tup [getG k z es, .bool (underG k es).isSome]) := by
  intro s hs
  simp only [aread, E.ok, cond_true, (hs.got _ _ h).1, find_G, getG]
  cases underG k es <;> rfl
theorem Ef.mupdG {x y z : AO} {m ck : Nat} {es : List (EntG α)} {k : α} {v : AV} {K' : Mem} (hx : x.evL l = some (.map m)) (hy : y.evL l = some (E.v k)) (hz : z.evL l = some v) (hK : Upd K m (.map (entsG E es) ck) (.map (entsG E (putG k v ck es)) (putNG k ck es)) K') :
    Ef P l K (.mupd ag ks x y z) fun w K2 => w = .tup [] ∧ K2 = K' := by
  refine Ef.put hK fun s hs => ?_
  simp only [aeff, ev_frL, hx, hy, hz, E.ok, cond_true, hs, mset_G]
end
/-- Texts as keys, numbers as keys. -/
def keS : KE (List Nat) false [.s] where
  v := fun s => .str s
  ok := fun _ => rfl
  eq := fun a b => by
    show ceqs [.s] [.str a] [.str b] = _
    simp only [ceqs, ceq, neq_dec]
    by_cases h : a = b <;> simp [h]
def keN : KE Nat false [.i] where
  v := fun n => .int .i64 (.ofNat n)
  ok := fun _ => rfl
  eq := fun a b => by
    show ceqs [.i] [.int .i64 (.ofNat a)] [.int .i64 (.ofNat b)] = _
    simp only [ceqs, ceq, keq_self, cond_true, ieq_nat]
    by_cases h : a = b <;> simp [h]
end Go.Abs
