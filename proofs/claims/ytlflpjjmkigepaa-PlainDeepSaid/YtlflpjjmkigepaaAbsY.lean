/- Maps whose keys are told by a plain type. -/
import Derived.Test.YtlflpjjmkigepaaAbsW
import Derived.Test.YtlflpjjmkigepaaAbsU
set_option autoImplicit false
set_option linter.unusedVariables false
set_option linter.unusedSimpArgs false
namespace Go.Abs
open Go
/-- Keys of a type, as cells. -/
structure KE (α : Type) [DecidableEq α] (ag : Bool) (ks : List CK) where
  v : α → AV
  ok : ∀ a, keyOk ag ks (v a) = true
  eq : ∀ a b, flatEq ag ks (v a) (v b) = some (decide (a = b))
section
variable {α : Type} [DecidableEq α] {ag : Bool} {ks : List CK} (E : KE α ag ks)
variable {P : Program} {nd : Bool} {l : SL} {K : Mem}
end
end Go.Abs

namespace Go.Abs
open Go
theorem Rdk.mlen0 {K : Mem} {y : AV} : Rdk K .mlen .nilmap y (.int .i64 (.ofNat 0)) := fun _ _ => rfl
/-- Chunks in another order, told by numbers. -/
theorem chunk_perm (Ls : List Chk) (is js : List Nat) (h : is.Perm js) : ((is.map fun i => (Ls[i]?).getD []).flatten).Perm ((js.map fun i => (Ls[i]?).getD []).flatten) := (h.map _).flatten
theorem Sel.left (m r : Mem) : Sel (m ++ r) m r := by
  induction m with
  | nil => exact .nil
  | cons c m ih => exact .cons .here ih
section
variable {P : Program} {nd : Bool} {f : FuncId} {args : List AV} {K : Mem}
theorem Frm.permL {B : Nat} {s s' : St} {K K2 K' : Mem} (hp : K.flatten.Perm K2.flatten) (h : Frm B s K2 s' K') : Frm B s K s' K' :=
  ⟨h.next, fun id hi hn => h.old id hi fun hm => hn ((ids_perm hp).mem_iff.2 hm), fun id hi => (h.new id hi).imp_left fun h => (ids_perm hp).mem_iff.2 h⟩
theorem Frm.permR {B : Nat} {s s' : St} {K K' K2 : Mem} (hp : K'.flatten.Perm K2.flatten) (h : Frm B s K s' K') : Frm B s K s' K2 :=
  ⟨h.next, h.old, fun id hi => h.new id ((ids_perm hp).mem_iff.2 hi)⟩
theorem CT.perm {K2 : Mem} {Q : AV → Mem → Prop} (hp : K.flatten.Perm K2.flatten) (h : CT P nd f args K2 Q) : CT P nd f args K Q := fun s hs =>
  (h s (hs.perm hp)).mono fun v s' _ ⟨K', h1, h2, h3⟩ => ⟨K', h1, h2.permL hp, h3⟩
theorem CT.re {Q R : AV → Mem → Prop} (h : CT P nd f args K Q) (k : ∀ v K', Q v K' → ∃ K2, K'.flatten.Perm K2.flatten ∧ R v K2) : CT P nd f args K R := fun s hs =>
  (h s hs).mono fun v s' _ ⟨K', h1, h2, h3⟩ => by
    obtain ⟨K2, hp, h4⟩ := k v K' h3
    exact ⟨K2, h1.perm hp, h2.permR hp, h4⟩
/-- A contract on a part; what comes of the part, with the rest beside it, is grouped anew. -/
theorem CT.over {m r : Mem} {Q R : AV → Mem → Prop} (hp : K.flatten.Perm (m ++ r).flatten) (h : CT P nd f args m Q) (k : ∀ v m', Q v m' → ∃ K2, (m' ++ r).flatten.Perm K2.flatten ∧ R v K2) : CT P nd f args K R :=
  CT.perm hp (CT.re (h.sel (Sel.left m r)) fun v K' ⟨m', e, hq⟩ => by subst e; exact k v m' hq)
theorem Lp.fr {l : SL} {b : ACode} {k : Nat} {m r : Mem} {Q : AX → SL → Mem → Prop} (hs : Sel K m r) (h : Lp P nd b k l m fun x l m' => Q x l (m' ++ r)) : Lp P nd b k l K Q := (Lp.frame hs h).mono (by rintro _ _ _ ⟨m', rfl, h⟩; exact h)
theorem Take.app {K K1 m2 : Mem} {c : Chk} (h : Take K c K1) : Take (K ++ m2) c (K1 ++ m2) := by
  induction h with
  | here => exact .here
  | there _ ih => exact .there ih
theorem Take.skip {r : Mem} {c : Chk} : ∀ K : Mem, Take (K ++ c :: r) c (K ++ r)
  | [] => .here
  | d :: K => .there (Take.skip K)
theorem Sel.right (K : Mem) : ∀ m2 : Mem, Sel (K ++ m2) m2 K
  | [] => by rw [List.append_nil]; exact .nil
  | c :: m2 => .cons (Take.skip K) (Sel.right K m2)
end
end Go.Abs
