/- Which key stands behind another one: both layers. -/
import Derived.Test.YtlflpjjmkigepaaPlnC
import Derived.Test.YtlflpjjmkigepaaPlnD
import Derived.Test.YtlflpjjmkigepaaPlnE
set_option autoImplicit false
set_option maxRecDepth 100000
set_option maxHeartbeats 4000000
set_option linter.unusedVariables false
set_option linter.unusedSimpArgs false
set_option maxRecDepth 900000
namespace Go.Proofs.Ytlflpjjmkigepaa
open Go Go.Abs
attribute [local irreducible] Cmp Rg Dw Cd Lp Ev Rdk CT Upd InK
theorem whole92 {n : Int} : PT Try.prog false 92 [.int .i64 n] (.tup [valA ⟨1, n, []⟩, .int .i64 (.ofNat 0)]) := by
  refine PT.of (CT.enter mixed comp92 (Nat.le_of_ble_eq_true rfl) ?_)
  repeat' (first|refine zz ?_|(refine zw ?_;refine And.intro ?_ ?_<;>intro hc)|(refine zv ?_;intro cv hv)|(refine za ?_;intro _)|refine zc ?_|(refine zd ?_;refine And.intro ?_ ?_<;>(intro e;(try simp only [Bool.not_eq_true',Bool.not_eq_false'] at e);subst e;try contradiction)))
  (first|refine ⟨.inr rfl,_,.t rfl .nil,?_⟩|refine ⟨.inr rfl,_,.t rfl (.t rfl .nil),?_⟩|refine ⟨.inr rfl,_,.t rfl (.t rfl (.t rfl .nil)),?_⟩|refine ⟨.inr rfl,_,.nil,?_⟩|refine ⟨.inl rfl,_,.t rfl .nil,?_⟩|refine ⟨.inl rfl,_,.nil,?_⟩|refine ⟨.inr rfl,_,.cn rfl (by exact zN) .nil,?_⟩|refine ⟨.inr rfl,_,.cn rfl (by exact zN) (.t rfl .nil),?_⟩)
  rfl
theorem truth89 {t : Bool} : PT Try.prog false 89 [.bool t] (.tup [valA ⟨1, one t, []⟩, .int .i64 (.ofNat 0)]) := by
  refine PT.of (CT.enter mixed comp89 (Nat.le_of_ble_eq_true rfl) ?_)
  have k0 := whole92 (n := Int.ofNat 0)
  have k1 := whole92 (n := Int.ofNat 1)
  cases t
  · repeat' (first|refine zz ?_|(refine zw ?_;refine And.intro ?_ ?_<;>intro hc)|(refine zv ?_;intro cv hv)|(refine za ?_;intro _)|refine zc ?_|(refine zd ?_;refine And.intro ?_ ?_<;>(intro e;(try simp only [Bool.not_eq_true',Bool.not_eq_false'] at e);subst e;try contradiction)))
    (first|refine ⟨.inr rfl,_,.t rfl .nil,?_⟩|refine ⟨.inr rfl,_,.t rfl (.t rfl .nil),?_⟩|refine ⟨.inr rfl,_,.t rfl (.t rfl (.t rfl .nil)),?_⟩|refine ⟨.inr rfl,_,.nil,?_⟩|refine ⟨.inl rfl,_,.t rfl .nil,?_⟩|refine ⟨.inl rfl,_,.nil,?_⟩|refine ⟨.inr rfl,_,.cn rfl (by exact zN) .nil,?_⟩|refine ⟨.inr rfl,_,.cn rfl (by exact zN) (.t rfl .nil),?_⟩)
    rfl
  · repeat' (first|refine zz ?_|(refine zw ?_;refine And.intro ?_ ?_<;>intro hc)|(refine zv ?_;intro cv hv)|(refine za ?_;intro _)|refine zc ?_|(refine zd ?_;refine And.intro ?_ ?_<;>(intro e;(try simp only [Bool.not_eq_true',Bool.not_eq_false'] at e);subst e;try contradiction)))
    (first|refine ⟨.inr rfl,_,.t rfl .nil,?_⟩|refine ⟨.inr rfl,_,.t rfl (.t rfl .nil),?_⟩|refine ⟨.inr rfl,_,.t rfl (.t rfl (.t rfl .nil)),?_⟩|refine ⟨.inr rfl,_,.nil,?_⟩|refine ⟨.inl rfl,_,.t rfl .nil,?_⟩|refine ⟨.inl rfl,_,.nil,?_⟩|refine ⟨.inr rfl,_,.cn rfl (by exact zN) .nil,?_⟩|refine ⟨.inr rfl,_,.cn rfl (by exact zN) (.t rfl .nil),?_⟩)
    rfl
theorem known87 : PT Try.prog false 87 [.str [60]] (.bool true) := PT.run plain0 (by kernel_rfl) rfl rfl
theorem numbers90 {a b : Int} : PT Try.prog false 90 [.str [60], .int .i64 a, .int .i64 b] (.tup [valA ⟨1, one (decide (a < b)), []⟩, .int .i64 (.ofNat 0)]) := by
  refine PT.of (CT.enter mixed comp90 (Nat.le_of_ble_eq_true rfl) ?_)
  have k89 := truth89 (t := decide (a < b))
  by_cases h : a < b
  · rw [decide_eq_true h] at k89 ⊢
    repeat' (first|refine zz ?_|(refine zv ?_;intro cv hv)|(refine za ?_;intro _)|refine zc ?_|(refine zd ?_;refine And.intro ?_ ?_<;>(intro e;(try simp only [Bool.not_eq_true',Bool.not_eq_false'] at e);subst e;try contradiction)))
    (first|refine ⟨.inr rfl,_,.t rfl .nil,?_⟩|refine ⟨.inr rfl,_,.t rfl (.t rfl .nil),?_⟩|refine ⟨.inr rfl,_,.t rfl (.t rfl (.t rfl .nil)),?_⟩|refine ⟨.inr rfl,_,.nil,?_⟩|refine ⟨.inl rfl,_,.t rfl .nil,?_⟩|refine ⟨.inl rfl,_,.nil,?_⟩|refine ⟨.inr rfl,_,.cn rfl (by exact zN) .nil,?_⟩|refine ⟨.inr rfl,_,.cn rfl (by exact zN) (.t rfl .nil),?_⟩)
    rfl
  · rw [decide_eq_false h] at k89 ⊢
    repeat' (first|refine zz ?_|(refine zv ?_;intro cv hv)|(refine za ?_;intro _)|refine zc ?_|(refine zd ?_;refine And.intro ?_ ?_<;>(intro e;(try simp only [Bool.not_eq_true',Bool.not_eq_false'] at e);subst e;try contradiction)))
    (first|refine ⟨.inr rfl,_,.t rfl .nil,?_⟩|refine ⟨.inr rfl,_,.t rfl (.t rfl .nil),?_⟩|refine ⟨.inr rfl,_,.t rfl (.t rfl (.t rfl .nil)),?_⟩|refine ⟨.inr rfl,_,.nil,?_⟩|refine ⟨.inl rfl,_,.t rfl .nil,?_⟩|refine ⟨.inl rfl,_,.nil,?_⟩|refine ⟨.inr rfl,_,.cn rfl (by exact zN) .nil,?_⟩|refine ⟨.inr rfl,_,.cn rfl (by exact zN) (.t rfl .nil),?_⟩)
    rfl
theorem texts91 {x y : List Nat} : PT Try.prog false 91 [.str [60], .str x, .str y] (.tup [valA ⟨1, one (nless x y), []⟩, .int .i64 (.ofNat 0)]) := by
  refine PT.of (CT.enter mixed comp91 (Nat.le_of_ble_eq_true rfl) ?_)
  have k89 := truth89 (t := nless x y)
  have e : abin .lss (.str x) (.str y) = some (.bool (nless x y)) := rfl
  repeat' (first|refine zz ?_|(refine zv ?_;intro cv hv)|(refine za ?_;intro _)|refine zc ?_|(refine zd ?_;refine And.intro ?_ ?_<;>(intro e;(try simp only [Bool.not_eq_true',Bool.not_eq_false'] at e);subst e;try contradiction)))
  (first|refine ⟨.inr rfl,_,.t rfl .nil,?_⟩|refine ⟨.inr rfl,_,.t rfl (.t rfl .nil),?_⟩|refine ⟨.inr rfl,_,.t rfl (.t rfl (.t rfl .nil)),?_⟩|refine ⟨.inr rfl,_,.nil,?_⟩|refine ⟨.inl rfl,_,.t rfl .nil,?_⟩|refine ⟨.inl rfl,_,.nil,?_⟩|refine ⟨.inr rfl,_,.cn rfl (by exact zN) .nil,?_⟩|refine ⟨.inr rfl,_,.cn rfl (by exact zN) (.t rfl .nil),?_⟩)
  rfl
theorem two84 {a b : Val} (hk : a.k = 1 ∨ a.k = 2) (h : a.k = b.k) : PT Try.prog false 84 [.str [60], valA a, valA b] (.tup [valA ⟨1, one (aheadB a b), []⟩, .int .i64 (.ofNat 0)]) := by
  have k87 := known87
  have k90 := numbers90 (a := a.n) (b := b.n)
  have k91 := texts91 (x := a.s) (y := b.s)
  have k76 := in59 (k := a)
  refine PT.of (CT.enter mixed comp84 (Nat.le_of_ble_eq_true rfl) ?_)
  rcases hk with h1 | h2
  · rw [show aheadB a b = decide (a.n < b.n) by unfold aheadB; rw [if_neg (fun hn => hn h), if_pos h1]]
    rw [if_pos h1] at k76
    repeat' (first|refine zz ?_|(refine zv ?_;intro cv hv)|(refine za ?_;intro _)|refine zc ?_|(refine zd ?_;refine And.intro ?_ ?_<;>(intro e;(try simp only [Bool.not_eq_true',Bool.not_eq_false'] at e);subst e;try contradiction)))
    (first|refine ⟨.inr rfl,_,.t rfl .nil,?_⟩|refine ⟨.inr rfl,_,.t rfl (.t rfl .nil),?_⟩|refine ⟨.inr rfl,_,.t rfl (.t rfl (.t rfl .nil)),?_⟩|refine ⟨.inr rfl,_,.nil,?_⟩|refine ⟨.inl rfl,_,.t rfl .nil,?_⟩|refine ⟨.inl rfl,_,.nil,?_⟩|refine ⟨.inr rfl,_,.cn rfl (by exact zN) .nil,?_⟩|refine ⟨.inr rfl,_,.cn rfl (by exact zN) (.t rfl .nil),?_⟩)
    rfl
  · rw [show aheadB a b = nless a.s b.s by unfold aheadB; rw [if_neg (fun hn => hn h), if_neg (by omega)]]
    rw [if_neg (by omega), if_pos h2] at k76
    repeat' (first|refine zz ?_|(refine zv ?_;intro cv hv)|(refine za ?_;intro _)|refine zc ?_|(refine zd ?_;refine And.intro ?_ ?_<;>(intro e;(try simp only [Bool.not_eq_true',Bool.not_eq_false'] at e);subst e;try contradiction)))
    (first|refine ⟨.inr rfl,_,.t rfl .nil,?_⟩|refine ⟨.inr rfl,_,.t rfl (.t rfl .nil),?_⟩|refine ⟨.inr rfl,_,.t rfl (.t rfl (.t rfl .nil)),?_⟩|refine ⟨.inr rfl,_,.nil,?_⟩|refine ⟨.inl rfl,_,.t rfl .nil,?_⟩|refine ⟨.inl rfl,_,.nil,?_⟩|refine ⟨.inr rfl,_,.cn rfl (by exact zN) .nil,?_⟩|refine ⟨.inr rfl,_,.cn rfl (by exact zN) (.t rfl .nil),?_⟩)
    rfl
theorem truth85 {t : Bool} : PT Try.prog false 85 [valA ⟨1, one t, []⟩] (.bool t) := by
  refine PT.of (CT.enter mixed comp85 (Nat.le_of_ble_eq_true rfl) ?_)
  cases t with
  | true =>
    have q : aeq (.flat true [.i, .i, .s]) (.agg (valR ⟨1, one true, []⟩)) (.agg (valR ⟨1, 0, []⟩)) = some false := by kernel_rfl
    repeat' (first|refine zz ?_|(refine zv ?_;intro cv hv)|(refine za ?_;intro _)|refine zc ?_|(refine zd ?_;refine And.intro ?_ ?_<;>(intro e;(try simp only [Bool.not_eq_true',Bool.not_eq_false'] at e);subst e;try contradiction)))
    (first|refine ⟨.inr rfl,_,.t rfl .nil,?_⟩|refine ⟨.inr rfl,_,.t rfl (.t rfl .nil),?_⟩|refine ⟨.inr rfl,_,.t rfl (.t rfl (.t rfl .nil)),?_⟩|refine ⟨.inr rfl,_,.nil,?_⟩|refine ⟨.inl rfl,_,.t rfl .nil,?_⟩|refine ⟨.inl rfl,_,.nil,?_⟩|refine ⟨.inr rfl,_,.cn rfl (by exact zN) .nil,?_⟩|refine ⟨.inr rfl,_,.cn rfl (by exact zN) (.t rfl .nil),?_⟩)
    rfl
  | false =>
    have q : aeq (.flat true [.i, .i, .s]) (.agg (valR ⟨1, one false, []⟩)) (.agg (valR ⟨1, 0, []⟩)) = some true := by kernel_rfl
    repeat' (first|refine zz ?_|(refine zv ?_;intro cv hv)|(refine za ?_;intro _)|refine zc ?_|(refine zd ?_;refine And.intro ?_ ?_<;>(intro e;(try simp only [Bool.not_eq_true',Bool.not_eq_false'] at e);subst e;try contradiction)))
    (first|refine ⟨.inr rfl,_,.t rfl .nil,?_⟩|refine ⟨.inr rfl,_,.t rfl (.t rfl .nil),?_⟩|refine ⟨.inr rfl,_,.t rfl (.t rfl (.t rfl .nil)),?_⟩|refine ⟨.inr rfl,_,.nil,?_⟩|refine ⟨.inl rfl,_,.t rfl .nil,?_⟩|refine ⟨.inl rfl,_,.nil,?_⟩|refine ⟨.inr rfl,_,.cn rfl (by exact zN) .nil,?_⟩|refine ⟨.inr rfl,_,.cn rfl (by exact zN) (.t rfl .nil),?_⟩)
    rfl
theorem is83 {s : List Nat} : PT Try.prog false 83 [valA ⟨2, 0, s⟩] (.bool (decide (s.length ≤ 1024))) := by
  refine PT.of (CT.enter mixed comp83 (Nat.le_of_ble_eq_true rfl) ?_)
  by_cases h : s.length ≤ 1024
  · rw [decide_eq_true h]
    repeat' (first|refine zz ?_|(refine zv ?_;intro cv hv)|(refine za ?_;intro _)|refine zc ?_|(refine zd ?_;refine And.intro ?_ ?_<;>(intro e;(try simp only [Bool.not_eq_true',Bool.not_eq_false'] at e);subst e;try contradiction)))
    (first|refine ⟨.inr rfl,_,.t rfl .nil,?_⟩|refine ⟨.inr rfl,_,.t rfl (.t rfl .nil),?_⟩|refine ⟨.inr rfl,_,.t rfl (.t rfl (.t rfl .nil)),?_⟩|refine ⟨.inr rfl,_,.nil,?_⟩|refine ⟨.inl rfl,_,.t rfl .nil,?_⟩|refine ⟨.inl rfl,_,.nil,?_⟩|refine ⟨.inr rfl,_,.cn rfl (by exact zN) .nil,?_⟩|refine ⟨.inr rfl,_,.cn rfl (by exact zN) (.t rfl .nil),?_⟩)
    rfl
  · rw [decide_eq_false h]
    repeat' (first|refine zz ?_|(refine zv ?_;intro cv hv)|(refine za ?_;intro _)|refine zc ?_|(refine zd ?_;refine And.intro ?_ ?_<;>(intro e;(try simp only [Bool.not_eq_true',Bool.not_eq_false'] at e);subst e;try contradiction)))
    (first|refine ⟨.inr rfl,_,.t rfl .nil,?_⟩|refine ⟨.inr rfl,_,.t rfl (.t rfl .nil),?_⟩|refine ⟨.inr rfl,_,.t rfl (.t rfl (.t rfl .nil)),?_⟩|refine ⟨.inr rfl,_,.nil,?_⟩|refine ⟨.inl rfl,_,.t rfl .nil,?_⟩|refine ⟨.inl rfl,_,.nil,?_⟩|refine ⟨.inr rfl,_,.cn rfl (by exact zN) .nil,?_⟩|refine ⟨.inr rfl,_,.cn rfl (by exact zN) (.t rfl .nil),?_⟩)
    rfl
theorem follows74 {a b : Val} (hk : b.k = 1 ∨ b.k = 2) : PT Try.prog false 74 [valA a, valA b] (.bool (aheadB a b)) := by
  have k85 := truth85 (t := aheadB a b)
  refine PT.of (CT.enter mixed comp74 (Nat.le_of_ble_eq_true rfl) ?_)
  by_cases h : a.k = b.k
  · have k84 := two84 (a := a) (b := b) (by omega) h
    generalize aheadB a b = t at *
    repeat' (first|refine zz ?_|(refine zv ?_;intro cv hv)|(refine za ?_;intro _)|refine zc ?_|(refine zd ?_;refine And.intro ?_ ?_<;>(intro e;(try simp only [Bool.not_eq_true',Bool.not_eq_false'] at e);subst e;try contradiction)))
    (first|refine ⟨.inr rfl,_,.t rfl .nil,?_⟩|refine ⟨.inr rfl,_,.t rfl (.t rfl .nil),?_⟩|refine ⟨.inr rfl,_,.t rfl (.t rfl (.t rfl .nil)),?_⟩|refine ⟨.inr rfl,_,.nil,?_⟩|refine ⟨.inl rfl,_,.t rfl .nil,?_⟩|refine ⟨.inl rfl,_,.nil,?_⟩|refine ⟨.inr rfl,_,.cn rfl (by exact zN) .nil,?_⟩|refine ⟨.inr rfl,_,.cn rfl (by exact zN) (.t rfl .nil),?_⟩)
    subst hv
    rfl
  · rw [show aheadB a b = decide (a.k < b.k) by rw [aheadB, if_pos h]]
    by_cases h2 : a.k < b.k
    · rw [decide_eq_true h2]
      repeat' (first|refine zz ?_|(refine zv ?_;intro cv hv)|(refine za ?_;intro _)|refine zc ?_|(refine zd ?_;refine And.intro ?_ ?_<;>(intro e;(try simp only [Bool.not_eq_true',Bool.not_eq_false'] at e);subst e;try contradiction)))
      (first|refine ⟨.inr rfl,_,.t rfl .nil,?_⟩|refine ⟨.inr rfl,_,.t rfl (.t rfl .nil),?_⟩|refine ⟨.inr rfl,_,.t rfl (.t rfl (.t rfl .nil)),?_⟩|refine ⟨.inr rfl,_,.nil,?_⟩|refine ⟨.inl rfl,_,.t rfl .nil,?_⟩|refine ⟨.inl rfl,_,.nil,?_⟩|refine ⟨.inr rfl,_,.cn rfl (by exact zN) .nil,?_⟩|refine ⟨.inr rfl,_,.cn rfl (by exact zN) (.t rfl .nil),?_⟩)
      rfl
    · rw [decide_eq_false h2]
      repeat' (first|refine zz ?_|(refine zv ?_;intro cv hv)|(refine za ?_;intro _)|refine zc ?_|(refine zd ?_;refine And.intro ?_ ?_<;>(intro e;(try simp only [Bool.not_eq_true',Bool.not_eq_false'] at e);subst e;try contradiction)))
      (first|refine ⟨.inr rfl,_,.t rfl .nil,?_⟩|refine ⟨.inr rfl,_,.t rfl (.t rfl .nil),?_⟩|refine ⟨.inr rfl,_,.t rfl (.t rfl (.t rfl .nil)),?_⟩|refine ⟨.inr rfl,_,.nil,?_⟩|refine ⟨.inl rfl,_,.t rfl .nil,?_⟩|refine ⟨.inl rfl,_,.nil,?_⟩|refine ⟨.inr rfl,_,.cn rfl (by exact zN) .nil,?_⟩|refine ⟨.inr rfl,_,.cn rfl (by exact zN) (.t rfl .nil),?_⟩)
      rfl
end Go.Proofs.Ytlflpjjmkigepaa

namespace Go.Proofs.Ytlflpjjmkigepaa
open Go Go.Abs
/-- What makes tables and fills them. -/
structure Bld (σ : Type) where
  tb : σ → σ × Val
  pt : σ → Val → Val → Val → σ
abbrev DR (σ : Type) := Option (Val × σ × Nat × Nat × Nat)
def rdK (s : List Nat) (a : Nat) : Option (Val × Nat) := match rdS s a with
  | none => none
  | some (k, to) => if keyB k = true then some (k, to) else none
section
variable {σ : Type}
def decL (B : Bld σ) (s : List Nat) (g : σ → Nat → Nat → DR σ) (t : Val) : Nat → Val → σ → Nat → Nat → Option (σ × Nat × Nat × Nat)
  | 0, _, x, a, l => some (x, a, l, 0)
  | n + 1, last, x, a, l => match rdK s a with
    | none => none
    | some (k, to) => if aheadB last k = true then match g x to l with
        | none => none
        | some (v, x1, a1, l1, m1) => if v.k = 0 then none else match decL B s g t n k (B.pt x1 t k v) a1 l1 with
          | none => none
          | some (x2, a2, l2, m2) => some (x2, a2, l2, m1 + m2)
      else none
def dec (B : Bld σ) (s : List Nat) : Nat → σ → Nat → Nat → DR σ
  | 0, _, _, _ => none
  | _ + 1, _, _, 0 => none
  | f + 1, x, a, l + 1 => match s[a]? with
    | none => none
    | some c => if c = 3 then
        if a + 3 ≤ s.length then match decL B s (dec B s f) (B.tb x).2 (deB (sgm s (a + 1) (a + 3))) v0 (B.tb x).1 (a + 3) l with
          | none => none
          | some (x2, a2, l2, m) => some ((B.tb x).2, x2, a2, l2, 1 + deB (sgm s (a + 1) (a + 3)) + m)
        else none
      else match rdS s a with
        | none => none
        | some (v, to) => some (v, x, to, l, 0)
theorem rdS_le {s : List Nat} {a b : Nat} {v : Val} (h : rdS s a = some (v, b)) : a < b ∧ b ≤ s.length := by
  unfold rdS at h
  split at h
  · rename_i h0
    cases h
    obtain ⟨ha, _⟩ := List.getElem?_eq_some_iff.1 h0
    omega
  · split at h
    · cases h; omega
    · cases h
  · split at h
    · split at h
      · cases h; omega
      · cases h
    · cases h
  · cases h
theorem rdK_S {s : List Nat} {a b : Nat} {v : Val} (h : rdK s a = some (v, b)) : rdS s a = some (v, b) ∧ keyB v = true := by
  unfold rdK at h
  split at h
  · cases h
  · rename_i k to h1
    split at h
    · rename_i hk
      cases h
      exact ⟨h1, hk⟩
    · cases h
theorem decL_le {B : Bld σ} {s : List Nat} {g : σ → Nat → Nat → DR σ} {t : Val} (hg : ∀ x a l v x1 a1 l1 m, g x a l = some (v, x1, a1, l1, m) → a < a1 ∧ a1 ≤ s.length ∧ l1 < l ∧ m + 1 ≤ 2 * (l - l1)) :
    ∀ {n : Nat} {last : Val} {x : σ} {a l : Nat} {x2 : σ} {a2 l2 m : Nat}, decL B s g t n last x a l = some (x2, a2, l2, m) → a ≤ s.length → a ≤ a2 ∧ a2 ≤ s.length ∧ l2 ≤ l ∧ m + n ≤ 2 * (l - l2)
  | 0, last, x, a, l, x2, a2, l2, m, h, ha => by
    simp only [decL, Option.some.injEq, Prod.mk.injEq] at h
    obtain ⟨rfl, rfl, rfl, rfl⟩ := h
    exact ⟨Nat.le_refl _, ha, Nat.le_refl _, by omega⟩
  | n + 1, last, x, a, l, x2, a2, l2, m, h, ha => by
    simp only [decL] at h
    split at h
    · cases h
    · rename_i k to hk
      split at h
      · split at h
        · cases h
        · rename_i v x1 a1 l1 m1 h1
          split at h
          · cases h
          · split at h
            · cases h
            · rename_i x3 a3 l3 m3 h3
              simp only [Option.some.injEq, Prod.mk.injEq] at h
              obtain ⟨rfl, rfl, rfl, rfl⟩ := h
              obtain ⟨k1, k2⟩ := rdS_le (rdK_S hk).1
              obtain ⟨g1, g2, g3, g4⟩ := hg _ _ _ _ _ _ _ _ h1
              obtain ⟨r1, r2, r3, r4⟩ := decL_le hg h3 g2
              omega
      · cases h
theorem dec_le {B : Bld σ} {s : List Nat} : ∀ {f : Nat} {x : σ} {a l : Nat} {v : Val} {x1 : σ} {a1 l1 m : Nat}, dec B s f x a l = some (v, x1, a1, l1, m) → a < a1 ∧ a1 ≤ s.length ∧ l1 < l ∧ m + 1 ≤ 2 * (l - l1)
  | 0, x, a, l, v, x1, a1, l1, m, h => by simp [dec] at h
  | f + 1, x, a, 0, v, x1, a1, l1, m, h => by simp [dec] at h
  | f + 1, x, a, l + 1, v, x1, a1, l1, m, h => by
    simp only [dec] at h
    split at h
    · cases h
    · rename_i c hc
      split at h
      · split at h
        · rename_i h3
          split at h
          · cases h
          · rename_i x2 a2 l2 m2 h2
            simp only [Option.some.injEq, Prod.mk.injEq] at h
            obtain ⟨rfl, rfl, rfl, rfl, rfl⟩ := h
            obtain ⟨r1, r2, r3, r4⟩ := decL_le (fun _ _ _ _ _ _ _ _ h => dec_le h) h2 h3
            omega
        · cases h
      · split at h
        · cases h
        · rename_i v2 to h2
          simp only [Option.some.injEq, Prod.mk.injEq] at h
          obtain ⟨rfl, rfl, rfl, rfl, rfl⟩ := h
          obtain ⟨k1, k2⟩ := rdS_le h2
          omega
end
/-- What makes nothing. -/
def openB : Bld Unit := ⟨fun _ => ((), ⟨3, 0, []⟩), fun _ _ _ _ => ()⟩
end Go.Proofs.Ytlflpjjmkigepaa

namespace Go.Proofs.Ytlflpjjmkigepaa
open Go Go.Abs
attribute [local irreducible] Cmp Rg Dw Cd Lp Ev Rdk CT Upd InK
theorem int31 {n : Int} : PT Try.prog false 31 [.int .i64 n] (valA ⟨1, n, []⟩) := by
  refine PT.of (CT.enter mixed comp31 (Nat.le_of_ble_eq_true rfl) ?_)
  repeat' (first|refine zz ?_|(refine zw ?_;refine And.intro ?_ ?_<;>intro hc)|(refine zv ?_;intro cv hv)|(refine za ?_;intro _)|refine zc ?_|(refine zd ?_;refine And.intro ?_ ?_<;>(intro e;(try simp only [Bool.not_eq_true',Bool.not_eq_false'] at e);subst e;try contradiction)))
  (first|refine ⟨.inr rfl,_,.t rfl .nil,?_⟩|refine ⟨.inr rfl,_,.t rfl (.t rfl .nil),?_⟩|refine ⟨.inr rfl,_,.t rfl (.t rfl (.t rfl .nil)),?_⟩|refine ⟨.inr rfl,_,.nil,?_⟩|refine ⟨.inl rfl,_,.t rfl .nil,?_⟩|refine ⟨.inl rfl,_,.nil,?_⟩|refine ⟨.inr rfl,_,.cn rfl (by exact zN) .nil,?_⟩|refine ⟨.inr rfl,_,.cn rfl (by exact zN) (.t rfl .nil),?_⟩)
  rfl
theorem text32 {s : List Nat} : PT Try.prog false 32 [.str s] (valA ⟨2, 0, s⟩) := by
  refine PT.of (CT.enter mixed comp32 (Nat.le_of_ble_eq_true rfl) ?_)
  repeat' (first|refine zz ?_|(refine zw ?_;refine And.intro ?_ ?_<;>intro hc)|(refine zv ?_;intro cv hv)|(refine za ?_;intro _)|refine zc ?_|(refine zd ?_;refine And.intro ?_ ?_<;>(intro e;(try simp only [Bool.not_eq_true',Bool.not_eq_false'] at e);subst e;try contradiction)))
  (first|refine ⟨.inr rfl,_,.t rfl .nil,?_⟩|refine ⟨.inr rfl,_,.t rfl (.t rfl .nil),?_⟩|refine ⟨.inr rfl,_,.t rfl (.t rfl (.t rfl .nil)),?_⟩|refine ⟨.inr rfl,_,.nil,?_⟩|refine ⟨.inl rfl,_,.t rfl .nil,?_⟩|refine ⟨.inl rfl,_,.nil,?_⟩|refine ⟨.inr rfl,_,.cn rfl (by exact zN) .nil,?_⟩|refine ⟨.inr rfl,_,.cn rfl (by exact zN) (.t rfl .nil),?_⟩)
  rfl
section
variable {s : List Nat} {a : Nat}
theorem rdS_no (h : s.length ≤ a) : rdS s a = none := by
  unfold rdS; rw [List.getElem?_eq_none h]
theorem rdS_0 (h : s[a]? = some 0) : rdS s a = some (v0, a + 1) := by
  unfold rdS; rw [h]; rfl
theorem rdS_1 (h : s[a]? = some 1) : rdS s a = if a + 9 ≤ s.length then some (⟨1, i64 (deB (sgm s (a + 1) (a + 9))), []⟩, a + 9) else none := by
  unfold rdS; rw [h]; rfl
theorem rdS_2 (h : s[a]? = some 2) : rdS s a = if a + 5 ≤ s.length then
      if a + 5 + deB (sgm s (a + 1) (a + 5)) ≤ s.length ∧ deB (sgm s (a + 1) (a + 5)) ≤ 1024 then
        some (⟨2, 0, sgm s (a + 5) (a + 5 + deB (sgm s (a + 1) (a + 5)))⟩, a + 5 + deB (sgm s (a + 1) (a + 5))) else none
    else none := by
  unfold rdS; rw [h]; rfl
theorem rdS_x {x : Nat} (h : s[a]? = some x) (h0 : x ≠ 0) (h1 : x ≠ 1) (h2 : x ≠ 2) : rdS s a = none := by
  unfold rdS; rw [h]
  split <;> simp_all
abbrev b3 (b : Nat) (v : Val) : Chk := [(b, .cells (valR v) 0 0 false)]
/-- A reader in memory. -/
abbrev rdC (rd : Nat) (s : List Nat) (a : Nat) (left : Int) (nd : Nat) (tf pf : AV) : Chk := [(rd, .cells [.str s, .int .i64 (.ofNat a), .int .i64 left, .int .i64 (.ofNat nd), tf, pf] 0 0 false)]
abbrev rdP (rd : Nat) : AV := .ptr rd 0 0 6
variable {rd nd : Nat} {left : Int} {tf pf : AV}
theorem num71 (hs : ∀ x, x ∈ s → x < 256) (hl : s.length ≤ 900000) (ha : a ≤ 900000) {w : Nat} (hw : w = 1 ∨ w = 2 ∨ w = 4 ∨ w = 8) : CT Try.prog false 71 [rdP rd, .int .i64 (.ofNat w)] [rdC rd s a left nd tf pf]
    fun v K' => if a + w ≤ s.length then v = .tup [.int .i64 (i64 (deB (sgm s a (a + w)))), .bool true] ∧ K' = [rdC rd s (a + w) left nd tf pf] else v = .tup [.int .i64 (.ofNat 0), .bool false] ∧ K' = [rdC rd s a left nd tf pf] := by
  have k := get81 (a := a) (w := w) hs (by omega) (by omega) hw
  refine CT.enterS mixed comp71 (Nat.le_of_ble_eq_true rfl) ?_
  by_cases h : a + w ≤ s.length
  · rw [if_pos h] at k
    clear hw
    simp only [if_pos h]
    repeat' (first|refine zz ?_|(refine zw ?_;refine And.intro ?_ ?_<;>intro hc)|(refine zv ?_;intro cv hv)|(refine za ?_;intro _)|refine zc ?_|(refine zd ?_;refine And.intro ?_ ?_<;>(intro e;(try simp only [Bool.not_eq_true',Bool.not_eq_false'] at e);subst e;try contradiction)))
    (first|refine ⟨.inr rfl,_,.t rfl .nil,?_⟩|refine ⟨.inr rfl,_,.t rfl (.t rfl .nil),?_⟩|refine ⟨.inr rfl,_,.t rfl (.t rfl (.t rfl .nil)),?_⟩|refine ⟨.inr rfl,_,.nil,?_⟩|refine ⟨.inl rfl,_,.t rfl .nil,?_⟩|refine ⟨.inl rfl,_,.nil,?_⟩|refine ⟨.inr rfl,_,.cn rfl (by exact zN) .nil,?_⟩|refine ⟨.inr rfl,_,.cn rfl (by exact zN) (.t rfl .nil),?_⟩)
    exact ⟨_, _, (.cons (.here) (.nil)), rfl, rfl⟩
  · rw [if_neg h] at k
    clear hw
    simp only [if_neg h]
    repeat' (first|refine zz ?_|(refine zw ?_;refine And.intro ?_ ?_<;>intro hc)|(refine zv ?_;intro cv hv)|(refine za ?_;intro _)|refine zc ?_|(refine zd ?_;refine And.intro ?_ ?_<;>(intro e;(try simp only [Bool.not_eq_true',Bool.not_eq_false'] at e);subst e;try contradiction)))
    (first|refine ⟨.inr rfl,_,.t rfl .nil,?_⟩|refine ⟨.inr rfl,_,.t rfl (.t rfl .nil),?_⟩|refine ⟨.inr rfl,_,.t rfl (.t rfl (.t rfl .nil)),?_⟩|refine ⟨.inr rfl,_,.nil,?_⟩|refine ⟨.inl rfl,_,.t rfl .nil,?_⟩|refine ⟨.inl rfl,_,.nil,?_⟩|refine ⟨.inr rfl,_,.cn rfl (by exact zN) .nil,?_⟩|refine ⟨.inr rfl,_,.cn rfl (by exact zN) (.t rfl .nil),?_⟩)
    exact ⟨_, _, (.cons (.here) (.nil)), rfl, rfl⟩
/-- What is read behind what stands ahead of a value. -/
theorem scalar72 (hs : ∀ x, x ∈ s → x < 256) (hl : s.length ≤ 900000) {x : Nat} (hx : s[a]? = some x) : CT Try.prog false 72 [rdP rd, .int .i64 (.ofNat x)] [rdC rd s (a + 1) left nd tf pf]
    fun w K' => (∃ v to, rdS s a = some (v, to) ∧ w = .tup [valA v, .bool true] ∧ K' = [rdC rd s to left nd tf pf]) ∨ (rdS s a = none ∧ ∃ v a2, w = .tup [valA v, .bool false] ∧ K' = [rdC rd s a2 left nd tf pf]) := by
  have hal : a < s.length := (List.getElem?_eq_some_iff.1 hx).1
  refine CT.enterS mixed comp72 (Nat.le_of_ble_eq_true rfl) ?_
  by_cases h0 : x = 0
  · subst h0
    repeat' (first|refine zz ?_|(refine zw ?_;refine And.intro ?_ ?_<;>intro hc)|(refine zv ?_;intro cv hv)|(refine za ?_;intro _)|refine zc ?_|(refine zd ?_;refine And.intro ?_ ?_<;>(intro e;(try simp only [Bool.not_eq_true',Bool.not_eq_false'] at e);subst e;try contradiction)))
    (first|refine ⟨.inr rfl,_,.t rfl .nil,?_⟩|refine ⟨.inr rfl,_,.t rfl (.t rfl .nil),?_⟩|refine ⟨.inr rfl,_,.t rfl (.t rfl (.t rfl .nil)),?_⟩|refine ⟨.inr rfl,_,.nil,?_⟩|refine ⟨.inl rfl,_,.t rfl .nil,?_⟩|refine ⟨.inl rfl,_,.nil,?_⟩|refine ⟨.inr rfl,_,.cn rfl (by exact zN) .nil,?_⟩|refine ⟨.inr rfl,_,.cn rfl (by exact zN) (.t rfl .nil),?_⟩)
    exact ⟨_, _, (.cons (.there (.here)) (.nil)), .inl ⟨_, _, rdS_0 hx, rfl, rfl⟩⟩
  by_cases h1 : x = 1
  · subst h1
    have k := num71 (a := a + 1) (w := 8) (rd := rd) (left := left) (nd := nd) (tf := tf) (pf := pf) hs hl (by omega) (by omega)
    rw [show a + 1 + 8 = a + 9 by omega] at k
    have hr := rdS_1 hx
    by_cases h9 : a + 9 ≤ s.length
    · simp only [if_pos h9] at k
      rw [if_pos h9] at hr
      repeat' (first|(refine Rg.callM rfl k (.cons (.there (.here)) (.nil)) ?_; rintro _ _ ⟨rfl, rfl⟩)|refine zz ?_|(refine zw ?_;refine And.intro ?_ ?_<;>intro hc)|(refine zv ?_;intro cv hv)|(refine za ?_;intro _)|refine zc ?_|(refine zd ?_;refine And.intro ?_ ?_<;>(intro e;(try simp only [Bool.not_eq_true',Bool.not_eq_false'] at e);subst e;try contradiction)))
      (first|refine ⟨.inr rfl,_,.t rfl .nil,?_⟩|refine ⟨.inr rfl,_,.t rfl (.t rfl .nil),?_⟩|refine ⟨.inr rfl,_,.t rfl (.t rfl (.t rfl .nil)),?_⟩|refine ⟨.inr rfl,_,.nil,?_⟩|refine ⟨.inl rfl,_,.t rfl .nil,?_⟩|refine ⟨.inl rfl,_,.nil,?_⟩|refine ⟨.inr rfl,_,.cn rfl (by exact zN) .nil,?_⟩|refine ⟨.inr rfl,_,.cn rfl (by exact zN) (.t rfl .nil),?_⟩)
      exact ⟨_, _, (.cons (.here) (.nil)), .inl ⟨_, _, hr, rfl, rfl⟩⟩
    · simp only [if_neg h9] at k
      rw [if_neg h9] at hr
      repeat' (first|(refine Rg.callM rfl k (.cons (.there (.here)) (.nil)) ?_; rintro _ _ ⟨rfl, rfl⟩)|refine zz ?_|(refine zw ?_;refine And.intro ?_ ?_<;>intro hc)|(refine zv ?_;intro cv hv)|(refine za ?_;intro _)|refine zc ?_|(refine zd ?_;refine And.intro ?_ ?_<;>(intro e;(try simp only [Bool.not_eq_true',Bool.not_eq_false'] at e);subst e;try contradiction)))
      (first|refine ⟨.inr rfl,_,.t rfl .nil,?_⟩|refine ⟨.inr rfl,_,.t rfl (.t rfl .nil),?_⟩|refine ⟨.inr rfl,_,.t rfl (.t rfl (.t rfl .nil)),?_⟩|refine ⟨.inr rfl,_,.nil,?_⟩|refine ⟨.inl rfl,_,.t rfl .nil,?_⟩|refine ⟨.inl rfl,_,.nil,?_⟩|refine ⟨.inr rfl,_,.cn rfl (by exact zN) .nil,?_⟩|refine ⟨.inr rfl,_,.cn rfl (by exact zN) (.t rfl .nil),?_⟩)
      exact ⟨_, _, (.cons (.here) (.nil)), .inr ⟨hr, ⟨1, 0, []⟩, _, rfl, rfl⟩⟩
  by_cases h2 : x = 2
  · subst h2
    have k := next82 (a := a + 1) hs (by omega) (by omega)
    unfold nextA at k
    rw [show a + 1 + 4 = a + 5 by omega] at k
    have hr := rdS_2 hx
    generalize hn : deB (sgm s (a + 1) (a + 5)) = n at *
    have k83 := is83 (s := sgm s (a + 5) (a + 5 + n))
    have k83e := is83 (s := [])
    by_cases h5 : a + 5 ≤ s.length ∧ a + 5 + n ≤ s.length
    · rw [if_pos h5] at k
      rw [if_pos h5.1] at hr
      have hsl := seg_len (s := s) (a := a + 5) (b := a + 5 + n) h5.2
      by_cases h6 : n ≤ 1024
      · rw [if_pos ⟨h5.2, h6⟩] at hr
        rw [decide_eq_true (by omega)] at k83
        repeat' (first|refine zz ?_|(refine zw ?_;refine And.intro ?_ ?_<;>intro hc)|(refine zv ?_;intro cv hv)|(refine za ?_;intro _)|refine zc ?_|(refine zd ?_;refine And.intro ?_ ?_<;>(intro e;(try simp only [Bool.not_eq_true',Bool.not_eq_false'] at e);subst e;try contradiction)))
        refine Dw.e (Ef.storeW rfl rfl (.there Upd.here) rfl (Nat.le_of_ble_eq_true rfl) rfl) ?_
        rintro _ _ ⟨rfl, rfl⟩
        refine ⟨by repeat (first | exact trivial | refine rdsB rfl ?_ | (refine rdsR ?_ ?_; (focus (first | assumption | (refine Rdk.b1 (cs := ?_) ?_ ?_; rotate_left; (repeat (first | exact InK.here | refine InK.there ?_)); exact rfl) | (refine Rdk.bw ?_ ?_; (repeat (first | exact InK.here | refine InK.there ?_)); first | assumption | exact rfl) | (refine Rdk.bn ?_ ?_; (repeat (first | exact InK.here | refine InK.there ?_)); exact rfl) | (refine Rdk.in ?_; first | assumption | exact rfl) | exact Rdk.i1)))), ?_⟩
        repeat' (first|refine zz ?_|(refine zw ?_;refine And.intro ?_ ?_<;>intro hc)|(refine zv ?_;intro cv hv)|(refine za ?_;intro _)|refine zc ?_|(refine zd ?_;refine And.intro ?_ ?_<;>(intro e;(try simp only [Bool.not_eq_true',Bool.not_eq_false'] at e);subst e;try contradiction)))
        (first|refine ⟨.inr rfl,_,.t rfl .nil,?_⟩|refine ⟨.inr rfl,_,.t rfl (.t rfl .nil),?_⟩|refine ⟨.inr rfl,_,.t rfl (.t rfl (.t rfl .nil)),?_⟩|refine ⟨.inr rfl,_,.nil,?_⟩|refine ⟨.inl rfl,_,.t rfl .nil,?_⟩|refine ⟨.inl rfl,_,.nil,?_⟩|refine ⟨.inr rfl,_,.cn rfl (by exact zN) .nil,?_⟩|refine ⟨.inr rfl,_,.cn rfl (by exact zN) (.t rfl .nil),?_⟩)
        subst hv
        exact ⟨_, _, (.cons (.there (.there (.here))) (.nil)), .inl ⟨_, _, hr, rfl, rfl⟩⟩
      · rw [if_neg (by omega)] at hr
        rw [decide_eq_false (by omega)] at k83
        repeat' (first|refine zz ?_|(refine zw ?_;refine And.intro ?_ ?_<;>intro hc)|(refine zv ?_;intro cv hv)|(refine za ?_;intro _)|refine zc ?_|(refine zd ?_;refine And.intro ?_ ?_<;>(intro e;(try simp only [Bool.not_eq_true',Bool.not_eq_false'] at e);subst e;try contradiction)))
        refine Dw.e (Ef.storeW rfl rfl (.there Upd.here) rfl (Nat.le_of_ble_eq_true rfl) rfl) ?_
        rintro _ _ ⟨rfl, rfl⟩
        refine ⟨by repeat (first | exact trivial | refine rdsB rfl ?_ | (refine rdsR ?_ ?_; (focus (first | assumption | (refine Rdk.b1 (cs := ?_) ?_ ?_; rotate_left; (repeat (first | exact InK.here | refine InK.there ?_)); exact rfl) | (refine Rdk.bw ?_ ?_; (repeat (first | exact InK.here | refine InK.there ?_)); first | assumption | exact rfl) | (refine Rdk.bn ?_ ?_; (repeat (first | exact InK.here | refine InK.there ?_)); exact rfl) | (refine Rdk.in ?_; first | assumption | exact rfl) | exact Rdk.i1)))), ?_⟩
        repeat' (first|refine zz ?_|(refine zw ?_;refine And.intro ?_ ?_<;>intro hc)|(refine zv ?_;intro cv hv)|(refine za ?_;intro _)|refine zc ?_|(refine zd ?_;refine And.intro ?_ ?_<;>(intro e;(try simp only [Bool.not_eq_true',Bool.not_eq_false'] at e);subst e;try contradiction)))
        (first|refine ⟨.inr rfl,_,.t rfl .nil,?_⟩|refine ⟨.inr rfl,_,.t rfl (.t rfl .nil),?_⟩|refine ⟨.inr rfl,_,.t rfl (.t rfl (.t rfl .nil)),?_⟩|refine ⟨.inr rfl,_,.nil,?_⟩|refine ⟨.inl rfl,_,.t rfl .nil,?_⟩|refine ⟨.inl rfl,_,.nil,?_⟩|refine ⟨.inr rfl,_,.cn rfl (by exact zN) .nil,?_⟩|refine ⟨.inr rfl,_,.cn rfl (by exact zN) (.t rfl .nil),?_⟩)
        subst hv
        exact ⟨_, _, (.cons (.there (.there (.here))) (.nil)), .inr ⟨hr, ⟨2, 0, sgm s (a + 5) (a + 5 + n)⟩, _, rfl, rfl⟩⟩
    · rw [if_neg h5] at k
      have e : (if a + 5 ≤ s.length then if a + 5 + n ≤ s.length ∧ n ≤ 1024 then some (({ k := 2, n := 0, s := sgm s (a + 5) (a + 5 + n) } : Val), a + 5 + n) else none else none) = none := by
        split
        · rw [if_neg (by omega)]
        · rfl
      rw [e] at hr
      repeat' (first|refine zz ?_|(refine zw ?_;refine And.intro ?_ ?_<;>intro hc)|(refine zv ?_;intro cv hv)|(refine za ?_;intro _)|refine zc ?_|(refine zd ?_;refine And.intro ?_ ?_<;>(intro e;(try simp only [Bool.not_eq_true',Bool.not_eq_false'] at e);subst e;try contradiction)))
      refine Dw.e (Ef.storeW rfl rfl (.there Upd.here) rfl (Nat.le_of_ble_eq_true rfl) rfl) ?_
      rintro _ _ ⟨rfl, rfl⟩
      refine ⟨by repeat (first | exact trivial | refine rdsB rfl ?_ | (refine rdsR ?_ ?_; (focus (first | assumption | (refine Rdk.b1 (cs := ?_) ?_ ?_; rotate_left; (repeat (first | exact InK.here | refine InK.there ?_)); exact rfl) | (refine Rdk.bw ?_ ?_; (repeat (first | exact InK.here | refine InK.there ?_)); first | assumption | exact rfl) | (refine Rdk.bn ?_ ?_; (repeat (first | exact InK.here | refine InK.there ?_)); exact rfl) | (refine Rdk.in ?_; first | assumption | exact rfl) | exact Rdk.i1)))), ?_⟩
      repeat' (first|refine zz ?_|(refine zw ?_;refine And.intro ?_ ?_<;>intro hc)|(refine zv ?_;intro cv hv)|(refine za ?_;intro _)|refine zc ?_|(refine zd ?_;refine And.intro ?_ ?_<;>(intro e;(try simp only [Bool.not_eq_true',Bool.not_eq_false'] at e);subst e;try contradiction)))
      (first|refine ⟨.inr rfl,_,.t rfl .nil,?_⟩|refine ⟨.inr rfl,_,.t rfl (.t rfl .nil),?_⟩|refine ⟨.inr rfl,_,.t rfl (.t rfl (.t rfl .nil)),?_⟩|refine ⟨.inr rfl,_,.nil,?_⟩|refine ⟨.inl rfl,_,.t rfl .nil,?_⟩|refine ⟨.inl rfl,_,.nil,?_⟩|refine ⟨.inr rfl,_,.cn rfl (by exact zN) .nil,?_⟩|refine ⟨.inr rfl,_,.cn rfl (by exact zN) (.t rfl .nil),?_⟩)
      exact ⟨_, _, (.cons (.there (.there (.here))) (.nil)), .inr ⟨hr, ⟨2, 0, []⟩, _, rfl, rfl⟩⟩
  have hr := rdS_x hx h0 h1 h2
  repeat' (first|refine zz ?_|(refine zw ?_;refine And.intro ?_ ?_<;>intro hc)|(refine zv ?_;intro cv hv)|(refine za ?_;intro _)|refine zc ?_|(refine zd ?_;refine And.intro ?_ ?_<;>(intro e;(try simp only [Bool.not_eq_true',Bool.not_eq_false'] at e);subst e;try contradiction)))
  (first|refine ⟨.inr rfl,_,.t rfl .nil,?_⟩|refine ⟨.inr rfl,_,.t rfl (.t rfl .nil),?_⟩|refine ⟨.inr rfl,_,.t rfl (.t rfl (.t rfl .nil)),?_⟩|refine ⟨.inr rfl,_,.nil,?_⟩|refine ⟨.inl rfl,_,.t rfl .nil,?_⟩|refine ⟨.inl rfl,_,.nil,?_⟩|refine ⟨.inr rfl,_,.cn rfl (by exact zN) .nil,?_⟩|refine ⟨.inr rfl,_,.cn rfl (by exact zN) (.t rfl .nil),?_⟩)
  exact ⟨_, _, (.cons (.there (.here)) (.nil)), .inr ⟨hr, v0, _, rfl, rfl⟩⟩
theorem i64_1 {x : Nat} (hx : x < 256) : i64 (deB [x]) = .ofNat x := by
  rw [show deB [x] = x by simp [deB], i64_lo (by omega)]
theorem key73 (hs : ∀ x, x ∈ s → x < 256) (hl : s.length ≤ 900000) (ha : a ≤ 900000) : CT Try.prog false 73 [rdP rd] [rdC rd s a left nd tf pf]
    fun w K' => (∃ v to, rdK s a = some (v, to) ∧ w = .tup [valA v, .bool true] ∧ K' = [rdC rd s to left nd tf pf]) ∨ (rdK s a = none ∧ ∃ v a2, w = .tup [valA v, .bool false] ∧ K' = [rdC rd s a2 left nd tf pf]) := by
  have k := num71 (a := a) (w := 1) (rd := rd) (left := left) (nd := nd) (tf := tf) (pf := pf) hs hl ha (by omega)
  refine CT.enterS mixed comp73 (Nat.le_of_ble_eq_true rfl) ?_
  by_cases h : a + 1 ≤ s.length
  · have hx : s[a]? = some s[a] := List.getElem?_eq_getElem h
    have hxl := hs _ (List.mem_of_getElem? hx)
    generalize s[a] = x at hx hxl
    simp only [if_pos h, seg_one hx, i64_1 hxl] at k
    have k72 := scalar72 (rd := rd) (left := left) (nd := nd) (tf := tf) (pf := pf) hs hl hx
    repeat' (first|(refine Rg.callM rfl k (.cons (.there (.here)) (.nil)) ?_; rintro _ _ ⟨rfl, rfl⟩)|(refine Rg.callM rfl k72 (.cons (.here) (.nil)) ?_; rintro _ _ (⟨v, to, hr, rfl, rfl⟩ | ⟨hr, v, a2, rfl, rfl⟩))|refine zz ?_|(refine zw ?_;refine And.intro ?_ ?_<;>intro hc)|(refine zv ?_;intro cv hv)|(refine za ?_;intro _)|refine zc ?_|(refine zd ?_;refine And.intro ?_ ?_<;>(intro e;(try simp only [Bool.not_eq_true',Bool.not_eq_false'] at e);subst e;try contradiction)))
    · have k66 := key52 (k := v)
      cases hk : keyB v with
      | true =>
        have hrk : rdK s a = some (v, to) := by unfold rdK; simp only [hr, hk, if_true]
        rw [hk] at k66
        repeat' (first|refine zz ?_|(refine zw ?_;refine And.intro ?_ ?_<;>intro hc)|(refine zv ?_;intro cv hv)|(refine za ?_;intro _)|refine zc ?_|(refine zd ?_;refine And.intro ?_ ?_<;>(intro e;(try simp only [Bool.not_eq_true',Bool.not_eq_false'] at e);subst e;try contradiction)))
        refine Dw.e (Ef.storeW rfl rfl (.there (.there Upd.here)) rfl (Nat.le_of_ble_eq_true rfl) rfl) ?_
        rintro _ _ ⟨rfl, rfl⟩
        refine ⟨by repeat (first | exact trivial | refine rdsB rfl ?_ | (refine rdsR ?_ ?_; (focus (first | assumption | (refine Rdk.b1 (cs := ?_) ?_ ?_; rotate_left; (repeat (first | exact InK.here | refine InK.there ?_)); exact rfl) | (refine Rdk.bw ?_ ?_; (repeat (first | exact InK.here | refine InK.there ?_)); first | assumption | exact rfl) | (refine Rdk.bn ?_ ?_; (repeat (first | exact InK.here | refine InK.there ?_)); exact rfl) | (refine Rdk.in ?_; first | assumption | exact rfl) | exact Rdk.i1)))), ?_⟩
        repeat' (first|refine zz ?_|(refine zw ?_;refine And.intro ?_ ?_<;>intro hc)|(refine zv ?_;intro cv hv)|(refine za ?_;intro _)|refine zc ?_|(refine zd ?_;refine And.intro ?_ ?_<;>(intro e;(try simp only [Bool.not_eq_true',Bool.not_eq_false'] at e);subst e;try contradiction)))
        (first|refine ⟨.inr rfl,_,.t rfl .nil,?_⟩|refine ⟨.inr rfl,_,.t rfl (.t rfl .nil),?_⟩|refine ⟨.inr rfl,_,.t rfl (.t rfl (.t rfl .nil)),?_⟩|refine ⟨.inr rfl,_,.nil,?_⟩|refine ⟨.inl rfl,_,.t rfl .nil,?_⟩|refine ⟨.inl rfl,_,.nil,?_⟩|refine ⟨.inr rfl,_,.cn rfl (by exact zN) .nil,?_⟩|refine ⟨.inr rfl,_,.cn rfl (by exact zN) (.t rfl .nil),?_⟩)
        subst hv
        exact ⟨_, _, (.cons (.there (.here)) (.nil)), .inl ⟨_, _, hrk, rfl, rfl⟩⟩
      | false =>
        have hrk : rdK s a = none := by unfold rdK; simp only [hr, hk]; rfl
        rw [hk] at k66
        repeat' (first|refine zz ?_|(refine zw ?_;refine And.intro ?_ ?_<;>intro hc)|(refine zv ?_;intro cv hv)|(refine za ?_;intro _)|refine zc ?_|(refine zd ?_;refine And.intro ?_ ?_<;>(intro e;(try simp only [Bool.not_eq_true',Bool.not_eq_false'] at e);subst e;try contradiction)))
        refine Dw.e (Ef.storeW rfl rfl (.there (.there Upd.here)) rfl (Nat.le_of_ble_eq_true rfl) rfl) ?_
        rintro _ _ ⟨rfl, rfl⟩
        refine ⟨by repeat (first | exact trivial | refine rdsB rfl ?_ | (refine rdsR ?_ ?_; (focus (first | assumption | (refine Rdk.b1 (cs := ?_) ?_ ?_; rotate_left; (repeat (first | exact InK.here | refine InK.there ?_)); exact rfl) | (refine Rdk.bw ?_ ?_; (repeat (first | exact InK.here | refine InK.there ?_)); first | assumption | exact rfl) | (refine Rdk.bn ?_ ?_; (repeat (first | exact InK.here | refine InK.there ?_)); exact rfl) | (refine Rdk.in ?_; first | assumption | exact rfl) | exact Rdk.i1)))), ?_⟩
        repeat' (first|refine zz ?_|(refine zw ?_;refine And.intro ?_ ?_<;>intro hc)|(refine zv ?_;intro cv hv)|(refine za ?_;intro _)|refine zc ?_|(refine zd ?_;refine And.intro ?_ ?_<;>(intro e;(try simp only [Bool.not_eq_true',Bool.not_eq_false'] at e);subst e;try contradiction)))
        (first|refine ⟨.inr rfl,_,.t rfl .nil,?_⟩|refine ⟨.inr rfl,_,.t rfl (.t rfl .nil),?_⟩|refine ⟨.inr rfl,_,.t rfl (.t rfl (.t rfl .nil)),?_⟩|refine ⟨.inr rfl,_,.nil,?_⟩|refine ⟨.inl rfl,_,.t rfl .nil,?_⟩|refine ⟨.inl rfl,_,.nil,?_⟩|refine ⟨.inr rfl,_,.cn rfl (by exact zN) .nil,?_⟩|refine ⟨.inr rfl,_,.cn rfl (by exact zN) (.t rfl .nil),?_⟩)
        subst hv
        exact ⟨_, _, (.cons (.there (.here)) (.nil)), .inr ⟨hrk, v, _, rfl, rfl⟩⟩
    · have hrk : rdK s a = none := by unfold rdK; rw [hr]
      refine Dw.e (Ef.storeW rfl rfl (.there (.there Upd.here)) rfl (Nat.le_of_ble_eq_true rfl) rfl) ?_
      rintro _ _ ⟨rfl, rfl⟩
      refine ⟨by repeat (first | exact trivial | refine rdsB rfl ?_ | (refine rdsR ?_ ?_; (focus (first | assumption | (refine Rdk.b1 (cs := ?_) ?_ ?_; rotate_left; (repeat (first | exact InK.here | refine InK.there ?_)); exact rfl) | (refine Rdk.bw ?_ ?_; (repeat (first | exact InK.here | refine InK.there ?_)); first | assumption | exact rfl) | (refine Rdk.bn ?_ ?_; (repeat (first | exact InK.here | refine InK.there ?_)); exact rfl) | (refine Rdk.in ?_; first | assumption | exact rfl) | exact Rdk.i1)))), ?_⟩
      repeat' (first|refine zz ?_|(refine zw ?_;refine And.intro ?_ ?_<;>intro hc)|(refine zv ?_;intro cv hv)|(refine za ?_;intro _)|refine zc ?_|(refine zd ?_;refine And.intro ?_ ?_<;>(intro e;(try simp only [Bool.not_eq_true',Bool.not_eq_false'] at e);subst e;try contradiction)))
      (first|refine ⟨.inr rfl,_,.t rfl .nil,?_⟩|refine ⟨.inr rfl,_,.t rfl (.t rfl .nil),?_⟩|refine ⟨.inr rfl,_,.t rfl (.t rfl (.t rfl .nil)),?_⟩|refine ⟨.inr rfl,_,.nil,?_⟩|refine ⟨.inl rfl,_,.t rfl .nil,?_⟩|refine ⟨.inl rfl,_,.nil,?_⟩|refine ⟨.inr rfl,_,.cn rfl (by exact zN) .nil,?_⟩|refine ⟨.inr rfl,_,.cn rfl (by exact zN) (.t rfl .nil),?_⟩)
      exact ⟨_, _, (.cons (.there (.here)) (.nil)), .inr ⟨hrk, v, _, rfl, rfl⟩⟩
  · simp only [if_neg h] at k
    have hr : rdK s a = none := by unfold rdK; rw [rdS_no (by omega)]
    repeat' (first|(refine Rg.callM rfl k (.cons (.there (.here)) (.nil)) ?_; rintro _ _ ⟨rfl, rfl⟩)|refine zz ?_|(refine zw ?_;refine And.intro ?_ ?_<;>intro hc)|(refine zv ?_;intro cv hv)|(refine za ?_;intro _)|refine zc ?_|(refine zd ?_;refine And.intro ?_ ?_<;>(intro e;(try simp only [Bool.not_eq_true',Bool.not_eq_false'] at e);subst e;try contradiction)))
    (first|refine ⟨.inr rfl,_,.t rfl .nil,?_⟩|refine ⟨.inr rfl,_,.t rfl (.t rfl .nil),?_⟩|refine ⟨.inr rfl,_,.t rfl (.t rfl (.t rfl .nil)),?_⟩|refine ⟨.inr rfl,_,.nil,?_⟩|refine ⟨.inl rfl,_,.t rfl .nil,?_⟩|refine ⟨.inl rfl,_,.nil,?_⟩|refine ⟨.inr rfl,_,.cn rfl (by exact zN) .nil,?_⟩|refine ⟨.inr rfl,_,.cn rfl (by exact zN) (.t rfl .nil),?_⟩)
    exact ⟨_, _, (.cons (.here) (.nil)), .inr ⟨hr, v0, _, rfl, rfl⟩⟩
end
end Go.Proofs.Ytlflpjjmkigepaa

namespace Go.Proofs.Ytlflpjjmkigepaa
open Go Go.Abs
attribute [local irreducible] Cmp Rg Dw Cd Lp Ev Rdk CT Upd InK
/-- What a reader's functions do. -/
structure Clo {σ : Type} (B : Bld σ) (R : σ → Chk → Prop) (gt gp : FuncId) (ct cp : List AV) : Prop where
  tab : ∀ x c, R x c → CT Try.prog false gt ([] ++ [] ++ ct) [c] fun w K' => w = valA (B.tb x).2 ∧ ∃ c', R (B.tb x).1 c' ∧ K' = [c']
  put : ∀ x c t k v, R x c → ScOk k → keyB k = true → CT Try.prog false gp ([] ++ [valA t, valA k, valA v] ++ cp) [c] fun w K' => w = .tup [] ∧ ∃ c', R (B.pt x t k v) c' ∧ K' = [c']
def V62 {σ : Type} (d : DR σ) (R : σ → Chk → Prop) (rd : Nat) (s : List Nat) (nd : Nat) (tf pf : AV) (w : AV) (K' : Mem) : Prop :=
  (∃ v x' a' l' m c', d = some (v, x', a', l', m) ∧ w = .tup [valA v, .bool true] ∧ R x' c' ∧ K' = [rdC rd s a' (.ofNat l') (nd + m) tf pf, c']) ∨ (d = none ∧ ∃ v a2 l2 nd2 c2, w = .tup [valA v, .bool false] ∧ K' = [rdC rd s a2 l2 nd2 tf pf, c2])
section
variable {σ : Type} {B : Bld σ} {R : σ → Chk → Prop} {gt gp : FuncId} {ct cp : List AV} {s : List Nat} {rd : Nat}
theorem value62_loop (hC : Clo B R gt gp ct cp) (hs : ∀ x, x ∈ s → x < 256) (hl : s.length ≤ 900000) {g : σ → Nat → Nat → DR σ} {t : Val} {n Bd b2 b7 b8 : Nat} {Q : AX → SL → Mem → Prop} (hn : n < 65536)
    (hg : ∀ x a l nd c, l ≤ Bd → a ≤ s.length → R x c → nd + 65537 * l ≤ 100000000 → CT Try.prog false 62 [rdP rd] [rdC rd s a (.ofNat l) nd (.fn gt [] ct) (.fn gp [] cp), c] (V62 (g x a l) R rd s nd (.fn gt [] ct) (.fn gp [] cp)))
    (hle : ∀ x a l v x1 a1 l1 m, g x a l = some (v, x1, a1, l1, m) → a < a1 ∧ a1 ≤ s.length ∧ l1 < l ∧ m + 1 ≤ 2 * (l - l1)) :
    ∀ (f k i : Nat) (last : Val) (x : σ) (a l nd : Nat) (c : Chk), k < f → i + k = n → l ≤ Bd → a ≤ s.length → R x c → nd + 65537 * l ≤ 100000000 →
      (hend : ∀ l' x2 a2 l2 m c2 last2, decL B s g t k last x a l = some (x2, a2, l2, m) → R x2 c2 → Sub2 [(2, .ptr b2 0 0 3), (7, .ptr b7 0 0 3)] l' → Q (.ext 0) l' [rdC rd s a2 (.ofNat l2) (nd + m) (.fn gt [] ct) (.fn gp [] cp), c2, b3 b7 t, b3 b8 last2, b3 b2 v0]) →
      (hret : decL B s g t k last x a l = none → ∀ l' K', Sub2 [(2, .ptr b2 0 0 3), (3, .bool false)] l' → (∃ a2 l2 nd2 c2 r, Sel K' [rdC rd s a2 l2 nd2 (.fn gt [] ct) (.fn gp [] cp), c2, b3 b2 v0] r) → Q .ret l' K') →
      Lp Try.prog false b62_0 f [(0, rdP rd), (2, .ptr b2 0 0 3), (7, .ptr b7 0 0 3), (8, .ptr b8 0 0 3), (64, .int .i64 (.ofNat n)), (65, .int .i64 (.ofNat i))] [rdC rd s a (.ofNat l) nd (.fn gt [] ct) (.fn gp [] cp), c, b3 b7 t, b3 b8 last, b3 b2 v0] Q := by
  intro f
  induction f with
  | zero => intro k i last x a l nd c h1; omega
  | succ f ih =>
    intro k i last x a l nd c h1 h2 h3 h4 hR h5 hend hret
    refine Lp.round ?_
    cases k with
    | zero =>
      obtain rfl : i = n := by omega
      repeat' (first|refine zz ?_|(refine zw ?_;refine And.intro ?_ ?_<;>intro hc)|(refine zv ?_;intro cv hv)|(refine za ?_;intro _)|refine zc ?_|(refine zd ?_;refine And.intro ?_ ?_<;>(intro e;(try simp only [Bool.not_eq_true',Bool.not_eq_false'] at e);subst e;try contradiction)))
      exact hend _ x a l 0 c last rfl hR ⟨rfl, rfl, trivial⟩
    | succ k =>
      have hin : i < n := by omega
      have k73 := key73 (a := a) (rd := rd) (left := .ofNat l) (nd := nd) (tf := .fn gt [] ct) (pf := .fn gp [] cp) hs hl (by omega)
      repeat' (first|(refine Rg.callM rfl k73 (.cons (.here) (.nil)) ?_; rintro _ _ (⟨kv, to, hk, rfl, rfl⟩ | ⟨hk, kv, a2, rfl, rfl⟩))|refine zz ?_|(refine zw ?_;refine And.intro ?_ ?_<;>intro hc)|(refine zv ?_;intro cv hv)|(refine za ?_;intro _)|refine zc ?_|(refine zd ?_;refine And.intro ?_ ?_<;>(intro e;(try simp only [Bool.not_eq_true',Bool.not_eq_false'] at e);subst e;try contradiction)))
      · obtain ⟨hkS, hkb⟩ := rdK_S hk
        obtain ⟨hto1, hto2⟩ := rdS_le hkS
        have hkOk := (rdS_sc hs hkS).2.2.2
        have k74 := follows74 (a := last) (b := kv) (by simpa [keyB] using hkb)
        cases hah : aheadB last kv with
        | false =>
          rw [hah] at k74
          repeat' (first|refine zz ?_|(refine zw ?_;refine And.intro ?_ ?_<;>intro hc)|(refine zv ?_;intro cv hv)|(refine za ?_;intro _)|refine zc ?_|(refine zd ?_;refine And.intro ?_ ?_<;>(intro e;(try simp only [Bool.not_eq_true',Bool.not_eq_false'] at e);subst e;try contradiction)))
          exact hret (by simp only [decL, hk, hah]; rfl) _ _ ⟨rfl, rfl, trivial⟩ ⟨_, _, _, _, _, (.cons (.there (.here)) (.cons (.there (.here)) (.cons (.there (.there (.there (.here)))) (.nil))))⟩
        | true =>
          rw [hah] at k74
          have k62 := hg x to l nd c h3 hto2 hR h5
          repeat' (first|(refine Rg.callM rfl k62 (.cons (.there (.here)) (.cons (.there (.here)) (.nil))) ?_; rintro _ _ (⟨v, x1, a1, l1, m1, c1, hv, rfl, hR1, rfl⟩ | ⟨hv, v, a2, l2, nd2, c2, rfl, rfl⟩))|refine zz ?_|(refine zw ?_;refine And.intro ?_ ?_<;>intro hc)|(refine zv ?_;intro cv hv)|(refine za ?_;intro _)|refine zc ?_|(refine zd ?_;refine And.intro ?_ ?_<;>(intro e;(try simp only [Bool.not_eq_true',Bool.not_eq_false'] at e);subst e;try contradiction)))
          · exact hret (by simp only [decL, hk, hah, hv]; simp [hc]) _ _ ⟨rfl, rfl, trivial⟩ ⟨_, _, _, _, _, (.cons (.there (.here)) (.cons (.there (.here)) (.cons (.there (.there (.there (.there (.here))))) (.nil))))⟩
          · obtain ⟨g1, g2, g3, g4⟩ := hle _ _ _ _ _ _ _ _ hv
            refine Dw.e (Ef.callv rfl rfl (hC.put x1 c1 t kv v hR1 hkOk hkb) (.cons (.there (.there (.here))) (.nil))) ?_
            rintro _ _ ⟨m', rfl, rfl, c3, hR3, rfl⟩
            refine ⟨by repeat (first | exact trivial | refine rdsB rfl ?_ | (refine rdsR ?_ ?_; (focus (first | assumption | (refine Rdk.b1 (cs := ?_) ?_ ?_; rotate_left; (repeat (first | exact InK.here | refine InK.there ?_)); exact rfl) | (refine Rdk.bw ?_ ?_; (repeat (first | exact InK.here | refine InK.there ?_)); first | assumption | exact rfl) | (refine Rdk.bn ?_ ?_; (repeat (first | exact InK.here | refine InK.there ?_)); exact rfl) | (refine Rdk.in ?_; first | assumption | exact rfl) | exact Rdk.i1)))), ?_⟩
            repeat' (first|refine zz ?_|(refine zw ?_;refine And.intro ?_ ?_<;>intro hc)|(refine zv ?_;intro cv hv)|(refine za ?_;intro _)|refine zc ?_|(refine zd ?_;refine And.intro ?_ ?_<;>(intro e;(try simp only [Bool.not_eq_true',Bool.not_eq_false'] at e);subst e;try contradiction)))
            have e : decL B s g t (k + 1) last x a l = match decL B s g t k kv (B.pt x1 t kv v) a1 l1 with
                | none => none
                | some (x2, a2, l2, m2) => some (x2, a2, l2, m1 + m2) := by
              simp only [decL, hk, hah, hv, if_true]
              rw [if_neg (show ¬ v.k = 0 from hc)]
              try rfl
            have := ih k (i + 1) kv (B.pt x1 t kv v) a1 l1 (nd + m1) c3 (by omega) (by omega) (by omega) g2 hR3 (by omega)
              (fun l' x2 a2 l2 m2 c2 last2 hd hR2 h27 => by
                have := hend l' x2 a2 l2 (m1 + m2) c2 last2 (by rw [e, hd]) hR2 h27
                rwa [← Nat.add_assoc] at this)
              (fun hd => hret (by rw [e, hd]))
            exact Lp.drop (.cons (.there (.there (.here))) (.cons (.here) (.cons (.there (.there (.here))) (.cons (.there (.there (.here))) (.cons (.there (.there (.here))) (.nil)))))) (Lp.weak (by exact ⟨rfl, rfl, rfl, rfl, rfl, rfl, trivial⟩) this)
          · exact hret (by simp only [decL, hk, hah, hv]; rfl) _ _ ⟨rfl, rfl, trivial⟩ ⟨_, _, _, _, _, (.cons (.there (.here)) (.cons (.there (.here)) (.cons (.there (.there (.there (.there (.here))))) (.nil))))⟩
      · exact hret (by simp only [decL, hk]) _ _ ⟨rfl, rfl, trivial⟩ ⟨_, _, _, _, _, (.cons (.there (.here)) (.cons (.there (.here)) (.cons (.there (.there (.there (.here)))) (.nil))))⟩
theorem sel_in {K m r : Mem} (h : Sel K m r) {i : Nat} {o : AObj} (hi : InK m i o) : InK K i o := by
  unfold InK at hi ⊢
  exact h.perm.mem_iff.2 (by rw [List.flatten_append]; exact List.mem_append_left _ hi)
theorem sel_two {K r : Mem} {c d e : Chk} (h : Sel K [c, d, e] r) : ∃ r', Sel K [c, d] r' := by
  cases h with
  | cons h1 h =>
    cases h with
    | cons h2 h => exact ⟨_, .cons h1 (.cons h2 .nil)⟩
theorem sub_z : abin .sub (.int .i64 (.ofNat 0)) (.int .i64 (.ofNat 1)) = some (.int .i64 (.negSucc 0)) := rfl
theorem sub_o {n : Nat} (h : n < 1000000) : abin .sub (.int .i64 (.ofNat (n + 1))) (.int .i64 (.ofNat 1)) = some (.int .i64 (.ofNat n)) := sub_nat (a := n + 1) (by omega) (by omega)
theorem value62_0 (hs : ∀ x, x ∈ s → x < 256) (hl : s.length ≤ 900000) {a nd : Nat} {c : Chk} {d : DR σ} {tf pf : AV} (h2 : a ≤ s.length) (hd : d = none) : CT Try.prog false 62 [rdP rd] [rdC rd s a (.ofNat 0) nd tf pf, c] (V62 d R rd s nd tf pf) := by
  have e0 := sub_z
  have k1 := num71 (a := a) (w := 1) (rd := rd) (left := .ofNat 0) (nd := nd) (tf := tf) (pf := pf) hs hl (by omega) (by omega)
  refine CT.enterS mixed comp62 (Nat.le_of_ble_eq_true rfl) ?_
  by_cases h : a + 1 ≤ s.length
  · simp only [if_pos h] at k1
    repeat' (first|(refine Rg.callM rfl k1 (.cons (.there (.here)) (.nil)) ?_; rintro _ _ ⟨rfl, rfl⟩)|refine zz ?_|(refine zw ?_;refine And.intro ?_ ?_<;>intro hc)|(refine zv ?_;intro cv hv)|(refine za ?_;intro _)|refine zc ?_|(refine zd ?_;refine And.intro ?_ ?_<;>(intro e;(try simp only [Bool.not_eq_true',Bool.not_eq_false'] at e);subst e;try contradiction)))
    (first|refine ⟨.inr rfl,_,.t rfl .nil,?_⟩|refine ⟨.inr rfl,_,.t rfl (.t rfl .nil),?_⟩|refine ⟨.inr rfl,_,.t rfl (.t rfl (.t rfl .nil)),?_⟩|refine ⟨.inr rfl,_,.nil,?_⟩|refine ⟨.inl rfl,_,.t rfl .nil,?_⟩|refine ⟨.inl rfl,_,.nil,?_⟩|refine ⟨.inr rfl,_,.cn rfl (by exact zN) .nil,?_⟩|refine ⟨.inr rfl,_,.cn rfl (by exact zN) (.t rfl .nil),?_⟩)
    exact ⟨_, _, (.cons (.here) (.cons (.there (.here)) (.nil))), .inr ⟨hd, v0, _, _, _, _, rfl, rfl⟩⟩
  · simp only [if_neg h] at k1
    repeat' (first|(refine Rg.callM rfl k1 (.cons (.there (.here)) (.nil)) ?_; rintro _ _ ⟨rfl, rfl⟩)|refine zz ?_|(refine zw ?_;refine And.intro ?_ ?_<;>intro hc)|(refine zv ?_;intro cv hv)|(refine za ?_;intro _)|refine zc ?_|(refine zd ?_;refine And.intro ?_ ?_<;>(intro e;(try simp only [Bool.not_eq_true',Bool.not_eq_false'] at e);subst e;try contradiction)))
    (first|refine ⟨.inr rfl,_,.t rfl .nil,?_⟩|refine ⟨.inr rfl,_,.t rfl (.t rfl .nil),?_⟩|refine ⟨.inr rfl,_,.t rfl (.t rfl (.t rfl .nil)),?_⟩|refine ⟨.inr rfl,_,.nil,?_⟩|refine ⟨.inl rfl,_,.t rfl .nil,?_⟩|refine ⟨.inl rfl,_,.nil,?_⟩|refine ⟨.inr rfl,_,.cn rfl (by exact zN) .nil,?_⟩|refine ⟨.inr rfl,_,.cn rfl (by exact zN) (.t rfl .nil),?_⟩)
    exact ⟨_, _, (.cons (.here) (.cons (.there (.here)) (.nil))), .inr ⟨hd, v0, _, _, _, _, rfl, rfl⟩⟩
theorem value62 (hC : Clo B R gt gp ct cp) (hs : ∀ x, x ∈ s → x < 256) (hl : s.length ≤ 900000) : ∀ (f : Nat) {x : σ} {a l nd : Nat} {c : Chk}, l ≤ f → a ≤ s.length → R x c → nd + 65537 * l ≤ 100000000 →
    CT Try.prog false 62 [rdP rd] [rdC rd s a (.ofNat l) nd (.fn gt [] ct) (.fn gp [] cp), c] (V62 (dec B s f x a l) R rd s nd (.fn gt [] ct) (.fn gp [] cp)) := by
  intro f
  induction f with
  | zero =>
    intro x a l nd c h1 h2 hR h3
    obtain rfl : l = 0 := by omega
    exact value62_0 hs hl h2 rfl
  | succ f ih =>
    intro x a l nd c h1 h2 hR h3
    cases l with
    | zero => exact value62_0 hs hl h2 rfl
    | succ l =>
      have e0 := sub_o (n := l) (by omega)
      have k1 := num71 (a := a) (w := 1) (rd := rd) (left := .ofNat (l + 1)) (nd := nd) (tf := .fn gt [] ct) (pf := .fn gp [] cp) hs hl (by omega) (by omega)
      refine CT.enterS mixed comp62 (Nat.le_of_ble_eq_true rfl) ?_
      by_cases h : a + 1 ≤ s.length
      · have hx : s[a]? = some s[a] := List.getElem?_eq_getElem h
        have hxl := hs _ (List.mem_of_getElem? hx)
        generalize s[a] = y at hx hxl
        simp only [if_pos h, seg_one hx, i64_1 hxl] at k1
        by_cases h3y : y = 3
        · subst h3y
          have k2 := num71 (a := a + 1) (w := 2) (rd := rd) (left := .ofNat l) (nd := nd) (tf := .fn gt [] ct) (pf := .fn gp [] cp) hs hl (by omega) (by omega)
          rw [show a + 1 + 2 = a + 3 by omega] at k2
          by_cases h3l : a + 3 ≤ s.length
          · simp only [if_pos h3l] at k2
            have hlt := segd_lt (w := 2) (a := a + 1) (b := a + 3) hs h3l (by omega) (by omega)
            have e2 : 256 ^ 2 = 65536 := by decide
            rw [e2] at hlt
            rw [i64_lo (by omega)] at k2
            have ed : dec B s (f + 1) x a (l + 1) = match decL B s (dec B s f) (B.tb x).2 (deB (sgm s (a + 1) (a + 3))) v0 (B.tb x).1 (a + 3) l with
                | none => none
                | some (x2, a2, l2, m) => some ((B.tb x).2, x2, a2, l2, 1 + deB (sgm s (a + 1) (a + 3)) + m) := by
              simp only [dec, hx, if_true, if_pos h3l]
              try rfl
            generalize deB (sgm s (a + 1) (a + 3)) = n at k2 hlt ed
            have kt := hC.tab x c hR
            repeat' (first|(refine Rg.callM rfl k1 (.cons (.there (.here)) (.nil)) ?_; rintro _ _ ⟨rfl, rfl⟩)|(refine Rg.callM rfl k2 (.cons (.here) (.nil)) ?_; rintro _ _ ⟨rfl, rfl⟩)|(refine Rg.callvM rfl rfl kt (.cons (.there (.there (.here))) (.nil)) ?_; rintro _ _ ⟨rfl, c1, hR1, rfl⟩)|refine zz ?_|(refine zw ?_;refine And.intro ?_ ?_<;>intro hc)|(refine zv ?_;intro cv hv)|(refine za ?_;intro _)|refine zc ?_|(refine zd ?_;refine And.intro ?_ ?_<;>(intro e;(try simp only [Bool.not_eq_true',Bool.not_eq_false'] at e);subst e;try contradiction)))
            rename_i b2 b7 b8
            refine Cd.loop (k := n + 1) (Lp.drop (.cons (.there (.there (.there (.here)))) (.cons (.there (.there (.here))) (.cons (.there (.here)) (.cons (.here) (.cons (.here) (.nil)))))) (Lp.weak (l2 := [(0, rdP rd), (2, .ptr b2 0 0 3), (7, .ptr b7 0 0 3), (8, .ptr b8 0 0 3), (64, .int .i64 (.ofNat n)), (65, .int .i64 (.ofNat 0))]) ⟨rfl, rfl, rfl, rfl, rfl, rfl, trivial⟩
              (value62_loop (t := (B.tb x).2) (g := dec B s f) (Bd := l) hC hs hl hlt (fun x a l nd c h1 h2 h3 h4 => ih (by omega) h2 h3 h4) (fun _ _ _ _ _ _ _ _ h => dec_le h) (n + 1) n 0 v0 (B.tb x).1 (a + 3) l (nd + (1 + n)) c1 (by omega) (by omega) (Nat.le_refl _) h3l hR1 (by omega) ?_ ?_)))
            · intro l' x2 a2 l2 m c2 last2 hd hR2 hs27
              show Cd _ _ _ _ _ _
              refine Cd.weak hs27 ?_
              repeat' (first|refine zz ?_|(refine zw ?_;refine And.intro ?_ ?_<;>intro hc)|(refine zv ?_;intro cv hv)|(refine za ?_;intro _)|refine zc ?_|(refine zd ?_;refine And.intro ?_ ?_<;>(intro e;(try simp only [Bool.not_eq_true',Bool.not_eq_false'] at e);subst e;try contradiction)))
              (first|refine ⟨.inr rfl,_,.t rfl .nil,?_⟩|refine ⟨.inr rfl,_,.t rfl (.t rfl .nil),?_⟩|refine ⟨.inr rfl,_,.t rfl (.t rfl (.t rfl .nil)),?_⟩|refine ⟨.inr rfl,_,.nil,?_⟩|refine ⟨.inl rfl,_,.t rfl .nil,?_⟩|refine ⟨.inl rfl,_,.nil,?_⟩|refine ⟨.inr rfl,_,.cn rfl (by exact zN) .nil,?_⟩|refine ⟨.inr rfl,_,.cn rfl (by exact zN) (.t rfl .nil),?_⟩)
              refine ⟨_, _, (.cons (.here) (.cons (.here) (.nil))), .inl ⟨_, x2, a2, l2, 1 + n + m, c2, by rw [ed, hd], rfl, hR2, ?_⟩⟩
              rw [Nat.add_assoc nd]
            · rintro hd l' K' ⟨h2, h3, _⟩ ⟨a2, l2, nd2, c2, r, hsel⟩
              obtain ⟨r', hsel'⟩ := sel_two hsel
              refine ⟨.inr rfl, _, .cn h2 (Rdk.bw (sel_in hsel (.there (.there .here))) rfl) (.t h3 .nil), ?_⟩
              exact ⟨_, _, hsel', .inr ⟨by rw [ed, hd], v0, a2, l2, nd2, c2, rfl, rfl⟩⟩
          · simp only [if_neg h3l] at k2
            have ed : dec B s (f + 1) x a (l + 1) = none := by simp only [dec, hx, if_true, if_neg h3l]
            repeat' (first|(refine Rg.callM rfl k1 (.cons (.there (.here)) (.nil)) ?_; rintro _ _ ⟨rfl, rfl⟩)|(refine Rg.callM rfl k2 (.cons (.here) (.nil)) ?_; rintro _ _ ⟨rfl, rfl⟩)|refine zz ?_|(refine zw ?_;refine And.intro ?_ ?_<;>intro hc)|(refine zv ?_;intro cv hv)|(refine za ?_;intro _)|refine zc ?_|(refine zd ?_;refine And.intro ?_ ?_<;>(intro e;(try simp only [Bool.not_eq_true',Bool.not_eq_false'] at e);subst e;try contradiction)))
            (first|refine ⟨.inr rfl,_,.t rfl .nil,?_⟩|refine ⟨.inr rfl,_,.t rfl (.t rfl .nil),?_⟩|refine ⟨.inr rfl,_,.t rfl (.t rfl (.t rfl .nil)),?_⟩|refine ⟨.inr rfl,_,.nil,?_⟩|refine ⟨.inl rfl,_,.t rfl .nil,?_⟩|refine ⟨.inl rfl,_,.nil,?_⟩|refine ⟨.inr rfl,_,.cn rfl (by exact zN) .nil,?_⟩|refine ⟨.inr rfl,_,.cn rfl (by exact zN) (.t rfl .nil),?_⟩)
            exact ⟨_, _, (.cons (.here) (.cons (.there (.here)) (.nil))), .inr ⟨ed, v0, _, _, _, _, rfl, rfl⟩⟩
        · have k72 := scalar72 (a := a) (rd := rd) (left := .ofNat l) (nd := nd) (tf := .fn gt [] ct) (pf := .fn gp [] cp) hs hl hx
          have ed : dec B s (f + 1) x a (l + 1) = match rdS s a with
              | none => none
              | some (v, to) => some (v, x, to, l, 0) := by
            simp only [dec, hx, if_neg h3y]
            try rfl
          repeat' (first|(refine Rg.callM rfl k1 (.cons (.there (.here)) (.nil)) ?_; rintro _ _ ⟨rfl, rfl⟩)|(refine Rg.callM rfl k72 (.cons (.here) (.nil)) ?_; rintro _ _ (⟨v, to, hr, rfl, rfl⟩ | ⟨hr, v, a2, rfl, rfl⟩))|refine zz ?_|(refine zw ?_;refine And.intro ?_ ?_<;>intro hc)|(refine zv ?_;intro cv hv)|(refine za ?_;intro _)|refine zc ?_|(refine zd ?_;refine And.intro ?_ ?_<;>(intro e;(try simp only [Bool.not_eq_true',Bool.not_eq_false'] at e);subst e;try contradiction)))
          all_goals (first|refine ⟨.inr rfl,_,.t rfl .nil,?_⟩|refine ⟨.inr rfl,_,.t rfl (.t rfl .nil),?_⟩|refine ⟨.inr rfl,_,.t rfl (.t rfl (.t rfl .nil)),?_⟩|refine ⟨.inr rfl,_,.nil,?_⟩|refine ⟨.inl rfl,_,.t rfl .nil,?_⟩|refine ⟨.inl rfl,_,.nil,?_⟩|refine ⟨.inr rfl,_,.cn rfl (by exact zN) .nil,?_⟩|refine ⟨.inr rfl,_,.cn rfl (by exact zN) (.t rfl .nil),?_⟩)
          · exact ⟨_, _, (.cons (.here) (.cons (.there (.here)) (.nil))), .inl ⟨v, x, to, l, 0, c, by rw [ed, hr], rfl, hR, rfl⟩⟩
          · exact ⟨_, _, (.cons (.here) (.cons (.there (.here)) (.nil))), .inr ⟨by rw [ed, hr], v, _, _, _, _, rfl, rfl⟩⟩
      · simp only [if_neg h] at k1
        repeat' (first|(refine Rg.callM rfl k1 (.cons (.there (.here)) (.nil)) ?_; rintro _ _ ⟨rfl, rfl⟩)|refine zz ?_|(refine zw ?_;refine And.intro ?_ ?_<;>intro hc)|(refine zv ?_;intro cv hv)|(refine za ?_;intro _)|refine zc ?_|(refine zd ?_;refine And.intro ?_ ?_<;>(intro e;(try simp only [Bool.not_eq_true',Bool.not_eq_false'] at e);subst e;try contradiction)))
        (first|refine ⟨.inr rfl,_,.t rfl .nil,?_⟩|refine ⟨.inr rfl,_,.t rfl (.t rfl .nil),?_⟩|refine ⟨.inr rfl,_,.t rfl (.t rfl (.t rfl .nil)),?_⟩|refine ⟨.inr rfl,_,.nil,?_⟩|refine ⟨.inl rfl,_,.t rfl .nil,?_⟩|refine ⟨.inl rfl,_,.nil,?_⟩|refine ⟨.inr rfl,_,.cn rfl (by exact zN) .nil,?_⟩|refine ⟨.inr rfl,_,.cn rfl (by exact zN) (.t rfl .nil),?_⟩)
        exact ⟨_, _, (.cons (.here) (.cons (.there (.here)) (.nil))), .inr ⟨by simp only [dec]; rw [List.getElem?_eq_none (by omega)], v0, _, _, _, _, rfl, rfl⟩⟩
end
end Go.Proofs.Ytlflpjjmkigepaa
