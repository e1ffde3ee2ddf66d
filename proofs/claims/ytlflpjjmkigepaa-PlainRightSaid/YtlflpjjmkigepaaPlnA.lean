/- A heap in memory. Contracts: whether it is there, a place is taken, a heap is made; numbers as values, whether a value is right. -/
import Derived.Test.YtlflpjjmkigepaaAbsW
import Derived.Test.YtlflpjjmkigepaaPlnCode
set_option autoImplicit false
set_option maxRecDepth 100000
set_option maxHeartbeats 4000000
set_option linter.unusedVariables false
set_option linter.unusedSimpArgs false
namespace Go.Proofs.Ytlflpjjmkigepaa
open Go Go.Abs
attribute [local irreducible] Cmp Rg Dw Cd Lp Ev Rdk CT Upd InK
abbrev hB (b room used : Nat) (vt vf vc : AV) : Chk := [(b, .cells [.bool true, .int .i64 (.ofNat room), .int .i64 (.ofNat used), vt, vf, vc] 0 0 false)]
section
variable {b room used : Nat} {vt vf vc : AV}
end
theorem int23 {n : Int} : PT Try.prog false 31 [.int .i64 n] (valA ⟨1, n, []⟩) := by
  refine PT.of (CT.enter mixed comp31 (Nat.le_of_ble_eq_true rfl) ?_)
  repeat' (first|refine zz ?_|(refine zv ?_;intro cv hv)|(refine za ?_;intro _)|refine zc ?_|(refine zd ?_;refine And.intro ?_ ?_<;>(intro e;(try simp only [Bool.not_eq_true',Bool.not_eq_false'] at e);subst e;try contradiction)))
  (first|refine ⟨.inr rfl,_,.t rfl .nil,?_⟩|refine ⟨.inr rfl,_,.t rfl (.t rfl .nil),?_⟩|refine ⟨.inr rfl,_,.t rfl (.t rfl (.t rfl .nil)),?_⟩|refine ⟨.inr rfl,_,.nil,?_⟩|refine ⟨.inl rfl,_,.t rfl .nil,?_⟩|refine ⟨.inl rfl,_,.nil,?_⟩|refine ⟨.inr rfl,_,.cn rfl (by exact zN) .nil,?_⟩|refine ⟨.inr rfl,_,.cn rfl (by exact zN) (.t rfl .nil),?_⟩)
  rfl
end Go.Proofs.Ytlflpjjmkigepaa

namespace Go.Proofs.Ytlflpjjmkigepaa
open Go Go.Abs
section
variable {b room used : Nat} {vt vf : AV} {C : OS}
end
end Go.Proofs.Ytlflpjjmkigepaa

namespace Go.Proofs.Ytlflpjjmkigepaa
open Go Go.Abs
attribute [local irreducible] Cmp Rg Dw Cd Lp Ev Rdk CT Upd InK
section
variable {b room used : Nat} {vt vf vc : AV} {F : OS}
end
def rowI (a : Int) : List AV := [.int .i64 a]
end Go.Proofs.Ytlflpjjmkigepaa

namespace Go.Proofs.Ytlflpjjmkigepaa
open Go Go.Abs
def keysE (es : List Ent) : List Val := es.map fun e => e.1
structure Good (es : List Ent) (ck : Nat) : Prop where
  keys : (keysE es).Nodup
  stamps : (es.map fun e => e.2.2).Nodup
  lt : ∀ e, e ∈ es → e.2.2 < ck
theorem Good.nil {ck : Nat} : Good [] ck := ⟨by simp [keysE], by simp, by simp⟩
theorem under_none {k : Val} : ∀ {es : List Ent}, under k es = none ↔ k ∉ keysE es
  | [] => by simp [under, keysE]
  | (a, v, n) :: r => by
    simp only [under, keysE, List.map_cons, List.mem_cons, not_or]
    by_cases h : k = a
    · simp [h]
    · simp only [if_neg h, h, not_false_iff, true_and]
      exact under_none (es := r)
theorem del_sub {k : Val} : ∀ {es : List Ent}, (delE k es).Sublist es
  | [] => .slnil
  | (a, x, n) :: r => by
    simp only [delE]
    split
    · exact .cons _ (List.Sublist.refl _)
    · exact List.Sublist.cons_cons _ del_sub
theorem Good.del {k : Val} {es : List Ent} {ck : Nat} (h : Good es ck) : Good (delE k es) ck :=
  ⟨h.keys.sublist (del_sub.map _), h.stamps.sublist (del_sub.map _), fun e he => h.lt e (del_sub.subset he)⟩
theorem keys_put {k v : Val} {ck : Nat} : ∀ {es : List Ent}, keysE (putE k v ck es) = if under k es = none then keysE es ++ [k] else keysE es
  | [] => rfl
  | (a, x, n) :: r => by
    simp only [putE, under]
    by_cases h : k = a
    · subst h; simp [keysE]
    · simp only [if_neg h]
      have := keys_put (k := k) (v := v) (ck := ck) (es := r)
      simp only [keysE, List.map_cons] at this ⊢
      rw [this]
      split <;> simp
theorem mem_put {k v : Val} {ck : Nat} {e : Ent} : ∀ {es : List Ent}, e ∈ putE k v ck es → e.2.2 = ck ∧ under k es = none ∨ ∃ e', e' ∈ es ∧ e'.2.2 = e.2.2
  | [], h => by simp [putE] at h; subst h; exact .inl ⟨rfl, rfl⟩
  | (a, x, n) :: r, h => by
    simp only [putE] at h
    by_cases hk : k = a
    · rw [if_pos hk] at h
      rcases List.mem_cons.1 h with rfl | h
      · exact .inr ⟨(a, x, n), by simp, rfl⟩
      · exact .inr ⟨e, List.mem_cons_of_mem _ h, rfl⟩
    · rw [if_neg hk] at h
      rcases List.mem_cons.1 h with rfl | h
      · exact .inr ⟨_, by simp, rfl⟩
      · rcases mem_put h with ⟨h1, h2⟩ | ⟨e', h1, h2⟩
        · exact .inl ⟨h1, by simp only [under, if_neg hk]; exact h2⟩
        · exact .inr ⟨e', List.mem_cons_of_mem _ h1, h2⟩
theorem putC_ge {k : Val} {ck : Nat} : ∀ {es : List Ent}, ck ≤ putC k ck es ∧ (under k es = none → putC k ck es = ck + 1)
  | [] => by simp [putC]
  | (a, x, n) :: r => by
    simp only [putC, under]
    by_cases h : k = a
    · simp [h]
    · simp only [if_neg h]; exact putC_ge
theorem stamps_put {k v : Val} {ck : Nat} : ∀ {es : List Ent}, (es.map fun e => e.2.2).Nodup → (∀ e, e ∈ es → e.2.2 < ck) → ((putE k v ck es).map fun e => e.2.2).Nodup
  | [], _, _ => by simp [putE]
  | (a, x, n) :: r, h, hl => by
    simp only [List.map_cons, List.nodup_cons] at h
    simp only [putE]
    split
    · simp only [List.map_cons, List.nodup_cons]; exact h
    · simp only [List.map_cons, List.nodup_cons]
      refine ⟨?_, stamps_put h.2 fun e he => hl e (List.mem_cons_of_mem _ he)⟩
      intro hm
      obtain ⟨e, he, hn⟩ := List.mem_map.1 hm
      rcases mem_put he with ⟨h1, _⟩ | ⟨e', h1, h2⟩
      · have := hl (a, x, n) (by simp)
        simp only at this hn
        omega
      · exact h.1 (List.mem_map.2 ⟨e', h1, h2.trans hn⟩)
theorem Good.put {k v : Val} {es : List Ent} {ck : Nat} (h : Good es ck) : Good (putE k v ck es) (putC k ck es) := by
  refine ⟨?_, stamps_put h.stamps h.lt, ?_⟩
  · rw [keys_put]
    split
    · rename_i hu
      rw [under_none] at hu
      rw [List.nodup_append]
      refine ⟨h.keys, by simp, ?_⟩
      intro a ha b hb
      simp only [List.mem_singleton] at hb
      subst hb
      rintro rfl
      exact hu ha
    · exact h.keys
  · intro e he
    obtain ⟨g1, g2⟩ := putC_ge (k := k) (ck := ck) (es := es)
    rcases mem_put he with ⟨h1, h2⟩ | ⟨e', h1, h2⟩
    · rw [h1, g2 h2]; exact Nat.lt_succ_self _
    · rw [← h2]; exact Nat.lt_of_lt_of_le (h.lt e' h1) g1
/-! The order of keys. -/
def aheadB (a b : Val) : Bool := if a.k ≠ b.k then decide (a.k < b.k) else if a.k = 1 then decide (a.n < b.n) else nless a.s b.s
/-- A key as it should be. -/
def Can (v : Val) : Prop := (v.k = 1 ∧ v.s = []) ∨ (v.k = 2 ∧ v.n = 0)
theorem nless_irr : ∀ x : List Nat, nless x x = false
  | [] => rfl
  | a :: x => by
    simp only [nless, nless_irr x, Bool.and_false, Bool.or_false]
    cases e : Nat.blt a a with
    | false => rfl
    | true => have := Nat.le_of_ble_eq_true e; omega
theorem nless_cons {a b : Nat} {x y : List Nat} : nless (a :: x) (b :: y) = true ↔ a < b ∨ (a = b ∧ nless x y = true) := by
  simp only [nless, Bool.or_eq_true, Bool.and_eq_true, Nat.beq_eq, ]
  constructor
  · rintro (h | h)
    · exact .inl (Nat.le_of_ble_eq_true h)
    · exact .inr h
  · rintro (h | h)
    · exact .inl (Nat.ble_eq_true_of_le h)
    · exact .inr h
theorem nless_trans : ∀ {x y z : List Nat}, nless x y = true → nless y z = true → nless x z = true
  | x, [], _, h, _ => by cases x <;> simp [nless] at h
  | _, _ :: _, [], _, h => by simp [nless] at h
  | [], _ :: _, _ :: _, _, _ => rfl
  | a :: x, b :: y, c :: z, h, k => by
    rw [nless_cons] at h k ⊢
    rcases h with h | ⟨rfl, h⟩
    · rcases k with k | ⟨rfl, k⟩
      · exact .inl (by omega)
      · exact .inl h
    · rcases k with k | ⟨rfl, k⟩
      · exact .inl k
      · exact .inr ⟨rfl, nless_trans h k⟩
theorem nless_tri : ∀ {x y : List Nat}, nless x y = false → x ≠ y → nless y x = true
  | [], [], _, h => absurd rfl h
  | [], _ :: _, h, _ => by cases h
  | _ :: _, [], _, _ => rfl
  | a :: x, b :: y, h, hn => by
    rw [nless_cons]
    have h' : ¬ (a < b ∨ (a = b ∧ nless x y = true)) := fun e => by rw [← nless_cons, h] at e; cases e
    by_cases e : a = b
    · subst e
      refine .inr ⟨rfl, nless_tri ?_ fun e => hn (by rw [e])⟩
      cases e2 : nless x y with
      | false => rfl
      | true => exact absurd (.inr ⟨rfl, e2⟩) h'
    · exact .inl (by omega)
theorem ahead_trans {a b c : Val} (h : aheadB a b = true) (k : aheadB b c = true) : aheadB a c = true := by
  unfold aheadB at h k ⊢
  by_cases e1 : a.k = b.k
  · by_cases e2 : b.k = c.k
    · rw [if_neg (by simp [e1])] at h
      rw [if_neg (by simp [e2])] at k
      rw [if_neg (by simp [e1, e2])]
      by_cases e3 : a.k = 1
      · rw [if_pos e3] at h ⊢
        rw [if_pos (by omega)] at k
        simp at h k ⊢; omega
      · rw [if_neg e3] at h ⊢
        rw [if_neg (by omega)] at k
        exact nless_trans h k
    · rw [if_pos e2] at k
      rw [if_pos (by omega)]
      simp at k ⊢; omega
  · rw [if_pos e1] at h
    by_cases e2 : b.k = c.k
    · rw [if_pos (by omega)]
      simp at h ⊢; omega
    · rw [if_pos e2] at k
      simp at h k
      rw [if_pos (by omega)]
      simp; omega
theorem ahead_tri {a b : Val} (ha : Can a) (hb : Can b) (h : aheadB a b = false) (hn : a ≠ b) : aheadB b a = true := by
  unfold aheadB at h ⊢
  obtain ⟨ak, an, at_⟩ := a
  obtain ⟨bk, bn, bs⟩ := b
  simp only [Can] at ha hb h ⊢
  by_cases e : ak = bk
  · subst e
    rw [if_neg (by simp)] at h ⊢
    rcases ha with ⟨rfl, rfl⟩ | ⟨rfl, rfl⟩
    · rcases hb with ⟨_, rfl⟩ | ⟨h2, _⟩
      · simp at h hn ⊢; omega
      · omega
    · rcases hb with ⟨h2, _⟩ | ⟨_, rfl⟩
      · omega
      · rw [if_neg (by decide)] at h ⊢
        exact nless_tri h fun e => hn (by rw [e])
  · rw [if_pos e] at h
    rw [if_pos (fun e2 => e e2.symm)]
    simp at h ⊢; omega
end Go.Proofs.Ytlflpjjmkigepaa

namespace Go.Proofs.Ytlflpjjmkigepaa
open Go Go.Abs
attribute [local irreducible] Cmp Rg Dw Cd Lp Ev Rdk CT Upd InK
def keyB (k : Val) : Bool := decide (k.k = 1) || decide (k.k = 2)
theorem in59 {k : Val} : PT Try.prog false 76 [valA k] (if k.k = 1 then .ifc 123 (.int .i64 k.n) else if k.k = 2 then .ifc 124 (.str k.s) else .nilifc) := by
  refine PT.of (CT.enter mixed comp76 (Nat.le_of_ble_eq_true rfl) ?_)
  by_cases h1 : k.k = 1
  · rw [if_pos h1]
    repeat' (first|refine zz ?_|(refine zv ?_;intro cv hv)|(refine za ?_;intro _)|refine zc ?_|(refine zd ?_;refine And.intro ?_ ?_<;>(intro e;(try simp only [Bool.not_eq_true',Bool.not_eq_false'] at e);subst e;try contradiction)))
    (first|refine ⟨.inr rfl,_,.t rfl .nil,?_⟩|refine ⟨.inr rfl,_,.t rfl (.t rfl .nil),?_⟩|refine ⟨.inr rfl,_,.t rfl (.t rfl (.t rfl .nil)),?_⟩|refine ⟨.inr rfl,_,.nil,?_⟩|refine ⟨.inl rfl,_,.t rfl .nil,?_⟩|refine ⟨.inl rfl,_,.nil,?_⟩|refine ⟨.inr rfl,_,.cn rfl (by exact zN) .nil,?_⟩|refine ⟨.inr rfl,_,.cn rfl (by exact zN) (.t rfl .nil),?_⟩)
    rfl
  by_cases h2 : k.k = 2
  · rw [if_neg h1, if_pos h2]
    repeat' (first|refine zz ?_|(refine zv ?_;intro cv hv)|(refine za ?_;intro _)|refine zc ?_|(refine zd ?_;refine And.intro ?_ ?_<;>(intro e;(try simp only [Bool.not_eq_true',Bool.not_eq_false'] at e);subst e;try contradiction)))
    (first|refine ⟨.inr rfl,_,.t rfl .nil,?_⟩|refine ⟨.inr rfl,_,.t rfl (.t rfl .nil),?_⟩|refine ⟨.inr rfl,_,.t rfl (.t rfl (.t rfl .nil)),?_⟩|refine ⟨.inr rfl,_,.nil,?_⟩|refine ⟨.inl rfl,_,.t rfl .nil,?_⟩|refine ⟨.inl rfl,_,.nil,?_⟩|refine ⟨.inr rfl,_,.cn rfl (by exact zN) .nil,?_⟩|refine ⟨.inr rfl,_,.cn rfl (by exact zN) (.t rfl .nil),?_⟩)
    rfl
  · rw [if_neg h1, if_neg h2]
    repeat' (first|refine zz ?_|(refine zv ?_;intro cv hv)|(refine za ?_;intro _)|refine zc ?_|(refine zd ?_;refine And.intro ?_ ?_<;>(intro e;(try simp only [Bool.not_eq_true',Bool.not_eq_false'] at e);subst e;try contradiction)))
    (first|refine ⟨.inr rfl,_,.t rfl .nil,?_⟩|refine ⟨.inr rfl,_,.t rfl (.t rfl .nil),?_⟩|refine ⟨.inr rfl,_,.t rfl (.t rfl (.t rfl .nil)),?_⟩|refine ⟨.inr rfl,_,.nil,?_⟩|refine ⟨.inl rfl,_,.t rfl .nil,?_⟩|refine ⟨.inl rfl,_,.nil,?_⟩|refine ⟨.inr rfl,_,.cn rfl (by exact zN) .nil,?_⟩|refine ⟨.inr rfl,_,.cn rfl (by exact zN) (.t rfl .nil),?_⟩)
    rfl
theorem key52 {k : Val} : PT Try.prog false 66 [valA k] (.bool (keyB k)) := by
  have k59 := in59 (k := k)
  refine PT.of (CT.enter mixed comp66 (Nat.le_of_ble_eq_true rfl) ?_)
  by_cases h1 : k.k = 1
  · rw [if_pos h1] at k59
    rw [show keyB k = true by simp [keyB, h1]]
    repeat' (first|refine zz ?_|(refine zv ?_;intro cv hv)|(refine za ?_;intro _)|refine zc ?_|(refine zd ?_;refine And.intro ?_ ?_<;>(intro e;(try simp only [Bool.not_eq_true',Bool.not_eq_false'] at e);subst e;try contradiction)))
    (first|refine ⟨.inr rfl,_,.t rfl .nil,?_⟩|refine ⟨.inr rfl,_,.t rfl (.t rfl .nil),?_⟩|refine ⟨.inr rfl,_,.t rfl (.t rfl (.t rfl .nil)),?_⟩|refine ⟨.inr rfl,_,.nil,?_⟩|refine ⟨.inl rfl,_,.t rfl .nil,?_⟩|refine ⟨.inl rfl,_,.nil,?_⟩|refine ⟨.inr rfl,_,.cn rfl (by exact zN) .nil,?_⟩|refine ⟨.inr rfl,_,.cn rfl (by exact zN) (.t rfl .nil),?_⟩)
    rfl
  by_cases h2 : k.k = 2
  · rw [if_neg h1, if_pos h2] at k59
    rw [show keyB k = true by simp [keyB, h2]]
    repeat' (first|refine zz ?_|(refine zv ?_;intro cv hv)|(refine za ?_;intro _)|refine zc ?_|(refine zd ?_;refine And.intro ?_ ?_<;>(intro e;(try simp only [Bool.not_eq_true',Bool.not_eq_false'] at e);subst e;try contradiction)))
    (first|refine ⟨.inr rfl,_,.t rfl .nil,?_⟩|refine ⟨.inr rfl,_,.t rfl (.t rfl .nil),?_⟩|refine ⟨.inr rfl,_,.t rfl (.t rfl (.t rfl .nil)),?_⟩|refine ⟨.inr rfl,_,.nil,?_⟩|refine ⟨.inl rfl,_,.t rfl .nil,?_⟩|refine ⟨.inl rfl,_,.nil,?_⟩|refine ⟨.inr rfl,_,.cn rfl (by exact zN) .nil,?_⟩|refine ⟨.inr rfl,_,.cn rfl (by exact zN) (.t rfl .nil),?_⟩)
    rfl
  · rw [if_neg h1, if_neg h2] at k59
    rw [show keyB k = false by simp [keyB, h1, h2]]
    repeat' (first|refine zz ?_|(refine zv ?_;intro cv hv)|(refine za ?_;intro _)|refine zc ?_|(refine zd ?_;refine And.intro ?_ ?_<;>(intro e;(try simp only [Bool.not_eq_true',Bool.not_eq_false'] at e);subst e;try contradiction)))
    (first|refine ⟨.inr rfl,_,.t rfl .nil,?_⟩|refine ⟨.inr rfl,_,.t rfl (.t rfl .nil),?_⟩|refine ⟨.inr rfl,_,.t rfl (.t rfl (.t rfl .nil)),?_⟩|refine ⟨.inr rfl,_,.nil,?_⟩|refine ⟨.inl rfl,_,.t rfl .nil,?_⟩|refine ⟨.inl rfl,_,.nil,?_⟩|refine ⟨.inr rfl,_,.cn rfl (by exact zN) .nil,?_⟩|refine ⟨.inr rfl,_,.cn rfl (by exact zN) (.t rfl .nil),?_⟩)
    rfl
theorem key16 {k : Val} : PT Try.prog false 53 [valA k] (.bool (keyB k)) := by
  refine PT.of (CT.enter mixed comp53 (Nat.le_of_ble_eq_true rfl) ?_)
  repeat' (first|refine zz ?_|(refine zv ?_;intro cv hv)|(refine za ?_;intro _)|refine zc ?_|(refine zd ?_;refine And.intro ?_ ?_<;>(intro e;(try simp only [Bool.not_eq_true',Bool.not_eq_false'] at e);subst e;try contradiction)))
  all_goals (first|refine ⟨.inr rfl,_,.t rfl .nil,?_⟩|refine ⟨.inr rfl,_,.t rfl (.t rfl .nil),?_⟩|refine ⟨.inr rfl,_,.t rfl (.t rfl (.t rfl .nil)),?_⟩|refine ⟨.inr rfl,_,.nil,?_⟩|refine ⟨.inl rfl,_,.t rfl .nil,?_⟩|refine ⟨.inl rfl,_,.nil,?_⟩|refine ⟨.inr rfl,_,.cn rfl (by exact zN) .nil,?_⟩|refine ⟨.inr rfl,_,.cn rfl (by exact zN) (.t rfl .nil),?_⟩)
  all_goals (refine congrArg AV.bool ?_; rw [Bool.eq_iff_iff]; simp only [keyB]; simp_all)
section
variable {b room used i m ck : Nat} {s : List Nat} {vf vc : AV} {T : OS} {es : List Ent} {k : Val}
abbrev mC (m ck : Nat) (es : List Ent) : Chk := [(m, .map (entsA es) ck)]
abbrev v0 : Val := ⟨0, 0, []⟩
end
end Go.Proofs.Ytlflpjjmkigepaa

namespace Go.Proofs.Ytlflpjjmkigepaa
open Go Go.Abs
attribute [local irreducible] Cmp Rg Dw Cd Lp Ev Rdk CT Upd InK
/-- What a map is behind a put. -/
def putM (k v : Val) (es : List Ent) (ck : Nat) : List Ent := if v.k = 0 then delE k es else putE k v ck es
def putN (k v : Val) (es : List Ent) (ck : Nat) : Nat := if v.k = 0 then ck else putC k ck es
theorem Good.putM {k v : Val} {es : List Ent} {ck : Nat} (h : Good es ck) : Good (putM k v es ck) (putN k v es ck) := by
  unfold Go.Proofs.Ytlflpjjmkigepaa.putM putN
  split
  · exact h.del
  · exact h.put
section
variable {b room used i m ck c : Nat} {s : List Nat} {vf vc : AV} {T : OS} {es : List Ent} {k v : Val}
end
end Go.Proofs.Ytlflpjjmkigepaa
