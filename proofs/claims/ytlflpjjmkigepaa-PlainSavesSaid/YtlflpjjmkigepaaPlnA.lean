/- A heap in memory. Contracts: whether it is there, a place is taken, a heap is made; numbers as values, whether a value is right. -/
import Derived.Test.YtlflpjjmkigepaaAbsW
import Derived.Test.YtlflpjjmkigepaaPlnCode
set_option autoImplicit false
set_option maxRecDepth 100000
set_option maxHeartbeats 4000000
set_option linter.unusedVariables false
set_option linter.unusedSimpArgs false
namespace Go.Proofs.Ytlflpjjmkigepaa
open Go Go.Abs
attribute [local irreducible] Cmp Rg Dw Cd Lp Ev Rdk CT Upd InK
abbrev hB (b room used : Nat) (vt vf vc : AV) : Chk := [(b, .cells [.bool true, .int .i64 (.ofNat room), .int .i64 (.ofNat used), vt, vf, vc] 0 0 false)]
abbrev hP (b : Nat) : AV := .ptr b 0 0 6
section
variable {b room used : Nat} {vt vf vc : AV}
theorem there32 : CT Try.prog false 48 [hP b] [hB b room used vt vf vc] fun v K' => v = .bool true ∧ K' = [hB b room used vt vf vc] := by
  refine CT.enter mixed comp48 (Nat.le_of_ble_eq_true rfl) ?_
  repeat' (first|refine zz ?_|(refine zv ?_;intro cv hv)|(refine za ?_;intro _)|refine zc ?_|(refine zd ?_;refine And.intro ?_ ?_<;>(intro e;(try simp only [Bool.not_eq_true',Bool.not_eq_false'] at e);subst e;try contradiction)))
  (first|refine ⟨.inr rfl,_,.t rfl .nil,?_⟩|refine ⟨.inr rfl,_,.t rfl (.t rfl .nil),?_⟩|refine ⟨.inr rfl,_,.t rfl (.t rfl (.t rfl .nil)),?_⟩|refine ⟨.inr rfl,_,.nil,?_⟩|refine ⟨.inl rfl,_,.t rfl .nil,?_⟩|refine ⟨.inl rfl,_,.nil,?_⟩|refine ⟨.inr rfl,_,.cn rfl (by exact zN) .nil,?_⟩|refine ⟨.inr rfl,_,.cn rfl (by exact zN) (.t rfl .nil),?_⟩)
  exact ⟨rfl, rfl⟩
theorem take33 (hu : used ≤ room) (hr : room ≤ 1000000) : CT Try.prog false 54 [hP b] [hB b room used vt vf vc] fun v K' => (used = room ∧ v = .int .i64 (.ofNat 8) ∧ K' = [hB b room used vt vf vc]) ∨ (used < room ∧ v = .int .i64 (.ofNat 0) ∧ K' = [hB b room (used + 1) vt vf vc]) := by
  refine CT.enter mixed comp54 (Nat.le_of_ble_eq_true rfl) ?_
  by_cases h : used = room
  · repeat' (first|(refine Rg.callM rfl there32 (.cons .here .nil) ?_; rintro _ _ ⟨rfl, rfl⟩)|refine zz ?_|(refine zv ?_;intro cv hv)|(refine za ?_;intro _)|refine zc ?_|(refine zd ?_;refine And.intro ?_ ?_<;>(intro e;(try simp only [Bool.not_eq_true',Bool.not_eq_false'] at e);subst e;try contradiction)))
    (first|refine ⟨.inr rfl,_,.t rfl .nil,?_⟩|refine ⟨.inr rfl,_,.t rfl (.t rfl .nil),?_⟩|refine ⟨.inr rfl,_,.t rfl (.t rfl (.t rfl .nil)),?_⟩|refine ⟨.inr rfl,_,.nil,?_⟩|refine ⟨.inl rfl,_,.t rfl .nil,?_⟩|refine ⟨.inl rfl,_,.nil,?_⟩|refine ⟨.inr rfl,_,.cn rfl (by exact zN) .nil,?_⟩|refine ⟨.inr rfl,_,.cn rfl (by exact zN) (.t rfl .nil),?_⟩)
    exact .inl ⟨h, rfl, rfl⟩
  · repeat' (first|(refine Rg.callM rfl there32 (.cons .here .nil) ?_; rintro _ _ ⟨rfl, rfl⟩)|refine zz ?_|(refine zv ?_;intro cv hv)|(refine za ?_;intro _)|refine zc ?_|(refine zd ?_;refine And.intro ?_ ?_<;>(intro e;(try simp only [Bool.not_eq_true',Bool.not_eq_false'] at e);subst e;try contradiction)))
    (first|refine ⟨.inr rfl,_,.t rfl .nil,?_⟩|refine ⟨.inr rfl,_,.t rfl (.t rfl .nil),?_⟩|refine ⟨.inr rfl,_,.t rfl (.t rfl (.t rfl .nil)),?_⟩|refine ⟨.inr rfl,_,.nil,?_⟩|refine ⟨.inl rfl,_,.t rfl .nil,?_⟩|refine ⟨.inl rfl,_,.nil,?_⟩|refine ⟨.inr rfl,_,.cn rfl (by exact zN) .nil,?_⟩|refine ⟨.inr rfl,_,.cn rfl (by exact zN) (.t rfl .nil),?_⟩)
    exact .inr ⟨by omega, rfl, rfl⟩
end
theorem int23 {n : Int} : PT Try.prog false 31 [.int .i64 n] (valA ⟨1, n, []⟩) := by
  refine PT.of (CT.enter mixed comp31 (Nat.le_of_ble_eq_true rfl) ?_)
  repeat' (first|refine zz ?_|(refine zv ?_;intro cv hv)|(refine za ?_;intro _)|refine zc ?_|(refine zd ?_;refine And.intro ?_ ?_<;>(intro e;(try simp only [Bool.not_eq_true',Bool.not_eq_false'] at e);subst e;try contradiction)))
  (first|refine ⟨.inr rfl,_,.t rfl .nil,?_⟩|refine ⟨.inr rfl,_,.t rfl (.t rfl .nil),?_⟩|refine ⟨.inr rfl,_,.t rfl (.t rfl (.t rfl .nil)),?_⟩|refine ⟨.inr rfl,_,.nil,?_⟩|refine ⟨.inl rfl,_,.t rfl .nil,?_⟩|refine ⟨.inl rfl,_,.nil,?_⟩|refine ⟨.inr rfl,_,.cn rfl (by exact zN) .nil,?_⟩|refine ⟨.inr rfl,_,.cn rfl (by exact zN) (.t rfl .nil),?_⟩)
  rfl
theorem new9 {n : Int} : CT Try.prog false 19 [.int .i64 n] [] fun v K' => ((n < 0 ∨ 1000000 < n) ∧ v = .tup [.nilptr, .int .i64 (.ofNat 1)]) ∨ ∃ room b, n = Int.ofNat room ∧ room ≤ 1000000 ∧ v = .tup [hP b, .int .i64 (.ofNat 0)] ∧ K' = [hB b room 0 .nilslc .nilslc .nilslc] := by
  refine CT.enter mixed comp19 (Nat.le_of_ble_eq_true rfl) ?_
  by_cases h : n < 0
  · repeat' (first|refine zz ?_|(refine zv ?_;intro cv hv)|(refine za ?_;intro _)|refine zc ?_|(refine zd ?_;refine And.intro ?_ ?_<;>(intro e;(try simp only [Bool.not_eq_true',Bool.not_eq_false'] at e);subst e;try contradiction)))
    (first|refine ⟨.inr rfl,_,.t rfl .nil,?_⟩|refine ⟨.inr rfl,_,.t rfl (.t rfl .nil),?_⟩|refine ⟨.inr rfl,_,.t rfl (.t rfl (.t rfl .nil)),?_⟩|refine ⟨.inr rfl,_,.nil,?_⟩|refine ⟨.inl rfl,_,.t rfl .nil,?_⟩|refine ⟨.inl rfl,_,.nil,?_⟩|refine ⟨.inr rfl,_,.cn rfl (by exact zN) .nil,?_⟩|refine ⟨.inr rfl,_,.cn rfl (by exact zN) (.t rfl .nil),?_⟩)
    exact .inl ⟨.inl h, rfl⟩
  by_cases h2 : 1000000 < n
  · repeat' (first|refine zz ?_|(refine zv ?_;intro cv hv)|(refine za ?_;intro _)|refine zc ?_|(refine zd ?_;refine And.intro ?_ ?_<;>(intro e;(try simp only [Bool.not_eq_true',Bool.not_eq_false'] at e);subst e;try contradiction)))
    (first|refine ⟨.inr rfl,_,.t rfl .nil,?_⟩|refine ⟨.inr rfl,_,.t rfl (.t rfl .nil),?_⟩|refine ⟨.inr rfl,_,.t rfl (.t rfl (.t rfl .nil)),?_⟩|refine ⟨.inr rfl,_,.nil,?_⟩|refine ⟨.inl rfl,_,.t rfl .nil,?_⟩|refine ⟨.inl rfl,_,.nil,?_⟩|refine ⟨.inr rfl,_,.cn rfl (by exact zN) .nil,?_⟩|refine ⟨.inr rfl,_,.cn rfl (by exact zN) (.t rfl .nil),?_⟩)
    exact .inl ⟨.inr h2, rfl⟩
  obtain ⟨room, rfl⟩ : ∃ r : Nat, n = Int.ofNat r := ⟨n.toNat, by simp; omega⟩
  have h3 : room ≤ 1000000 := by simp at h2; omega
  repeat' (first|refine zz ?_|(refine zv ?_;intro cv hv)|(refine za ?_;intro _)|refine zc ?_|(refine zd ?_;refine And.intro ?_ ?_<;>(intro e;(try simp only [Bool.not_eq_true',Bool.not_eq_false'] at e);subst e;try contradiction)))
  (first|refine ⟨.inr rfl,_,.t rfl .nil,?_⟩|refine ⟨.inr rfl,_,.t rfl (.t rfl .nil),?_⟩|refine ⟨.inr rfl,_,.t rfl (.t rfl (.t rfl .nil)),?_⟩|refine ⟨.inr rfl,_,.nil,?_⟩|refine ⟨.inl rfl,_,.t rfl .nil,?_⟩|refine ⟨.inl rfl,_,.nil,?_⟩|refine ⟨.inr rfl,_,.cn rfl (by exact zN) .nil,?_⟩|refine ⟨.inr rfl,_,.cn rfl (by exact zN) (.t rfl .nil),?_⟩)
  exact .inr ⟨room, _, rfl, h3, rfl, rfl⟩
/-- A value that is right. -/
def isB (v : Val) : Bool := if v.k = 0 then decide (v.n = 0) && decide (v.s = []) else if v.k = 2 then decide (v.n = 0) && decide (v.s.length ≤ 1024) else decide (0 ≤ v.k) && decide (v.k ≤ 5) && decide (v.s = [])
theorem is21 {v : Val} : PT Try.prog false 10 [valA v] (.bool (isB v)) := by
  refine PT.of (CT.enter mixed comp10 (Nat.le_of_ble_eq_true rfl) ?_)
  repeat' (first|refine zz ?_|(refine zv ?_;intro cv hv)|(refine za ?_;intro _)|refine zc ?_|(refine zd ?_;refine And.intro ?_ ?_<;>(intro e;(try simp only [Bool.not_eq_true',Bool.not_eq_false'] at e);subst e;try contradiction)))
  all_goals (first|refine ⟨.inr rfl,_,.t rfl .nil,?_⟩|refine ⟨.inr rfl,_,.t rfl (.t rfl .nil),?_⟩|refine ⟨.inr rfl,_,.t rfl (.t rfl (.t rfl .nil)),?_⟩|refine ⟨.inr rfl,_,.nil,?_⟩|refine ⟨.inl rfl,_,.t rfl .nil,?_⟩|refine ⟨.inl rfl,_,.nil,?_⟩|refine ⟨.inr rfl,_,.cn rfl (by exact zN) .nil,?_⟩|refine ⟨.inr rfl,_,.cn rfl (by exact zN) (.t rfl .nil),?_⟩)
  all_goals (refine congrArg AV.bool ?_; rw [Bool.eq_iff_iff]; simp only [isB]; simp_all)
end Go.Proofs.Ytlflpjjmkigepaa

namespace Go.Proofs.Ytlflpjjmkigepaa
open Go Go.Abs
section
variable {b room used : Nat} {vt vf : AV} {C : OS}
end
end Go.Proofs.Ytlflpjjmkigepaa

namespace Go.Proofs.Ytlflpjjmkigepaa
open Go Go.Abs
attribute [local irreducible] Cmp Rg Dw Cd Lp Ev Rdk CT Upd InK
section
variable {b room used : Nat} {vt vf vc : AV} {F : OS}
theorem take33F (h : used = room) (hr : room ≤ 1000000) : CT Try.prog false 54 [hP b] [hB b room used vt vf vc] fun v K' => v = .int .i64 (.ofNat 8) ∧ K' = [hB b room used vt vf vc] :=
  (take33 (Nat.le_of_eq h) hr).mono fun v K' hh => by
    rcases hh with ⟨_, h1, h2⟩ | ⟨h0, _⟩
    · exact ⟨h1, h2⟩
    · omega
theorem take33T (h : used < room) (hr : room ≤ 1000000) : CT Try.prog false 54 [hP b] [hB b room used vt vf vc] fun v K' => v = .int .i64 (.ofNat 0) ∧ K' = [hB b room (used + 1) vt vf vc] :=
  (take33 (Nat.le_of_lt h) hr).mono fun v K' hh => by
    rcases hh with ⟨h0, _⟩ | ⟨_, h1, h2⟩
    · omega
    · exact ⟨h1, h2⟩
end
def rowI (a : Int) : List AV := [.int .i64 a]
end Go.Proofs.Ytlflpjjmkigepaa

namespace Go.Proofs.Ytlflpjjmkigepaa
open Go Go.Abs
def keysE (es : List Ent) : List Val := es.map fun e => e.1
structure Good (es : List Ent) (ck : Nat) : Prop where
  keys : (keysE es).Nodup
  stamps : (es.map fun e => e.2.2).Nodup
  lt : ∀ e, e ∈ es → e.2.2 < ck
theorem Good.nil {ck : Nat} : Good [] ck := ⟨by simp [keysE], by simp, by simp⟩
theorem under_none {k : Val} : ∀ {es : List Ent}, under k es = none ↔ k ∉ keysE es
  | [] => by simp [under, keysE]
  | (a, v, n) :: r => by
    simp only [under, keysE, List.map_cons, List.mem_cons, not_or]
    by_cases h : k = a
    · simp [h]
    · simp only [if_neg h, h, not_false_iff, true_and]
      exact under_none (es := r)
theorem del_sub {k : Val} : ∀ {es : List Ent}, (delE k es).Sublist es
  | [] => .slnil
  | (a, x, n) :: r => by
    simp only [delE]
    split
    · exact .cons _ (List.Sublist.refl _)
    · exact List.Sublist.cons_cons _ del_sub
theorem Good.del {k : Val} {es : List Ent} {ck : Nat} (h : Good es ck) : Good (delE k es) ck :=
  ⟨h.keys.sublist (del_sub.map _), h.stamps.sublist (del_sub.map _), fun e he => h.lt e (del_sub.subset he)⟩
theorem keys_put {k v : Val} {ck : Nat} : ∀ {es : List Ent}, keysE (putE k v ck es) = if under k es = none then keysE es ++ [k] else keysE es
  | [] => rfl
  | (a, x, n) :: r => by
    simp only [putE, under]
    by_cases h : k = a
    · subst h; simp [keysE]
    · simp only [if_neg h]
      have := keys_put (k := k) (v := v) (ck := ck) (es := r)
      simp only [keysE, List.map_cons] at this ⊢
      rw [this]
      split <;> simp
theorem mem_put {k v : Val} {ck : Nat} {e : Ent} : ∀ {es : List Ent}, e ∈ putE k v ck es → e.2.2 = ck ∧ under k es = none ∨ ∃ e', e' ∈ es ∧ e'.2.2 = e.2.2
  | [], h => by simp [putE] at h; subst h; exact .inl ⟨rfl, rfl⟩
  | (a, x, n) :: r, h => by
    simp only [putE] at h
    by_cases hk : k = a
    · rw [if_pos hk] at h
      rcases List.mem_cons.1 h with rfl | h
      · exact .inr ⟨(a, x, n), by simp, rfl⟩
      · exact .inr ⟨e, List.mem_cons_of_mem _ h, rfl⟩
    · rw [if_neg hk] at h
      rcases List.mem_cons.1 h with rfl | h
      · exact .inr ⟨_, by simp, rfl⟩
      · rcases mem_put h with ⟨h1, h2⟩ | ⟨e', h1, h2⟩
        · exact .inl ⟨h1, by simp only [under, if_neg hk]; exact h2⟩
        · exact .inr ⟨e', List.mem_cons_of_mem _ h1, h2⟩
theorem putC_ge {k : Val} {ck : Nat} : ∀ {es : List Ent}, ck ≤ putC k ck es ∧ (under k es = none → putC k ck es = ck + 1)
  | [] => by simp [putC]
  | (a, x, n) :: r => by
    simp only [putC, under]
    by_cases h : k = a
    · simp [h]
    · simp only [if_neg h]; exact putC_ge
theorem stamps_put {k v : Val} {ck : Nat} : ∀ {es : List Ent}, (es.map fun e => e.2.2).Nodup → (∀ e, e ∈ es → e.2.2 < ck) → ((putE k v ck es).map fun e => e.2.2).Nodup
  | [], _, _ => by simp [putE]
  | (a, x, n) :: r, h, hl => by
    simp only [List.map_cons, List.nodup_cons] at h
    simp only [putE]
    split
    · simp only [List.map_cons, List.nodup_cons]; exact h
    · simp only [List.map_cons, List.nodup_cons]
      refine ⟨?_, stamps_put h.2 fun e he => hl e (List.mem_cons_of_mem _ he)⟩
      intro hm
      obtain ⟨e, he, hn⟩ := List.mem_map.1 hm
      rcases mem_put he with ⟨h1, _⟩ | ⟨e', h1, h2⟩
      · have := hl (a, x, n) (by simp)
        simp only at this hn
        omega
      · exact h.1 (List.mem_map.2 ⟨e', h1, h2.trans hn⟩)
theorem Good.put {k v : Val} {es : List Ent} {ck : Nat} (h : Good es ck) : Good (putE k v ck es) (putC k ck es) := by
  refine ⟨?_, stamps_put h.stamps h.lt, ?_⟩
  · rw [keys_put]
    split
    · rename_i hu
      rw [under_none] at hu
      rw [List.nodup_append]
      refine ⟨h.keys, by simp, ?_⟩
      intro a ha b hb
      simp only [List.mem_singleton] at hb
      subst hb
      rintro rfl
      exact hu ha
    · exact h.keys
  · intro e he
    obtain ⟨g1, g2⟩ := putC_ge (k := k) (ck := ck) (es := es)
    rcases mem_put he with ⟨h1, h2⟩ | ⟨e', h1, h2⟩
    · rw [h1, g2 h2]; exact Nat.lt_succ_self _
    · rw [← h2]; exact Nat.lt_of_lt_of_le (h.lt e' h1) g1
/-! The order of keys. -/
def aheadB (a b : Val) : Bool := if a.k ≠ b.k then decide (a.k < b.k) else if a.k = 1 then decide (a.n < b.n) else nless a.s b.s
/-- A key as it should be. -/
def Can (v : Val) : Prop := (v.k = 1 ∧ v.s = []) ∨ (v.k = 2 ∧ v.n = 0)
theorem nless_irr : ∀ x : List Nat, nless x x = false
  | [] => rfl
  | a :: x => by
    simp only [nless, nless_irr x, Bool.and_false, Bool.or_false]
    cases e : Nat.blt a a with
    | false => rfl
    | true => have := Nat.le_of_ble_eq_true e; omega
theorem nless_cons {a b : Nat} {x y : List Nat} : nless (a :: x) (b :: y) = true ↔ a < b ∨ (a = b ∧ nless x y = true) := by
  simp only [nless, Bool.or_eq_true, Bool.and_eq_true, Nat.beq_eq, ]
  constructor
  · rintro (h | h)
    · exact .inl (Nat.le_of_ble_eq_true h)
    · exact .inr h
  · rintro (h | h)
    · exact .inl (Nat.ble_eq_true_of_le h)
    · exact .inr h
theorem nless_trans : ∀ {x y z : List Nat}, nless x y = true → nless y z = true → nless x z = true
  | x, [], _, h, _ => by cases x <;> simp [nless] at h
  | _, _ :: _, [], _, h => by simp [nless] at h
  | [], _ :: _, _ :: _, _, _ => rfl
  | a :: x, b :: y, c :: z, h, k => by
    rw [nless_cons] at h k ⊢
    rcases h with h | ⟨rfl, h⟩
    · rcases k with k | ⟨rfl, k⟩
      · exact .inl (by omega)
      · exact .inl h
    · rcases k with k | ⟨rfl, k⟩
      · exact .inl k
      · exact .inr ⟨rfl, nless_trans h k⟩
theorem nless_tri : ∀ {x y : List Nat}, nless x y = false → x ≠ y → nless y x = true
  | [], [], _, h => absurd rfl h
  | [], _ :: _, h, _ => by cases h
  | _ :: _, [], _, _ => rfl
  | a :: x, b :: y, h, hn => by
    rw [nless_cons]
    have h' : ¬ (a < b ∨ (a = b ∧ nless x y = true)) := fun e => by rw [← nless_cons, h] at e; cases e
    by_cases e : a = b
    · subst e
      refine .inr ⟨rfl, nless_tri ?_ fun e => hn (by rw [e])⟩
      cases e2 : nless x y with
      | false => rfl
      | true => exact absurd (.inr ⟨rfl, e2⟩) h'
    · exact .inl (by omega)
theorem ahead_trans {a b c : Val} (h : aheadB a b = true) (k : aheadB b c = true) : aheadB a c = true := by
  unfold aheadB at h k ⊢
  by_cases e1 : a.k = b.k
  · by_cases e2 : b.k = c.k
    · rw [if_neg (by simp [e1])] at h
      rw [if_neg (by simp [e2])] at k
      rw [if_neg (by simp [e1, e2])]
      by_cases e3 : a.k = 1
      · rw [if_pos e3] at h ⊢
        rw [if_pos (by omega)] at k
        simp at h k ⊢; omega
      · rw [if_neg e3] at h ⊢
        rw [if_neg (by omega)] at k
        exact nless_trans h k
    · rw [if_pos e2] at k
      rw [if_pos (by omega)]
      simp at k ⊢; omega
  · rw [if_pos e1] at h
    by_cases e2 : b.k = c.k
    · rw [if_pos (by omega)]
      simp at h ⊢; omega
    · rw [if_pos e2] at k
      simp at h k
      rw [if_pos (by omega)]
      simp; omega
theorem ahead_tri {a b : Val} (ha : Can a) (hb : Can b) (h : aheadB a b = false) (hn : a ≠ b) : aheadB b a = true := by
  unfold aheadB at h ⊢
  obtain ⟨ak, an, at_⟩ := a
  obtain ⟨bk, bn, bs⟩ := b
  simp only [Can] at ha hb h ⊢
  by_cases e : ak = bk
  · subst e
    rw [if_neg (by simp)] at h ⊢
    rcases ha with ⟨rfl, rfl⟩ | ⟨rfl, rfl⟩
    · rcases hb with ⟨_, rfl⟩ | ⟨h2, _⟩
      · simp at h hn ⊢; omega
      · omega
    · rcases hb with ⟨h2, _⟩ | ⟨_, rfl⟩
      · omega
      · rw [if_neg (by decide)] at h ⊢
        exact nless_tri h fun e => hn (by rw [e])
  · rw [if_pos e] at h
    rw [if_pos (fun e2 => e e2.symm)]
    simp at h ⊢; omega
/-- In its place. -/
def insAt (k : Val) (l : List Val) : Nat := (l.takeWhile fun a => aheadB a k).length
def insK (k : Val) (l : List Val) : List Val := l.take (insAt k l) ++ k :: l.drop (insAt k l)
theorem insAt_le (k : Val) (l : List Val) : insAt k l ≤ l.length := (List.takeWhile_sublist _).length_le
theorem insK_perm (k : Val) (l : List Val) : (insK k l).Perm (k :: l) := by
  refine List.perm_middle.trans ?_
  rw [List.take_append_drop]
theorem insK_sorted {k : Val} : ∀ {l : List Val}, l.Pairwise (fun a b => aheadB a b = true) → (∀ a, a ∈ l → Can a ∧ a ≠ k) → Can k → (insK k l).Pairwise (fun a b => aheadB a b = true)
  | [], _, _, _ => by simp [insK, insAt]
  | a :: l, hs, hc, hk => by
    rw [List.pairwise_cons] at hs
    cases e : aheadB a k with
    | true =>
      have e1 : insK k (a :: l) = a :: insK k l := by simp [insK, insAt, List.takeWhile_cons, e]
      rw [e1, List.pairwise_cons]
      refine ⟨?_, insK_sorted hs.2 (fun b hb => hc b (List.mem_cons_of_mem _ hb)) hk⟩
      intro b hb
      rcases List.mem_cons.1 ((insK_perm k l).mem_iff.1 hb) with rfl | hb
      · exact e
      · exact hs.1 b hb
    | false =>
      have e1 : insK k (a :: l) = k :: a :: l := by simp [insK, insAt, List.takeWhile_cons, e]
      have hka := ahead_tri (hc a (by simp)).1 hk e (hc a (by simp)).2
      rw [e1, List.pairwise_cons]
      refine ⟨?_, List.pairwise_cons.2 hs⟩
      intro b hb
      rcases List.mem_cons.1 hb with rfl | hb
      · exact hka
      · exact ahead_trans hka (hs.1 b hb)
end Go.Proofs.Ytlflpjjmkigepaa

namespace Go.Proofs.Ytlflpjjmkigepaa
open Go Go.Abs
attribute [local irreducible] Cmp Rg Dw Cd Lp Ev Rdk CT Upd InK
def keyB (k : Val) : Bool := decide (k.k = 1) || decide (k.k = 2)
theorem in59 {k : Val} : PT Try.prog false 76 [valA k] (if k.k = 1 then .ifc 123 (.int .i64 k.n) else if k.k = 2 then .ifc 124 (.str k.s) else .nilifc) := by
  refine PT.of (CT.enter mixed comp76 (Nat.le_of_ble_eq_true rfl) ?_)
  by_cases h1 : k.k = 1
  · rw [if_pos h1]
    repeat' (first|refine zz ?_|(refine zv ?_;intro cv hv)|(refine za ?_;intro _)|refine zc ?_|(refine zd ?_;refine And.intro ?_ ?_<;>(intro e;(try simp only [Bool.not_eq_true',Bool.not_eq_false'] at e);subst e;try contradiction)))
    (first|refine ⟨.inr rfl,_,.t rfl .nil,?_⟩|refine ⟨.inr rfl,_,.t rfl (.t rfl .nil),?_⟩|refine ⟨.inr rfl,_,.t rfl (.t rfl (.t rfl .nil)),?_⟩|refine ⟨.inr rfl,_,.nil,?_⟩|refine ⟨.inl rfl,_,.t rfl .nil,?_⟩|refine ⟨.inl rfl,_,.nil,?_⟩|refine ⟨.inr rfl,_,.cn rfl (by exact zN) .nil,?_⟩|refine ⟨.inr rfl,_,.cn rfl (by exact zN) (.t rfl .nil),?_⟩)
    rfl
  by_cases h2 : k.k = 2
  · rw [if_neg h1, if_pos h2]
    repeat' (first|refine zz ?_|(refine zv ?_;intro cv hv)|(refine za ?_;intro _)|refine zc ?_|(refine zd ?_;refine And.intro ?_ ?_<;>(intro e;(try simp only [Bool.not_eq_true',Bool.not_eq_false'] at e);subst e;try contradiction)))
    (first|refine ⟨.inr rfl,_,.t rfl .nil,?_⟩|refine ⟨.inr rfl,_,.t rfl (.t rfl .nil),?_⟩|refine ⟨.inr rfl,_,.t rfl (.t rfl (.t rfl .nil)),?_⟩|refine ⟨.inr rfl,_,.nil,?_⟩|refine ⟨.inl rfl,_,.t rfl .nil,?_⟩|refine ⟨.inl rfl,_,.nil,?_⟩|refine ⟨.inr rfl,_,.cn rfl (by exact zN) .nil,?_⟩|refine ⟨.inr rfl,_,.cn rfl (by exact zN) (.t rfl .nil),?_⟩)
    rfl
  · rw [if_neg h1, if_neg h2]
    repeat' (first|refine zz ?_|(refine zv ?_;intro cv hv)|(refine za ?_;intro _)|refine zc ?_|(refine zd ?_;refine And.intro ?_ ?_<;>(intro e;(try simp only [Bool.not_eq_true',Bool.not_eq_false'] at e);subst e;try contradiction)))
    (first|refine ⟨.inr rfl,_,.t rfl .nil,?_⟩|refine ⟨.inr rfl,_,.t rfl (.t rfl .nil),?_⟩|refine ⟨.inr rfl,_,.t rfl (.t rfl (.t rfl .nil)),?_⟩|refine ⟨.inr rfl,_,.nil,?_⟩|refine ⟨.inl rfl,_,.t rfl .nil,?_⟩|refine ⟨.inl rfl,_,.nil,?_⟩|refine ⟨.inr rfl,_,.cn rfl (by exact zN) .nil,?_⟩|refine ⟨.inr rfl,_,.cn rfl (by exact zN) (.t rfl .nil),?_⟩)
    rfl
theorem key52 {k : Val} : PT Try.prog false 66 [valA k] (.bool (keyB k)) := by
  have k59 := in59 (k := k)
  refine PT.of (CT.enter mixed comp66 (Nat.le_of_ble_eq_true rfl) ?_)
  by_cases h1 : k.k = 1
  · rw [if_pos h1] at k59
    rw [show keyB k = true by simp [keyB, h1]]
    repeat' (first|refine zz ?_|(refine zv ?_;intro cv hv)|(refine za ?_;intro _)|refine zc ?_|(refine zd ?_;refine And.intro ?_ ?_<;>(intro e;(try simp only [Bool.not_eq_true',Bool.not_eq_false'] at e);subst e;try contradiction)))
    (first|refine ⟨.inr rfl,_,.t rfl .nil,?_⟩|refine ⟨.inr rfl,_,.t rfl (.t rfl .nil),?_⟩|refine ⟨.inr rfl,_,.t rfl (.t rfl (.t rfl .nil)),?_⟩|refine ⟨.inr rfl,_,.nil,?_⟩|refine ⟨.inl rfl,_,.t rfl .nil,?_⟩|refine ⟨.inl rfl,_,.nil,?_⟩|refine ⟨.inr rfl,_,.cn rfl (by exact zN) .nil,?_⟩|refine ⟨.inr rfl,_,.cn rfl (by exact zN) (.t rfl .nil),?_⟩)
    rfl
  by_cases h2 : k.k = 2
  · rw [if_neg h1, if_pos h2] at k59
    rw [show keyB k = true by simp [keyB, h2]]
    repeat' (first|refine zz ?_|(refine zv ?_;intro cv hv)|(refine za ?_;intro _)|refine zc ?_|(refine zd ?_;refine And.intro ?_ ?_<;>(intro e;(try simp only [Bool.not_eq_true',Bool.not_eq_false'] at e);subst e;try contradiction)))
    (first|refine ⟨.inr rfl,_,.t rfl .nil,?_⟩|refine ⟨.inr rfl,_,.t rfl (.t rfl .nil),?_⟩|refine ⟨.inr rfl,_,.t rfl (.t rfl (.t rfl .nil)),?_⟩|refine ⟨.inr rfl,_,.nil,?_⟩|refine ⟨.inl rfl,_,.t rfl .nil,?_⟩|refine ⟨.inl rfl,_,.nil,?_⟩|refine ⟨.inr rfl,_,.cn rfl (by exact zN) .nil,?_⟩|refine ⟨.inr rfl,_,.cn rfl (by exact zN) (.t rfl .nil),?_⟩)
    rfl
  · rw [if_neg h1, if_neg h2] at k59
    rw [show keyB k = false by simp [keyB, h1, h2]]
    repeat' (first|refine zz ?_|(refine zv ?_;intro cv hv)|(refine za ?_;intro _)|refine zc ?_|(refine zd ?_;refine And.intro ?_ ?_<;>(intro e;(try simp only [Bool.not_eq_true',Bool.not_eq_false'] at e);subst e;try contradiction)))
    (first|refine ⟨.inr rfl,_,.t rfl .nil,?_⟩|refine ⟨.inr rfl,_,.t rfl (.t rfl .nil),?_⟩|refine ⟨.inr rfl,_,.t rfl (.t rfl (.t rfl .nil)),?_⟩|refine ⟨.inr rfl,_,.nil,?_⟩|refine ⟨.inl rfl,_,.t rfl .nil,?_⟩|refine ⟨.inl rfl,_,.nil,?_⟩|refine ⟨.inr rfl,_,.cn rfl (by exact zN) .nil,?_⟩|refine ⟨.inr rfl,_,.cn rfl (by exact zN) (.t rfl .nil),?_⟩)
    rfl
theorem key16 {k : Val} : PT Try.prog false 53 [valA k] (.bool (keyB k)) := by
  refine PT.of (CT.enter mixed comp53 (Nat.le_of_ble_eq_true rfl) ?_)
  repeat' (first|refine zz ?_|(refine zv ?_;intro cv hv)|(refine za ?_;intro _)|refine zc ?_|(refine zd ?_;refine And.intro ?_ ?_<;>(intro e;(try simp only [Bool.not_eq_true',Bool.not_eq_false'] at e);subst e;try contradiction)))
  all_goals (first|refine ⟨.inr rfl,_,.t rfl .nil,?_⟩|refine ⟨.inr rfl,_,.t rfl (.t rfl .nil),?_⟩|refine ⟨.inr rfl,_,.t rfl (.t rfl (.t rfl .nil)),?_⟩|refine ⟨.inr rfl,_,.nil,?_⟩|refine ⟨.inl rfl,_,.t rfl .nil,?_⟩|refine ⟨.inl rfl,_,.nil,?_⟩|refine ⟨.inr rfl,_,.cn rfl (by exact zN) .nil,?_⟩|refine ⟨.inr rfl,_,.cn rfl (by exact zN) (.t rfl .nil),?_⟩)
  all_goals (refine congrArg AV.bool ?_; rw [Bool.eq_iff_iff]; simp only [keyB]; simp_all)
theorem ahead37 {a c : Val} : PT Try.prog false 50 [valA a, valA c] (.bool (aheadB a c)) := by
  refine PT.of (CT.enter mixed comp50 (Nat.le_of_ble_eq_true rfl) ?_)
  repeat' (first|refine zz ?_|(refine zv ?_;intro cv hv)|(refine za ?_;intro _)|refine zc ?_|(refine zd ?_;refine And.intro ?_ ?_<;>(intro e;(try simp only [Bool.not_eq_true',Bool.not_eq_false'] at e);subst e;try contradiction)))
  all_goals (first|refine ⟨.inr rfl,_,.t rfl .nil,?_⟩|refine ⟨.inr rfl,_,.t rfl (.t rfl .nil),?_⟩|refine ⟨.inr rfl,_,.t rfl (.t rfl (.t rfl .nil)),?_⟩|refine ⟨.inr rfl,_,.nil,?_⟩|refine ⟨.inl rfl,_,.t rfl .nil,?_⟩|refine ⟨.inl rfl,_,.nil,?_⟩|refine ⟨.inr rfl,_,.cn rfl (by exact zN) .nil,?_⟩|refine ⟨.inr rfl,_,.cn rfl (by exact zN) (.t rfl .nil),?_⟩)
  all_goals (refine congrArg AV.bool ?_; rw [Bool.eq_iff_iff]; simp only [aheadB]; simp_all)
section
variable {b room used i m ck : Nat} {s : List Nat} {vf vc : AV} {T : OS} {es : List Ent} {k : Val}
theorem table36 (hT : T.ok 1) (hi : T.rows[i]? = some [.map m]) : CT Try.prog false 49 [hP b, valA ⟨3, (i : Int), s⟩] [hB b room used (T.v 1) vf vc, T.c] fun w K' => w = .tup [.map m, .int .i64 (.ofNat 0)] ∧ K' = [hB b room used (T.v 1) vf vc, T.c] := by
  refine CT.enterS mixed comp49 (Nat.le_of_ble_eq_true rfl) ?_
  obtain ⟨id, g, e⟩ := hT.at hi
  have hl := hT.len
  have hrow := hT.row
  have hil := (List.getElem?_eq_some_iff.1 hi).1
  generalize T.rows = rows at *
  subst e
  have q1 := iadr_slc (sz := 1) (b := id) (g := g) (off := 0) (len := rows.length) (cap := rows.length) (i := i) (k := .i64) hil
  repeat' (first|(refine Rg.callM rfl there32 (.cons (.there .here) .nil) ?_; rintro _ _ ⟨rfl, rfl⟩)|refine zz ?_|(refine zv ?_;intro cv hv)|(refine za ?_;intro _)|refine zc ?_|(refine zd ?_;refine And.intro ?_ ?_<;>(intro e;(try simp only [Bool.not_eq_true',Bool.not_eq_false'] at e);subst e;try contradiction)))
  refine Dw.r rfl rfl (Rdk.cel0 (i := i) (rows := rows) (by repeat (first | exact InK.here | refine InK.there ?_)) hrow hi rfl) ?_ ?_
  · repeat (first | exact trivial | refine And.intro (Or.inl rfl) ?_ | (refine And.intro (Or.inr ?_) ?_; (focus (first | exact Rdk.i1 | assumption | (refine Rdk.in ?_; first | assumption | exact rfl) | (refine Rdk.b1 (cs := ?_) ?_ ?_; rotate_left; (repeat (first | exact InK.here | refine InK.there ?_)); exact rfl) | (refine Rdk.bw ?_ ?_; (repeat (first | exact InK.here | refine InK.there ?_)); first | assumption | exact rfl) | (refine Rdk.bw (cs := ?_) ?_ ?_; rotate_left; (repeat (first | exact InK.here | refine InK.there ?_)); first | assumption | exact rfl) | (refine Rdk.bn ?_ ?_; (repeat (first | exact InK.here | refine InK.there ?_)); exact rfl) | (refine Rdk.bn (cs := ?_) ?_ ?_; rotate_left; (repeat (first | exact InK.here | refine InK.there ?_)); exact rfl)))))
  repeat' (first|refine zz ?_|(refine zv ?_;intro cv hv)|(refine za ?_;intro _)|refine zc ?_|(refine zd ?_;refine And.intro ?_ ?_<;>(intro e;(try simp only [Bool.not_eq_true',Bool.not_eq_false'] at e);subst e;try contradiction)))
  (first|refine ⟨.inr rfl,_,.t rfl .nil,?_⟩|refine ⟨.inr rfl,_,.t rfl (.t rfl .nil),?_⟩|refine ⟨.inr rfl,_,.t rfl (.t rfl (.t rfl .nil)),?_⟩|refine ⟨.inr rfl,_,.nil,?_⟩|refine ⟨.inl rfl,_,.t rfl .nil,?_⟩|refine ⟨.inl rfl,_,.nil,?_⟩|refine ⟨.inr rfl,_,.cn rfl (by exact zN) .nil,?_⟩|refine ⟨.inr rfl,_,.cn rfl (by exact zN) (.t rfl .nil),?_⟩)
  exact ⟨_, _, .cons .here (.cons (.there .here) .nil), rfl, rfl⟩
theorem at34 (hT : T.ok 1) (hi : T.rows[i]? = some [.map m]) : CT Try.prog false 52 [hP b, valA ⟨3, (i : Int), s⟩, valA k] [hB b room used (T.v 1) vf vc, T.c] fun w K' => w = .tup [.map m, .int .i64 (.ofNat (if keyB k = true then 0 else 4))] ∧ K' = [hB b room used (T.v 1) vf vc, T.c] := by
  have k36 := table36 (b := b) (room := room) (used := used) (vf := vf) (vc := vc) (s := s) hT hi
  have k52 := key52 (k := k)
  refine CT.enterS mixed comp52 (Nat.le_of_ble_eq_true rfl) ?_
  cases hk : keyB k with
  | true =>
    rw [hk] at k52
    repeat' (first|(refine Rg.callM rfl k36 (.cons (.there (.there .here)) (.cons (.there (.there .here)) .nil)) ?_; rintro _ _ ⟨rfl, rfl⟩)|refine zz ?_|(refine zv ?_;intro cv hv)|(refine za ?_;intro _)|refine zc ?_|(refine zd ?_;refine And.intro ?_ ?_<;>(intro e;(try simp only [Bool.not_eq_true',Bool.not_eq_false'] at e);subst e;try contradiction)))
    (first|refine ⟨.inr rfl,_,.t rfl .nil,?_⟩|refine ⟨.inr rfl,_,.t rfl (.t rfl .nil),?_⟩|refine ⟨.inr rfl,_,.t rfl (.t rfl (.t rfl .nil)),?_⟩|refine ⟨.inr rfl,_,.nil,?_⟩|refine ⟨.inl rfl,_,.t rfl .nil,?_⟩|refine ⟨.inl rfl,_,.nil,?_⟩|refine ⟨.inr rfl,_,.cn rfl (by exact zN) .nil,?_⟩|refine ⟨.inr rfl,_,.cn rfl (by exact zN) (.t rfl .nil),?_⟩)
    exact ⟨_, _, .cons .here (.cons .here .nil), rfl, rfl⟩
  | false =>
    rw [hk] at k52
    repeat' (first|(refine Rg.callM rfl k36 (.cons (.there (.there .here)) (.cons (.there (.there .here)) .nil)) ?_; rintro _ _ ⟨rfl, rfl⟩)|refine zz ?_|(refine zv ?_;intro cv hv)|(refine za ?_;intro _)|refine zc ?_|(refine zd ?_;refine And.intro ?_ ?_<;>(intro e;(try simp only [Bool.not_eq_true',Bool.not_eq_false'] at e);subst e;try contradiction)))
    (first|refine ⟨.inr rfl,_,.t rfl .nil,?_⟩|refine ⟨.inr rfl,_,.t rfl (.t rfl .nil),?_⟩|refine ⟨.inr rfl,_,.t rfl (.t rfl (.t rfl .nil)),?_⟩|refine ⟨.inr rfl,_,.nil,?_⟩|refine ⟨.inl rfl,_,.t rfl .nil,?_⟩|refine ⟨.inl rfl,_,.nil,?_⟩|refine ⟨.inr rfl,_,.cn rfl (by exact zN) .nil,?_⟩|refine ⟨.inr rfl,_,.cn rfl (by exact zN) (.t rfl .nil),?_⟩)
    exact ⟨_, _, .cons .here (.cons .here .nil), rfl, rfl⟩
abbrev mC (m ck : Nat) (es : List Ent) : Chk := [(m, .map (entsA es) ck)]
abbrev v0 : Val := ⟨0, 0, []⟩
theorem get18 (hT : T.ok 1) (hi : T.rows[i]? = some [.map m]) (hk : keyB k = true) : CT Try.prog false 27 [hP b, valA ⟨3, (i : Int), s⟩, valA k] [hB b room used (T.v 1) vf vc, T.c, mC m ck es] fun w K' => w = .tup [valA (getE k v0 es), .int .i64 (.ofNat 0)] ∧ K' = [hB b room used (T.v 1) vf vc, T.c, mC m ck es] := by
  have k34 := at34 (b := b) (room := room) (used := used) (vf := vf) (vc := vc) (s := s) (k := k) hT hi
  rw [if_pos hk] at k34
  refine CT.enterS mixed comp27 (Nat.le_of_ble_eq_true rfl) ?_
  repeat' (first|(refine Rg.callM rfl k34 (.cons (.there (.there (.there .here))) (.cons (.there (.there (.there .here))) .nil)) ?_; rintro _ _ ⟨rfl, rfl⟩)|(refine Rg.r rfl rfl (Rdk.look (z := v0) (k := k) (es := es) (.there (.there (.there (.there (.there .here)))))) ?_)|refine zz ?_|(refine zv ?_;intro cv hv)|(refine za ?_;intro _)|refine zc ?_|(refine zd ?_;refine And.intro ?_ ?_<;>(intro e;(try simp only [Bool.not_eq_true',Bool.not_eq_false'] at e);subst e;try contradiction)))
  (first|refine ⟨.inr rfl,_,.t rfl .nil,?_⟩|refine ⟨.inr rfl,_,.t rfl (.t rfl .nil),?_⟩|refine ⟨.inr rfl,_,.t rfl (.t rfl (.t rfl .nil)),?_⟩|refine ⟨.inr rfl,_,.nil,?_⟩|refine ⟨.inl rfl,_,.t rfl .nil,?_⟩|refine ⟨.inl rfl,_,.nil,?_⟩|refine ⟨.inr rfl,_,.cn rfl (by exact zN) .nil,?_⟩|refine ⟨.inr rfl,_,.cn rfl (by exact zN) (.t rfl .nil),?_⟩)
  exact ⟨_, _, .cons .here (.cons .here (.cons (.there (.there (.there .here))) .nil)), rfl, rfl⟩
theorem len20 (hT : T.ok 1) (hi : T.rows[i]? = some [.map m]) : CT Try.prog false 39 [hP b, valA ⟨3, (i : Int), s⟩] [hB b room used (T.v 1) vf vc, T.c, mC m ck es] fun w K' => w = .tup [.int .i64 (.ofNat es.length), .int .i64 (.ofNat 0)] ∧ K' = [hB b room used (T.v 1) vf vc, T.c, mC m ck es] := by
  have k36 := table36 (b := b) (room := room) (used := used) (vf := vf) (vc := vc) (s := s) hT hi
  refine CT.enterS mixed comp39 (Nat.le_of_ble_eq_true rfl) ?_
  repeat' (first|(refine Rg.callM rfl k36 (.cons (.there .here) (.cons (.there .here) .nil)) ?_; rintro _ _ ⟨rfl, rfl⟩)|(refine Rg.r rfl rfl (Rdk.mlen (es := es) (.there (.there (.there .here)))) ?_)|refine zz ?_|(refine zv ?_;intro cv hv)|(refine za ?_;intro _)|refine zc ?_|(refine zd ?_;refine And.intro ?_ ?_<;>(intro e;(try simp only [Bool.not_eq_true',Bool.not_eq_false'] at e);subst e;try contradiction)))
  (first|refine ⟨.inr rfl,_,.t rfl .nil,?_⟩|refine ⟨.inr rfl,_,.t rfl (.t rfl .nil),?_⟩|refine ⟨.inr rfl,_,.t rfl (.t rfl (.t rfl .nil)),?_⟩|refine ⟨.inr rfl,_,.nil,?_⟩|refine ⟨.inl rfl,_,.t rfl .nil,?_⟩|refine ⟨.inl rfl,_,.nil,?_⟩|refine ⟨.inr rfl,_,.cn rfl (by exact zN) .nil,?_⟩|refine ⟨.inr rfl,_,.cn rfl (by exact zN) (.t rfl .nil),?_⟩)
  exact ⟨_, _, .cons .here (.cons .here (.cons (.there .here) .nil)), rfl, rfl⟩
end
end Go.Proofs.Ytlflpjjmkigepaa

namespace Go.Proofs.Ytlflpjjmkigepaa
open Go Go.Abs
attribute [local irreducible] Cmp Rg Dw Cd Lp Ev Rdk CT Upd InK
theorem delE_none {k : Val} : ∀ {es : List Ent}, under k es = none → delE k es = es
  | [], _ => rfl
  | (a, x, n) :: r, h => by
    simp only [under] at h
    split at h
    · cases h
    · rename_i e
      simp only [delE, if_neg e, delE_none h]
/-- What a map is behind a put. -/
def putM (k v : Val) (es : List Ent) (ck : Nat) : List Ent := if v.k = 0 then delE k es else putE k v ck es
def putN (k v : Val) (es : List Ent) (ck : Nat) : Nat := if v.k = 0 then ck else putC k ck es
theorem Good.putM {k v : Val} {es : List Ent} {ck : Nat} (h : Good es ck) : Good (putM k v es ck) (putN k v es ck) := by
  unfold Go.Proofs.Ytlflpjjmkigepaa.putM putN
  split
  · exact h.del
  · exact h.put
section
variable {b room used i m ck c : Nat} {s : List Nat} {vf vc : AV} {T : OS} {es : List Ent} {k v : Val}
theorem table12 (h : used < room) (hr : room ≤ 1000000) (hT : T.ok 1) (hl : T.rows.length < 10000000) : CT Try.prog false 29 [hP b] [hB b room used (T.v 1) vf vc, T.c] fun w K' => w = .tup [valA ⟨3, T.rows.length, []⟩, .int .i64 (.ofNat 0)] ∧ ∃ (T' : OS) (m : Nat), T'.ok 1 ∧ T'.rows = T.rows ++ [[.map m]] ∧ K' = [hB b room (used + 1) (T'.v 1) vf vc, T'.c, mC m 0 []] := by
  refine CT.enterS mixed comp29 (Nat.le_of_ble_eq_true rfl) ?_
  repeat' (first|(refine Rg.callM rfl (take33T h hr) (.cons (.there .here) .nil) ?_; rintro _ _ ⟨rfl, rfl⟩)|(refine Rg.a Mk.mkmap fun m => ?_)|refine zz ?_|(refine zv ?_;intro cv hv)|(refine za ?_;intro _)|refine zc ?_|(refine zd ?_;refine And.intro ?_ ?_<;>(intro e;(try simp only [Bool.not_eq_true',Bool.not_eq_false'] at e);subst e;try contradiction)))
  rename_i m _
  refine Rg.e (Ef.appO (rs := [[.map m]]) (n := 1) rfl rfl hT (by intro r hr; simp at hr; subst hr; rfl) (.there (.there (.there (.there .here)))) rfl (by decide) (Rw.slc (InK.there InK.here) (Nat.le_refl _) (Nat.le_refl _) rfl) (by simp only [lim]; omega)) ?_
  rintro _ _ ⟨T', hT', hr2, rfl, rfl⟩
  have hl2 := hT'.len
  rw [hr2, List.length_append, List.length_singleton] at hl2
  repeat' (first|refine zz ?_|(refine zv ?_;intro cv hv)|(refine za ?_;intro _)|refine zc ?_|(refine zd ?_;refine And.intro ?_ ?_<;>(intro e;(try simp only [Bool.not_eq_true',Bool.not_eq_false'] at e);subst e;try contradiction)))
  refine Rg.e (Ef.store1 rfl rfl (T'.one 1) (.there (.there (.there Upd.here))) (Nat.le_of_ble_eq_true rfl)) ?_
  rintro _ _ ⟨rfl, rfl⟩
  repeat' (first|refine zz ?_|(refine zv ?_;intro cv hv)|(refine za ?_;intro _)|refine zc ?_|(refine zd ?_;refine And.intro ?_ ?_<;>(intro e;(try simp only [Bool.not_eq_true',Bool.not_eq_false'] at e);subst e;try contradiction)))
  (first|refine ⟨.inr rfl,_,.t rfl .nil,?_⟩|refine ⟨.inr rfl,_,.t rfl (.t rfl .nil),?_⟩|refine ⟨.inr rfl,_,.t rfl (.t rfl (.t rfl .nil)),?_⟩|refine ⟨.inr rfl,_,.nil,?_⟩|refine ⟨.inl rfl,_,.t rfl .nil,?_⟩|refine ⟨.inl rfl,_,.nil,?_⟩|refine ⟨.inr rfl,_,.cn rfl (by exact zN) .nil,?_⟩|refine ⟨.inr rfl,_,.cn rfl (by exact zN) (.t rfl .nil),?_⟩)
  exact ⟨_, _, .cons (.there (.there (.there .here))) (.cons .here (.cons (.there .here) .nil)), rfl, T', m, hT', hr2, rfl⟩
theorem put14 (hT : T.ok 1) (hi : T.rows[i]? = some [.map m]) (hk : keyB k = true) (hfit : es.length + c < room) (hr : room ≤ 1000000) : CT Try.prog false 30 [hP b, valA ⟨3, (i : Int), s⟩, valA k, valA v] [hB b room (es.length + c) (T.v 1) vf vc, T.c, mC m ck es]
    fun w K' => w = .int .i64 (.ofNat 0) ∧ K' = [hB b room ((putM k v es ck).length + c) (T.v 1) vf vc, T.c, mC m (putN k v es ck) (putM k v es ck)] := by
  have k34 := at34 (b := b) (room := room) (used := es.length + c) (vf := vf) (vc := vc) (s := s) (k := k) hT hi
  rw [if_pos hk] at k34
  refine CT.enterS mixed comp30 (Nat.le_of_ble_eq_true rfl) ?_
  have lk := fun K h => Rdk.lookk (K := K) (m := m) (ck := ck) (es := es) (k := k) (z := v0) h
  by_cases h0 : v.k = 0
  · rw [putM, putN, if_pos h0, if_pos h0]
    cases hu : under k es with
    | none =>
      simp only [hu, Option.isSome_none] at lk
      rw [delE_none hu]
      repeat' (first|(refine Rg.callM rfl k34 (.cons (.there (.there (.there .here))) (.cons (.there (.there (.there .here))) .nil)) ?_; rintro _ _ ⟨rfl, rfl⟩)|(refine Rg.r rfl rfl (lk _ (.there (.there (.there (.there (.there .here)))))) ?_)|refine zz ?_|(refine zv ?_;intro cv hv)|(refine za ?_;intro _)|refine zc ?_|(refine zd ?_;refine And.intro ?_ ?_<;>(intro e;(try simp only [Bool.not_eq_true',Bool.not_eq_false'] at e);subst e;try contradiction)))
      (first|refine ⟨.inr rfl,_,.t rfl .nil,?_⟩|refine ⟨.inr rfl,_,.t rfl (.t rfl .nil),?_⟩|refine ⟨.inr rfl,_,.t rfl (.t rfl (.t rfl .nil)),?_⟩|refine ⟨.inr rfl,_,.nil,?_⟩|refine ⟨.inl rfl,_,.t rfl .nil,?_⟩|refine ⟨.inl rfl,_,.nil,?_⟩|refine ⟨.inr rfl,_,.cn rfl (by exact zN) .nil,?_⟩|refine ⟨.inr rfl,_,.cn rfl (by exact zN) (.t rfl .nil),?_⟩)
      exact ⟨_, _, .cons (.there .here) (.cons (.there .here) (.cons (.there (.there (.there (.there .here)))) .nil)), rfl, rfl⟩
    | some p =>
      simp only [hu, Option.isSome_some] at lk
      have hd := delE_len k es
      rw [hu] at hd
      simp at hd
      repeat' (first|(refine Rg.callM rfl k34 (.cons (.there (.there (.there .here))) (.cons (.there (.there (.there .here))) .nil)) ?_; rintro _ _ ⟨rfl, rfl⟩)|(refine Rg.r rfl rfl (lk _ (.there (.there (.there (.there (.there .here)))))) ?_)|refine zz ?_|(refine zv ?_;intro cv hv)|(refine za ?_;intro _)|refine zc ?_|(refine zd ?_;refine And.intro ?_ ?_<;>(intro e;(try simp only [Bool.not_eq_true',Bool.not_eq_false'] at e);subst e;try contradiction)))
      refine Rg.e (Ef.mdel (k := k) (es := es) rfl rfl (.there (.there (.there (.there (.there (.there Upd.here))))))) ?_
      rintro _ _ ⟨rfl, rfl⟩
      repeat' (first|refine zz ?_|(refine zv ?_;intro cv hv)|(refine za ?_;intro _)|refine zc ?_|(refine zd ?_;refine And.intro ?_ ?_<;>(intro e;(try simp only [Bool.not_eq_true',Bool.not_eq_false'] at e);subst e;try contradiction)))
      (first|refine ⟨.inr rfl,_,.t rfl .nil,?_⟩|refine ⟨.inr rfl,_,.t rfl (.t rfl .nil),?_⟩|refine ⟨.inr rfl,_,.t rfl (.t rfl (.t rfl .nil)),?_⟩|refine ⟨.inr rfl,_,.nil,?_⟩|refine ⟨.inl rfl,_,.t rfl .nil,?_⟩|refine ⟨.inl rfl,_,.nil,?_⟩|refine ⟨.inr rfl,_,.cn rfl (by exact zN) .nil,?_⟩|refine ⟨.inr rfl,_,.cn rfl (by exact zN) (.t rfl .nil),?_⟩)
      rw [show (delE k es).length + c = es.length + c - 1 by omega]
      exact ⟨_, _, .cons (.there .here) (.cons (.there .here) (.cons (.there (.there (.there (.there .here)))) .nil)), rfl, rfl⟩
  · rw [putM, putN, if_neg h0, if_neg h0]
    have hp := putE_len k v ck es
    cases hu : under k es with
    | none =>
      simp only [hu, Option.isSome_none] at lk
      rw [hu, if_pos rfl] at hp
      repeat' (first|(refine Rg.callM rfl k34 (.cons (.there (.there (.there .here))) (.cons (.there (.there (.there .here))) .nil)) ?_; rintro _ _ ⟨rfl, rfl⟩)|(refine Rg.r rfl rfl (lk _ (.there (.there (.there (.there (.there .here)))))) ?_)|(refine Rg.callM rfl (take33T hfit hr) (.cons (.there .here) .nil) ?_; rintro _ _ ⟨rfl, rfl⟩)|refine zz ?_|(refine zv ?_;intro cv hv)|(refine za ?_;intro _)|refine zc ?_|(refine zd ?_;refine And.intro ?_ ?_<;>(intro e;(try simp only [Bool.not_eq_true',Bool.not_eq_false'] at e);subst e;try contradiction)))
      refine Rg.e (Ef.mupd (k := k) (v := v) (es := es) rfl rfl rfl (.there (.there (.there (.there (.there (.there Upd.here))))))) ?_
      rintro _ _ ⟨rfl, rfl⟩
      repeat' (first|refine zz ?_|(refine zv ?_;intro cv hv)|(refine za ?_;intro _)|refine zc ?_|(refine zd ?_;refine And.intro ?_ ?_<;>(intro e;(try simp only [Bool.not_eq_true',Bool.not_eq_false'] at e);subst e;try contradiction)))
      (first|refine ⟨.inr rfl,_,.t rfl .nil,?_⟩|refine ⟨.inr rfl,_,.t rfl (.t rfl .nil),?_⟩|refine ⟨.inr rfl,_,.t rfl (.t rfl (.t rfl .nil)),?_⟩|refine ⟨.inr rfl,_,.nil,?_⟩|refine ⟨.inl rfl,_,.t rfl .nil,?_⟩|refine ⟨.inl rfl,_,.nil,?_⟩|refine ⟨.inr rfl,_,.cn rfl (by exact zN) .nil,?_⟩|refine ⟨.inr rfl,_,.cn rfl (by exact zN) (.t rfl .nil),?_⟩)
      rw [show (putE k v ck es).length + c = es.length + c + 1 by omega]
      exact ⟨_, _, .cons .here (.cons (.there .here) (.cons (.there (.there (.there (.there .here)))) .nil)), rfl, rfl⟩
    | some p =>
      simp only [hu, Option.isSome_some] at lk
      rw [hu] at hp
      simp at hp
      repeat' (first|(refine Rg.callM rfl k34 (.cons (.there (.there (.there .here))) (.cons (.there (.there (.there .here))) .nil)) ?_; rintro _ _ ⟨rfl, rfl⟩)|(refine Rg.r rfl rfl (lk _ (.there (.there (.there (.there (.there .here)))))) ?_)|refine zz ?_|(refine zv ?_;intro cv hv)|(refine za ?_;intro _)|refine zc ?_|(refine zd ?_;refine And.intro ?_ ?_<;>(intro e;(try simp only [Bool.not_eq_true',Bool.not_eq_false'] at e);subst e;try contradiction)))
      refine Rg.e (Ef.mupd (k := k) (v := v) (es := es) rfl rfl rfl (.there (.there (.there (.there (.there (.there Upd.here))))))) ?_
      rintro _ _ ⟨rfl, rfl⟩
      repeat' (first|refine zz ?_|(refine zv ?_;intro cv hv)|(refine za ?_;intro _)|refine zc ?_|(refine zd ?_;refine And.intro ?_ ?_<;>(intro e;(try simp only [Bool.not_eq_true',Bool.not_eq_false'] at e);subst e;try contradiction)))
      (first|refine ⟨.inr rfl,_,.t rfl .nil,?_⟩|refine ⟨.inr rfl,_,.t rfl (.t rfl .nil),?_⟩|refine ⟨.inr rfl,_,.t rfl (.t rfl (.t rfl .nil)),?_⟩|refine ⟨.inr rfl,_,.nil,?_⟩|refine ⟨.inl rfl,_,.t rfl .nil,?_⟩|refine ⟨.inl rfl,_,.nil,?_⟩|refine ⟨.inr rfl,_,.cn rfl (by exact zN) .nil,?_⟩|refine ⟨.inr rfl,_,.cn rfl (by exact zN) (.t rfl .nil),?_⟩)
      rw [hp]
      exact ⟨_, _, .cons (.there .here) (.cons (.there .here) (.cons (.there (.there (.there (.there .here)))) .nil)), rfl, rfl⟩
end
end Go.Proofs.Ytlflpjjmkigepaa
