/- Scalars out of bytes: both layers. -/
import Derived.Test.YtlflpjjmkigepaaPlnD
set_option autoImplicit false
set_option maxRecDepth 100000
set_option maxHeartbeats 4000000
set_option linter.unusedVariables false
set_option linter.unusedSimpArgs false
namespace Go.Proofs.Ytlflpjjmkigepaa
open Go Go.Abs
attribute [local irreducible] Cmp Rg Dw Cd Lp Ev Rdk CT Upd InK
theorem int31 {n : Int} : PT Try.prog false 31 [.int .i64 n] (valA ⟨1, n, []⟩) := by
  refine PT.of (CT.enter mixed comp31 (Nat.le_of_ble_eq_true rfl) ?_)
  repeat' (first|refine zz ?_|(refine zw ?_;refine And.intro ?_ ?_<;>intro hc)|(refine zv ?_;intro cv hv)|(refine za ?_;intro _)|refine zc ?_|(refine zd ?_;refine And.intro ?_ ?_<;>(intro e;(try simp only [Bool.not_eq_true',Bool.not_eq_false'] at e);subst e;try contradiction)))
  (first|refine ⟨.inr rfl,_,.t rfl .nil,?_⟩|refine ⟨.inr rfl,_,.t rfl (.t rfl .nil),?_⟩|refine ⟨.inr rfl,_,.t rfl (.t rfl (.t rfl .nil)),?_⟩|refine ⟨.inr rfl,_,.nil,?_⟩|refine ⟨.inl rfl,_,.t rfl .nil,?_⟩|refine ⟨.inl rfl,_,.nil,?_⟩|refine ⟨.inr rfl,_,.cn rfl (by exact zN) .nil,?_⟩|refine ⟨.inr rfl,_,.cn rfl (by exact zN) (.t rfl .nil),?_⟩)
  rfl
theorem text32 {s : List Nat} : PT Try.prog false 32 [.str s] (valA ⟨2, 0, s⟩) := by
  refine PT.of (CT.enter mixed comp32 (Nat.le_of_ble_eq_true rfl) ?_)
  repeat' (first|refine zz ?_|(refine zw ?_;refine And.intro ?_ ?_<;>intro hc)|(refine zv ?_;intro cv hv)|(refine za ?_;intro _)|refine zc ?_|(refine zd ?_;refine And.intro ?_ ?_<;>(intro e;(try simp only [Bool.not_eq_true',Bool.not_eq_false'] at e);subst e;try contradiction)))
  (first|refine ⟨.inr rfl,_,.t rfl .nil,?_⟩|refine ⟨.inr rfl,_,.t rfl (.t rfl .nil),?_⟩|refine ⟨.inr rfl,_,.t rfl (.t rfl (.t rfl .nil)),?_⟩|refine ⟨.inr rfl,_,.nil,?_⟩|refine ⟨.inl rfl,_,.t rfl .nil,?_⟩|refine ⟨.inl rfl,_,.nil,?_⟩|refine ⟨.inr rfl,_,.cn rfl (by exact zN) .nil,?_⟩|refine ⟨.inr rfl,_,.cn rfl (by exact zN) (.t rfl .nil),?_⟩)
  rfl
def readA (s : List Nat) (a : Nat) : AV := match rdS s a with
  | some (v, to) => .tup [valA v, .int .i64 (.ofNat to)]
  | none => .tup [valA v0, .int .i64 (.negSucc 0)]
section
variable {s : List Nat} {a : Nat}
theorem rdS_no (h : s.length ≤ a) : rdS s a = none := by
  unfold rdS; rw [List.getElem?_eq_none h]
theorem rdS_0 (h : s[a]? = some 0) : rdS s a = some (v0, a + 1) := by
  unfold rdS; rw [h]; rfl
theorem rdS_1 (h : s[a]? = some 1) : rdS s a = if a + 9 ≤ s.length then some (⟨1, i64 (deB (sgm s (a + 1) (a + 9))), []⟩, a + 9) else none := by
  unfold rdS; rw [h]; rfl
theorem rdS_2 (h : s[a]? = some 2) : rdS s a = if a + 5 ≤ s.length then
      if a + 5 + deB (sgm s (a + 1) (a + 5)) ≤ s.length ∧ deB (sgm s (a + 1) (a + 5)) ≤ 1024 then
        some (⟨2, 0, sgm s (a + 5) (a + 5 + deB (sgm s (a + 1) (a + 5)))⟩, a + 5 + deB (sgm s (a + 1) (a + 5))) else none
    else none := by
  unfold rdS; rw [h]; rfl
theorem rdS_x {x : Nat} (h : s[a]? = some x) (h0 : x ≠ 0) (h1 : x ≠ 1) (h2 : x ≠ 2) : rdS s a = none := by
  unfold rdS; rw [h]
  split <;> simp_all
theorem nlit {x n : Nat} (h : x ≠ n) : abin .eql (.int .u8 (.ofNat x)) (.int .u8 (.ofNat n)) = some (.bool false) := by
  have e : abin .eql (.int .u8 (.ofNat x)) (.int .u8 (.ofNat n)) = some (.bool (ieq (.ofNat x) (.ofNat n))) := rfl
  rw [e, ieq_dec, decide_eq_false fun e => h (Int.ofNat.inj e)]
theorem read63 (hs : ∀ x, x ∈ s → x < 256) (hl : s.length ≤ 100000) (ha : a ≤ 100000) : PT Try.prog false 63 [.str s, .int .i64 (.ofNat a)] (readA s a) := by
  refine PT.of (CT.enter mixed comp63 (Nat.le_of_ble_eq_true rfl) ?_)
  unfold readA
  by_cases h : a < s.length
  · have hx : s[a]? = some s[a] := List.getElem?_eq_getElem h
    generalize s[a] = x at hx
    have q1 := idxs_at (k := .i64) hx
    by_cases h0 : x = 0
    · subst h0
      rw [rdS_0 hx]
      repeat' (first|refine zz ?_|(refine zw ?_;refine And.intro ?_ ?_<;>intro hc)|(refine zv ?_;intro cv hv)|(refine za ?_;intro _)|refine zc ?_|(refine zd ?_;refine And.intro ?_ ?_<;>(intro e;(try simp only [Bool.not_eq_true',Bool.not_eq_false'] at e);subst e;try contradiction)))
      (first|refine ⟨.inr rfl,_,.t rfl .nil,?_⟩|refine ⟨.inr rfl,_,.t rfl (.t rfl .nil),?_⟩|refine ⟨.inr rfl,_,.t rfl (.t rfl (.t rfl .nil)),?_⟩|refine ⟨.inr rfl,_,.nil,?_⟩|refine ⟨.inl rfl,_,.t rfl .nil,?_⟩|refine ⟨.inl rfl,_,.nil,?_⟩|refine ⟨.inr rfl,_,.cn rfl (by exact zN) .nil,?_⟩|refine ⟨.inr rfl,_,.cn rfl (by exact zN) (.t rfl .nil),?_⟩)
      rfl
    have n0 := nlit h0
    by_cases h1 : x = 1
    · subst h1
      have k := get64 (a := a + 1) (w := 8) hs (by omega) (by omega) (by omega)
      rw [show a + 1 + 8 = a + 9 by omega] at k
      rw [rdS_1 hx]
      have k31 := int31 (n := i64 (deB (sgm s (a + 1) (a + 9))))
      by_cases h9 : a + 9 ≤ s.length
      · rw [if_pos h9] at k
        rw [if_pos h9]
        repeat' (first|refine zz ?_|(refine zw ?_;refine And.intro ?_ ?_<;>intro hc)|(refine zv ?_;intro cv hv)|(refine za ?_;intro _)|refine zc ?_|(refine zd ?_;refine And.intro ?_ ?_<;>(intro e;(try simp only [Bool.not_eq_true',Bool.not_eq_false'] at e);subst e;try contradiction)))
        (first|refine ⟨.inr rfl,_,.t rfl .nil,?_⟩|refine ⟨.inr rfl,_,.t rfl (.t rfl .nil),?_⟩|refine ⟨.inr rfl,_,.t rfl (.t rfl (.t rfl .nil)),?_⟩|refine ⟨.inr rfl,_,.nil,?_⟩|refine ⟨.inl rfl,_,.t rfl .nil,?_⟩|refine ⟨.inl rfl,_,.nil,?_⟩|refine ⟨.inr rfl,_,.cn rfl (by exact zN) .nil,?_⟩|refine ⟨.inr rfl,_,.cn rfl (by exact zN) (.t rfl .nil),?_⟩)
        rfl
      · rw [if_neg h9] at k
        rw [if_neg h9]
        repeat' (first|refine zz ?_|(refine zw ?_;refine And.intro ?_ ?_<;>intro hc)|(refine zv ?_;intro cv hv)|(refine za ?_;intro _)|refine zc ?_|(refine zd ?_;refine And.intro ?_ ?_<;>(intro e;(try simp only [Bool.not_eq_true',Bool.not_eq_false'] at e);subst e;try contradiction)))
        (first|refine ⟨.inr rfl,_,.t rfl .nil,?_⟩|refine ⟨.inr rfl,_,.t rfl (.t rfl .nil),?_⟩|refine ⟨.inr rfl,_,.t rfl (.t rfl (.t rfl .nil)),?_⟩|refine ⟨.inr rfl,_,.nil,?_⟩|refine ⟨.inl rfl,_,.t rfl .nil,?_⟩|refine ⟨.inl rfl,_,.nil,?_⟩|refine ⟨.inr rfl,_,.cn rfl (by exact zN) .nil,?_⟩|refine ⟨.inr rfl,_,.cn rfl (by exact zN) (.t rfl .nil),?_⟩)
        rfl
    have n1 := nlit h1
    by_cases h2 : x = 2
    · subst h2
      have k := next75 (a := a + 1) hs (by omega) (by omega)
      unfold nextA at k
      rw [show a + 1 + 4 = a + 5 by omega] at k
      rw [rdS_2 hx]
      generalize hn : deB (sgm s (a + 1) (a + 5)) = n at *
      have k32 := text32 (s := sgm s (a + 5) (a + 5 + n))
      by_cases h5 : a + 5 ≤ s.length ∧ a + 5 + n ≤ s.length
      · rw [if_pos h5] at k
        rw [if_pos h5.1]
        have hsl := seg_len (s := s) (a := a + 5) (b := a + 5 + n) h5.2
        by_cases h6 : n ≤ 1024
        · rw [if_pos ⟨h5.2, h6⟩]
          repeat' (first|refine zz ?_|(refine zw ?_;refine And.intro ?_ ?_<;>intro hc)|(refine zv ?_;intro cv hv)|(refine za ?_;intro _)|refine zc ?_|(refine zd ?_;refine And.intro ?_ ?_<;>(intro e;(try simp only [Bool.not_eq_true',Bool.not_eq_false'] at e);subst e;try contradiction)))
          all_goals (first|refine ⟨.inr rfl,_,.t rfl .nil,?_⟩|refine ⟨.inr rfl,_,.t rfl (.t rfl .nil),?_⟩|refine ⟨.inr rfl,_,.t rfl (.t rfl (.t rfl .nil)),?_⟩|refine ⟨.inr rfl,_,.nil,?_⟩|refine ⟨.inl rfl,_,.t rfl .nil,?_⟩|refine ⟨.inl rfl,_,.nil,?_⟩|refine ⟨.inr rfl,_,.cn rfl (by exact zN) .nil,?_⟩|refine ⟨.inr rfl,_,.cn rfl (by exact zN) (.t rfl .nil),?_⟩)
          all_goals rfl
        · rw [if_neg (by omega)]
          repeat' (first|refine zz ?_|(refine zw ?_;refine And.intro ?_ ?_<;>intro hc)|(refine zv ?_;intro cv hv)|(refine za ?_;intro _)|refine zc ?_|(refine zd ?_;refine And.intro ?_ ?_<;>(intro e;(try simp only [Bool.not_eq_true',Bool.not_eq_false'] at e);subst e;try contradiction)))
          all_goals (first|refine ⟨.inr rfl,_,.t rfl .nil,?_⟩|refine ⟨.inr rfl,_,.t rfl (.t rfl .nil),?_⟩|refine ⟨.inr rfl,_,.t rfl (.t rfl (.t rfl .nil)),?_⟩|refine ⟨.inr rfl,_,.nil,?_⟩|refine ⟨.inl rfl,_,.t rfl .nil,?_⟩|refine ⟨.inl rfl,_,.nil,?_⟩|refine ⟨.inr rfl,_,.cn rfl (by exact zN) .nil,?_⟩|refine ⟨.inr rfl,_,.cn rfl (by exact zN) (.t rfl .nil),?_⟩)
          all_goals rfl
      · rw [if_neg h5] at k
        have e : (if a + 5 ≤ s.length then if a + 5 + n ≤ s.length ∧ n ≤ 1024 then some (({ k := 2, n := 0, s := sgm s (a + 5) (a + 5 + n) } : Val), a + 5 + n) else none else none) = none := by
          split
          · rw [if_neg (by omega)]
          · rfl
        rw [e]
        repeat' (first|refine zz ?_|(refine zw ?_;refine And.intro ?_ ?_<;>intro hc)|(refine zv ?_;intro cv hv)|(refine za ?_;intro _)|refine zc ?_|(refine zd ?_;refine And.intro ?_ ?_<;>(intro e;(try simp only [Bool.not_eq_true',Bool.not_eq_false'] at e);subst e;try contradiction)))
        (first|refine ⟨.inr rfl,_,.t rfl .nil,?_⟩|refine ⟨.inr rfl,_,.t rfl (.t rfl .nil),?_⟩|refine ⟨.inr rfl,_,.t rfl (.t rfl (.t rfl .nil)),?_⟩|refine ⟨.inr rfl,_,.nil,?_⟩|refine ⟨.inl rfl,_,.t rfl .nil,?_⟩|refine ⟨.inl rfl,_,.nil,?_⟩|refine ⟨.inr rfl,_,.cn rfl (by exact zN) .nil,?_⟩|refine ⟨.inr rfl,_,.cn rfl (by exact zN) (.t rfl .nil),?_⟩)
        rfl
    have n2 := nlit h2
    rw [rdS_x hx h0 h1 h2]
    repeat' (first|refine zz ?_|(refine zw ?_;refine And.intro ?_ ?_<;>intro hc)|(refine zv ?_;intro cv hv)|(refine za ?_;intro _)|refine zc ?_|(refine zd ?_;refine And.intro ?_ ?_<;>(intro e;(try simp only [Bool.not_eq_true',Bool.not_eq_false'] at e);subst e;try contradiction)))
    (first|refine ⟨.inr rfl,_,.t rfl .nil,?_⟩|refine ⟨.inr rfl,_,.t rfl (.t rfl .nil),?_⟩|refine ⟨.inr rfl,_,.t rfl (.t rfl (.t rfl .nil)),?_⟩|refine ⟨.inr rfl,_,.nil,?_⟩|refine ⟨.inl rfl,_,.t rfl .nil,?_⟩|refine ⟨.inl rfl,_,.nil,?_⟩|refine ⟨.inr rfl,_,.cn rfl (by exact zN) .nil,?_⟩|refine ⟨.inr rfl,_,.cn rfl (by exact zN) (.t rfl .nil),?_⟩)
    rfl
  · rw [rdS_no (by omega)]
    repeat' (first|refine zz ?_|(refine zw ?_;refine And.intro ?_ ?_<;>intro hc)|(refine zv ?_;intro cv hv)|(refine za ?_;intro _)|refine zc ?_|(refine zd ?_;refine And.intro ?_ ?_<;>(intro e;(try simp only [Bool.not_eq_true',Bool.not_eq_false'] at e);subst e;try contradiction)))
    (first|refine ⟨.inr rfl,_,.t rfl .nil,?_⟩|refine ⟨.inr rfl,_,.t rfl (.t rfl .nil),?_⟩|refine ⟨.inr rfl,_,.t rfl (.t rfl (.t rfl .nil)),?_⟩|refine ⟨.inr rfl,_,.nil,?_⟩|refine ⟨.inl rfl,_,.t rfl .nil,?_⟩|refine ⟨.inl rfl,_,.nil,?_⟩|refine ⟨.inr rfl,_,.cn rfl (by exact zN) .nil,?_⟩|refine ⟨.inr rfl,_,.cn rfl (by exact zN) (.t rfl .nil),?_⟩)
    rfl
abbrev b3 (b : Nat) (v : Val) : Chk := [(b, .cells (valR v) 0 0 false)]
/-- A reader in memory. -/
abbrev rdC (rd : Nat) (s : List Nat) (a : Nat) (left : Int) (nd : Nat) (tf pf : AV) : Chk := [(rd, .cells [.str s, .int .i64 (.ofNat a), .int .i64 left, .int .i64 (.ofNat nd), tf, pf] 0 0 false)]
abbrev rdP (rd : Nat) : AV := .ptr rd 0 0 6
variable {rd nd : Nat} {left : Int} {tf pf : AV}
theorem num71 (hs : ∀ x, x ∈ s → x < 256) (hl : s.length ≤ 100000) (ha : a ≤ 100000) {w : Nat} (hw : w = 1 ∨ w = 2 ∨ w = 4 ∨ w = 8) : CT Try.prog false 71 [rdP rd, .int .i64 (.ofNat w)] [rdC rd s a left nd tf pf]
    fun v K' => if a + w ≤ s.length then v = .tup [.int .i64 (i64 (deB (sgm s a (a + w)))), .bool true] ∧ K' = [rdC rd s (a + w) left nd tf pf] else v = .tup [.int .i64 (.ofNat 0), .bool false] ∧ K' = [rdC rd s a left nd tf pf] := by
  have k := get81 (a := a) (w := w) hs (by omega) (by omega) hw
  refine CT.enterS mixed comp71 (Nat.le_of_ble_eq_true rfl) ?_
  by_cases h : a + w ≤ s.length
  · rw [if_pos h] at k
    clear hw
    simp only [if_pos h]
    repeat' (first|refine zz ?_|(refine zw ?_;refine And.intro ?_ ?_<;>intro hc)|(refine zv ?_;intro cv hv)|(refine za ?_;intro _)|refine zc ?_|(refine zd ?_;refine And.intro ?_ ?_<;>(intro e;(try simp only [Bool.not_eq_true',Bool.not_eq_false'] at e);subst e;try contradiction)))
    (first|refine ⟨.inr rfl,_,.t rfl .nil,?_⟩|refine ⟨.inr rfl,_,.t rfl (.t rfl .nil),?_⟩|refine ⟨.inr rfl,_,.t rfl (.t rfl (.t rfl .nil)),?_⟩|refine ⟨.inr rfl,_,.nil,?_⟩|refine ⟨.inl rfl,_,.t rfl .nil,?_⟩|refine ⟨.inl rfl,_,.nil,?_⟩|refine ⟨.inr rfl,_,.cn rfl (by exact zN) .nil,?_⟩|refine ⟨.inr rfl,_,.cn rfl (by exact zN) (.t rfl .nil),?_⟩)
    exact ⟨_, _, (.cons (.here) (.nil)), rfl, rfl⟩
  · rw [if_neg h] at k
    clear hw
    simp only [if_neg h]
    repeat' (first|refine zz ?_|(refine zw ?_;refine And.intro ?_ ?_<;>intro hc)|(refine zv ?_;intro cv hv)|(refine za ?_;intro _)|refine zc ?_|(refine zd ?_;refine And.intro ?_ ?_<;>(intro e;(try simp only [Bool.not_eq_true',Bool.not_eq_false'] at e);subst e;try contradiction)))
    (first|refine ⟨.inr rfl,_,.t rfl .nil,?_⟩|refine ⟨.inr rfl,_,.t rfl (.t rfl .nil),?_⟩|refine ⟨.inr rfl,_,.t rfl (.t rfl (.t rfl .nil)),?_⟩|refine ⟨.inr rfl,_,.nil,?_⟩|refine ⟨.inl rfl,_,.t rfl .nil,?_⟩|refine ⟨.inl rfl,_,.nil,?_⟩|refine ⟨.inr rfl,_,.cn rfl (by exact zN) .nil,?_⟩|refine ⟨.inr rfl,_,.cn rfl (by exact zN) (.t rfl .nil),?_⟩)
    exact ⟨_, _, (.cons (.here) (.nil)), rfl, rfl⟩
/-- What is read behind what stands ahead of a value. -/
theorem scalar72 (hs : ∀ x, x ∈ s → x < 256) (hl : s.length ≤ 100000) {x : Nat} (hx : s[a]? = some x) : CT Try.prog false 72 [rdP rd, .int .i64 (.ofNat x)] [rdC rd s (a + 1) left nd tf pf]
    fun w K' => (∃ v to, rdS s a = some (v, to) ∧ w = .tup [valA v, .bool true] ∧ K' = [rdC rd s to left nd tf pf]) ∨ (rdS s a = none ∧ ∃ v a2, w = .tup [valA v, .bool false] ∧ K' = [rdC rd s a2 left nd tf pf]) := by
  have hal : a < s.length := (List.getElem?_eq_some_iff.1 hx).1
  refine CT.enterS mixed comp72 (Nat.le_of_ble_eq_true rfl) ?_
  by_cases h0 : x = 0
  · subst h0
    repeat' (first|refine zz ?_|(refine zw ?_;refine And.intro ?_ ?_<;>intro hc)|(refine zv ?_;intro cv hv)|(refine za ?_;intro _)|refine zc ?_|(refine zd ?_;refine And.intro ?_ ?_<;>(intro e;(try simp only [Bool.not_eq_true',Bool.not_eq_false'] at e);subst e;try contradiction)))
    (first|refine ⟨.inr rfl,_,.t rfl .nil,?_⟩|refine ⟨.inr rfl,_,.t rfl (.t rfl .nil),?_⟩|refine ⟨.inr rfl,_,.t rfl (.t rfl (.t rfl .nil)),?_⟩|refine ⟨.inr rfl,_,.nil,?_⟩|refine ⟨.inl rfl,_,.t rfl .nil,?_⟩|refine ⟨.inl rfl,_,.nil,?_⟩|refine ⟨.inr rfl,_,.cn rfl (by exact zN) .nil,?_⟩|refine ⟨.inr rfl,_,.cn rfl (by exact zN) (.t rfl .nil),?_⟩)
    exact ⟨_, _, (.cons (.there (.here)) (.nil)), .inl ⟨_, _, rdS_0 hx, rfl, rfl⟩⟩
  by_cases h1 : x = 1
  · subst h1
    have k := num71 (a := a + 1) (w := 8) (rd := rd) (left := left) (nd := nd) (tf := tf) (pf := pf) hs hl (by omega) (by omega)
    rw [show a + 1 + 8 = a + 9 by omega] at k
    have hr := rdS_1 hx
    by_cases h9 : a + 9 ≤ s.length
    · simp only [if_pos h9] at k
      rw [if_pos h9] at hr
      repeat' (first|(refine Rg.callM rfl k (.cons (.there (.here)) (.nil)) ?_; rintro _ _ ⟨rfl, rfl⟩)|refine zz ?_|(refine zw ?_;refine And.intro ?_ ?_<;>intro hc)|(refine zv ?_;intro cv hv)|(refine za ?_;intro _)|refine zc ?_|(refine zd ?_;refine And.intro ?_ ?_<;>(intro e;(try simp only [Bool.not_eq_true',Bool.not_eq_false'] at e);subst e;try contradiction)))
      (first|refine ⟨.inr rfl,_,.t rfl .nil,?_⟩|refine ⟨.inr rfl,_,.t rfl (.t rfl .nil),?_⟩|refine ⟨.inr rfl,_,.t rfl (.t rfl (.t rfl .nil)),?_⟩|refine ⟨.inr rfl,_,.nil,?_⟩|refine ⟨.inl rfl,_,.t rfl .nil,?_⟩|refine ⟨.inl rfl,_,.nil,?_⟩|refine ⟨.inr rfl,_,.cn rfl (by exact zN) .nil,?_⟩|refine ⟨.inr rfl,_,.cn rfl (by exact zN) (.t rfl .nil),?_⟩)
      exact ⟨_, _, (.cons (.here) (.nil)), .inl ⟨_, _, hr, rfl, rfl⟩⟩
    · simp only [if_neg h9] at k
      rw [if_neg h9] at hr
      repeat' (first|(refine Rg.callM rfl k (.cons (.there (.here)) (.nil)) ?_; rintro _ _ ⟨rfl, rfl⟩)|refine zz ?_|(refine zw ?_;refine And.intro ?_ ?_<;>intro hc)|(refine zv ?_;intro cv hv)|(refine za ?_;intro _)|refine zc ?_|(refine zd ?_;refine And.intro ?_ ?_<;>(intro e;(try simp only [Bool.not_eq_true',Bool.not_eq_false'] at e);subst e;try contradiction)))
      (first|refine ⟨.inr rfl,_,.t rfl .nil,?_⟩|refine ⟨.inr rfl,_,.t rfl (.t rfl .nil),?_⟩|refine ⟨.inr rfl,_,.t rfl (.t rfl (.t rfl .nil)),?_⟩|refine ⟨.inr rfl,_,.nil,?_⟩|refine ⟨.inl rfl,_,.t rfl .nil,?_⟩|refine ⟨.inl rfl,_,.nil,?_⟩|refine ⟨.inr rfl,_,.cn rfl (by exact zN) .nil,?_⟩|refine ⟨.inr rfl,_,.cn rfl (by exact zN) (.t rfl .nil),?_⟩)
      exact ⟨_, _, (.cons (.here) (.nil)), .inr ⟨hr, ⟨1, 0, []⟩, _, rfl, rfl⟩⟩
  by_cases h2 : x = 2
  · subst h2
    have k := next82 (a := a + 1) hs (by omega) (by omega)
    unfold nextA at k
    rw [show a + 1 + 4 = a + 5 by omega] at k
    have hr := rdS_2 hx
    generalize hn : deB (sgm s (a + 1) (a + 5)) = n at *
    have k83 := is83 (s := sgm s (a + 5) (a + 5 + n))
    have k83e := is83 (s := [])
    by_cases h5 : a + 5 ≤ s.length ∧ a + 5 + n ≤ s.length
    · rw [if_pos h5] at k
      rw [if_pos h5.1] at hr
      have hsl := seg_len (s := s) (a := a + 5) (b := a + 5 + n) h5.2
      by_cases h6 : n ≤ 1024
      · rw [if_pos ⟨h5.2, h6⟩] at hr
        rw [decide_eq_true (by omega)] at k83
        repeat' (first|refine zz ?_|(refine zw ?_;refine And.intro ?_ ?_<;>intro hc)|(refine zv ?_;intro cv hv)|(refine za ?_;intro _)|refine zc ?_|(refine zd ?_;refine And.intro ?_ ?_<;>(intro e;(try simp only [Bool.not_eq_true',Bool.not_eq_false'] at e);subst e;try contradiction)))
        refine Dw.e (Ef.storeW rfl rfl (.there Upd.here) rfl (Nat.le_of_ble_eq_true rfl) rfl) ?_
        rintro _ _ ⟨rfl, rfl⟩
        refine ⟨by repeat (first | exact trivial | refine rdsB rfl ?_ | (refine rdsR ?_ ?_; (focus (first | assumption | (refine Rdk.b1 (cs := ?_) ?_ ?_; rotate_left; (repeat (first | exact InK.here | refine InK.there ?_)); exact rfl) | (refine Rdk.bw ?_ ?_; (repeat (first | exact InK.here | refine InK.there ?_)); first | assumption | exact rfl) | (refine Rdk.bn ?_ ?_; (repeat (first | exact InK.here | refine InK.there ?_)); exact rfl) | (refine Rdk.in ?_; first | assumption | exact rfl) | exact Rdk.i1)))), ?_⟩
        repeat' (first|refine zz ?_|(refine zw ?_;refine And.intro ?_ ?_<;>intro hc)|(refine zv ?_;intro cv hv)|(refine za ?_;intro _)|refine zc ?_|(refine zd ?_;refine And.intro ?_ ?_<;>(intro e;(try simp only [Bool.not_eq_true',Bool.not_eq_false'] at e);subst e;try contradiction)))
        (first|refine ⟨.inr rfl,_,.t rfl .nil,?_⟩|refine ⟨.inr rfl,_,.t rfl (.t rfl .nil),?_⟩|refine ⟨.inr rfl,_,.t rfl (.t rfl (.t rfl .nil)),?_⟩|refine ⟨.inr rfl,_,.nil,?_⟩|refine ⟨.inl rfl,_,.t rfl .nil,?_⟩|refine ⟨.inl rfl,_,.nil,?_⟩|refine ⟨.inr rfl,_,.cn rfl (by exact zN) .nil,?_⟩|refine ⟨.inr rfl,_,.cn rfl (by exact zN) (.t rfl .nil),?_⟩)
        subst hv
        exact ⟨_, _, (.cons (.there (.there (.here))) (.nil)), .inl ⟨_, _, hr, rfl, rfl⟩⟩
      · rw [if_neg (by omega)] at hr
        rw [decide_eq_false (by omega)] at k83
        repeat' (first|refine zz ?_|(refine zw ?_;refine And.intro ?_ ?_<;>intro hc)|(refine zv ?_;intro cv hv)|(refine za ?_;intro _)|refine zc ?_|(refine zd ?_;refine And.intro ?_ ?_<;>(intro e;(try simp only [Bool.not_eq_true',Bool.not_eq_false'] at e);subst e;try contradiction)))
        refine Dw.e (Ef.storeW rfl rfl (.there Upd.here) rfl (Nat.le_of_ble_eq_true rfl) rfl) ?_
        rintro _ _ ⟨rfl, rfl⟩
        refine ⟨by repeat (first | exact trivial | refine rdsB rfl ?_ | (refine rdsR ?_ ?_; (focus (first | assumption | (refine Rdk.b1 (cs := ?_) ?_ ?_; rotate_left; (repeat (first | exact InK.here | refine InK.there ?_)); exact rfl) | (refine Rdk.bw ?_ ?_; (repeat (first | exact InK.here | refine InK.there ?_)); first | assumption | exact rfl) | (refine Rdk.bn ?_ ?_; (repeat (first | exact InK.here | refine InK.there ?_)); exact rfl) | (refine Rdk.in ?_; first | assumption | exact rfl) | exact Rdk.i1)))), ?_⟩
        repeat' (first|refine zz ?_|(refine zw ?_;refine And.intro ?_ ?_<;>intro hc)|(refine zv ?_;intro cv hv)|(refine za ?_;intro _)|refine zc ?_|(refine zd ?_;refine And.intro ?_ ?_<;>(intro e;(try simp only [Bool.not_eq_true',Bool.not_eq_false'] at e);subst e;try contradiction)))
        (first|refine ⟨.inr rfl,_,.t rfl .nil,?_⟩|refine ⟨.inr rfl,_,.t rfl (.t rfl .nil),?_⟩|refine ⟨.inr rfl,_,.t rfl (.t rfl (.t rfl .nil)),?_⟩|refine ⟨.inr rfl,_,.nil,?_⟩|refine ⟨.inl rfl,_,.t rfl .nil,?_⟩|refine ⟨.inl rfl,_,.nil,?_⟩|refine ⟨.inr rfl,_,.cn rfl (by exact zN) .nil,?_⟩|refine ⟨.inr rfl,_,.cn rfl (by exact zN) (.t rfl .nil),?_⟩)
        subst hv
        exact ⟨_, _, (.cons (.there (.there (.here))) (.nil)), .inr ⟨hr, ⟨2, 0, sgm s (a + 5) (a + 5 + n)⟩, _, rfl, rfl⟩⟩
    · rw [if_neg h5] at k
      have e : (if a + 5 ≤ s.length then if a + 5 + n ≤ s.length ∧ n ≤ 1024 then some (({ k := 2, n := 0, s := sgm s (a + 5) (a + 5 + n) } : Val), a + 5 + n) else none else none) = none := by
        split
        · rw [if_neg (by omega)]
        · rfl
      rw [e] at hr
      repeat' (first|refine zz ?_|(refine zw ?_;refine And.intro ?_ ?_<;>intro hc)|(refine zv ?_;intro cv hv)|(refine za ?_;intro _)|refine zc ?_|(refine zd ?_;refine And.intro ?_ ?_<;>(intro e;(try simp only [Bool.not_eq_true',Bool.not_eq_false'] at e);subst e;try contradiction)))
      refine Dw.e (Ef.storeW rfl rfl (.there Upd.here) rfl (Nat.le_of_ble_eq_true rfl) rfl) ?_
      rintro _ _ ⟨rfl, rfl⟩
      refine ⟨by repeat (first | exact trivial | refine rdsB rfl ?_ | (refine rdsR ?_ ?_; (focus (first | assumption | (refine Rdk.b1 (cs := ?_) ?_ ?_; rotate_left; (repeat (first | exact InK.here | refine InK.there ?_)); exact rfl) | (refine Rdk.bw ?_ ?_; (repeat (first | exact InK.here | refine InK.there ?_)); first | assumption | exact rfl) | (refine Rdk.bn ?_ ?_; (repeat (first | exact InK.here | refine InK.there ?_)); exact rfl) | (refine Rdk.in ?_; first | assumption | exact rfl) | exact Rdk.i1)))), ?_⟩
      repeat' (first|refine zz ?_|(refine zw ?_;refine And.intro ?_ ?_<;>intro hc)|(refine zv ?_;intro cv hv)|(refine za ?_;intro _)|refine zc ?_|(refine zd ?_;refine And.intro ?_ ?_<;>(intro e;(try simp only [Bool.not_eq_true',Bool.not_eq_false'] at e);subst e;try contradiction)))
      (first|refine ⟨.inr rfl,_,.t rfl .nil,?_⟩|refine ⟨.inr rfl,_,.t rfl (.t rfl .nil),?_⟩|refine ⟨.inr rfl,_,.t rfl (.t rfl (.t rfl .nil)),?_⟩|refine ⟨.inr rfl,_,.nil,?_⟩|refine ⟨.inl rfl,_,.t rfl .nil,?_⟩|refine ⟨.inl rfl,_,.nil,?_⟩|refine ⟨.inr rfl,_,.cn rfl (by exact zN) .nil,?_⟩|refine ⟨.inr rfl,_,.cn rfl (by exact zN) (.t rfl .nil),?_⟩)
      exact ⟨_, _, (.cons (.there (.there (.here))) (.nil)), .inr ⟨hr, ⟨2, 0, []⟩, _, rfl, rfl⟩⟩
  have hr := rdS_x hx h0 h1 h2
  repeat' (first|refine zz ?_|(refine zw ?_;refine And.intro ?_ ?_<;>intro hc)|(refine zv ?_;intro cv hv)|(refine za ?_;intro _)|refine zc ?_|(refine zd ?_;refine And.intro ?_ ?_<;>(intro e;(try simp only [Bool.not_eq_true',Bool.not_eq_false'] at e);subst e;try contradiction)))
  (first|refine ⟨.inr rfl,_,.t rfl .nil,?_⟩|refine ⟨.inr rfl,_,.t rfl (.t rfl .nil),?_⟩|refine ⟨.inr rfl,_,.t rfl (.t rfl (.t rfl .nil)),?_⟩|refine ⟨.inr rfl,_,.nil,?_⟩|refine ⟨.inl rfl,_,.t rfl .nil,?_⟩|refine ⟨.inl rfl,_,.nil,?_⟩|refine ⟨.inr rfl,_,.cn rfl (by exact zN) .nil,?_⟩|refine ⟨.inr rfl,_,.cn rfl (by exact zN) (.t rfl .nil),?_⟩)
  exact ⟨_, _, (.cons (.there (.here)) (.nil)), .inr ⟨hr, v0, _, rfl, rfl⟩⟩
theorem i64_1 {x : Nat} (hx : x < 256) : i64 (deB [x]) = .ofNat x := by
  rw [show deB [x] = x by simp [deB], i64_lo (by omega)]
theorem key73 (hs : ∀ x, x ∈ s → x < 256) (hl : s.length ≤ 100000) (ha : a ≤ 100000) : CT Try.prog false 73 [rdP rd] [rdC rd s a left nd tf pf]
    fun w K' => (∃ v to, rdK s a = some (v, to) ∧ w = .tup [valA v, .bool true] ∧ K' = [rdC rd s to left nd tf pf]) ∨ (rdK s a = none ∧ ∃ v a2, w = .tup [valA v, .bool false] ∧ K' = [rdC rd s a2 left nd tf pf]) := by
  have k := num71 (a := a) (w := 1) (rd := rd) (left := left) (nd := nd) (tf := tf) (pf := pf) hs hl ha (by omega)
  refine CT.enterS mixed comp73 (Nat.le_of_ble_eq_true rfl) ?_
  by_cases h : a + 1 ≤ s.length
  · have hx : s[a]? = some s[a] := List.getElem?_eq_getElem h
    have hxl := hs _ (List.mem_of_getElem? hx)
    generalize s[a] = x at hx hxl
    simp only [if_pos h, seg_one hx, i64_1 hxl] at k
    have k72 := scalar72 (rd := rd) (left := left) (nd := nd) (tf := tf) (pf := pf) hs hl hx
    repeat' (first|(refine Rg.callM rfl k (.cons (.there (.here)) (.nil)) ?_; rintro _ _ ⟨rfl, rfl⟩)|(refine Rg.callM rfl k72 (.cons (.here) (.nil)) ?_; rintro _ _ (⟨v, to, hr, rfl, rfl⟩ | ⟨hr, v, a2, rfl, rfl⟩))|refine zz ?_|(refine zw ?_;refine And.intro ?_ ?_<;>intro hc)|(refine zv ?_;intro cv hv)|(refine za ?_;intro _)|refine zc ?_|(refine zd ?_;refine And.intro ?_ ?_<;>(intro e;(try simp only [Bool.not_eq_true',Bool.not_eq_false'] at e);subst e;try contradiction)))
    · have k66 := key52 (k := v)
      cases hk : keyB v with
      | true =>
        have hrk : rdK s a = some (v, to) := by unfold rdK; simp only [hr, hk, if_true]
        rw [hk] at k66
        repeat' (first|refine zz ?_|(refine zw ?_;refine And.intro ?_ ?_<;>intro hc)|(refine zv ?_;intro cv hv)|(refine za ?_;intro _)|refine zc ?_|(refine zd ?_;refine And.intro ?_ ?_<;>(intro e;(try simp only [Bool.not_eq_true',Bool.not_eq_false'] at e);subst e;try contradiction)))
        refine Dw.e (Ef.storeW rfl rfl (.there (.there Upd.here)) rfl (Nat.le_of_ble_eq_true rfl) rfl) ?_
        rintro _ _ ⟨rfl, rfl⟩
        refine ⟨by repeat (first | exact trivial | refine rdsB rfl ?_ | (refine rdsR ?_ ?_; (focus (first | assumption | (refine Rdk.b1 (cs := ?_) ?_ ?_; rotate_left; (repeat (first | exact InK.here | refine InK.there ?_)); exact rfl) | (refine Rdk.bw ?_ ?_; (repeat (first | exact InK.here | refine InK.there ?_)); first | assumption | exact rfl) | (refine Rdk.bn ?_ ?_; (repeat (first | exact InK.here | refine InK.there ?_)); exact rfl) | (refine Rdk.in ?_; first | assumption | exact rfl) | exact Rdk.i1)))), ?_⟩
        repeat' (first|refine zz ?_|(refine zw ?_;refine And.intro ?_ ?_<;>intro hc)|(refine zv ?_;intro cv hv)|(refine za ?_;intro _)|refine zc ?_|(refine zd ?_;refine And.intro ?_ ?_<;>(intro e;(try simp only [Bool.not_eq_true',Bool.not_eq_false'] at e);subst e;try contradiction)))
        (first|refine ⟨.inr rfl,_,.t rfl .nil,?_⟩|refine ⟨.inr rfl,_,.t rfl (.t rfl .nil),?_⟩|refine ⟨.inr rfl,_,.t rfl (.t rfl (.t rfl .nil)),?_⟩|refine ⟨.inr rfl,_,.nil,?_⟩|refine ⟨.inl rfl,_,.t rfl .nil,?_⟩|refine ⟨.inl rfl,_,.nil,?_⟩|refine ⟨.inr rfl,_,.cn rfl (by exact zN) .nil,?_⟩|refine ⟨.inr rfl,_,.cn rfl (by exact zN) (.t rfl .nil),?_⟩)
        subst hv
        exact ⟨_, _, (.cons (.there (.here)) (.nil)), .inl ⟨_, _, hrk, rfl, rfl⟩⟩
      | false =>
        have hrk : rdK s a = none := by unfold rdK; simp only [hr, hk]; rfl
        rw [hk] at k66
        repeat' (first|refine zz ?_|(refine zw ?_;refine And.intro ?_ ?_<;>intro hc)|(refine zv ?_;intro cv hv)|(refine za ?_;intro _)|refine zc ?_|(refine zd ?_;refine And.intro ?_ ?_<;>(intro e;(try simp only [Bool.not_eq_true',Bool.not_eq_false'] at e);subst e;try contradiction)))
        refine Dw.e (Ef.storeW rfl rfl (.there (.there Upd.here)) rfl (Nat.le_of_ble_eq_true rfl) rfl) ?_
        rintro _ _ ⟨rfl, rfl⟩
        refine ⟨by repeat (first | exact trivial | refine rdsB rfl ?_ | (refine rdsR ?_ ?_; (focus (first | assumption | (refine Rdk.b1 (cs := ?_) ?_ ?_; rotate_left; (repeat (first | exact InK.here | refine InK.there ?_)); exact rfl) | (refine Rdk.bw ?_ ?_; (repeat (first | exact InK.here | refine InK.there ?_)); first | assumption | exact rfl) | (refine Rdk.bn ?_ ?_; (repeat (first | exact InK.here | refine InK.there ?_)); exact rfl) | (refine Rdk.in ?_; first | assumption | exact rfl) | exact Rdk.i1)))), ?_⟩
        repeat' (first|refine zz ?_|(refine zw ?_;refine And.intro ?_ ?_<;>intro hc)|(refine zv ?_;intro cv hv)|(refine za ?_;intro _)|refine zc ?_|(refine zd ?_;refine And.intro ?_ ?_<;>(intro e;(try simp only [Bool.not_eq_true',Bool.not_eq_false'] at e);subst e;try contradiction)))
        (first|refine ⟨.inr rfl,_,.t rfl .nil,?_⟩|refine ⟨.inr rfl,_,.t rfl (.t rfl .nil),?_⟩|refine ⟨.inr rfl,_,.t rfl (.t rfl (.t rfl .nil)),?_⟩|refine ⟨.inr rfl,_,.nil,?_⟩|refine ⟨.inl rfl,_,.t rfl .nil,?_⟩|refine ⟨.inl rfl,_,.nil,?_⟩|refine ⟨.inr rfl,_,.cn rfl (by exact zN) .nil,?_⟩|refine ⟨.inr rfl,_,.cn rfl (by exact zN) (.t rfl .nil),?_⟩)
        subst hv
        exact ⟨_, _, (.cons (.there (.here)) (.nil)), .inr ⟨hrk, v, _, rfl, rfl⟩⟩
    · have hrk : rdK s a = none := by unfold rdK; rw [hr]
      refine Dw.e (Ef.storeW rfl rfl (.there (.there Upd.here)) rfl (Nat.le_of_ble_eq_true rfl) rfl) ?_
      rintro _ _ ⟨rfl, rfl⟩
      refine ⟨by repeat (first | exact trivial | refine rdsB rfl ?_ | (refine rdsR ?_ ?_; (focus (first | assumption | (refine Rdk.b1 (cs := ?_) ?_ ?_; rotate_left; (repeat (first | exact InK.here | refine InK.there ?_)); exact rfl) | (refine Rdk.bw ?_ ?_; (repeat (first | exact InK.here | refine InK.there ?_)); first | assumption | exact rfl) | (refine Rdk.bn ?_ ?_; (repeat (first | exact InK.here | refine InK.there ?_)); exact rfl) | (refine Rdk.in ?_; first | assumption | exact rfl) | exact Rdk.i1)))), ?_⟩
      repeat' (first|refine zz ?_|(refine zw ?_;refine And.intro ?_ ?_<;>intro hc)|(refine zv ?_;intro cv hv)|(refine za ?_;intro _)|refine zc ?_|(refine zd ?_;refine And.intro ?_ ?_<;>(intro e;(try simp only [Bool.not_eq_true',Bool.not_eq_false'] at e);subst e;try contradiction)))
      (first|refine ⟨.inr rfl,_,.t rfl .nil,?_⟩|refine ⟨.inr rfl,_,.t rfl (.t rfl .nil),?_⟩|refine ⟨.inr rfl,_,.t rfl (.t rfl (.t rfl .nil)),?_⟩|refine ⟨.inr rfl,_,.nil,?_⟩|refine ⟨.inl rfl,_,.t rfl .nil,?_⟩|refine ⟨.inl rfl,_,.nil,?_⟩|refine ⟨.inr rfl,_,.cn rfl (by exact zN) .nil,?_⟩|refine ⟨.inr rfl,_,.cn rfl (by exact zN) (.t rfl .nil),?_⟩)
      exact ⟨_, _, (.cons (.there (.here)) (.nil)), .inr ⟨hrk, v, _, rfl, rfl⟩⟩
  · simp only [if_neg h] at k
    have hr : rdK s a = none := by unfold rdK; rw [rdS_no (by omega)]
    repeat' (first|(refine Rg.callM rfl k (.cons (.there (.here)) (.nil)) ?_; rintro _ _ ⟨rfl, rfl⟩)|refine zz ?_|(refine zw ?_;refine And.intro ?_ ?_<;>intro hc)|(refine zv ?_;intro cv hv)|(refine za ?_;intro _)|refine zc ?_|(refine zd ?_;refine And.intro ?_ ?_<;>(intro e;(try simp only [Bool.not_eq_true',Bool.not_eq_false'] at e);subst e;try contradiction)))
    (first|refine ⟨.inr rfl,_,.t rfl .nil,?_⟩|refine ⟨.inr rfl,_,.t rfl (.t rfl .nil),?_⟩|refine ⟨.inr rfl,_,.t rfl (.t rfl (.t rfl .nil)),?_⟩|refine ⟨.inr rfl,_,.nil,?_⟩|refine ⟨.inl rfl,_,.t rfl .nil,?_⟩|refine ⟨.inl rfl,_,.nil,?_⟩|refine ⟨.inr rfl,_,.cn rfl (by exact zN) .nil,?_⟩|refine ⟨.inr rfl,_,.cn rfl (by exact zN) (.t rfl .nil),?_⟩)
    exact ⟨_, _, (.cons (.here) (.nil)), .inr ⟨hr, v0, _, rfl, rfl⟩⟩
end
end Go.Proofs.Ytlflpjjmkigepaa

namespace Go.Proofs.Ytlflpjjmkigepaa
open Go Go.Abs
attribute [local irreducible] Cmp Rg Dw Cd Lp Ev Rdk CT Upd InK
/-- What a reader's functions do. -/
structure Clo {σ : Type} (B : Bld σ) (R : σ → Chk → Prop) (gt gp : FuncId) (ct cp : List AV) : Prop where
  tab : ∀ x c, R x c → CT Try.prog false gt ([] ++ [] ++ ct) [c] fun w K' => w = valA (B.tb x).2 ∧ ∃ c', R (B.tb x).1 c' ∧ K' = [c']
  put : ∀ x c t k v, R x c → ScOk k → keyB k = true → CT Try.prog false gp ([] ++ [valA t, valA k, valA v] ++ cp) [c] fun w K' => w = .tup [] ∧ ∃ c', R (B.pt x t k v) c' ∧ K' = [c']
def V62 {σ : Type} (d : DR σ) (R : σ → Chk → Prop) (rd : Nat) (s : List Nat) (nd : Nat) (tf pf : AV) (w : AV) (K' : Mem) : Prop :=
  (∃ v x' a' l' m c', d = some (v, x', a', l', m) ∧ w = .tup [valA v, .bool true] ∧ R x' c' ∧ K' = [rdC rd s a' (.ofNat l') (nd + m) tf pf, c']) ∨ (d = none ∧ ∃ v a2 l2 nd2 c2, w = .tup [valA v, .bool false] ∧ K' = [rdC rd s a2 l2 nd2 tf pf, c2])
section
variable {σ : Type} {B : Bld σ} {R : σ → Chk → Prop} {gt gp : FuncId} {ct cp : List AV} {s : List Nat} {rd : Nat}
theorem value62_loop (hC : Clo B R gt gp ct cp) (hs : ∀ x, x ∈ s → x < 256) (hl : s.length ≤ 100000) {g : σ → Nat → Nat → DR σ} {t : Val} {n Bd b2 b7 b8 : Nat} {Q : AX → SL → Mem → Prop} (hn : n < 65536)
    (hg : ∀ x a l nd c, l ≤ Bd → a ≤ s.length → R x c → nd + 65537 * l ≤ 100000000 → CT Try.prog false 62 [rdP rd] [rdC rd s a (.ofNat l) nd (.fn gt [] ct) (.fn gp [] cp), c] (V62 (g x a l) R rd s nd (.fn gt [] ct) (.fn gp [] cp)))
    (hle : ∀ x a l v x1 a1 l1 m, g x a l = some (v, x1, a1, l1, m) → a < a1 ∧ a1 ≤ s.length ∧ l1 < l ∧ m + 1 ≤ 2 * (l - l1)) :
    ∀ (f k i : Nat) (last : Val) (x : σ) (a l nd : Nat) (c : Chk), k < f → i + k = n → l ≤ Bd → a ≤ s.length → R x c → nd + 65537 * l ≤ 100000000 →
      (hend : ∀ l' x2 a2 l2 m c2 last2, decL B s g t k last x a l = some (x2, a2, l2, m) → R x2 c2 → Sub2 [(2, .ptr b2 0 0 3), (7, .ptr b7 0 0 3)] l' → Q (.ext 0) l' [rdC rd s a2 (.ofNat l2) (nd + m) (.fn gt [] ct) (.fn gp [] cp), c2, b3 b7 t, b3 b8 last2, b3 b2 v0]) →
      (hret : decL B s g t k last x a l = none → ∀ l' K', Sub2 [(2, .ptr b2 0 0 3), (3, .bool false)] l' → (∃ a2 l2 nd2 c2 r, Sel K' [rdC rd s a2 l2 nd2 (.fn gt [] ct) (.fn gp [] cp), c2, b3 b2 v0] r) → Q .ret l' K') →
      Lp Try.prog false b62_0 f [(0, rdP rd), (2, .ptr b2 0 0 3), (7, .ptr b7 0 0 3), (8, .ptr b8 0 0 3), (64, .int .i64 (.ofNat n)), (65, .int .i64 (.ofNat i))] [rdC rd s a (.ofNat l) nd (.fn gt [] ct) (.fn gp [] cp), c, b3 b7 t, b3 b8 last, b3 b2 v0] Q := by
  intro f
  induction f with
  | zero => intro k i last x a l nd c h1; omega
  | succ f ih =>
    intro k i last x a l nd c h1 h2 h3 h4 hR h5 hend hret
    refine Lp.round ?_
    cases k with
    | zero =>
      obtain rfl : i = n := by omega
      repeat' (first|refine zz ?_|(refine zw ?_;refine And.intro ?_ ?_<;>intro hc)|(refine zv ?_;intro cv hv)|(refine za ?_;intro _)|refine zc ?_|(refine zd ?_;refine And.intro ?_ ?_<;>(intro e;(try simp only [Bool.not_eq_true',Bool.not_eq_false'] at e);subst e;try contradiction)))
      exact hend _ x a l 0 c last rfl hR ⟨rfl, rfl, trivial⟩
    | succ k =>
      have hin : i < n := by omega
      have k73 := key73 (a := a) (rd := rd) (left := .ofNat l) (nd := nd) (tf := .fn gt [] ct) (pf := .fn gp [] cp) hs hl (by omega)
      repeat' (first|(refine Rg.callM rfl k73 (.cons (.here) (.nil)) ?_; rintro _ _ (⟨kv, to, hk, rfl, rfl⟩ | ⟨hk, kv, a2, rfl, rfl⟩))|refine zz ?_|(refine zw ?_;refine And.intro ?_ ?_<;>intro hc)|(refine zv ?_;intro cv hv)|(refine za ?_;intro _)|refine zc ?_|(refine zd ?_;refine And.intro ?_ ?_<;>(intro e;(try simp only [Bool.not_eq_true',Bool.not_eq_false'] at e);subst e;try contradiction)))
      · obtain ⟨hkS, hkb⟩ := rdK_S hk
        obtain ⟨hto1, hto2⟩ := rdS_le hkS
        have hkOk := (rdS_sc hs hkS).2.2.2
        have k74 := follows74 (a := last) (b := kv) (by simpa [keyB] using hkb)
        cases hah : aheadB last kv with
        | false =>
          rw [hah] at k74
          repeat' (first|refine zz ?_|(refine zw ?_;refine And.intro ?_ ?_<;>intro hc)|(refine zv ?_;intro cv hv)|(refine za ?_;intro _)|refine zc ?_|(refine zd ?_;refine And.intro ?_ ?_<;>(intro e;(try simp only [Bool.not_eq_true',Bool.not_eq_false'] at e);subst e;try contradiction)))
          exact hret (by simp only [decL, hk, hah]; rfl) _ _ ⟨rfl, rfl, trivial⟩ ⟨_, _, _, _, _, (.cons (.there (.here)) (.cons (.there (.here)) (.cons (.there (.there (.there (.here)))) (.nil))))⟩
        | true =>
          rw [hah] at k74
          have k62 := hg x to l nd c h3 hto2 hR h5
          repeat' (first|(refine Rg.callM rfl k62 (.cons (.there (.here)) (.cons (.there (.here)) (.nil))) ?_; rintro _ _ (⟨v, x1, a1, l1, m1, c1, hv, rfl, hR1, rfl⟩ | ⟨hv, v, a2, l2, nd2, c2, rfl, rfl⟩))|refine zz ?_|(refine zw ?_;refine And.intro ?_ ?_<;>intro hc)|(refine zv ?_;intro cv hv)|(refine za ?_;intro _)|refine zc ?_|(refine zd ?_;refine And.intro ?_ ?_<;>(intro e;(try simp only [Bool.not_eq_true',Bool.not_eq_false'] at e);subst e;try contradiction)))
          · exact hret (by simp only [decL, hk, hah, hv]; simp [hc]) _ _ ⟨rfl, rfl, trivial⟩ ⟨_, _, _, _, _, (.cons (.there (.here)) (.cons (.there (.here)) (.cons (.there (.there (.there (.there (.here))))) (.nil))))⟩
          · obtain ⟨g1, g2, g3, g4⟩ := hle _ _ _ _ _ _ _ _ hv
            refine Dw.e (Ef.callv rfl rfl (hC.put x1 c1 t kv v hR1 hkOk hkb) (.cons (.there (.there (.here))) (.nil))) ?_
            rintro _ _ ⟨m', rfl, rfl, c3, hR3, rfl⟩
            refine ⟨by repeat (first | exact trivial | refine rdsB rfl ?_ | (refine rdsR ?_ ?_; (focus (first | assumption | (refine Rdk.b1 (cs := ?_) ?_ ?_; rotate_left; (repeat (first | exact InK.here | refine InK.there ?_)); exact rfl) | (refine Rdk.bw ?_ ?_; (repeat (first | exact InK.here | refine InK.there ?_)); first | assumption | exact rfl) | (refine Rdk.bn ?_ ?_; (repeat (first | exact InK.here | refine InK.there ?_)); exact rfl) | (refine Rdk.in ?_; first | assumption | exact rfl) | exact Rdk.i1)))), ?_⟩
            repeat' (first|refine zz ?_|(refine zw ?_;refine And.intro ?_ ?_<;>intro hc)|(refine zv ?_;intro cv hv)|(refine za ?_;intro _)|refine zc ?_|(refine zd ?_;refine And.intro ?_ ?_<;>(intro e;(try simp only [Bool.not_eq_true',Bool.not_eq_false'] at e);subst e;try contradiction)))
            have e : decL B s g t (k + 1) last x a l = match decL B s g t k kv (B.pt x1 t kv v) a1 l1 with
                | none => none
                | some (x2, a2, l2, m2) => some (x2, a2, l2, m1 + m2) := by
              simp only [decL, hk, hah, hv, if_true]
              rw [if_neg (show ¬ v.k = 0 from hc)]
              rfl
            have := ih k (i + 1) kv (B.pt x1 t kv v) a1 l1 (nd + m1) c3 (by omega) (by omega) (by omega) g2 hR3 (by omega)
              (fun l' x2 a2 l2 m2 c2 last2 hd hR2 h27 => by
                have := hend l' x2 a2 l2 (m1 + m2) c2 last2 (by rw [e, hd]) hR2 h27
                rwa [← Nat.add_assoc] at this)
              (fun hd => hret (by rw [e, hd]))
            exact Lp.drop (.cons (.there (.there (.here))) (.cons (.here) (.cons (.there (.there (.here))) (.cons (.there (.there (.here))) (.cons (.there (.there (.here))) (.nil)))))) (Lp.weak (by exact ⟨rfl, rfl, rfl, rfl, rfl, rfl, trivial⟩) this)
          · exact hret (by simp only [decL, hk, hah, hv]; rfl) _ _ ⟨rfl, rfl, trivial⟩ ⟨_, _, _, _, _, (.cons (.there (.here)) (.cons (.there (.here)) (.cons (.there (.there (.there (.there (.here))))) (.nil))))⟩
      · exact hret (by simp only [decL, hk]) _ _ ⟨rfl, rfl, trivial⟩ ⟨_, _, _, _, _, (.cons (.there (.here)) (.cons (.there (.here)) (.cons (.there (.there (.there (.here)))) (.nil))))⟩
theorem sel_in {K m r : Mem} (h : Sel K m r) {i : Nat} {o : AObj} (hi : InK m i o) : InK K i o := by
  unfold InK at hi ⊢
  exact h.perm.mem_iff.2 (by rw [List.flatten_append]; exact List.mem_append_left _ hi)
theorem sel_two {K r : Mem} {c d e : Chk} (h : Sel K [c, d, e] r) : ∃ r', Sel K [c, d] r' := by
  cases h with
  | cons h1 h =>
    cases h with
    | cons h2 h => exact ⟨_, .cons h1 (.cons h2 .nil)⟩
theorem sub_z : abin .sub (.int .i64 (.ofNat 0)) (.int .i64 (.ofNat 1)) = some (.int .i64 (.negSucc 0)) := rfl
theorem sub_o {n : Nat} (h : n < 1000000) : abin .sub (.int .i64 (.ofNat (n + 1))) (.int .i64 (.ofNat 1)) = some (.int .i64 (.ofNat n)) := sub_nat (a := n + 1) (by omega) (by omega)
theorem value62_0 (hs : ∀ x, x ∈ s → x < 256) (hl : s.length ≤ 100000) {a nd : Nat} {c : Chk} {d : DR σ} {tf pf : AV} (h2 : a ≤ s.length) (hd : d = none) : CT Try.prog false 62 [rdP rd] [rdC rd s a (.ofNat 0) nd tf pf, c] (V62 d R rd s nd tf pf) := by
  have e0 := sub_z
  have k1 := num71 (a := a) (w := 1) (rd := rd) (left := .ofNat 0) (nd := nd) (tf := tf) (pf := pf) hs hl (by omega) (by omega)
  refine CT.enterS mixed comp62 (Nat.le_of_ble_eq_true rfl) ?_
  by_cases h : a + 1 ≤ s.length
  · simp only [if_pos h] at k1
    repeat' (first|(refine Rg.callM rfl k1 (.cons (.there (.here)) (.nil)) ?_; rintro _ _ ⟨rfl, rfl⟩)|refine zz ?_|(refine zw ?_;refine And.intro ?_ ?_<;>intro hc)|(refine zv ?_;intro cv hv)|(refine za ?_;intro _)|refine zc ?_|(refine zd ?_;refine And.intro ?_ ?_<;>(intro e;(try simp only [Bool.not_eq_true',Bool.not_eq_false'] at e);subst e;try contradiction)))
    (first|refine ⟨.inr rfl,_,.t rfl .nil,?_⟩|refine ⟨.inr rfl,_,.t rfl (.t rfl .nil),?_⟩|refine ⟨.inr rfl,_,.t rfl (.t rfl (.t rfl .nil)),?_⟩|refine ⟨.inr rfl,_,.nil,?_⟩|refine ⟨.inl rfl,_,.t rfl .nil,?_⟩|refine ⟨.inl rfl,_,.nil,?_⟩|refine ⟨.inr rfl,_,.cn rfl (by exact zN) .nil,?_⟩|refine ⟨.inr rfl,_,.cn rfl (by exact zN) (.t rfl .nil),?_⟩)
    exact ⟨_, _, (.cons (.here) (.cons (.there (.here)) (.nil))), .inr ⟨hd, v0, _, _, _, _, rfl, rfl⟩⟩
  · simp only [if_neg h] at k1
    repeat' (first|(refine Rg.callM rfl k1 (.cons (.there (.here)) (.nil)) ?_; rintro _ _ ⟨rfl, rfl⟩)|refine zz ?_|(refine zw ?_;refine And.intro ?_ ?_<;>intro hc)|(refine zv ?_;intro cv hv)|(refine za ?_;intro _)|refine zc ?_|(refine zd ?_;refine And.intro ?_ ?_<;>(intro e;(try simp only [Bool.not_eq_true',Bool.not_eq_false'] at e);subst e;try contradiction)))
    (first|refine ⟨.inr rfl,_,.t rfl .nil,?_⟩|refine ⟨.inr rfl,_,.t rfl (.t rfl .nil),?_⟩|refine ⟨.inr rfl,_,.t rfl (.t rfl (.t rfl .nil)),?_⟩|refine ⟨.inr rfl,_,.nil,?_⟩|refine ⟨.inl rfl,_,.t rfl .nil,?_⟩|refine ⟨.inl rfl,_,.nil,?_⟩|refine ⟨.inr rfl,_,.cn rfl (by exact zN) .nil,?_⟩|refine ⟨.inr rfl,_,.cn rfl (by exact zN) (.t rfl .nil),?_⟩)
    exact ⟨_, _, (.cons (.here) (.cons (.there (.here)) (.nil))), .inr ⟨hd, v0, _, _, _, _, rfl, rfl⟩⟩
theorem value62 (hC : Clo B R gt gp ct cp) (hs : ∀ x, x ∈ s → x < 256) (hl : s.length ≤ 100000) : ∀ (f : Nat) {x : σ} {a l nd : Nat} {c : Chk}, l ≤ f → a ≤ s.length → R x c → nd + 65537 * l ≤ 100000000 →
    CT Try.prog false 62 [rdP rd] [rdC rd s a (.ofNat l) nd (.fn gt [] ct) (.fn gp [] cp), c] (V62 (dec B s f x a l) R rd s nd (.fn gt [] ct) (.fn gp [] cp)) := by
  intro f
  induction f with
  | zero =>
    intro x a l nd c h1 h2 hR h3
    obtain rfl : l = 0 := by omega
    exact value62_0 hs hl h2 rfl
  | succ f ih =>
    intro x a l nd c h1 h2 hR h3
    cases l with
    | zero => exact value62_0 hs hl h2 rfl
    | succ l =>
      have e0 := sub_o (n := l) (by omega)
      have k1 := num71 (a := a) (w := 1) (rd := rd) (left := .ofNat (l + 1)) (nd := nd) (tf := .fn gt [] ct) (pf := .fn gp [] cp) hs hl (by omega) (by omega)
      refine CT.enterS mixed comp62 (Nat.le_of_ble_eq_true rfl) ?_
      by_cases h : a + 1 ≤ s.length
      · have hx : s[a]? = some s[a] := List.getElem?_eq_getElem h
        have hxl := hs _ (List.mem_of_getElem? hx)
        generalize s[a] = y at hx hxl
        simp only [if_pos h, seg_one hx, i64_1 hxl] at k1
        by_cases h3y : y = 3
        · subst h3y
          have k2 := num71 (a := a + 1) (w := 2) (rd := rd) (left := .ofNat l) (nd := nd) (tf := .fn gt [] ct) (pf := .fn gp [] cp) hs hl (by omega) (by omega)
          rw [show a + 1 + 2 = a + 3 by omega] at k2
          by_cases h3l : a + 3 ≤ s.length
          · simp only [if_pos h3l] at k2
            have hlt := segd_lt (w := 2) (a := a + 1) (b := a + 3) hs h3l (by omega) (by omega)
            have e2 : 256 ^ 2 = 65536 := by decide
            rw [e2] at hlt
            rw [i64_lo (by omega)] at k2
            have ed : dec B s (f + 1) x a (l + 1) = match decL B s (dec B s f) (B.tb x).2 (deB (sgm s (a + 1) (a + 3))) v0 (B.tb x).1 (a + 3) l with
                | none => none
                | some (x2, a2, l2, m) => some ((B.tb x).2, x2, a2, l2, 1 + deB (sgm s (a + 1) (a + 3)) + m) := by
              simp only [dec, hx, if_true, if_pos h3l]
              rfl
            generalize deB (sgm s (a + 1) (a + 3)) = n at k2 hlt ed
            have kt := hC.tab x c hR
            repeat' (first|(refine Rg.callM rfl k1 (.cons (.there (.here)) (.nil)) ?_; rintro _ _ ⟨rfl, rfl⟩)|(refine Rg.callM rfl k2 (.cons (.here) (.nil)) ?_; rintro _ _ ⟨rfl, rfl⟩)|(refine Rg.callvM rfl rfl kt (.cons (.there (.there (.here))) (.nil)) ?_; rintro _ _ ⟨rfl, c1, hR1, rfl⟩)|refine zz ?_|(refine zw ?_;refine And.intro ?_ ?_<;>intro hc)|(refine zv ?_;intro cv hv)|(refine za ?_;intro _)|refine zc ?_|(refine zd ?_;refine And.intro ?_ ?_<;>(intro e;(try simp only [Bool.not_eq_true',Bool.not_eq_false'] at e);subst e;try contradiction)))
            rename_i b2 b7 b8
            refine Cd.loop (k := n + 1) (Lp.drop (.cons (.there (.there (.there (.here)))) (.cons (.there (.there (.here))) (.cons (.there (.here)) (.cons (.here) (.cons (.here) (.nil)))))) (Lp.weak (l2 := [(0, rdP rd), (2, .ptr b2 0 0 3), (7, .ptr b7 0 0 3), (8, .ptr b8 0 0 3), (64, .int .i64 (.ofNat n)), (65, .int .i64 (.ofNat 0))]) ⟨rfl, rfl, rfl, rfl, rfl, rfl, trivial⟩
              (value62_loop (t := (B.tb x).2) (g := dec B s f) (Bd := l) hC hs hl hlt (fun x a l nd c h1 h2 h3 h4 => ih (by omega) h2 h3 h4) (fun _ _ _ _ _ _ _ _ h => dec_le h) (n + 1) n 0 v0 (B.tb x).1 (a + 3) l (nd + (1 + n)) c1 (by omega) (by omega) (Nat.le_refl _) h3l hR1 (by omega) ?_ ?_)))
            · intro l' x2 a2 l2 m c2 last2 hd hR2 hs27
              show Cd _ _ _ _ _ _
              refine Cd.weak hs27 ?_
              repeat' (first|refine zz ?_|(refine zw ?_;refine And.intro ?_ ?_<;>intro hc)|(refine zv ?_;intro cv hv)|(refine za ?_;intro _)|refine zc ?_|(refine zd ?_;refine And.intro ?_ ?_<;>(intro e;(try simp only [Bool.not_eq_true',Bool.not_eq_false'] at e);subst e;try contradiction)))
              (first|refine ⟨.inr rfl,_,.t rfl .nil,?_⟩|refine ⟨.inr rfl,_,.t rfl (.t rfl .nil),?_⟩|refine ⟨.inr rfl,_,.t rfl (.t rfl (.t rfl .nil)),?_⟩|refine ⟨.inr rfl,_,.nil,?_⟩|refine ⟨.inl rfl,_,.t rfl .nil,?_⟩|refine ⟨.inl rfl,_,.nil,?_⟩|refine ⟨.inr rfl,_,.cn rfl (by exact zN) .nil,?_⟩|refine ⟨.inr rfl,_,.cn rfl (by exact zN) (.t rfl .nil),?_⟩)
              refine ⟨_, _, (.cons (.here) (.cons (.here) (.nil))), .inl ⟨_, x2, a2, l2, 1 + n + m, c2, by rw [ed, hd], rfl, hR2, ?_⟩⟩
              rw [Nat.add_assoc nd]
            · rintro hd l' K' ⟨h2, h3, _⟩ ⟨a2, l2, nd2, c2, r, hsel⟩
              obtain ⟨r', hsel'⟩ := sel_two hsel
              refine ⟨.inr rfl, _, .cn h2 (Rdk.bw (sel_in hsel (.there (.there .here))) rfl) (.t h3 .nil), ?_⟩
              exact ⟨_, _, hsel', .inr ⟨by rw [ed, hd], v0, a2, l2, nd2, c2, rfl, rfl⟩⟩
          · simp only [if_neg h3l] at k2
            have ed : dec B s (f + 1) x a (l + 1) = none := by simp only [dec, hx, if_true, if_neg h3l]
            repeat' (first|(refine Rg.callM rfl k1 (.cons (.there (.here)) (.nil)) ?_; rintro _ _ ⟨rfl, rfl⟩)|(refine Rg.callM rfl k2 (.cons (.here) (.nil)) ?_; rintro _ _ ⟨rfl, rfl⟩)|refine zz ?_|(refine zw ?_;refine And.intro ?_ ?_<;>intro hc)|(refine zv ?_;intro cv hv)|(refine za ?_;intro _)|refine zc ?_|(refine zd ?_;refine And.intro ?_ ?_<;>(intro e;(try simp only [Bool.not_eq_true',Bool.not_eq_false'] at e);subst e;try contradiction)))
            (first|refine ⟨.inr rfl,_,.t rfl .nil,?_⟩|refine ⟨.inr rfl,_,.t rfl (.t rfl .nil),?_⟩|refine ⟨.inr rfl,_,.t rfl (.t rfl (.t rfl .nil)),?_⟩|refine ⟨.inr rfl,_,.nil,?_⟩|refine ⟨.inl rfl,_,.t rfl .nil,?_⟩|refine ⟨.inl rfl,_,.nil,?_⟩|refine ⟨.inr rfl,_,.cn rfl (by exact zN) .nil,?_⟩|refine ⟨.inr rfl,_,.cn rfl (by exact zN) (.t rfl .nil),?_⟩)
            exact ⟨_, _, (.cons (.here) (.cons (.there (.here)) (.nil))), .inr ⟨ed, v0, _, _, _, _, rfl, rfl⟩⟩
        · have k72 := scalar72 (a := a) (rd := rd) (left := .ofNat l) (nd := nd) (tf := .fn gt [] ct) (pf := .fn gp [] cp) hs hl hx
          have ed : dec B s (f + 1) x a (l + 1) = match rdS s a with
              | none => none
              | some (v, to) => some (v, x, to, l, 0) := by
            simp only [dec, hx, if_neg h3y]
            rfl
          repeat' (first|(refine Rg.callM rfl k1 (.cons (.there (.here)) (.nil)) ?_; rintro _ _ ⟨rfl, rfl⟩)|(refine Rg.callM rfl k72 (.cons (.here) (.nil)) ?_; rintro _ _ (⟨v, to, hr, rfl, rfl⟩ | ⟨hr, v, a2, rfl, rfl⟩))|refine zz ?_|(refine zw ?_;refine And.intro ?_ ?_<;>intro hc)|(refine zv ?_;intro cv hv)|(refine za ?_;intro _)|refine zc ?_|(refine zd ?_;refine And.intro ?_ ?_<;>(intro e;(try simp only [Bool.not_eq_true',Bool.not_eq_false'] at e);subst e;try contradiction)))
          all_goals (first|refine ⟨.inr rfl,_,.t rfl .nil,?_⟩|refine ⟨.inr rfl,_,.t rfl (.t rfl .nil),?_⟩|refine ⟨.inr rfl,_,.t rfl (.t rfl (.t rfl .nil)),?_⟩|refine ⟨.inr rfl,_,.nil,?_⟩|refine ⟨.inl rfl,_,.t rfl .nil,?_⟩|refine ⟨.inl rfl,_,.nil,?_⟩|refine ⟨.inr rfl,_,.cn rfl (by exact zN) .nil,?_⟩|refine ⟨.inr rfl,_,.cn rfl (by exact zN) (.t rfl .nil),?_⟩)
          · exact ⟨_, _, (.cons (.here) (.cons (.there (.here)) (.nil))), .inl ⟨v, x, to, l, 0, c, by rw [ed, hr], rfl, hR, rfl⟩⟩
          · exact ⟨_, _, (.cons (.here) (.cons (.there (.here)) (.nil))), .inr ⟨by rw [ed, hr], v, _, _, _, _, rfl, rfl⟩⟩
      · simp only [if_neg h] at k1
        repeat' (first|(refine Rg.callM rfl k1 (.cons (.there (.here)) (.nil)) ?_; rintro _ _ ⟨rfl, rfl⟩)|refine zz ?_|(refine zw ?_;refine And.intro ?_ ?_<;>intro hc)|(refine zv ?_;intro cv hv)|(refine za ?_;intro _)|refine zc ?_|(refine zd ?_;refine And.intro ?_ ?_<;>(intro e;(try simp only [Bool.not_eq_true',Bool.not_eq_false'] at e);subst e;try contradiction)))
        (first|refine ⟨.inr rfl,_,.t rfl .nil,?_⟩|refine ⟨.inr rfl,_,.t rfl (.t rfl .nil),?_⟩|refine ⟨.inr rfl,_,.t rfl (.t rfl (.t rfl .nil)),?_⟩|refine ⟨.inr rfl,_,.nil,?_⟩|refine ⟨.inl rfl,_,.t rfl .nil,?_⟩|refine ⟨.inl rfl,_,.nil,?_⟩|refine ⟨.inr rfl,_,.cn rfl (by exact zN) .nil,?_⟩|refine ⟨.inr rfl,_,.cn rfl (by exact zN) (.t rfl .nil),?_⟩)
        exact ⟨_, _, (.cons (.here) (.cons (.there (.here)) (.nil))), .inr ⟨by simp only [dec]; rw [List.getElem?_eq_none (by omega)], v0, _, _, _, _, rfl, rfl⟩⟩
end
end Go.Proofs.Ytlflpjjmkigepaa

namespace Go.Proofs.Ytlflpjjmkigepaa
open Go Go.Abs
attribute [local irreducible] Cmp Rg Dw Cd Lp Ev Rdk CT Upd InK
section
variable {σ : Type} {B : Bld σ} {s : List Nat}
theorem dec_no {f : Nat} {x : σ} {a l : Nat} (h : s.length ≤ a) : dec B s f x a l = none := by
  cases f with
  | zero => rfl
  | succ f =>
    cases l with
    | zero => rfl
    | succ l => simp only [dec]; rw [List.getElem?_eq_none h]
theorem dec_0 {f : Nat} {x : σ} {a l : Nat} {v : Val} {x1 : σ} {a1 l1 m : Nat} (h : s[a]? = some 0) (hd : dec B s f x a l = some (v, x1, a1, l1, m)) : v.k = 0 := by
  cases f with
  | zero => cases hd
  | succ f =>
    cases l with
    | zero => cases hd
    | succ l =>
      simp only [dec, h] at hd
      rw [if_neg (by decide), rdS_0 h] at hd
      simp only [Option.some.injEq, Prod.mk.injEq] at hd
      rw [← hd.1]
theorem dec_n0 {f : Nat} {x : σ} {a l c : Nat} {v : Val} {x1 : σ} {a1 l1 m : Nat} (hB : (B.tb x).2.k ≠ 0) (h : s[a]? = some c) (hc : c ≠ 0) (hd : dec B s f x a l = some (v, x1, a1, l1, m)) : v.k ≠ 0 := by
  cases f with
  | zero => cases hd
  | succ f =>
    cases l with
    | zero => cases hd
    | succ l =>
      simp only [dec, h] at hd
      split at hd
      · split at hd
        · split at hd
          · cases hd
          · simp only [Option.some.injEq, Prod.mk.injEq] at hd
            rw [← hd.1]
            exact hB
        · cases hd
      · split at hd
        · cases hd
        · rename_i v2 to hr
          simp only [Option.some.injEq, Prod.mk.injEq] at hd
          rw [← hd.1]
          by_cases h1 : c = 1
          · subst h1
            rw [rdS_1 h] at hr
            split at hr
            · cases hr; show (1 : Int) ≠ 0; decide
            · cases hr
          · by_cases h2 : c = 2
            · subst h2
              rw [rdS_2 h] at hr
              split at hr
              · split at hr
                · cases hr; show (2 : Int) ≠ 0; decide
                · cases hr
              · cases hr
            · rw [rdS_x h hc h1 h2] at hr
              cases hr
end
def ovA (d : DR Unit) (w : AV) : Prop := match d with
  | some (_, _, a, l, m) => w = .tup [.int .i64 (.ofNat a), .int .i64 (.ofNat l), .int .i64 (.ofNat m)]
  | none => ∃ x, w = .tup [.int .i64 (.negSucc 0), .int .i64 x, .int .i64 (.ofNat 0)]
section
variable {s : List Nat}
theorem ahead_v0 {k : Val} (hk : keyB k = true) : aheadB v0 k = true := by
  simp only [keyB, Bool.or_eq_true, decide_eq_true_eq] at hk
  have h0 : v0.k = 0 := rfl
  rw [aheadB, if_pos (by omega), decide_eq_true (by omega)]
theorem m16 (hl : s.length ≤ 100000) {b14 b16 i to : Nat} {last kv : Val} {z1 z2 z11 z13 : AV} {d : Bool} (hto : to ≤ s.length) (hlast : i = 0 ∧ last = v0 ∨ 0 < i ∧ ScOk last ∧ keyB last = true) (hk : ScOk kv) (hkb : keyB kv = true)
    (hd : d = (!(aheadB last kv) || decide (s[to]? = none ∨ s[to]? = some 0))) :
    Cd Try.prog false (.reg r43_16) [(0, .str s), (1, z1), (2, z2), (11, z11), (13, z13), (14, .ptr b14 0 0 3), (15, .int .i64 (.ofNat i)), (16, .ptr b16 0 0 3), (17, .int .i64 (.ofNat to))] [b3 b16 kv, b3 b14 last]
      fun e l K => e = .nrm ∧ Sub2 [(0, .str s), (1, z1), (2, z2), (11, z11), (13, z13), (14, .ptr b14 0 0 3), (15, .int .i64 (.ofNat i)), (16, .ptr b16 0 0 3), (17, .int .i64 (.ofNat to)), (96, .bool d)] l ∧ K = [b3 b16 kv, b3 b14 last] := by
  have k53 := key16 (k := kv)
  rw [hkb] at k53
  have kk : kv.k = 1 ∨ kv.k = 2 := by simpa [keyB] using hkb
  rcases hlast with ⟨rfl, rfl⟩ | ⟨hi, hlo, hlk⟩
  · rw [ahead_v0 hkb] at hd
    by_cases ht : to < s.length
    · have hx : s[to]? = some s[to] := List.getElem?_eq_getElem ht
      generalize s[to] = y at hx
      have q1 := idxs_at (k := .i64) hx
      by_cases hy : y = 0
      · subst hy
        simp only [hx] at hd
        subst hd
        repeat' (first|refine zz ?_|(refine zw ?_;refine And.intro ?_ ?_<;>intro hc)|(refine zv ?_;intro cv hv)|(refine za ?_;intro _)|refine zc ?_|(refine zd ?_;refine And.intro ?_ ?_<;>(intro e;(try simp only [Bool.not_eq_true',Bool.not_eq_false'] at e);subst e;try contradiction)))
        exact ⟨rfl, ⟨rfl, rfl, rfl, rfl, rfl, rfl, rfl, rfl, rfl, rfl, trivial⟩, rfl⟩
      · have n0 := nlit hy
        simp only [hx] at hd
        obtain rfl : d = false := by rw [hd]; simp [hy]
        repeat' (first|refine zz ?_|(refine zw ?_;refine And.intro ?_ ?_<;>intro hc)|(refine zv ?_;intro cv hv)|(refine za ?_;intro _)|refine zc ?_|(refine zd ?_;refine And.intro ?_ ?_<;>(intro e;(try simp only [Bool.not_eq_true',Bool.not_eq_false'] at e);subst e;try contradiction)))
        exact ⟨rfl, ⟨rfl, rfl, rfl, rfl, rfl, rfl, rfl, rfl, rfl, rfl, trivial⟩, rfl⟩
    · have hx : s[to]? = none := List.getElem?_eq_none (by omega)
      simp only [hx] at hd
      subst hd
      repeat' (first|refine zz ?_|(refine zw ?_;refine And.intro ?_ ?_<;>intro hc)|(refine zv ?_;intro cv hv)|(refine za ?_;intro _)|refine zc ?_|(refine zd ?_;refine And.intro ?_ ?_<;>(intro e;(try simp only [Bool.not_eq_true',Bool.not_eq_false'] at e);subst e;try contradiction)))
      exact ⟨rfl, ⟨rfl, rfl, rfl, rfl, rfl, rfl, rfl, rfl, rfl, rfl, trivial⟩, rfl⟩
  · have k65 := behind65 (a := last) (b := kv) (by simpa [keyB] using hlk) kk hlo.len hk.len
    cases ha : aheadB last kv with
    | false =>
      rw [ha] at k65 hd
      obtain rfl : d = true := by rw [hd]; rfl
      repeat' (first|refine zz ?_|(refine zw ?_;refine And.intro ?_ ?_<;>intro hc)|(refine zv ?_;intro cv hv)|(refine za ?_;intro _)|refine zc ?_|(refine zd ?_;refine And.intro ?_ ?_<;>(intro e;(try simp only [Bool.not_eq_true',Bool.not_eq_false'] at e);subst e;try contradiction)))
      exact ⟨rfl, ⟨rfl, rfl, rfl, rfl, rfl, rfl, rfl, rfl, rfl, rfl, trivial⟩, rfl⟩
    | true =>
      rw [ha] at k65 hd
      by_cases ht : to < s.length
      · have hx : s[to]? = some s[to] := List.getElem?_eq_getElem ht
        generalize s[to] = y at hx
        have q1 := idxs_at (k := .i64) hx
        by_cases hy : y = 0
        · subst hy
          simp only [hx] at hd
          subst hd
          repeat' (first|refine zz ?_|(refine zw ?_;refine And.intro ?_ ?_<;>intro hc)|(refine zv ?_;intro cv hv)|(refine za ?_;intro _)|refine zc ?_|(refine zd ?_;refine And.intro ?_ ?_<;>(intro e;(try simp only [Bool.not_eq_true',Bool.not_eq_false'] at e);subst e;try contradiction)))
          exact ⟨rfl, ⟨rfl, rfl, rfl, rfl, rfl, rfl, rfl, rfl, rfl, rfl, trivial⟩, rfl⟩
        · have n0 := nlit hy
          simp only [hx] at hd
          obtain rfl : d = false := by rw [hd]; simp [hy]
          repeat' (first|refine zz ?_|(refine zw ?_;refine And.intro ?_ ?_<;>intro hc)|(refine zv ?_;intro cv hv)|(refine za ?_;intro _)|refine zc ?_|(refine zd ?_;refine And.intro ?_ ?_<;>(intro e;(try simp only [Bool.not_eq_true',Bool.not_eq_false'] at e);subst e;try contradiction)))
          exact ⟨rfl, ⟨rfl, rfl, rfl, rfl, rfl, rfl, rfl, rfl, rfl, rfl, trivial⟩, rfl⟩
      · have hx : s[to]? = none := List.getElem?_eq_none (by omega)
        simp only [hx] at hd
        subst hd
        repeat' (first|refine zz ?_|(refine zw ?_;refine And.intro ?_ ?_<;>intro hc)|(refine zv ?_;intro cv hv)|(refine za ?_;intro _)|refine zc ?_|(refine zd ?_;refine And.intro ?_ ?_<;>(intro e;(try simp only [Bool.not_eq_true',Bool.not_eq_false'] at e);subst e;try contradiction)))
        exact ⟨rfl, ⟨rfl, rfl, rfl, rfl, rfl, rfl, rfl, rfl, rfl, rfl, trivial⟩, rfl⟩
theorem over43_loop (hs : ∀ x, x ∈ s → x < 256) (hl : s.length ≤ 100000) {g : Unit → Nat → Nat → DR Unit} {t : Val} {n Bd b14 : Nat} {Q : AX → SL → Mem → Prop} (hn : n < 65536)
    (hg : ∀ a l, l ≤ Bd → a ≤ s.length → CT Try.prog false 43 [.str s, .int .i64 (.ofNat a), .int .i64 (.ofNat l)] [] fun w K' => ovA (g () a l) w ∧ K' = [])
    (hle : ∀ x a l v x1 a1 l1 m, g x a l = some (v, x1, a1, l1, m) → a < a1 ∧ a1 ≤ s.length ∧ l1 < l ∧ m + 1 ≤ 2 * (l - l1))
    (hno : ∀ a l, s.length ≤ a → g () a l = none) (h0 : ∀ a l v x1 a1 l1 m, s[a]? = some 0 → g () a l = some (v, x1, a1, l1, m) → v.k = 0) (hn0 : ∀ a l c v x1 a1 l1 m, s[a]? = some c → c ≠ 0 → g () a l = some (v, x1, a1, l1, m) → v.k ≠ 0) :
    ∀ (f k i : Nat) (last : Val) (a l nd : Nat), k < f → i + k = n → l ≤ Bd → a ≤ s.length → nd + 65537 * l ≤ 100000000 → (i = 0 ∧ last = v0 ∨ 0 < i ∧ ScOk last ∧ keyB last = true) →
      (hend : ∀ l' a2 l2 m K, decL openB s g t k last () a l = some ((), a2, l2, m) → Sub2 [(1, .int .i64 (.ofNat a2)), (2, .int .i64 (.ofNat l2)), (13, .int .i64 (.ofNat (nd + m)))] l' → Q (.ext 0) l' K) →
      (hret : decL openB s g t k last () a l = none → ∀ l' K', Sub2 [(6, .int .i64 (.negSucc 0)), (7, .int .i64 (.ofNat 0)), (8, .int .i64 (.ofNat 0))] l' → Q .ret l' K') →
      Lp Try.prog false b43_0 f [(0, .str s), (1, .int .i64 (.ofNat a)), (2, .int .i64 (.ofNat l)), (11, .int .i64 (.ofNat n)), (13, .int .i64 (.ofNat nd)), (14, .ptr b14 0 0 3), (15, .int .i64 (.ofNat i))] [b3 b14 last] Q := by
  intro f
  induction f with
  | zero => intro k i last a l nd h1; omega
  | succ f ih =>
    intro k i last a l nd h1 h2 h3 h4 h5 hlast hend hret
    refine Lp.round ?_
    cases k with
    | zero =>
      obtain rfl : i = n := by omega
      repeat' (first|refine zz ?_|(refine zw ?_;refine And.intro ?_ ?_<;>intro hc)|(refine zv ?_;intro cv hv)|(refine za ?_;intro _)|refine zc ?_|(refine zd ?_;refine And.intro ?_ ?_<;>(intro e;(try simp only [Bool.not_eq_true',Bool.not_eq_false'] at e);subst e;try contradiction)))
      exact hend _ a l 0 _ rfl ⟨rfl, rfl, rfl, trivial⟩
    | succ k =>
      have hin : i < n := by omega
      have k63 := read63 (a := a) hs hl (by omega)
      unfold readA at k63
      cases hr : rdS s a with
      | none =>
        rw [hr] at k63
        have hk : rdK s a = none := by unfold rdK; rw [hr]
        repeat' (first|refine zz ?_|(refine zw ?_;refine And.intro ?_ ?_<;>intro hc)|(refine zv ?_;intro cv hv)|(refine za ?_;intro _)|refine zc ?_|(refine zd ?_;refine And.intro ?_ ?_<;>(intro e;(try simp only [Bool.not_eq_true',Bool.not_eq_false'] at e);subst e;try contradiction)))
        exact hret (by simp only [decL, hk]) _ _ ⟨rfl, rfl, rfl, trivial⟩
      | some p =>
        obtain ⟨kv, to⟩ := p
        rw [hr] at k63
        simp only at k63
        obtain ⟨hto1, hto2⟩ := rdS_le hr
        have hkOk := (rdS_sc hs hr).2.2.2
        have k53 := key16 (k := kv)
        cases hkb : keyB kv with
        | false =>
          rw [hkb] at k53
          have hk : rdK s a = none := by unfold rdK; simp only [hr, hkb]; rfl
          repeat' (first|refine zz ?_|(refine zw ?_;refine And.intro ?_ ?_<;>intro hc)|(refine zv ?_;intro cv hv)|(refine za ?_;intro _)|refine zc ?_|(refine zd ?_;refine And.intro ?_ ?_<;>(intro e;(try simp only [Bool.not_eq_true',Bool.not_eq_false'] at e);subst e;try contradiction)))
          exact hret (by simp only [decL, hk]) _ _ ⟨rfl, rfl, rfl, trivial⟩
        | true =>
          rw [hkb] at k53
          have hk : rdK s a = some (kv, to) := by unfold rdK; simp only [hr, hkb, if_true]
          repeat' (first|(refine stopAt (c := r43_16) ?_)|refine zz ?_|(refine zw ?_;refine And.intro ?_ ?_<;>intro hc)|(refine zv ?_;intro cv hv)|(refine za ?_;intro _)|refine zc ?_|(refine zd ?_;refine And.intro ?_ ?_<;>(intro e;(try simp only [Bool.not_eq_true',Bool.not_eq_false'] at e);subst e;try contradiction)))
          rename_i b16
          refine ⟨?_⟩
          refine Cd.seq (Cd.weak (l2 := [(0, .str s), (1, .int .i64 (.ofNat a)), (2, .int .i64 (.ofNat l)), (11, .int .i64 (.ofNat n)), (13, .int .i64 (.ofNat nd)), (14, .ptr b14 0 0 3), (15, .int .i64 (.ofNat i)), (16, .ptr b16 0 0 3), (17, .int .i64 (.ofNat to))]) ⟨rfl, rfl, rfl, rfl, rfl, rfl, rfl, rfl, rfl, trivial⟩ (Cd.mono (m16 hl hto2 hlast hkOk hkb rfl) ?_))
          rintro _ l' _ ⟨rfl, hsub, rfl⟩
          show Cd _ _ _ _ _ _
          refine Cd.weak hsub ?_
          cases hah : aheadB last kv with
          | false =>
            repeat' (first|refine zz ?_|(refine zw ?_;refine And.intro ?_ ?_<;>intro hc)|(refine zv ?_;intro cv hv)|(refine za ?_;intro _)|refine zc ?_|(refine zd ?_;refine And.intro ?_ ?_<;>(intro e;(try simp only [Bool.not_eq_true',Bool.not_eq_false'] at e);subst e;try contradiction)))
            exact hret (by simp only [decL, hk, hah]; rfl) _ _ ⟨rfl, rfl, rfl, trivial⟩
          | true =>
            by_cases hst : s[to]? = none ∨ s[to]? = some 0
            · rw [decide_eq_true hst]
              have hno2 : decL openB s g t (k + 1) last () a l = none := by
                simp only [decL, hk, hah, if_true]
                cases hgv : g () to l with
                | none => rfl
                | some p =>
                  obtain ⟨v, x1, a1, l1, m1⟩ := p
                  rcases hst with hst | hst
                  · rw [hno to l (List.getElem?_eq_none_iff.1 hst)] at hgv
                    cases hgv
                  · have := h0 _ _ _ _ _ _ _ hst hgv
                    simp only [this, if_true]
              repeat' (first|refine zz ?_|(refine zw ?_;refine And.intro ?_ ?_<;>intro hc)|(refine zv ?_;intro cv hv)|(refine za ?_;intro _)|refine zc ?_|(refine zd ?_;refine And.intro ?_ ?_<;>(intro e;(try simp only [Bool.not_eq_true',Bool.not_eq_false'] at e);subst e;try contradiction)))
              exact hret hno2 _ _ ⟨rfl, rfl, rfl, trivial⟩
            · rw [decide_eq_false hst]
              obtain ⟨y, hy, hy0⟩ : ∃ y, s[to]? = some y ∧ y ≠ 0 := by
                cases h : s[to]? with
                | none => exact absurd (.inl h) hst
                | some y => exact ⟨y, rfl, fun e => hst (.inr (by rw [h, e]))⟩
              have k43 := hg to l h3 hto2
              cases hgv : g () to l with
              | none =>
                rw [hgv] at k43
                simp only [ovA] at k43
                repeat' (first|(refine Rg.callM (m := []) rfl k43 .nil ?_; rintro _ _ ⟨⟨x, rfl⟩, rfl⟩)|refine zz ?_|(refine zw ?_;refine And.intro ?_ ?_<;>intro hc)|(refine zv ?_;intro cv hv)|(refine za ?_;intro _)|refine zc ?_|(refine zd ?_;refine And.intro ?_ ?_<;>(intro e;(try simp only [Bool.not_eq_true',Bool.not_eq_false'] at e);subst e;try contradiction)))
                exact hret (by simp only [decL, hk, hah, hgv]; rfl) _ _ ⟨rfl, rfl, rfl, trivial⟩
              | some p =>
                obtain ⟨v, x1, a1, l1, m1⟩ := p
                rw [hgv] at k43
                simp only [ovA] at k43
                have hv0 := hn0 _ _ _ _ _ _ _ _ hy hy0 hgv
                obtain ⟨g1, g2, g3, g4⟩ := hle _ _ _ _ _ _ _ _ hgv
                have e : decL openB s g t (k + 1) last () a l = match decL openB s g t k kv () a1 l1 with
                    | none => none
                    | some (x2, a2, l2, m2) => some (x2, a2, l2, m1 + m2) := by
                  simp only [decL, hk, hah, hgv, if_true]
                  rw [if_neg hv0, show openB.pt x1 t kv v = () from rfl]
                  cases decL openB s g t k kv () a1 l1 with
                  | none => rfl
                  | some p => rfl
                repeat' (first|(refine Rg.callM (m := []) rfl k43 .nil ?_; rintro _ _ ⟨rfl, rfl⟩)|refine zz ?_|(refine zw ?_;refine And.intro ?_ ?_<;>intro hc)|(refine zv ?_;intro cv hv)|(refine za ?_;intro _)|refine zc ?_|(refine zd ?_;refine And.intro ?_ ?_<;>(intro e;(try simp only [Bool.not_eq_true',Bool.not_eq_false'] at e);subst e;try contradiction)))
                have := ih k (i + 1) kv a1 l1 (nd + m1) (by omega) (by omega) (by omega) g2 (by omega) (.inr ⟨by omega, hkOk, hkb⟩)
                  (fun l' a2 l2 m2 K hd hs2 => hend l' a2 l2 (m1 + m2) K (by rw [e, hd]) (by rw [← Nat.add_assoc]; exact hs2))
                  (fun hd => hret (by rw [e, hd]))
                exact Lp.drop (.cons (.there (.here)) (.nil)) (Lp.weak (by exact ⟨rfl, rfl, rfl, rfl, rfl, rfl, rfl, trivial⟩) this)
theorem sub_z2 : abin .sub (.int .i64 (.ofNat 0)) (.int .i64 (.ofNat 1)) = some (.int .i64 (.negSucc 0)) := rfl
theorem sub_o2 {n : Nat} (h : n < 1000000) : abin .sub (.int .i64 (.ofNat (n + 1))) (.int .i64 (.ofNat 1)) = some (.int .i64 (.ofNat n)) := sub_nat (a := n + 1) (by omega) (by omega)
theorem over43_0 (hl : s.length ≤ 100000) {a : Nat} {d : DR Unit} (hd : d = none) : CT Try.prog false 43 [.str s, .int .i64 (.ofNat a), .int .i64 (.ofNat 0)] [] fun w K' => ovA d w ∧ K' = [] := by
  have e0 := sub_z2
  subst hd
  refine CT.enterS mixed comp43 (Nat.le_of_ble_eq_true rfl) ?_
  repeat' (first|refine zz ?_|(refine zw ?_;refine And.intro ?_ ?_<;>intro hc)|(refine zv ?_;intro cv hv)|(refine za ?_;intro _)|refine zc ?_|(refine zd ?_;refine And.intro ?_ ?_<;>(intro e;(try simp only [Bool.not_eq_true',Bool.not_eq_false'] at e);subst e;try contradiction)))
  (first|refine ⟨.inr rfl,_,.t rfl .nil,?_⟩|refine ⟨.inr rfl,_,.t rfl (.t rfl .nil),?_⟩|refine ⟨.inr rfl,_,.t rfl (.t rfl (.t rfl .nil)),?_⟩|refine ⟨.inr rfl,_,.nil,?_⟩|refine ⟨.inl rfl,_,.t rfl .nil,?_⟩|refine ⟨.inl rfl,_,.nil,?_⟩|refine ⟨.inr rfl,_,.cn rfl (by exact zN) .nil,?_⟩|refine ⟨.inr rfl,_,.cn rfl (by exact zN) (.t rfl .nil),?_⟩)
  exact ⟨_, _, .nil, ⟨0, rfl⟩, rfl⟩
theorem nlit8 {x n : Nat} (h : x ≠ n) : abin .neq (.int .u8 (.ofNat x)) (.int .u8 (.ofNat n)) = some (.bool true) := by
  have e : abin .neq (.int .u8 (.ofNat x)) (.int .u8 (.ofNat n)) = some (.bool (!(ieq (.ofNat x) (.ofNat n)))) := rfl
  rw [e, ieq_dec, decide_eq_false fun e => h (Int.ofNat.inj e)]
  rfl
theorem over43 (hs : ∀ x, x ∈ s → x < 256) (hl : s.length ≤ 100000) : ∀ (f : Nat) {a l : Nat}, l ≤ f → l ≤ 200 → a ≤ s.length →
    CT Try.prog false 43 [.str s, .int .i64 (.ofNat a), .int .i64 (.ofNat l)] [] fun w K' => ovA (dec openB s f () a l) w ∧ K' = [] := by
  intro f
  induction f with
  | zero =>
    intro a l h1 h2 h3
    obtain rfl : l = 0 := by omega
    exact over43_0 hl rfl
  | succ f ih =>
    intro a l h1 h2 h3
    cases l with
    | zero => exact over43_0 hl rfl
    | succ l =>
      have e0 := sub_o2 (n := l) (by omega)
      by_cases h : a < s.length
      · have hx : s[a]? = some s[a] := List.getElem?_eq_getElem h
        generalize s[a] = y at hx
        have q1 := idxs_at (k := .i64) hx
        refine CT.enterS mixed comp43 (Nat.le_of_ble_eq_true rfl) ?_
        by_cases h3y : y = 3
        · subst h3y
          have k2 := get64 (a := a + 1) (w := 2) hs (by omega) (by omega) (by omega)
          rw [show a + 1 + 2 = a + 3 by omega] at k2
          by_cases h3l : a + 3 ≤ s.length
          · rw [if_pos h3l] at k2
            have hlt := segd_lt (w := 2) (a := a + 1) (b := a + 3) hs h3l (by omega) (by omega)
            have e2 : 256 ^ 2 = 65536 := by decide
            rw [e2] at hlt
            rw [i64_lo (by omega)] at k2
            have ed : dec openB s (f + 1) () a (l + 1) = match decL openB s (dec openB s f) ⟨3, 0, []⟩ (deB (sgm s (a + 1) (a + 3))) v0 () (a + 3) l with
                | none => none
                | some (x2, a2, l2, m) => some (⟨3, 0, []⟩, x2, a2, l2, 1 + deB (sgm s (a + 1) (a + 3)) + m) := by
              simp only [dec, hx, if_true, if_pos h3l, show openB.tb () = ((), ⟨3, 0, []⟩) from rfl]
              cases decL openB s (dec openB s f) ⟨3, 0, []⟩ (deB (sgm s (a + 1) (a + 3))) v0 () (a + 3) l with
              | none => rfl
              | some p => rfl
            generalize deB (sgm s (a + 1) (a + 3)) = n at k2 hlt ed
            repeat' (first|refine zz ?_|(refine zw ?_;refine And.intro ?_ ?_<;>intro hc)|(refine zv ?_;intro cv hv)|(refine za ?_;intro _)|refine zc ?_|(refine zd ?_;refine And.intro ?_ ?_<;>(intro e;(try simp only [Bool.not_eq_true',Bool.not_eq_false'] at e);subst e;try contradiction)))
            rename_i b14
            refine Cd.loop (k := n + 1) (Lp.weak (l2 := [(0, .str s), (1, .int .i64 (.ofNat (a + 3))), (2, .int .i64 (.ofNat l)), (11, .int .i64 (.ofNat n)), (13, .int .i64 (.ofNat (1 + n))), (14, .ptr b14 0 0 3), (15, .int .i64 (.ofNat 0))]) ⟨rfl, rfl, rfl, rfl, rfl, rfl, rfl, trivial⟩
              (over43_loop (t := ⟨3, 0, []⟩) (g := dec openB s f) (Bd := l) hs hl hlt (fun a l h1 h2 => ih (by omega) (by omega) h2) (fun _ _ _ _ _ _ _ _ h => dec_le h) (fun a l h => dec_no h) (fun _ _ _ _ _ _ _ h hd => dec_0 h hd) (fun _ _ _ _ _ _ _ _ h h2 hd => dec_n0 (by decide) h h2 hd) (n + 1) n 0 v0 (a + 3) l (1 + n) (by omega) (by omega) (Nat.le_refl _) h3l (by omega) (.inl ⟨rfl, rfl⟩) ?_ ?_))
            · intro l' a2 l2 m K hd hsub
              show Cd _ _ _ _ _ _
              refine Cd.weak hsub ?_
              repeat' (first|refine zz ?_|(refine zw ?_;refine And.intro ?_ ?_<;>intro hc)|(refine zv ?_;intro cv hv)|(refine za ?_;intro _)|refine zc ?_|(refine zd ?_;refine And.intro ?_ ?_<;>(intro e;(try simp only [Bool.not_eq_true',Bool.not_eq_false'] at e);subst e;try contradiction)))
              (first|refine ⟨.inr rfl,_,.t rfl .nil,?_⟩|refine ⟨.inr rfl,_,.t rfl (.t rfl .nil),?_⟩|refine ⟨.inr rfl,_,.t rfl (.t rfl (.t rfl .nil)),?_⟩|refine ⟨.inr rfl,_,.nil,?_⟩|refine ⟨.inl rfl,_,.t rfl .nil,?_⟩|refine ⟨.inl rfl,_,.nil,?_⟩|refine ⟨.inr rfl,_,.cn rfl (by exact zN) .nil,?_⟩|refine ⟨.inr rfl,_,.cn rfl (by exact zN) (.t rfl .nil),?_⟩)
              refine ⟨_, _, .nil, ?_, rfl⟩
              rw [ed, hd]
              rfl
            · rintro hd l' K' ⟨h6, h7, h8, _⟩
              refine ⟨.inr rfl, _, .t h6 (.t h7 (.t h8 .nil)), _, _, .nil, ?_, rfl⟩
              rw [ed, hd]
              exact ⟨_, rfl⟩
          · rw [if_neg h3l] at k2
            have ed : dec openB s (f + 1) () a (l + 1) = none := by simp only [dec, hx, if_true, if_neg h3l]
            rw [ed]
            repeat' (first|refine zz ?_|(refine zw ?_;refine And.intro ?_ ?_<;>intro hc)|(refine zv ?_;intro cv hv)|(refine za ?_;intro _)|refine zc ?_|(refine zd ?_;refine And.intro ?_ ?_<;>(intro e;(try simp only [Bool.not_eq_true',Bool.not_eq_false'] at e);subst e;try contradiction)))
            (first|refine ⟨.inr rfl,_,.t rfl .nil,?_⟩|refine ⟨.inr rfl,_,.t rfl (.t rfl .nil),?_⟩|refine ⟨.inr rfl,_,.t rfl (.t rfl (.t rfl .nil)),?_⟩|refine ⟨.inr rfl,_,.nil,?_⟩|refine ⟨.inl rfl,_,.t rfl .nil,?_⟩|refine ⟨.inl rfl,_,.nil,?_⟩|refine ⟨.inr rfl,_,.cn rfl (by exact zN) .nil,?_⟩|refine ⟨.inr rfl,_,.cn rfl (by exact zN) (.t rfl .nil),?_⟩)
            exact ⟨_, _, .nil, ⟨0, rfl⟩, rfl⟩
        · have n3 := nlit8 h3y
          have k63 := read63 (a := a) hs hl (by omega)
          unfold readA at k63
          have ed : dec openB s (f + 1) () a (l + 1) = match rdS s a with
              | none => none
              | some (v, to) => some (v, (), to, l, 0) := by
            simp only [dec, hx, if_neg h3y]
            cases rdS s a with
            | none => rfl
            | some p => rfl
          rw [ed]
          cases hr : rdS s a with
          | none =>
            rw [hr] at k63
            repeat' (first|refine zz ?_|(refine zw ?_;refine And.intro ?_ ?_<;>intro hc)|(refine zv ?_;intro cv hv)|(refine za ?_;intro _)|refine zc ?_|(refine zd ?_;refine And.intro ?_ ?_<;>(intro e;(try simp only [Bool.not_eq_true',Bool.not_eq_false'] at e);subst e;try contradiction)))
            (first|refine ⟨.inr rfl,_,.t rfl .nil,?_⟩|refine ⟨.inr rfl,_,.t rfl (.t rfl .nil),?_⟩|refine ⟨.inr rfl,_,.t rfl (.t rfl (.t rfl .nil)),?_⟩|refine ⟨.inr rfl,_,.nil,?_⟩|refine ⟨.inl rfl,_,.t rfl .nil,?_⟩|refine ⟨.inl rfl,_,.nil,?_⟩|refine ⟨.inr rfl,_,.cn rfl (by exact zN) .nil,?_⟩|refine ⟨.inr rfl,_,.cn rfl (by exact zN) (.t rfl .nil),?_⟩)
            exact ⟨_, _, .nil, ⟨l, rfl⟩, rfl⟩
          | some p =>
            obtain ⟨v, to⟩ := p
            rw [hr] at k63
            simp only at k63
            repeat' (first|refine zz ?_|(refine zw ?_;refine And.intro ?_ ?_<;>intro hc)|(refine zv ?_;intro cv hv)|(refine za ?_;intro _)|refine zc ?_|(refine zd ?_;refine And.intro ?_ ?_<;>(intro e;(try simp only [Bool.not_eq_true',Bool.not_eq_false'] at e);subst e;try contradiction)))
            (first|refine ⟨.inr rfl,_,.t rfl .nil,?_⟩|refine ⟨.inr rfl,_,.t rfl (.t rfl .nil),?_⟩|refine ⟨.inr rfl,_,.t rfl (.t rfl (.t rfl .nil)),?_⟩|refine ⟨.inr rfl,_,.nil,?_⟩|refine ⟨.inl rfl,_,.t rfl .nil,?_⟩|refine ⟨.inl rfl,_,.nil,?_⟩|refine ⟨.inr rfl,_,.cn rfl (by exact zN) .nil,?_⟩|refine ⟨.inr rfl,_,.cn rfl (by exact zN) (.t rfl .nil),?_⟩)
            exact ⟨_, _, .nil, rfl, rfl⟩
      · rw [dec_no (by omega)]
        refine CT.enterS mixed comp43 (Nat.le_of_ble_eq_true rfl) ?_
        repeat' (first|refine zz ?_|(refine zw ?_;refine And.intro ?_ ?_<;>intro hc)|(refine zv ?_;intro cv hv)|(refine za ?_;intro _)|refine zc ?_|(refine zd ?_;refine And.intro ?_ ?_<;>(intro e;(try simp only [Bool.not_eq_true',Bool.not_eq_false'] at e);subst e;try contradiction)))
        (first|refine ⟨.inr rfl,_,.t rfl .nil,?_⟩|refine ⟨.inr rfl,_,.t rfl (.t rfl .nil),?_⟩|refine ⟨.inr rfl,_,.t rfl (.t rfl (.t rfl .nil)),?_⟩|refine ⟨.inr rfl,_,.nil,?_⟩|refine ⟨.inl rfl,_,.t rfl .nil,?_⟩|refine ⟨.inl rfl,_,.nil,?_⟩|refine ⟨.inr rfl,_,.cn rfl (by exact zN) .nil,?_⟩|refine ⟨.inr rfl,_,.cn rfl (by exact zN) (.t rfl .nil),?_⟩)
        exact ⟨_, _, .nil, ⟨0, rfl⟩, rfl⟩
end
end Go.Proofs.Ytlflpjjmkigepaa
