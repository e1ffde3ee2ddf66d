/- Contracts: whether an instruction may run. -/
import Derived.Test.YtlimjjilakldgaaModF
import Derived.Test.YtlimjjilakldgaaAbsU
set_option autoImplicit false
set_option maxRecDepth 100000
set_option maxHeartbeats 2000000
set_option linter.unusedVariables false
set_option linter.unusedSimpArgs false
namespace Go.Proofs.Ytlimjjilakldgaa
open Go Go.Abs
attribute [local irreducible] Cmp Rg Dw Cd Lp Ev Rdk CT Upd InK
/-- What an instruction asks, behind its registers. -/
def opB (u : Unt) (p : Proto) (pc : Nat) (x : Ins) : Bool :=
  if x.op = 0 ∨ x.op = 36 then decide (x.a ≤ p.regs)
  else if x.op = 2 then decide (wide x < p.consts.length)
  else if x.op = 7 then decide (x.b < p.caps.length)
  else if x.op = 8 then decide (x.a < p.caps.length)
  else if x.op = 25 ∨ x.op = 26 ∨ x.op = 27 then jumpB p pc (wide x)
  else if x.op = 28 then closesB u p (wide x)
  else if x.op = 29 then decide (x.b + x.c < p.regs)
  else if x.op = 30 then decide (x.c < u.funs) && (match u.protos[x.c.toNat]? with | some q => decide (x.b + q.params ≤ p.regs) | none => false)
  else if x.op = 31 then (match u.uses[x.c.toNat]? with | some q => decide (x.b + q.p ≤ p.regs) | none => false)
  else true
def mayB (u : Unt) (p : Proto) (pc : Nat) (x : Ins) : Bool := regs3 p.regs (shape x.op) x && opB u p pc x
/-- What is known of a unit that can be. -/
structure OkN (u : Unt) : Prop where
  f0 : 0 ≤ u.funs
  f1 : u.funs ≤ u.protos.length
  f2 : u.funs ≤ 32
  ps : ∀ p, p ∈ u.protos → 0 ≤ p.params ∧ p.params ≤ 8
  us : ∀ x, x ∈ u.uses → 0 ≤ x.p ∧ x.p ≤ 8
theorem right13 {u : Unt} {p : Proto} {pc : Nat} {x : Ins} (hu : OkU u) (hp : OkP p) (hn : OkN u) (hx : p.code[pc]? = some x) (hr : rightI x = true) : PT Try.prog false 35 [.agg (unitR u ++ protoR p), .int .i64 (.ofNat pc)] (.bool (mayB u p pc x)) := by
  refine PT.of (CT.enter mixed comp35 (Nat.le_of_ble_eq_true rfl) ?_)
  have q1 := hp.code.iadr (i := pc) (r := insR x) (k := .i64) (by rw [List.getElem?_map, hx]; rfl)
  have c1 := wide25 x
  have c2 := registers26 u p x
  obtain ⟨l1, l2⟩ := hu.lens
  obtain ⟨m1, m2, m3⟩ := hp.lens
  obtain ⟨ha, hb, hc⟩ := rightI_le hr
  have ho := rightI_op hr
  cases hg : regs3 p.regs (shape x.op) x with
  | false =>
    rw [hg] at c2
    rw [mayB, hg, Bool.false_and]
    repeat' (first|refine zz ?_|(refine zv ?_;intro cv hv)|(refine za ?_;intro _)|refine zc ?_|(refine zd ?_;refine And.intro ?_ ?_<;>(intro e;(try simp only [Bool.not_eq_true',Bool.not_eq_false'] at e);subst e;try contradiction)))
    (first|refine ⟨.inr rfl,_,.t rfl .nil,?_⟩|refine ⟨.inr rfl,_,.t rfl (.t rfl .nil),?_⟩|refine ⟨.inr rfl,_,.t rfl (.t rfl (.t rfl .nil)),?_⟩|refine ⟨.inr rfl,_,.nil,?_⟩|refine ⟨.inl rfl,_,.t rfl .nil,?_⟩|refine ⟨.inl rfl,_,.nil,?_⟩|refine ⟨.inr rfl,_,.cn rfl (by exact zN) .nil,?_⟩|refine ⟨.inr rfl,_,.cn rfl (by exact zN) (.t rfl .nil),?_⟩); rfl
  | true =>
    rw [hg] at c2
    rw [mayB, hg, Bool.true_and]
    repeat' (first|(refine stopAt (c := r35_5) ?_)|refine zz ?_|(refine zv ?_;intro cv hv)|(refine za ?_;intro _)|refine zc ?_|(refine zd ?_;refine And.intro ?_ ?_<;>(intro e;(try simp only [Bool.not_eq_true',Bool.not_eq_false'] at e);subst e;try contradiction)))
    refine ⟨?_⟩
    rename_i b2 b5
    refine Cd.weak (l2 := [(1, _), (2, _), (5, _), (6, _)]) ⟨rfl, rfl, rfl, rfl, trivial⟩ ?_
    have j1 := jumps27 (u := u) hp (pc := pc) (w := wide x)
    have j2 := closes28 hu hp (k := wide x) (by have := hn.f2; omega)
    clear c1 c2 hg q1
    by_cases h0 : x.op = 0
    · repeat' (first|refine zz ?_|(refine zv ?_;intro cv hv)|(refine za ?_;intro _)|refine zc ?_|(refine zd ?_;refine And.intro ?_ ?_<;>(intro e;(try simp only [Bool.not_eq_true',Bool.not_eq_false'] at e);subst e;try contradiction)))
      all_goals (first|refine ⟨.inr rfl,_,.t rfl .nil,?_⟩|refine ⟨.inr rfl,_,.t rfl (.t rfl .nil),?_⟩|refine ⟨.inr rfl,_,.t rfl (.t rfl (.t rfl .nil)),?_⟩|refine ⟨.inr rfl,_,.nil,?_⟩|refine ⟨.inl rfl,_,.t rfl .nil,?_⟩|refine ⟨.inl rfl,_,.nil,?_⟩|refine ⟨.inr rfl,_,.cn rfl (by exact zN) .nil,?_⟩|refine ⟨.inr rfl,_,.cn rfl (by exact zN) (.t rfl .nil),?_⟩)
      all_goals (refine congrArg AV.bool ?_; rw [Bool.eq_iff_iff, hv]; simp [opB, h0])
    by_cases h1 : x.op = 36
    · repeat' (first|refine zz ?_|(refine zv ?_;intro cv hv)|(refine za ?_;intro _)|refine zc ?_|(refine zd ?_;refine And.intro ?_ ?_<;>(intro e;(try simp only [Bool.not_eq_true',Bool.not_eq_false'] at e);subst e;try contradiction)))
      all_goals (first|refine ⟨.inr rfl,_,.t rfl .nil,?_⟩|refine ⟨.inr rfl,_,.t rfl (.t rfl .nil),?_⟩|refine ⟨.inr rfl,_,.t rfl (.t rfl (.t rfl .nil)),?_⟩|refine ⟨.inr rfl,_,.nil,?_⟩|refine ⟨.inl rfl,_,.t rfl .nil,?_⟩|refine ⟨.inl rfl,_,.nil,?_⟩|refine ⟨.inr rfl,_,.cn rfl (by exact zN) .nil,?_⟩|refine ⟨.inr rfl,_,.cn rfl (by exact zN) (.t rfl .nil),?_⟩)
      all_goals (refine congrArg AV.bool ?_; rw [Bool.eq_iff_iff, hv]; simp [opB, h1])
    by_cases h2 : x.op = 2
    · repeat' (first|refine zz ?_|(refine zv ?_;intro cv hv)|(refine za ?_;intro _)|refine zc ?_|(refine zd ?_;refine And.intro ?_ ?_<;>(intro e;(try simp only [Bool.not_eq_true',Bool.not_eq_false'] at e);subst e;try contradiction)))
      all_goals (first|refine ⟨.inr rfl,_,.t rfl .nil,?_⟩|refine ⟨.inr rfl,_,.t rfl (.t rfl .nil),?_⟩|refine ⟨.inr rfl,_,.t rfl (.t rfl (.t rfl .nil)),?_⟩|refine ⟨.inr rfl,_,.nil,?_⟩|refine ⟨.inl rfl,_,.t rfl .nil,?_⟩|refine ⟨.inl rfl,_,.nil,?_⟩|refine ⟨.inr rfl,_,.cn rfl (by exact zN) .nil,?_⟩|refine ⟨.inr rfl,_,.cn rfl (by exact zN) (.t rfl .nil),?_⟩)
      all_goals (refine congrArg AV.bool ?_; rw [Bool.eq_iff_iff, hv]; simp [opB, h2])
    by_cases h3 : x.op = 7
    · repeat' (first|refine zz ?_|(refine zv ?_;intro cv hv)|(refine za ?_;intro _)|refine zc ?_|(refine zd ?_;refine And.intro ?_ ?_<;>(intro e;(try simp only [Bool.not_eq_true',Bool.not_eq_false'] at e);subst e;try contradiction)))
      all_goals (first|refine ⟨.inr rfl,_,.t rfl .nil,?_⟩|refine ⟨.inr rfl,_,.t rfl (.t rfl .nil),?_⟩|refine ⟨.inr rfl,_,.t rfl (.t rfl (.t rfl .nil)),?_⟩|refine ⟨.inr rfl,_,.nil,?_⟩|refine ⟨.inl rfl,_,.t rfl .nil,?_⟩|refine ⟨.inl rfl,_,.nil,?_⟩|refine ⟨.inr rfl,_,.cn rfl (by exact zN) .nil,?_⟩|refine ⟨.inr rfl,_,.cn rfl (by exact zN) (.t rfl .nil),?_⟩)
      all_goals (refine congrArg AV.bool ?_; rw [Bool.eq_iff_iff, hv]; simp [opB, h3])
    by_cases h4 : x.op = 8
    · repeat' (first|refine zz ?_|(refine zv ?_;intro cv hv)|(refine za ?_;intro _)|refine zc ?_|(refine zd ?_;refine And.intro ?_ ?_<;>(intro e;(try simp only [Bool.not_eq_true',Bool.not_eq_false'] at e);subst e;try contradiction)))
      all_goals (first|refine ⟨.inr rfl,_,.t rfl .nil,?_⟩|refine ⟨.inr rfl,_,.t rfl (.t rfl .nil),?_⟩|refine ⟨.inr rfl,_,.t rfl (.t rfl (.t rfl .nil)),?_⟩|refine ⟨.inr rfl,_,.nil,?_⟩|refine ⟨.inl rfl,_,.t rfl .nil,?_⟩|refine ⟨.inl rfl,_,.nil,?_⟩|refine ⟨.inr rfl,_,.cn rfl (by exact zN) .nil,?_⟩|refine ⟨.inr rfl,_,.cn rfl (by exact zN) (.t rfl .nil),?_⟩)
      all_goals (refine congrArg AV.bool ?_; rw [Bool.eq_iff_iff, hv]; simp [opB, h4])
    by_cases h5 : x.op = 25
    · repeat' (first|refine zz ?_|(refine zv ?_;intro cv hv)|(refine za ?_;intro _)|refine zc ?_|(refine zd ?_;refine And.intro ?_ ?_<;>(intro e;(try simp only [Bool.not_eq_true',Bool.not_eq_false'] at e);subst e;try contradiction)))
      all_goals (first|refine ⟨.inr rfl,_,.t rfl .nil,?_⟩|refine ⟨.inr rfl,_,.t rfl (.t rfl .nil),?_⟩|refine ⟨.inr rfl,_,.t rfl (.t rfl (.t rfl .nil)),?_⟩|refine ⟨.inr rfl,_,.nil,?_⟩|refine ⟨.inl rfl,_,.t rfl .nil,?_⟩|refine ⟨.inl rfl,_,.nil,?_⟩|refine ⟨.inr rfl,_,.cn rfl (by exact zN) .nil,?_⟩|refine ⟨.inr rfl,_,.cn rfl (by exact zN) (.t rfl .nil),?_⟩)
      all_goals (refine congrArg AV.bool ?_; simp [opB, h5, hv])
    by_cases h6 : x.op = 26
    · repeat' (first|refine zz ?_|(refine zv ?_;intro cv hv)|(refine za ?_;intro _)|refine zc ?_|(refine zd ?_;refine And.intro ?_ ?_<;>(intro e;(try simp only [Bool.not_eq_true',Bool.not_eq_false'] at e);subst e;try contradiction)))
      all_goals (first|refine ⟨.inr rfl,_,.t rfl .nil,?_⟩|refine ⟨.inr rfl,_,.t rfl (.t rfl .nil),?_⟩|refine ⟨.inr rfl,_,.t rfl (.t rfl (.t rfl .nil)),?_⟩|refine ⟨.inr rfl,_,.nil,?_⟩|refine ⟨.inl rfl,_,.t rfl .nil,?_⟩|refine ⟨.inl rfl,_,.nil,?_⟩|refine ⟨.inr rfl,_,.cn rfl (by exact zN) .nil,?_⟩|refine ⟨.inr rfl,_,.cn rfl (by exact zN) (.t rfl .nil),?_⟩)
      all_goals (refine congrArg AV.bool ?_; simp [opB, h6, hv])
    by_cases h7 : x.op = 27
    · repeat' (first|refine zz ?_|(refine zv ?_;intro cv hv)|(refine za ?_;intro _)|refine zc ?_|(refine zd ?_;refine And.intro ?_ ?_<;>(intro e;(try simp only [Bool.not_eq_true',Bool.not_eq_false'] at e);subst e;try contradiction)))
      all_goals (first|refine ⟨.inr rfl,_,.t rfl .nil,?_⟩|refine ⟨.inr rfl,_,.t rfl (.t rfl .nil),?_⟩|refine ⟨.inr rfl,_,.t rfl (.t rfl (.t rfl .nil)),?_⟩|refine ⟨.inr rfl,_,.nil,?_⟩|refine ⟨.inl rfl,_,.t rfl .nil,?_⟩|refine ⟨.inl rfl,_,.nil,?_⟩|refine ⟨.inr rfl,_,.cn rfl (by exact zN) .nil,?_⟩|refine ⟨.inr rfl,_,.cn rfl (by exact zN) (.t rfl .nil),?_⟩)
      all_goals (refine congrArg AV.bool ?_; simp [opB, h7, hv])
    by_cases h8 : x.op = 28
    · repeat' (first|refine zz ?_|(refine zv ?_;intro cv hv)|(refine za ?_;intro _)|refine zc ?_|(refine zd ?_;refine And.intro ?_ ?_<;>(intro e;(try simp only [Bool.not_eq_true',Bool.not_eq_false'] at e);subst e;try contradiction)))
      all_goals (first|refine ⟨.inr rfl,_,.t rfl .nil,?_⟩|refine ⟨.inr rfl,_,.t rfl (.t rfl .nil),?_⟩|refine ⟨.inr rfl,_,.t rfl (.t rfl (.t rfl .nil)),?_⟩|refine ⟨.inr rfl,_,.nil,?_⟩|refine ⟨.inl rfl,_,.t rfl .nil,?_⟩|refine ⟨.inl rfl,_,.nil,?_⟩|refine ⟨.inr rfl,_,.cn rfl (by exact zN) .nil,?_⟩|refine ⟨.inr rfl,_,.cn rfl (by exact zN) (.t rfl .nil),?_⟩)
      all_goals (refine congrArg AV.bool ?_; simp [opB, h8, hv])
    by_cases h9 : x.op = 29
    · have q := add_int (x := x.b) (y := x.c) (by omega) (by omega)
      repeat' (first|refine zz ?_|(refine zv ?_;intro cv hv)|(refine za ?_;intro _)|refine zc ?_|(refine zd ?_;refine And.intro ?_ ?_<;>(intro e;(try simp only [Bool.not_eq_true',Bool.not_eq_false'] at e);subst e;try contradiction)))
      all_goals (first|refine ⟨.inr rfl,_,.t rfl .nil,?_⟩|refine ⟨.inr rfl,_,.t rfl (.t rfl .nil),?_⟩|refine ⟨.inr rfl,_,.t rfl (.t rfl (.t rfl .nil)),?_⟩|refine ⟨.inr rfl,_,.nil,?_⟩|refine ⟨.inl rfl,_,.t rfl .nil,?_⟩|refine ⟨.inl rfl,_,.nil,?_⟩|refine ⟨.inr rfl,_,.cn rfl (by exact zN) .nil,?_⟩|refine ⟨.inr rfl,_,.cn rfl (by exact zN) (.t rfl .nil),?_⟩)
      all_goals (refine congrArg AV.bool ?_; rw [Bool.eq_iff_iff, hv]; simp [opB, h9])
    by_cases ha0 : x.op = 30
    · by_cases hcf : x.c < u.funs
      · obtain ⟨q, hq⟩ : ∃ q, u.protos[x.c.toNat]? = some q := ⟨_, List.getElem?_eq_getElem (by have := hn.f1; omega)⟩
        have q1 := hu.protos.iadr (i := x.c.toNat) (r := protoR q) (k := .i64) (by rw [List.getElem?_map, hq]; rfl)
        rw [show Int.ofNat x.c.toNat = x.c by simp; omega] at q1
        have hq2 := hn.ps q (List.mem_of_getElem? hq)
        have q2 := add_int (x := x.b) (y := q.params) (by omega) (by omega)
        repeat' (first|refine zz ?_|(refine zv ?_;intro cv hv)|(refine za ?_;intro _)|refine zc ?_|(refine zd ?_;refine And.intro ?_ ?_<;>(intro e;(try simp only [Bool.not_eq_true',Bool.not_eq_false'] at e);subst e;try contradiction)))
        all_goals (first|refine ⟨.inr rfl,_,.t rfl .nil,?_⟩|refine ⟨.inr rfl,_,.t rfl (.t rfl .nil),?_⟩|refine ⟨.inr rfl,_,.t rfl (.t rfl (.t rfl .nil)),?_⟩|refine ⟨.inr rfl,_,.nil,?_⟩|refine ⟨.inl rfl,_,.t rfl .nil,?_⟩|refine ⟨.inl rfl,_,.nil,?_⟩|refine ⟨.inr rfl,_,.cn rfl (by exact zN) .nil,?_⟩|refine ⟨.inr rfl,_,.cn rfl (by exact zN) (.t rfl .nil),?_⟩)
        all_goals (refine congrArg AV.bool ?_; rw [Bool.eq_iff_iff, hv]; simp [opB, ha0, hcf, hq])
      · repeat' (first|refine zz ?_|(refine zv ?_;intro cv hv)|(refine za ?_;intro _)|refine zc ?_|(refine zd ?_;refine And.intro ?_ ?_<;>(intro e;(try simp only [Bool.not_eq_true',Bool.not_eq_false'] at e);subst e;try contradiction)))
        all_goals (first|refine ⟨.inr rfl,_,.t rfl .nil,?_⟩|refine ⟨.inr rfl,_,.t rfl (.t rfl .nil),?_⟩|refine ⟨.inr rfl,_,.t rfl (.t rfl (.t rfl .nil)),?_⟩|refine ⟨.inr rfl,_,.nil,?_⟩|refine ⟨.inl rfl,_,.t rfl .nil,?_⟩|refine ⟨.inl rfl,_,.nil,?_⟩|refine ⟨.inr rfl,_,.cn rfl (by exact zN) .nil,?_⟩|refine ⟨.inr rfl,_,.cn rfl (by exact zN) (.t rfl .nil),?_⟩)
        all_goals (refine congrArg AV.bool ?_; simp [opB, ha0, hcf])
    by_cases hb0 : x.op = 31
    · by_cases hcf : x.c < (u.uses.length : Int)
      · obtain ⟨q, hq⟩ : ∃ q, u.uses[x.c.toNat]? = some q := ⟨_, List.getElem?_eq_getElem (by omega)⟩
        have q1 := hu.uses.iadr (i := x.c.toNat) (r := useR q) (k := .i64) (by rw [List.getElem?_map, hq]; rfl)
        rw [show Int.ofNat x.c.toNat = x.c by simp; omega] at q1
        have hq2 := hn.us q (List.mem_of_getElem? hq)
        have q2 := add_int (x := x.b) (y := q.p) (by omega) (by omega)
        repeat' (first|refine zz ?_|(refine zv ?_;intro cv hv)|(refine za ?_;intro _)|refine zc ?_|(refine zd ?_;refine And.intro ?_ ?_<;>(intro e;(try simp only [Bool.not_eq_true',Bool.not_eq_false'] at e);subst e;try contradiction)))
        all_goals (first|refine ⟨.inr rfl,_,.t rfl .nil,?_⟩|refine ⟨.inr rfl,_,.t rfl (.t rfl .nil),?_⟩|refine ⟨.inr rfl,_,.t rfl (.t rfl (.t rfl .nil)),?_⟩|refine ⟨.inr rfl,_,.nil,?_⟩|refine ⟨.inl rfl,_,.t rfl .nil,?_⟩|refine ⟨.inl rfl,_,.nil,?_⟩|refine ⟨.inr rfl,_,.cn rfl (by exact zN) .nil,?_⟩|refine ⟨.inr rfl,_,.cn rfl (by exact zN) (.t rfl .nil),?_⟩)
        all_goals (refine congrArg AV.bool ?_; rw [Bool.eq_iff_iff, hv]; simp [opB, hb0, hq])
      · have hq : u.uses[x.c.toNat]? = none := List.getElem?_eq_none (by omega)
        repeat' (first|refine zz ?_|(refine zv ?_;intro cv hv)|(refine za ?_;intro _)|refine zc ?_|(refine zd ?_;refine And.intro ?_ ?_<;>(intro e;(try simp only [Bool.not_eq_true',Bool.not_eq_false'] at e);subst e;try contradiction)))
        all_goals (first|refine ⟨.inr rfl,_,.t rfl .nil,?_⟩|refine ⟨.inr rfl,_,.t rfl (.t rfl .nil),?_⟩|refine ⟨.inr rfl,_,.t rfl (.t rfl (.t rfl .nil)),?_⟩|refine ⟨.inr rfl,_,.nil,?_⟩|refine ⟨.inl rfl,_,.t rfl .nil,?_⟩|refine ⟨.inl rfl,_,.nil,?_⟩|refine ⟨.inr rfl,_,.cn rfl (by exact zN) .nil,?_⟩|refine ⟨.inr rfl,_,.cn rfl (by exact zN) (.t rfl .nil),?_⟩)
        all_goals (refine congrArg AV.bool ?_; simp [opB, hb0, hq])
    repeat' (first|refine zz ?_|(refine zv ?_;intro cv hv)|(refine za ?_;intro _)|refine zc ?_|(refine zd ?_;refine And.intro ?_ ?_<;>(intro e;(try simp only [Bool.not_eq_true',Bool.not_eq_false'] at e);subst e;try contradiction)))
    (first|refine ⟨.inr rfl,_,.t rfl .nil,?_⟩|refine ⟨.inr rfl,_,.t rfl (.t rfl .nil),?_⟩|refine ⟨.inr rfl,_,.t rfl (.t rfl (.t rfl .nil)),?_⟩|refine ⟨.inr rfl,_,.nil,?_⟩|refine ⟨.inl rfl,_,.t rfl .nil,?_⟩|refine ⟨.inl rfl,_,.nil,?_⟩|refine ⟨.inr rfl,_,.cn rfl (by exact zN) .nil,?_⟩|refine ⟨.inr rfl,_,.cn rfl (by exact zN) (.t rfl .nil),?_⟩)
    refine congrArg AV.bool ?_
    simp [opB, h0, h1, h2, h3, h4, h5, h6, h7, h8, h9, ha0, hb0]
end Go.Proofs.Ytlimjjilakldgaa

namespace Go.Proofs.Ytlimjjilakldgaa
open Go Go.Abs
attribute [local irreducible] Cmp Rg Dw Cd Lp Ev Rdk CT Upd InK
/-- The first instruction that may not run. -/
def firstBad (u : Unt) (p : Proto) : Nat → List Ins → Option Nat
  | _, [] => none
  | pc, x :: r => if mayB u p pc x = true then firstBad u p (pc + 1) r else some pc
theorem firstBad_drop {u : Unt} {p : Proto} {l : List Ins} {i : Nat} {x : Ins} (h : l[i]? = some x) (j : Nat) : firstBad u p j (l.drop i) = if mayB u p j x = true then firstBad u p (j + 1) (l.drop (i + 1)) else some j := by
  obtain ⟨h1, h2⟩ := List.getElem?_eq_some_iff.1 h
  rw [List.drop_eq_getElem_cons h1, h2]; rfl
/-- May it be the last one? -/
def endsB (x : Ins) : Bool := decide (x.op = 37 ∨ x.op = 25)
def protoBad (u : Unt) (p : Proto) : Option Nat := match p.code[p.code.length - 1]? with
  | some x => if endsB x = true then firstBad u p 0 p.code else some (p.code.length - 1)
  | none => some 0
def chk (u : Unt) : Nat → List Proto → Nat × Nat × Nat
  | _, [] => (0, 0, 0)
  | i, p :: r => match protoBad u p with
    | some pc => (14, i, pc)
    | none => chk u (i + 1) r
theorem chk_drop {u : Unt} {l : List Proto} {i : Nat} {p : Proto} (h : l[i]? = some p) (j : Nat) : chk u j (l.drop i) = match protoBad u p with
    | some pc => (14, j, pc)
    | none => chk u (j + 1) (l.drop (i + 1)) := by
  obtain ⟨h1, h2⟩ := List.getElem?_eq_some_iff.1 h
  rw [List.drop_eq_getElem_cons h1, h2]; rfl
def check (u : Unt) : Nat × Nat × Nat := if unitB u = true then chk u 0 u.protos else (4, 0, 0)
def tup3 (t : Nat × Nat × Nat) : AV := .tup [.int .i64 (.ofNat t.1), .int .i64 (.ofNat t.2.1), .int .i64 (.ofNat t.2.2)]
theorem protosB_all {funs : Int} : ∀ {l : List Proto} {i : Nat}, protosB funs i l = true → ∀ p, p ∈ l → ∃ top, protoB p top = true
  | [], _, _, p, hp => by simp at hp
  | q :: l, i, h, p, hp => by
    simp only [protosB, Bool.and_eq_true] at h
    rcases List.mem_cons.1 hp with rfl | hp
    · exact ⟨_, h.1⟩
    · exact protosB_all h.2 p hp
theorem unitB_ok {u : Unt} (h : unitB u = true) : OkN u ∧ ∀ p, p ∈ u.protos → ∀ x, x ∈ p.code → rightI x = true := by
  simp only [unitB, Bool.and_eq_true, decide_eq_true_eq] at h
  obtain ⟨⟨⟨⟨_, _⟩, h1⟩, _, h2⟩, _, h3⟩ := h
  refine ⟨⟨h1.1, by omega, by omega, ?_, ?_⟩, ?_⟩
  · intro p hp
    obtain ⟨top, h4⟩ := protosB_all h3 p hp
    simp only [protoB, shapedB, Bool.and_eq_true, decide_eq_true_eq] at h4
    exact h4.2.1.1.1
  · intro x hx
    have := List.all_eq_true.1 h2 x hx
    simp only [useB, Bool.and_eq_true, decide_eq_true_eq] at this
    exact this.2
  · intro p hp x hx
    obtain ⟨top, h4⟩ := protosB_all h3 p hp
    simp only [protoB, shapedB, Bool.and_eq_true, decide_eq_true_eq] at h4
    exact List.all_eq_true.1 h4.2.2.2 x hx
theorem check8_in {u : Unt} {p : Proto} (hu : OkU u) (hp : OkP p) (hn : OkN u) (hr : ∀ x, x ∈ p.code → rightI x = true) {b1 b8 i : Nat} {Q : AX → SL → Mem → Prop}
    (hret : ∀ l' K pc, firstBad u p 0 p.code = some pc → lkS l' 2 = some (.int .i64 (.ofNat 14)) → lkS l' 3 = some (.int .i64 (.ofNat i)) → lkS l' 4 = some (.int .i64 (.ofNat pc)) → Q .ret l' K)
    (hend : ∀ l', firstBad u p 0 p.code = none → Sub2 [(1, .ptr b1 0 0 5), (14, u.protosV), (15, .int .i64 (.ofNat u.protos.length)), (16, .int .i64 (.ofNat i))] l' → Q (.ext 2) l' [[(b8, .cells (unitR u ++ protoR p) 0 0 false)], boxU b1 u]) :
    ∀ (k j : Nat), p.code.length < j + k → j ≤ p.code.length → firstBad u p j (p.code.drop j) = firstBad u p 0 p.code →
    Lp Try.prog false b25_0 k [(1, .ptr b1 0 0 5), (5, .int .i64 (.ofNat i)), (8, .ptr b8 0 0 11), (14, u.protosV), (15, .int .i64 (.ofNat u.protos.length)), (16, .int .i64 (.ofNat i)), (45, .int .i64 (.ofNat p.code.length)), (46, .int .i64 (.ofNat j))] [[(b8, .cells (unitR u ++ protoR p) 0 0 false)], boxU b1 u] Q := by
  have hl := hp.lcode
  intro k
  induction k with
  | zero => intro j h1 h2; omega
  | succ k ih =>
    intro j h1 h2 h3
    refine Lp.round ?_
    by_cases hj : j < p.code.length
    · obtain ⟨x, hx⟩ : ∃ x, p.code[j]? = some x := ⟨_, List.getElem?_eq_getElem hj⟩
      have c := right13 hu hp hn hx (hr x (List.mem_of_getElem? hx))
      rw [firstBad_drop hx] at h3
      repeat' (first|refine zz ?_|(refine zv ?_;intro cv hv)|(refine za ?_;intro _)|refine zc ?_|(refine zd ?_;refine And.intro ?_ ?_<;>(intro e;(try simp only [Bool.not_eq_true',Bool.not_eq_false'] at e);subst e;try contradiction)))
      · exact hret _ _ j (by rw [← h3, hv]; rfl) rfl rfl rfl
      · refine Lp.weak ?hw (ih (j + 1) (by omega) (by omega) ?_)
        case hw => exact ⟨rfl, rfl, rfl, rfl, rfl, rfl, rfl, rfl, trivial⟩
        rw [← h3, hv]; rfl
    · repeat' (first|refine zz ?_|(refine zv ?_;intro cv hv)|(refine za ?_;intro _)|refine zc ?_|(refine zd ?_;refine And.intro ?_ ?_<;>(intro e;(try simp only [Bool.not_eq_true',Bool.not_eq_false'] at e);subst e;try contradiction)))
      exact hend _ (by rw [← h3, List.drop_of_length_le (by omega)]; rfl) ⟨rfl, rfl, rfl, rfl, trivial⟩
theorem check8_out {u : Unt} (hu : OkU u) (hn : OkN u) (hr : ∀ p, p ∈ u.protos → ∀ x, x ∈ p.code → rightI x = true) {b1 : Nat} {Q : AX → SL → Mem → Prop}
    (hret : ∀ l' K i pc, chk u 0 u.protos = (14, i, pc) → lkS l' 2 = some (.int .i64 (.ofNat 14)) → lkS l' 3 = some (.int .i64 (.ofNat i)) → lkS l' 4 = some (.int .i64 (.ofNat pc)) → Q .ret l' K)
    (hend : ∀ l' K, chk u 0 u.protos = (0, 0, 0) → Q (.ext 0) l' K) :
    ∀ (k i : Nat), u.protos.length < i + k → i ≤ u.protos.length → chk u i (u.protos.drop i) = chk u 0 u.protos →
    Lp Try.prog false b25_1 k [(1, .ptr b1 0 0 5), (14, u.protosV), (15, .int .i64 (.ofNat u.protos.length)), (16, .int .i64 (.ofNat i))] [boxU b1 u] Q := by
  have hl := hu.lprotos
  intro k
  induction k with
  | zero => intro j h1 h2; omega
  | succ k ih =>
    intro i h1 h2 h3
    refine Lp.round ?_
    by_cases hi : i < u.protos.length
    · obtain ⟨p, hx⟩ : ∃ p, u.protos[i]? = some p := ⟨_, List.getElem?_eq_getElem hi⟩
      have hm := List.mem_of_getElem? hx
      have hp := hu.ps p hm
      obtain ⟨m1, m2, m3⟩ := hp.lens
      have q1 := hu.protos.iadr (i := i) (r := protoR p) (k := .i64) (by rw [List.getElem?_map, hx]; rfl)
      rw [chk_drop hx] at h3
      by_cases hc : p.code.length = 0
      · have hpb : protoBad u p = some 0 := by rw [protoBad, List.getElem?_eq_none (by omega)]
        rw [hpb] at h3
        rw [hc] at m1
        have q2 : abin .sub (.int .i64 (.ofNat 0)) (.int .i64 (.ofNat 1)) = some (.int .i64 (.negSucc 0)) := rfl
        have q3 : amax .i64 (.ofNat 0) [.int .i64 (.negSucc 0)] = some (.int .i64 (.ofNat 0)) := rfl
        repeat' (first|refine zz ?_|(refine zv ?_;intro cv hv)|(refine za ?_;intro _)|refine zc ?_|(refine zd ?_;refine And.intro ?_ ?_<;>(intro e;(try simp only [Bool.not_eq_true',Bool.not_eq_false'] at e);subst e;try contradiction)))
        exact hret _ _ i 0 h3.symm rfl rfl rfl
      · obtain ⟨y, hy⟩ : ∃ y, p.code[p.code.length - 1]? = some y := ⟨_, List.getElem?_eq_getElem (by omega)⟩
        have q2 := hp.code.iadr (i := p.code.length - 1) (r := insR y) (k := .i64) (by rw [List.getElem?_map, hy]; rfl)
        have c := ends12 y
        have hlc := hp.lcode
        cases he : endsB y with
        | false =>
          have hpb : protoBad u p = some (p.code.length - 1) := by rw [protoBad, hy]; simp [he]
          rw [hpb] at h3
          rw [show decide (y.op = 37 ∨ y.op = 25) = false from he] at c
          have q3 : amax .i64 (.ofNat 0) [.int .i64 (.ofNat (p.code.length - 1))] = some (.int .i64 (.ofNat (p.code.length - 1))) := by rw [amax2]; first | (congr 2; done) | (congr 2; simp; done) | (congr 2; simp; omega)
          repeat' (first|refine zz ?_|(refine zv ?_;intro cv hv)|(refine za ?_;intro _)|refine zc ?_|(refine zd ?_;refine And.intro ?_ ?_<;>(intro e;(try simp only [Bool.not_eq_true',Bool.not_eq_false'] at e);subst e;try contradiction)))
          exact hret _ _ i (p.code.length - 1) h3.symm rfl rfl rfl
        | true =>
          have hpb : protoBad u p = firstBad u p 0 p.code := by rw [protoBad, hy]; simp [he]
          rw [hpb] at h3
          rw [show decide (y.op = 37 ∨ y.op = 25) = true from he] at c
          repeat' (first|(refine stopAt (c := r25_10) ?_)|refine zz ?_|(refine zv ?_;intro cv hv)|(refine za ?_;intro _)|refine zc ?_|(refine zd ?_;refine And.intro ?_ ?_<;>(intro e;(try simp only [Bool.not_eq_true',Bool.not_eq_false'] at e);subst e;try contradiction)))
          refine ⟨?_⟩
          rename_i b6 b8
          refine Cd.weak (l2 := [(1, _), (5, _), (6, _), (8, _), (14, _), (15, _), (16, _)]) ⟨rfl, rfl, rfl, rfl, rfl, rfl, rfl, trivial⟩ ?_
          repeat' (first|refine zz ?_|(refine zv ?_;intro cv hv)|(refine za ?_;intro _)|refine zc ?_|(refine zd ?_;refine And.intro ?_ ?_<;>(intro e;(try simp only [Bool.not_eq_true',Bool.not_eq_false'] at e);subst e;try contradiction)))
          refine Cd.weak (l2 := [(1, _), (5, _), (8, _), (14, _), (15, _), (16, _), (45, _), (46, _)]) ⟨rfl, rfl, rfl, rfl, rfl, rfl, rfl, rfl, trivial⟩ ?_
          refine Cd.drop (m := [[(b8, .cells (unitR u ++ protoR p) 0 0 false)], boxU b1 u]) (.cons .here (.cons (.there .here) .nil)) (Cd.loop (k := p.code.length + 1) (check8_in hu hp hn (hr p hm) ?_ ?_ (p.code.length + 1) 0 (by omega) (by omega) rfl))
          · intro l' K pc e1 e2 e3 e4
            rw [e1] at h3
            exact hret _ _ i pc h3.symm e2 e3 e4
          · intro l' e1 hs
            rw [e1] at h3
            show Cd _ _ _ _ _ _
            refine Cd.weak hs ?_
            repeat' (first|refine zz ?_|(refine zv ?_;intro cv hv)|(refine za ?_;intro _)|refine zc ?_|(refine zd ?_;refine And.intro ?_ ?_<;>(intro e;(try simp only [Bool.not_eq_true',Bool.not_eq_false'] at e);subst e;try contradiction)))
            refine Lp.drop (m := [boxU b1 u]) (.cons (.there .here) .nil) (Lp.weak ?hw (ih (i + 1) (by omega) (by omega) h3))
            case hw => exact ⟨rfl, rfl, rfl, rfl, trivial⟩
    · repeat' (first|refine zz ?_|(refine zv ?_;intro cv hv)|(refine za ?_;intro _)|refine zc ?_|(refine zd ?_;refine And.intro ?_ ?_<;>(intro e;(try simp only [Bool.not_eq_true',Bool.not_eq_false'] at e);subst e;try contradiction)))
      exact hend _ _ (by rw [← h3, List.drop_of_length_le (by omega)]; rfl)
theorem check8 {u : Unt} (hu : OkU u) : PT Try.prog false 25 [.agg (unitR u)] (tup3 (check u)) := by
  have hl := hu.lprotos
  obtain ⟨n1, n2⟩ := hu.lens
  refine PT.of (CT.enter mixed comp25 (Nat.le_of_ble_eq_true rfl) ?_)
  cases hb : unitB u with
  | false =>
    have c := right11 hu
    rw [hb] at c
    rw [show check u = (4, 0, 0) by rw [check, hb]; rfl]
    repeat' (first|refine zz ?_|(refine zv ?_;intro cv hv)|(refine za ?_;intro _)|refine zc ?_|(refine zd ?_;refine And.intro ?_ ?_<;>(intro e;(try simp only [Bool.not_eq_true',Bool.not_eq_false'] at e);subst e;try contradiction)))
    all_goals (first|refine ⟨.inr rfl,_,.t rfl .nil,?_⟩|refine ⟨.inr rfl,_,.t rfl (.t rfl .nil),?_⟩|refine ⟨.inr rfl,_,.t rfl (.t rfl (.t rfl .nil)),?_⟩|refine ⟨.inr rfl,_,.nil,?_⟩|refine ⟨.inl rfl,_,.t rfl .nil,?_⟩|refine ⟨.inl rfl,_,.nil,?_⟩|refine ⟨.inr rfl,_,.cn rfl (by exact zN) .nil,?_⟩|refine ⟨.inr rfl,_,.cn rfl (by exact zN) (.t rfl .nil),?_⟩)
    all_goals rfl
  | true =>
    have c := right11 hu
    rw [hb] at c
    have hn := unitB_ok hb
    rw [show check u = chk u 0 u.protos by rw [check, hb]; rfl]
    repeat' (first|refine zz ?_|(refine zv ?_;intro cv hv)|(refine za ?_;intro _)|refine zc ?_|(refine zd ?_;refine And.intro ?_ ?_<;>(intro e;(try simp only [Bool.not_eq_true',Bool.not_eq_false'] at e);subst e;try contradiction)))
    rename_i b1
    refine Cd.weak (l2 := [(1, _), (14, _), (15, _), (16, _)]) ⟨rfl, rfl, rfl, rfl, trivial⟩ ?_
    refine Cd.loop (k := u.protos.length + 1) (Lp.weak ?hw (check8_out hu hn.1 hn.2 ?_ ?_ (u.protos.length + 1) 0 (by omega) (by omega) rfl))
    case hw => exact ⟨rfl, rfl, rfl, rfl, trivial⟩
    · intro l' K i pc e1 e2 e3 e4
      rw [e1]
      exact ⟨.inr rfl, _, .t e2 (.t e3 (.t e4 .nil)), rfl⟩
    · intro l' K e1
      rw [e1]
      show Cd _ _ _ _ _ _
      refine Cd.weak (l2 := []) trivial ?_
      repeat' (first|refine zz ?_|(refine zv ?_;intro cv hv)|(refine za ?_;intro _)|refine zc ?_|(refine zd ?_;refine And.intro ?_ ?_<;>(intro e;(try simp only [Bool.not_eq_true',Bool.not_eq_false'] at e);subst e;try contradiction)))
      all_goals (first|refine ⟨.inr rfl,_,.t rfl .nil,?_⟩|refine ⟨.inr rfl,_,.t rfl (.t rfl .nil),?_⟩|refine ⟨.inr rfl,_,.t rfl (.t rfl (.t rfl .nil)),?_⟩|refine ⟨.inr rfl,_,.nil,?_⟩|refine ⟨.inl rfl,_,.t rfl .nil,?_⟩|refine ⟨.inl rfl,_,.nil,?_⟩|refine ⟨.inr rfl,_,.cn rfl (by exact zN) .nil,?_⟩|refine ⟨.inr rfl,_,.cn rfl (by exact zN) (.t rfl .nil),?_⟩)
      all_goals rfl
end Go.Proofs.Ytlimjjilakldgaa
