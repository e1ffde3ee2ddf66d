/- Contracts: jumps, what an instruction closes. -/
import Derived.Test.YtlimjjilakldgaaGreatPlnA
import Derived.Test.YtlimjjilakldgaaGreatAbsU
import Derived.Test.YtlimjjilakldgaaGreatPlnCode
import Derived.Test.YtlimjjilakldgaaGreatAbsY
set_option autoImplicit false
set_option maxRecDepth 100000
set_option maxHeartbeats 2000000
set_option linter.unusedVariables false
set_option linter.unusedSimpArgs false
set_option maxHeartbeats 4000000
namespace Go.Proofs.YtlimjjilakldgaaGreat
open Go Go.Abs
attribute [local irreducible] Cmp Rg Dw Cd Lp Ev Rdk CT Upd InK
def jumpB (p : Proto) (pc w : Nat) : Bool := match p.code[w]? with
 | some y => decide (pc < w) || decide (y.op = 0)
 | none => false
theorem jumps27 {p : Proto} (u : Unt) (hp : OkP p) {pc w : Nat} : PT Try.prog false 66 [.agg (unitR u ++ protoR p), .int .i64 (.ofNat pc), .int .i64 (.ofNat w)] (.bool (jumpB p pc w)) := by
 refine PT.of (CT.enter mixed comp66 (Nat.le_of_ble_eq_true rfl) ?_)
 obtain ⟨l1, l2, l3⟩ := hp.lens
 by_cases hw : w < p.code.length
 ·obtain ⟨y, hy⟩ : ∃ y, p.code[w]? = some y := ⟨_, List.getElem?_eq_getElem hw⟩
  have q1 := hp.code.iadr (i := w) (r := insR y) (k := .i64) (by rw [List.getElem?_map, hy]; rfl)
  repeat' (first|intro _|refine yU ?_|(apply YA.mk;intro cv hv)|(refine yT ?_ ?_<;>(intro e;(try simp only [nbT,nbF] at e);subst e;try contradiction)))
  all_goals refine yX ?_
  all_goals (refine congrArg AV.bool ?_; rw [Bool.eq_iff_iff]; simp only [jumpB, hy]; clear l1 l2 l3 q1 hp; first | (simp_all; done) | (simp_all; omega))
 ·repeat' (first|intro _|refine yU ?_|(apply YA.mk;intro cv hv)|(refine yT ?_ ?_<;>(intro e;(try simp only [nbT,nbF] at e);subst e;try contradiction)))
  refine yX ?_
  rw [jumpB, List.getElem?_eq_none (by omega)]; rfl
def capOk (p : Proto) (c : Cap) : Bool := decide (c.i < if c.up = true then (p.caps.length : Int) else p.regs)
def closesB (u : Unt) (p : Proto) (k : Nat) : Bool := match u.protos[k]? with
 | some q => decide (u.funs ≤ (k : Int)) && q.caps.all (capOk p)
 | none => false
theorem closes28_loop {u : Unt} {p q : Proto} (hp : OkP p) (hq : OkP q) {b : Nat} {Q : AX → SL → Mem → Prop} (hret : ∀ l' K, q.caps.all (capOk p) = false → lkS l' 4 = some (.bool false) → Q .ret l' K) (hend : ∀ l' K, q.caps.all (capOk p) = true → Q (.ext 0) l' K) :
  ∀ (k i : Nat), q.caps.length < i + k → i ≤ q.caps.length → (∀ x, x ∈ q.caps.take i → capOk p x = true) → Lp Try.prog false b67_0 k [(2, .ptr b 0 0 11), (27, q.capsV), (28, .int .i64 (.ofNat q.caps.length)), (29, .int .i64 (.ofNat i))] [[(b, .cells (unitR u ++ protoR p) 0 0 false)]] Q := by
 have hl := hq.lcaps
 obtain ⟨l1, l2, l3⟩ := hp.lens
 intro k
 induction k with
 | zero => intro i h1 h2; omega
 | succ k ih =>
  intro i h1 h2 h3
  refine Lp.round ?_
  by_cases hi : i < q.caps.length
  ·obtain ⟨x, hx⟩ : ∃ x, q.caps[i]? = some x := ⟨_, List.getElem?_eq_getElem hi⟩
   have q1 := hq.caps.iadr (i := i) (r := capR x) (k := .i64) (by rw [List.getElem?_map, hx]; rfl)
   have bad : capOk p x = false → q.caps.all (capOk p) = false := fun hb => by
    cases ha : q.caps.all (capOk p) with
    | false => rfl
    | true => rw [List.all_eq_true.1 ha x (List.mem_of_getElem? hx)] at hb; cases hb
   have good : ∀ l' K r, capOk p x = true → Sel K [[(b, .cells (unitR u ++ protoR p) 0 0 false)]] r → lkS l' 2 = some (.ptr b 0 0 11) → lkS l' 27 = some q.capsV → lkS l' 28 = some (.int .i64 (.ofNat q.caps.length)) → lkS l' 29 = some (.int .i64 (.ofNat (i + 1))) → Lp Try.prog false b67_0 k l' K Q := by
    intro l' K r hg hs e1 e2 e3 e4
    refine Lp.drop hs (Lp.weak ?hw (ih (i + 1) (by omega) (by omega) ?_))
    case hw => exact ⟨e1, e2, e3, e4, trivial⟩
    intro y hy
    rw [List.take_add_one, hx] at hy
    rcases List.mem_append.1 hy with hy | hy
    ·exact h3 y hy
    ·simp at hy; subst hy; exact hg
   cases hu : x.up with
   | true =>
    have e : capR x = [.bool true, .int .i64 x.i] := by rw [capR, hu]
    rw [e] at q1
    repeat' (first|intro _|refine yU ?_|(apply YA.mk;intro cv hv)|(refine yT ?_ ?_<;>(intro e;(try simp only [nbT,nbF] at e);subst e;try contradiction)))
    ·exact hret _ _ (bad (by have := hv.1 rfl; simp [capOk, hu]; omega)) rfl
    ·exact good _ _ _ (by simp at hv; simp [capOk, hu]; omega) (.cons (.there .here) .nil) rfl rfl rfl rfl
   | false =>
    have e : capR x = [.bool false, .int .i64 x.i] := by rw [capR, hu]
    rw [e] at q1
    repeat' (first|intro _|refine yU ?_|(apply YA.mk;intro cv hv)|(refine yT ?_ ?_<;>(intro e;(try simp only [nbT,nbF] at e);subst e;try contradiction)))
    ·exact hret _ _ (bad (by have := hv.1 rfl; simp [capOk, hu]; omega)) rfl
    ·exact good _ _ _ (by simp at hv; simp [capOk, hu]; omega) (.cons (.there .here) .nil) rfl rfl rfl rfl
  ·repeat' (first|intro _|refine yU ?_|(apply YA.mk;intro cv hv)|(refine yT ?_ ?_<;>(intro e;(try simp only [nbT,nbF] at e);subst e;try contradiction)))
   exact hend _ _ (List.all_eq_true.2 fun x hx => h3 x (by rw [List.take_of_length_le (by omega)]; exact hx))
theorem closes28 {u : Unt} {p : Proto} (hu : OkU u) (hp : OkP p) {k : Nat} (hf : u.funs ≤ 9223372036854775807) : PT Try.prog false 67 [.agg (unitR u ++ protoR p), .int .i64 (.ofNat k)] (.bool (closesB u p k)) := by
 refine PT.of (CT.enter mixed comp67 (Nat.le_of_ble_eq_true rfl) ?_)
 obtain ⟨l1, l2⟩ := hu.lens
 by_cases hk : k < u.protos.length
 ·obtain ⟨q, hq⟩ : ∃ q, u.protos[k]? = some q := ⟨_, List.getElem?_eq_getElem hk⟩
  have q1 := hu.protos.iadr (i := k) (r := protoR q) (k := .i64) (by rw [List.getElem?_map, hq]; rfl)
  have hq2 := hu.ps q (List.mem_of_getElem? hq)
  obtain ⟨m1, m2, m3⟩ := hq2.lens
  by_cases hfu : Int.ofNat k < u.funs
  ·repeat' (first|intro _|refine yU ?_|(apply YA.mk;intro cv hv)|(refine yT ?_ ?_<;>(intro e;(try simp only [nbT,nbF] at e);subst e;try contradiction)))
   refine yX ?_
   refine congrArg AV.bool ?_
   simp only [closesB, hq]
   rw [decide_eq_false (by simp at *; omega)]; rfl
  ·repeat' (first|intro _|refine yU ?_|(apply YA.mk;intro cv hv)|(refine yT ?_ ?_<;>(intro e;(try simp only [nbT,nbF] at e);subst e;try contradiction)))
   rename_i b
   refine Cd.weak (l2 := [(2, _), (27, _), (28, _), (29, _)]) ⟨rfl, rfl, rfl, rfl, trivial⟩ ?_
   refine Cd.loop (k := q.caps.length + 1) (closes28_loop (b := b) hp hq2 ?_ ?_ (q.caps.length + 1) 0 (by omega) (by omega) (by intro x hx; simp at hx))
   ·intro l' K h1 h2
    exact ⟨.inr rfl, _, .t h2 .nil, by simp only [closesB, hq, h1, Bool.and_false]; rfl⟩
   ·intro l' K h1
    show Cd _ _ _ _ _ _
    refine Cd.weak (l2 := []) trivial ?_
    repeat' (first|intro _|refine yU ?_|(apply YA.mk;intro cv hv)|(refine yT ?_ ?_<;>(intro e;(try simp only [nbT,nbF] at e);subst e;try contradiction)))
    refine yX ?_
    simp only [closesB, hq, h1, Bool.and_true]
    rw [decide_eq_true (by simp at *; omega)]; rfl
 ·have e : closesB u p k = false := by rw [closesB, List.getElem?_eq_none (by omega)]
  rw [e]
  repeat' (first|intro _|refine yU ?_|(apply YA.mk;intro cv hv)|(refine yT ?_ ?_<;>(intro e;(try simp only [nbT,nbF] at e);subst e;try contradiction)))
  all_goals refine yX ?_
  all_goals rfl
theorem closes34_loop {p q : Proto} (hp : OkP p) (hq : OkP q) {b : Nat} {Q : AX → SL → Mem → Prop} (hret : ∀ l' K, q.caps.all (capOk p) = false → lkS l' 6 = some (.bool false) → Q .ret l' K) (hend : ∀ l' K, q.caps.all (capOk p) = true → Q (.ext 0) l' K) :
  ∀ (k i : Nat), q.caps.length < i + k → i ≤ q.caps.length → (∀ x, x ∈ q.caps.take i → capOk p x = true) → Lp Try.prog false b73_0 k [(4, .ptr b 0 0 6), (7, q.capsV), (8, .int .i64 (.ofNat i))] [[(b, .cells (protoR p) 0 0 false)]] Q := by
 have hl := hq.lcaps
 obtain ⟨l1, l2, l3⟩ := hp.lens
 obtain ⟨m1, m2, m3⟩ := hq.lens
 intro k
 induction k with
 | zero => intro i h1 h2; omega
 | succ k ih =>
  intro i h1 h2 h3
  refine Lp.round ?_
  by_cases hi : i < q.caps.length
  ·obtain ⟨x, hx⟩ : ∃ x, q.caps[i]? = some x := ⟨_, List.getElem?_eq_getElem hi⟩
   have q1 := hq.caps.iadr (i := i) (r := capR x) (k := .i64) (by rw [List.getElem?_map, hx]; rfl)
   have bad : capOk p x = false → q.caps.all (capOk p) = false := fun hb => by
    cases ha : q.caps.all (capOk p) with
    | false => rfl
    | true => rw [List.all_eq_true.1 ha x (List.mem_of_getElem? hx)] at hb; cases hb
   have good : ∀ l' K r, capOk p x = true → Sel K [[(b, .cells (protoR p) 0 0 false)]] r → lkS l' 4 = some (.ptr b 0 0 6) → lkS l' 7 = some q.capsV → lkS l' 8 = some (.int .i64 (.ofNat (i + 1))) → Lp Try.prog false b73_0 k l' K Q := by
    intro l' K r hg hs e1 e2 e4
    refine Lp.drop hs (Lp.weak ?hw (ih (i + 1) (by omega) (by omega) ?_))
    case hw => exact ⟨e1, e2, e4, trivial⟩
    intro y hy
    rw [List.take_add_one, hx] at hy
    rcases List.mem_append.1 hy with hy | hy
    ·exact h3 y hy
    ·simp at hy; subst hy; exact hg
   cases hu : x.up with
   | true =>
    have e : capR x = [.bool true, .int .i64 x.i] := by rw [capR, hu]
    rw [e] at q1
    repeat' (first|intro _|refine yU ?_|(apply YA.mk;intro cv hv)|(refine yT ?_ ?_<;>(intro e;(try simp only [nbT,nbF] at e);subst e;try contradiction)))
    ·exact hret _ _ (bad (by have := hv.1 rfl; simp [capOk, hu]; omega)) rfl
    ·exact good _ _ _ (by simp at hv; simp [capOk, hu]; omega) (.cons .here .nil) rfl rfl rfl
   | false =>
    have e : capR x = [.bool false, .int .i64 x.i] := by rw [capR, hu]
    rw [e] at q1
    repeat' (first|intro _|refine yU ?_|(apply YA.mk;intro cv hv)|(refine yT ?_ ?_<;>(intro e;(try simp only [nbT,nbF] at e);subst e;try contradiction)))
    ·exact hret _ _ (bad (by have := hv.1 rfl; simp [capOk, hu]; omega)) rfl
    ·exact good _ _ _ (by simp at hv; simp [capOk, hu]; omega) (.cons .here .nil) rfl rfl rfl
  ·repeat' (first|intro _|refine yU ?_|(apply YA.mk;intro cv hv)|(refine yT ?_ ?_<;>(intro e;(try simp only [nbT,nbF] at e);subst e;try contradiction)))
   exact hend _ _ (List.all_eq_true.2 fun x hx => h3 x (by rw [List.take_of_length_le (by omega)]; exact hx))
theorem closes34 {u : Unt} {p : Proto} (hu : OkU u) (hp : OkP p) {k : Nat} (hf : u.funs ≤ 9223372036854775807) : PT Try.prog false 73 [.agg (unitR u), .agg (protoR p), .int .i64 (.ofNat k)] (.bool (closesB u p k)) := by
 refine PT.of (CT.enter mixed comp73 (Nat.le_of_ble_eq_true rfl) ?_)
 obtain ⟨l1, l2⟩ := hu.lens
 by_cases hk : k < u.protos.length
 ·obtain ⟨q, hq⟩ : ∃ q, u.protos[k]? = some q := ⟨_, List.getElem?_eq_getElem hk⟩
  have q1 := hu.protos.iadr (i := k) (r := protoR q) (k := .i64) (by rw [List.getElem?_map, hq]; rfl)
  have hq2 := hu.ps q (List.mem_of_getElem? hq)
  obtain ⟨m1, m2, m3⟩ := hq2.lens
  by_cases hfu : Int.ofNat k < u.funs
  ·repeat' (first|intro _|refine yU ?_|(apply YA.mk;intro cv hv)|(refine yT ?_ ?_<;>(intro e;(try simp only [nbT,nbF] at e);subst e;try contradiction)))
   refine yX ?_
   refine congrArg AV.bool ?_
   simp only [closesB, hq]
   rw [decide_eq_false (by simp at *; omega)]; rfl
  ·repeat' (first|intro _|refine yU ?_|(apply YA.mk;intro cv hv)|(refine yT ?_ ?_<;>(intro e;(try simp only [nbT,nbF] at e);subst e;try contradiction)))
   rename_i b1 b
   refine Cd.weak (l2 := [(4, _), (7, _), (8, _)]) ⟨rfl, rfl, rfl, trivial⟩ ?_
   refine Cd.drop (m := [[(b, .cells (protoR p) 0 0 false)]]) (.cons .here .nil) (Cd.loop (k := q.caps.length + 1) (closes34_loop (b := b) hp hq2 ?_ ?_ (q.caps.length + 1) 0 (by omega) (by omega) (by intro x hx; simp at hx)))
   ·intro l' K h1 h2
    exact ⟨.inr rfl, _, .t h2 .nil, by simp only [closesB, hq, h1, Bool.and_false]; rfl⟩
   ·intro l' K h1
    show Cd _ _ _ _ _ _
    refine Cd.weak (l2 := []) trivial ?_
    repeat' (first|intro _|refine yU ?_|(apply YA.mk;intro cv hv)|(refine yT ?_ ?_<;>(intro e;(try simp only [nbT,nbF] at e);subst e;try contradiction)))
    refine yX ?_
    simp only [closesB, hq, h1, Bool.and_true]
    rw [decide_eq_true (by simp at *; omega)]; rfl
 ·have e : closesB u p k = false := by rw [closesB, List.getElem?_eq_none (by omega)]
  rw [e]
  repeat' (first|intro _|refine yU ?_|(apply YA.mk;intro cv hv)|(refine yT ?_ ?_<;>(intro e;(try simp only [nbT,nbF] at e);subst e;try contradiction)))
  all_goals refine yX ?_
  all_goals rfl
end Go.Proofs.YtlimjjilakldgaaGreat
namespace Go.Proofs.YtlimjjilakldgaaGreat
open Go Go.Abs
attribute [local irreducible] Cmp Rg Dw Cd Lp Ev Rdk CT Upd InK
def opB (u : Unt) (p : Proto) (pc : Nat) (x : Ins) : Bool :=
 if x.op = 0 ∨ x.op = 36 then decide (x.a ≤ p.regs)
 else if x.op = 2 then decide (wide x < p.consts.length)
 else if x.op = 7 then decide (x.b < p.caps.length)
 else if x.op = 8 then decide (x.a < p.caps.length)
 else if x.op = 25 ∨ x.op = 26 ∨ x.op = 27 then jumpB p pc (wide x)
 else if x.op = 28 then closesB u p (wide x)
 else if x.op = 29 then decide (x.b + x.c < p.regs)
 else if x.op = 30 then decide (x.c < u.funs) && (match u.protos[x.c.toNat]? with | some q => decide (x.b + q.params ≤ p.regs) | none => false)
 else if x.op = 31 then (match u.uses[x.c.toNat]? with | some q => decide (x.b + q.p ≤ p.regs) | none => false)
 else true
def mayB (u : Unt) (p : Proto) (pc : Nat) (x : Ins) : Bool := regs3 p.regs (shape x.op) x && opB u p pc x
structure OkN (u : Unt) : Prop where
 f0 : 0 ≤ u.funs
 f1 : u.funs ≤ u.protos.length
 f2 : u.funs ≤ 32
 ps : ∀ p, p ∈ u.protos → 0 ≤ p.params ∧ p.params ≤ 8
 us : ∀ x, x ∈ u.uses → 0 ≤ x.p ∧ x.p ≤ 8
theorem right13 {u : Unt} {p : Proto} {pc : Nat} {x : Ins} (hu : OkU u) (hp : OkP p) (hn : OkN u) (hx : p.code[pc]? = some x) (hr : rightI x = true) : PT Try.prog false 48 [.agg (unitR u ++ protoR p), .int .i64 (.ofNat pc)] (.bool (mayB u p pc x)) := by
 refine PT.of (CT.enter mixed comp48 (Nat.le_of_ble_eq_true rfl) ?_)
 have q1 := hp.code.iadr (i := pc) (r := insR x) (k := .i64) (by rw [List.getElem?_map, hx]; rfl)
 have c1 := wide25 x
 have c2 := registers26 u p x
 obtain ⟨l1, l2⟩ := hu.lens
 obtain ⟨m1, m2, m3⟩ := hp.lens
 obtain ⟨ha, hb, hc⟩ := rightI_le hr
 have ho := rightI_op hr
 cases hg : regs3 p.regs (shape x.op) x with
 | false =>
  rw [hg] at c2
  rw [mayB, hg, Bool.false_and]
  repeat' (first|intro _|refine yU ?_|(apply YA.mk;intro cv hv)|(refine yT ?_ ?_<;>(intro e;(try simp only [nbT,nbF] at e);subst e;try contradiction)))
  refine yX ?_; rfl
 | true =>
  rw [hg] at c2
  rw [mayB, hg, Bool.true_and]
  repeat' (first|refine stopAt (c := r48_5) ?_|intro _|refine yU ?_|(apply YA.mk;intro cv hv)|(refine yT ?_ ?_<;>(intro e;(try simp only [nbT,nbF] at e);subst e;try contradiction)))
  refine ⟨?_⟩
  rename_i b2 b5
  refine Cd.weak (l2 := [(1, _), (2, _), (5, _), (6, _)]) ⟨rfl, rfl, rfl, rfl, trivial⟩ ?_
  have j1 := jumps27 (u := u) hp (pc := pc) (w := wide x)
  have j2 := closes28 hu hp (k := wide x) (by have := hn.f2; omega)
  clear c1 c2 hg q1
  by_cases h0 : x.op = 0
  ·repeat' (first|intro _|refine yU ?_|(apply YA.mk;intro cv hv)|(refine yT ?_ ?_<;>(intro e;(try simp only [nbT,nbF] at e);subst e;try contradiction)))
   all_goals refine yX ?_
   all_goals (refine congrArg AV.bool ?_; rw [Bool.eq_iff_iff, hv]; simp [opB, h0])
  by_cases h1 : x.op = 36
  ·repeat' (first|intro _|refine yU ?_|(apply YA.mk;intro cv hv)|(refine yT ?_ ?_<;>(intro e;(try simp only [nbT,nbF] at e);subst e;try contradiction)))
   all_goals refine yX ?_
   all_goals (refine congrArg AV.bool ?_; rw [Bool.eq_iff_iff, hv]; simp [opB, h1])
  by_cases h2 : x.op = 2
  ·repeat' (first|intro _|refine yU ?_|(apply YA.mk;intro cv hv)|(refine yT ?_ ?_<;>(intro e;(try simp only [nbT,nbF] at e);subst e;try contradiction)))
   all_goals refine yX ?_
   all_goals (refine congrArg AV.bool ?_; rw [Bool.eq_iff_iff, hv]; simp [opB, h2])
  by_cases h3 : x.op = 7
  ·repeat' (first|intro _|refine yU ?_|(apply YA.mk;intro cv hv)|(refine yT ?_ ?_<;>(intro e;(try simp only [nbT,nbF] at e);subst e;try contradiction)))
   all_goals refine yX ?_
   all_goals (refine congrArg AV.bool ?_; rw [Bool.eq_iff_iff, hv]; simp [opB, h3])
  by_cases h4 : x.op = 8
  ·repeat' (first|intro _|refine yU ?_|(apply YA.mk;intro cv hv)|(refine yT ?_ ?_<;>(intro e;(try simp only [nbT,nbF] at e);subst e;try contradiction)))
   all_goals refine yX ?_
   all_goals (refine congrArg AV.bool ?_; rw [Bool.eq_iff_iff, hv]; simp [opB, h4])
  by_cases h5 : x.op = 25
  ·repeat' (first|intro _|refine yU ?_|(apply YA.mk;intro cv hv)|(refine yT ?_ ?_<;>(intro e;(try simp only [nbT,nbF] at e);subst e;try contradiction)))
   all_goals refine yX ?_
   all_goals (refine congrArg AV.bool ?_; simp [opB, h5, hv])
  by_cases h6 : x.op = 26
  ·repeat' (first|intro _|refine yU ?_|(apply YA.mk;intro cv hv)|(refine yT ?_ ?_<;>(intro e;(try simp only [nbT,nbF] at e);subst e;try contradiction)))
   all_goals refine yX ?_
   all_goals (refine congrArg AV.bool ?_; simp [opB, h6, hv])
  by_cases h7 : x.op = 27
  ·repeat' (first|intro _|refine yU ?_|(apply YA.mk;intro cv hv)|(refine yT ?_ ?_<;>(intro e;(try simp only [nbT,nbF] at e);subst e;try contradiction)))
   all_goals refine yX ?_
   all_goals (refine congrArg AV.bool ?_; simp [opB, h7, hv])
  by_cases h8 : x.op = 28
  ·repeat' (first|intro _|refine yU ?_|(apply YA.mk;intro cv hv)|(refine yT ?_ ?_<;>(intro e;(try simp only [nbT,nbF] at e);subst e;try contradiction)))
   all_goals refine yX ?_
   all_goals (refine congrArg AV.bool ?_; simp [opB, h8, hv])
  by_cases h9 : x.op = 29
  ·have q := add_int (x := x.b) (y := x.c) (by omega) (by omega)
   repeat' (first|intro _|refine yU ?_|(apply YA.mk;intro cv hv)|(refine yT ?_ ?_<;>(intro e;(try simp only [nbT,nbF] at e);subst e;try contradiction)))
   all_goals refine yX ?_
   all_goals (refine congrArg AV.bool ?_; rw [Bool.eq_iff_iff, hv]; simp [opB, h9])
  by_cases ha0 : x.op = 30
  ·by_cases hcf : x.c < u.funs
   ·obtain ⟨q, hq⟩ : ∃ q, u.protos[x.c.toNat]? = some q := ⟨_, List.getElem?_eq_getElem (by have := hn.f1; omega)⟩
    have q1 := hu.protos.iadr (i := x.c.toNat) (r := protoR q) (k := .i64) (by rw [List.getElem?_map, hq]; rfl)
    rw [show Int.ofNat x.c.toNat = x.c by simp; omega] at q1
    have hq2 := hn.ps q (List.mem_of_getElem? hq)
    have q2 := add_int (x := x.b) (y := q.params) (by omega) (by omega)
    repeat' (first|intro _|refine yU ?_|(apply YA.mk;intro cv hv)|(refine yT ?_ ?_<;>(intro e;(try simp only [nbT,nbF] at e);subst e;try contradiction)))
    all_goals refine yX ?_
    all_goals (refine congrArg AV.bool ?_; rw [Bool.eq_iff_iff, hv]; simp [opB, ha0, hcf, hq])
   ·repeat' (first|intro _|refine yU ?_|(apply YA.mk;intro cv hv)|(refine yT ?_ ?_<;>(intro e;(try simp only [nbT,nbF] at e);subst e;try contradiction)))
    all_goals refine yX ?_
    all_goals (refine congrArg AV.bool ?_; simp [opB, ha0, hcf])
  by_cases hb0 : x.op = 31
  ·by_cases hcf : x.c < (u.uses.length : Int)
   ·obtain ⟨q, hq⟩ : ∃ q, u.uses[x.c.toNat]? = some q := ⟨_, List.getElem?_eq_getElem (by omega)⟩
    have q1 := hu.uses.iadr (i := x.c.toNat) (r := useR q) (k := .i64) (by rw [List.getElem?_map, hq]; rfl)
    rw [show Int.ofNat x.c.toNat = x.c by simp; omega] at q1
    have hq2 := hn.us q (List.mem_of_getElem? hq)
    have q2 := add_int (x := x.b) (y := q.p) (by omega) (by omega)
    repeat' (first|intro _|refine yU ?_|(apply YA.mk;intro cv hv)|(refine yT ?_ ?_<;>(intro e;(try simp only [nbT,nbF] at e);subst e;try contradiction)))
    all_goals refine yX ?_
    all_goals (refine congrArg AV.bool ?_; rw [Bool.eq_iff_iff, hv]; simp [opB, hb0, hq])
   ·have hq : u.uses[x.c.toNat]? = none := List.getElem?_eq_none (by omega)
    repeat' (first|intro _|refine yU ?_|(apply YA.mk;intro cv hv)|(refine yT ?_ ?_<;>(intro e;(try simp only [nbT,nbF] at e);subst e;try contradiction)))
    all_goals refine yX ?_
    all_goals (refine congrArg AV.bool ?_; simp [opB, hb0, hq])
  repeat' (first|intro _|refine yU ?_|(apply YA.mk;intro cv hv)|(refine yT ?_ ?_<;>(intro e;(try simp only [nbT,nbF] at e);subst e;try contradiction)))
  refine yX ?_
  refine congrArg AV.bool ?_
  simp [opB, h0, h1, h2, h3, h4, h5, h6, h7, h8, h9, ha0, hb0]
end Go.Proofs.YtlimjjilakldgaaGreat
namespace Go.Proofs.YtlimjjilakldgaaGreat
open Go Go.Abs
attribute [local irreducible] Cmp Rg Dw Cd Lp Ev Rdk CT Upd InK
def firstBad (u : Unt) (p : Proto) : Nat → List Ins → Option Nat
 | _, [] => none
 | pc, x :: r => if mayB u p pc x = true then firstBad u p (pc + 1) r else some pc
theorem firstBad_drop {u : Unt} {p : Proto} {l : List Ins} {i : Nat} {x : Ins} (h : l[i]? = some x) (j : Nat) : firstBad u p j (l.drop i) = if mayB u p j x = true then firstBad u p (j + 1) (l.drop (i + 1)) else some j := by
 obtain ⟨h1, h2⟩ := List.getElem?_eq_some_iff.1 h
 rw [List.drop_eq_getElem_cons h1, h2]; rfl
def endsB (x : Ins) : Bool := decide (x.op = 37 ∨ x.op = 25)
def protoBad (u : Unt) (p : Proto) : Option Nat := match p.code[p.code.length - 1]? with
 | some x => if endsB x = true then firstBad u p 0 p.code else some (p.code.length - 1)
 | none => some 0
def chk (u : Unt) : Nat → List Proto → Nat × Nat × Nat
 | _, [] => (0, 0, 0)
 | i, p :: r => match protoBad u p with
  | some pc => (14, i, pc)
  | none => chk u (i + 1) r
theorem chk_drop {u : Unt} {l : List Proto} {i : Nat} {p : Proto} (h : l[i]? = some p) (j : Nat) : chk u j (l.drop i) = match protoBad u p with
  | some pc => (14, j, pc)
  | none => chk u (j + 1) (l.drop (i + 1)) := by
 obtain ⟨h1, h2⟩ := List.getElem?_eq_some_iff.1 h
 rw [List.drop_eq_getElem_cons h1, h2]; rfl
def check (u : Unt) : Nat × Nat × Nat := if unitB u = true then chk u 0 u.protos else (4, 0, 0)
def tup3 (t : Nat × Nat × Nat) : AV := .tup [.int .i64 (.ofNat t.1), .int .i64 (.ofNat t.2.1), .int .i64 (.ofNat t.2.2)]
theorem protosB_all {funs : Int} : ∀ {l : List Proto} {i : Nat}, protosB funs i l = true → ∀ p, p ∈ l → ∃ top, protoB p top = true
 | [], _, _, p, hp => by simp at hp
 | q :: l, i, h, p, hp => by
  simp only [protosB, Bool.and_eq_true] at h
  rcases List.mem_cons.1 hp with rfl | hp
  ·exact ⟨_, h.1⟩
  ·exact protosB_all h.2 p hp
theorem unitB_ok {u : Unt} (h : unitB u = true) : OkN u ∧ ∀ p, p ∈ u.protos → ∀ x, x ∈ p.code → rightI x = true := by
 simp only [unitB, Bool.and_eq_true, decide_eq_true_eq] at h
 obtain ⟨⟨⟨⟨_, _⟩, h1⟩, _, h2⟩, _, h3⟩ := h
 refine ⟨⟨h1.1, by omega, by omega, ?_, ?_⟩, ?_⟩
 ·intro p hp
  obtain ⟨top, h4⟩ := protosB_all h3 p hp
  simp only [protoB, shapedB, Bool.and_eq_true, decide_eq_true_eq] at h4
  exact h4.2.1.1.1
 ·intro x hx
  have := List.all_eq_true.1 h2 x hx
  simp only [useB, Bool.and_eq_true, decide_eq_true_eq] at this
  exact this.2
 ·intro p hp x hx
  obtain ⟨top, h4⟩ := protosB_all h3 p hp
  simp only [protoB, shapedB, Bool.and_eq_true, decide_eq_true_eq] at h4
  exact List.all_eq_true.1 h4.2.2.2 x hx
theorem check8_in {u : Unt} {p : Proto} (hu : OkU u) (hp : OkP p) (hn : OkN u) (hr : ∀ x, x ∈ p.code → rightI x = true) {b1 b8 i : Nat} {Q : AX → SL → Mem → Prop}
  (hret : ∀ l' K pc, firstBad u p 0 p.code = some pc → lkS l' 2 = some (.int .i64 (.ofNat 14)) → lkS l' 3 = some (.int .i64 (.ofNat i)) → lkS l' 4 = some (.int .i64 (.ofNat pc)) → Q .ret l' K)
  (hend : ∀ l', firstBad u p 0 p.code = none → Sub2 [(1, .ptr b1 0 0 5), (14, u.protosV), (15, .int .i64 (.ofNat u.protos.length)), (16, .int .i64 (.ofNat i))] l' → Q (.ext 2) l' [[(b8, .cells (unitR u ++ protoR p) 0 0 false)], boxU b1 u]) :
  ∀ (k j : Nat), p.code.length < j + k → j ≤ p.code.length → firstBad u p j (p.code.drop j) = firstBad u p 0 p.code →
  Lp Try.prog false b37_0 k [(1, .ptr b1 0 0 5), (5, .int .i64 (.ofNat i)), (8, .ptr b8 0 0 11), (14, u.protosV), (15, .int .i64 (.ofNat u.protos.length)), (16, .int .i64 (.ofNat i)), (45, .int .i64 (.ofNat p.code.length)), (46, .int .i64 (.ofNat j))] [[(b8, .cells (unitR u ++ protoR p) 0 0 false)], boxU b1 u] Q := by
 have hl := hp.lcode
 intro k
 induction k with
 | zero => intro j h1 h2; omega
 | succ k ih =>
  intro j h1 h2 h3
  refine Lp.round ?_
  by_cases hj : j < p.code.length
  ·obtain ⟨x, hx⟩ : ∃ x, p.code[j]? = some x := ⟨_, List.getElem?_eq_getElem hj⟩
   have c := right13 hu hp hn hx (hr x (List.mem_of_getElem? hx))
   rw [firstBad_drop hx] at h3
   repeat' (first|intro _|refine yU ?_|(apply YA.mk;intro cv hv)|(refine yT ?_ ?_<;>(intro e;(try simp only [nbT,nbF] at e);subst e;try contradiction)))
   ·exact hret _ _ j (by rw [← h3, hv]; rfl) rfl rfl rfl
   ·refine Lp.weak ?hw (ih (j + 1) (by omega) (by omega) ?_)
    case hw => exact ⟨rfl, rfl, rfl, rfl, rfl, rfl, rfl, rfl, trivial⟩
    rw [← h3, hv]; rfl
  ·repeat' (first|intro _|refine yU ?_|(apply YA.mk;intro cv hv)|(refine yT ?_ ?_<;>(intro e;(try simp only [nbT,nbF] at e);subst e;try contradiction)))
   exact hend _ (by rw [← h3, List.drop_of_length_le (by omega)]; rfl) ⟨rfl, rfl, rfl, rfl, trivial⟩
theorem check8_out {u : Unt} (hu : OkU u) (hn : OkN u) (hr : ∀ p, p ∈ u.protos → ∀ x, x ∈ p.code → rightI x = true) {b1 : Nat} {Q : AX → SL → Mem → Prop}
  (hret : ∀ l' K i pc, chk u 0 u.protos = (14, i, pc) → lkS l' 2 = some (.int .i64 (.ofNat 14)) → lkS l' 3 = some (.int .i64 (.ofNat i)) → lkS l' 4 = some (.int .i64 (.ofNat pc)) → Q .ret l' K)
  (hend : ∀ l' K, chk u 0 u.protos = (0, 0, 0) → Q (.ext 0) l' K) :
  ∀ (k i : Nat), u.protos.length < i + k → i ≤ u.protos.length → chk u i (u.protos.drop i) = chk u 0 u.protos →
  Lp Try.prog false b37_1 k [(1, .ptr b1 0 0 5), (14, u.protosV), (15, .int .i64 (.ofNat u.protos.length)), (16, .int .i64 (.ofNat i))] [boxU b1 u] Q := by
 have hl := hu.lprotos
 intro k
 induction k with
 | zero => intro j h1 h2; omega
 | succ k ih =>
  intro i h1 h2 h3
  refine Lp.round ?_
  by_cases hi : i < u.protos.length
  ·obtain ⟨p, hx⟩ : ∃ p, u.protos[i]? = some p := ⟨_, List.getElem?_eq_getElem hi⟩
   have hm := List.mem_of_getElem? hx
   have hp := hu.ps p hm
   obtain ⟨m1, m2, m3⟩ := hp.lens
   have q1 := hu.protos.iadr (i := i) (r := protoR p) (k := .i64) (by rw [List.getElem?_map, hx]; rfl)
   rw [chk_drop hx] at h3
   by_cases hc : p.code.length = 0
   ·have hpb : protoBad u p = some 0 := by rw [protoBad, List.getElem?_eq_none (by omega)]
    rw [hpb] at h3
    rw [hc] at m1
    have q2 : abin .sub (.int .i64 (.ofNat 0)) (.int .i64 (.ofNat 1)) = some (.int .i64 (.negSucc 0)) := rfl
    have q3 : amax .i64 (.ofNat 0) [.int .i64 (.negSucc 0)] = some (.int .i64 (.ofNat 0)) := rfl
    repeat' (first|intro _|refine yU ?_|(apply YA.mk;intro cv hv)|(refine yT ?_ ?_<;>(intro e;(try simp only [nbT,nbF] at e);subst e;try contradiction)))
    exact hret _ _ i 0 h3.symm rfl rfl rfl
   ·obtain ⟨y, hy⟩ : ∃ y, p.code[p.code.length - 1]? = some y := ⟨_, List.getElem?_eq_getElem (by omega)⟩
    have q2 := hp.code.iadr (i := p.code.length - 1) (r := insR y) (k := .i64) (by rw [List.getElem?_map, hy]; rfl)
    have c := ends12 y
    have hlc := hp.lcode
    cases he : endsB y with
    | false =>
     have hpb : protoBad u p = some (p.code.length - 1) := by rw [protoBad, hy]; simp [he]
     rw [hpb] at h3
     rw [show decide (y.op = 37 ∨ y.op = 25) = false from he] at c
     have q3 : amax .i64 (.ofNat 0) [.int .i64 (.ofNat (p.code.length - 1))] = some (.int .i64 (.ofNat (p.code.length - 1))) := by rw [amax2]; first | (congr 2; done) | (congr 2; simp; done) | (congr 2; simp; omega)
     repeat' (first|intro _|refine yU ?_|(apply YA.mk;intro cv hv)|(refine yT ?_ ?_<;>(intro e;(try simp only [nbT,nbF] at e);subst e;try contradiction)))
     exact hret _ _ i (p.code.length - 1) h3.symm rfl rfl rfl
    | true =>
     have hpb : protoBad u p = firstBad u p 0 p.code := by rw [protoBad, hy]; simp [he]
     rw [hpb] at h3
     rw [show decide (y.op = 37 ∨ y.op = 25) = true from he] at c
     repeat' (first|refine stopAt (c := r37_10) ?_|intro _|refine yU ?_|(apply YA.mk;intro cv hv)|(refine yT ?_ ?_<;>(intro e;(try simp only [nbT,nbF] at e);subst e;try contradiction)))
     refine ⟨?_⟩
     rename_i b6 b8
     refine Cd.weak (l2 := [(1, _), (5, _), (6, _), (8, _), (14, _), (15, _), (16, _)]) ⟨rfl, rfl, rfl, rfl, rfl, rfl, rfl, trivial⟩ ?_
     repeat' (first|intro _|refine yU ?_|(apply YA.mk;intro cv hv)|(refine yT ?_ ?_<;>(intro e;(try simp only [nbT,nbF] at e);subst e;try contradiction)))
     refine Cd.weak (l2 := [(1, _), (5, _), (8, _), (14, _), (15, _), (16, _), (45, _), (46, _)]) ⟨rfl, rfl, rfl, rfl, rfl, rfl, rfl, rfl, trivial⟩ ?_
     refine Cd.drop (m := [[(b8, .cells (unitR u ++ protoR p) 0 0 false)], boxU b1 u]) (.cons .here (.cons (.there .here) .nil)) (Cd.loop (k := p.code.length + 1) (check8_in hu hp hn (hr p hm) ?_ ?_ (p.code.length + 1) 0 (by omega) (by omega) rfl))
     ·intro l' K pc e1 e2 e3 e4
      rw [e1] at h3
      exact hret _ _ i pc h3.symm e2 e3 e4
     ·intro l' e1 hs
      rw [e1] at h3
      show Cd _ _ _ _ _ _
      refine Cd.weak hs ?_
      repeat' (first|intro _|refine yU ?_|(apply YA.mk;intro cv hv)|(refine yT ?_ ?_<;>(intro e;(try simp only [nbT,nbF] at e);subst e;try contradiction)))
      refine Lp.drop (m := [boxU b1 u]) (.cons (.there .here) .nil) (Lp.weak ?hw (ih (i + 1) (by omega) (by omega) h3))
      case hw => exact ⟨rfl, rfl, rfl, rfl, trivial⟩
  ·repeat' (first|intro _|refine yU ?_|(apply YA.mk;intro cv hv)|(refine yT ?_ ?_<;>(intro e;(try simp only [nbT,nbF] at e);subst e;try contradiction)))
   exact hend _ _ (by rw [← h3, List.drop_of_length_le (by omega)]; rfl)
theorem check8 {u : Unt} (hu : OkU u) : PT Try.prog false 37 [.agg (unitR u)] (tup3 (check u)) := by
 have hl := hu.lprotos
 obtain ⟨n1, n2⟩ := hu.lens
 refine PT.of (CT.enter mixed comp37 (Nat.le_of_ble_eq_true rfl) ?_)
 cases hb : unitB u with
 | false =>
  have c := right11 hu
  rw [hb] at c
  rw [show check u = (4, 0, 0) by rw [check, hb]; rfl]
  repeat' (first|intro _|refine yU ?_|(apply YA.mk;intro cv hv)|(refine yT ?_ ?_<;>(intro e;(try simp only [nbT,nbF] at e);subst e;try contradiction)))
  all_goals refine yX ?_
  all_goals rfl
 | true =>
  have c := right11 hu
  rw [hb] at c
  have hn := unitB_ok hb
  rw [show check u = chk u 0 u.protos by rw [check, hb]; rfl]
  repeat' (first|intro _|refine yU ?_|(apply YA.mk;intro cv hv)|(refine yT ?_ ?_<;>(intro e;(try simp only [nbT,nbF] at e);subst e;try contradiction)))
  rename_i b1
  refine Cd.weak (l2 := [(1, _), (14, _), (15, _), (16, _)]) ⟨rfl, rfl, rfl, rfl, trivial⟩ ?_
  refine Cd.loop (k := u.protos.length + 1) (Lp.weak ?hw (check8_out hu hn.1 hn.2 ?_ ?_ (u.protos.length + 1) 0 (by omega) (by omega) rfl))
  case hw => exact ⟨rfl, rfl, rfl, rfl, trivial⟩
  ·intro l' K i pc e1 e2 e3 e4
   rw [e1]
   exact ⟨.inr rfl, _, .t e2 (.t e3 (.t e4 .nil)), rfl⟩
  ·intro l' K e1
   rw [e1]
   show Cd _ _ _ _ _ _
   refine Cd.weak (l2 := []) trivial ?_
   repeat' (first|intro _|refine yU ?_|(apply YA.mk;intro cv hv)|(refine yT ?_ ?_<;>(intro e;(try simp only [nbT,nbF] at e);subst e;try contradiction)))
   all_goals refine yX ?_
   all_goals rfl
end Go.Proofs.YtlimjjilakldgaaGreat
namespace Go.Proofs.YtlimjjilakldgaaGreat
open Go Go.Abs
attribute [local irreducible] Cmp Rg Dw Cd Lp Ev Rdk CT Upd InK
def specialN : List (List Nat) := [[116, 105, 99, 107], [121, 105, 101, 108, 100], [99, 111, 110, 115, 116], [117, 112], [117, 112, 115, 101, 116], [106, 117, 109, 112], [102, 97, 108, 115, 101], [116, 114, 117, 101], [102, 110], [99, 97, 108, 108], [111, 119, 110], [117, 115, 101]]
theorem others : (List.range 38).all (fun k => [0, 36, 2, 7, 8, 25, 26, 27, 28, 29, 30, 31].contains k || !(specialN.contains (nam k))) = true := by kernel_rfl
theorem name_other {op : Int} (h : 0 ≤ op ∧ op < 38) (h0 : ¬op = 0) (h1 : ¬op = 36) (h2 : ¬op = 2) (h3 : ¬op = 7) (h4 : ¬op = 8) (h5 : ¬op = 25) (h6 : ¬op = 26) (h7 : ¬op = 27) (h8 : ¬op = 28) (h9 : ¬op = 29) (ha : ¬op = 30) (hb : ¬op = 31) : ∀ w, w ∈ specialN → ¬ name op = w := by
 intro w hw e
 rw [name, if_pos h] at e
 have := List.all_eq_true.1 others op.toNat (List.mem_range.2 (by omega))
 rw [e] at this
 simp only [Bool.or_eq_true, Bool.not_eq_true'] at this
 rcases this with h | h
 ·simp only [List.contains_cons, List.contains_nil, Bool.or_eq_true, beq_iff_eq, Bool.false_eq_true, or_false] at h
  omega
 ·rw [List.contains_eq_any_beq, List.any_eq_false] at h
  exact absurd (by simp) (h w hw)
theorem ticks : (List.range 38).all (fun k => Nat.beq k 0 || !(nam k == [116, 105, 99, 107])) = true := by kernel_rfl
theorem name_tick {op : Int} : name op = [116, 105, 99, 107] ↔ op = 0 := by
 constructor
 ·intro e
  by_cases h : 0 ≤ op ∧ op < 38
  ·rw [name, if_pos h] at e
   have := List.all_eq_true.1 ticks op.toNat (List.mem_range.2 (by omega))
   rw [e] at this
   simp at this
   omega
  ·rw [name, if_neg h] at e; cases e
 ·rintro rfl; kernel_rfl
theorem right16 {u : Unt} {p : Proto} {pc : Nat} {x : Ins} (hu : OkU u) (hp : OkP p) (hn : OkN u) (hx : p.code[pc]? = some x) (hr : rightI x = true) : PT Try.prog false 51 [.agg (unitR u), .agg (protoR p), .int .i64 (.ofNat pc)] (.bool (mayB u p pc x)) := by
 refine PT.of (CT.enter mixed comp51 (Nat.le_of_ble_eq_true rfl) ?_)
 have q1 := hp.code.iadr (i := pc) (r := insR x) (k := .i64) (by rw [List.getElem?_map, hx]; rfl)
 have c1 := wide32 x
 have c2 := registers33 p x (by intro e; rw [rightI, e] at hr; cases hr)
 obtain ⟨l1, l2⟩ := hu.lens
 obtain ⟨m1, m2, m3⟩ := hp.lens
 obtain ⟨ha, hb, hc⟩ := rightI_le hr
 have ho := rightI_op hr
 have hnm := @name15 x.op
 have hnm2 := @name15
 cases hg : regs3 p.regs (shape x.op) x with
 | false =>
  rw [hg] at c2
  rw [mayB, hg, Bool.false_and]
  repeat' (first|intro _|refine yU ?_|(apply YA.mk;intro cv hv)|(refine yT ?_ ?_<;>(intro e;(try simp only [nbT,nbF] at e);subst e;try contradiction)))
  refine yX ?_; rfl
 | true =>
  rw [hg] at c2
  rw [mayB, hg, Bool.true_and]
  repeat' (first|refine stopAt (c := r51_5) ?_|intro _|refine yU ?_|(apply YA.mk;intro cv hv)|(refine yT ?_ ?_<;>(intro e;(try simp only [nbT,nbF] at e);subst e;try contradiction)))
  refine ⟨?_⟩
  rename_i b3 b4 b7
  refine Cd.weak (l2 := [(2, _), (3, _), (4, _), (7, _), (8, _)]) ⟨rfl, rfl, rfl, rfl, rfl, trivial⟩ ?_
  have j2 := closes34 hu hp (k := wide x) (by have := hn.f2; omega)
  clear c1 c2 hg q1
  by_cases h0 : x.op = 0
  ·have en : name x.op = [116, 105, 99, 107] := by rw [h0]; kernel_rfl
   rw [en] at hnm
   repeat' (first|intro _|refine yU ?_|(apply YA.mk;intro cv hv)|(refine yT ?_ ?_<;>(intro e;(try simp only [nbT,nbF] at e);subst e;try contradiction)))
   all_goals refine yX ?_
   all_goals (refine congrArg AV.bool ?_; rw [Bool.eq_iff_iff, hv]; simp [opB, h0])
  by_cases h1 : x.op = 36
  ·have en : name x.op = [121, 105, 101, 108, 100] := by rw [h1]; kernel_rfl
   rw [en] at hnm
   repeat' (first|intro _|refine yU ?_|(apply YA.mk;intro cv hv)|(refine yT ?_ ?_<;>(intro e;(try simp only [nbT,nbF] at e);subst e;try contradiction)))
   all_goals refine yX ?_
   all_goals (refine congrArg AV.bool ?_; rw [Bool.eq_iff_iff, hv]; simp [opB, h1])
  by_cases h2 : x.op = 2
  ·have en : name x.op = [99, 111, 110, 115, 116] := by rw [h2]; kernel_rfl
   rw [en] at hnm
   repeat' (first|intro _|refine yU ?_|(apply YA.mk;intro cv hv)|(refine yT ?_ ?_<;>(intro e;(try simp only [nbT,nbF] at e);subst e;try contradiction)))
   all_goals refine yX ?_
   all_goals (refine congrArg AV.bool ?_; rw [Bool.eq_iff_iff, hv]; simp [opB, h2])
  by_cases h3 : x.op = 7
  ·have en : name x.op = [117, 112] := by rw [h3]; kernel_rfl
   rw [en] at hnm
   repeat' (first|intro _|refine yU ?_|(apply YA.mk;intro cv hv)|(refine yT ?_ ?_<;>(intro e;(try simp only [nbT,nbF] at e);subst e;try contradiction)))
   all_goals refine yX ?_
   all_goals (refine congrArg AV.bool ?_; rw [Bool.eq_iff_iff, hv]; simp [opB, h3])
  by_cases h4 : x.op = 8
  ·have en : name x.op = [117, 112, 115, 101, 116] := by rw [h4]; kernel_rfl
   rw [en] at hnm
   repeat' (first|intro _|refine yU ?_|(apply YA.mk;intro cv hv)|(refine yT ?_ ?_<;>(intro e;(try simp only [nbT,nbF] at e);subst e;try contradiction)))
   all_goals refine yX ?_
   all_goals (refine congrArg AV.bool ?_; rw [Bool.eq_iff_iff, hv]; simp [opB, h4])
  by_cases h5 : x.op = 25
  ·have en : name x.op = [106, 117, 109, 112] := by rw [h5]; kernel_rfl
   rw [en] at hnm
   by_cases hw : wide x < p.code.length
   ·obtain ⟨y, hy⟩ : ∃ y, p.code[wide x]? = some y := ⟨_, List.getElem?_eq_getElem hw⟩
    have q1 := hp.code.iadr (i := wide x) (r := insR y) (k := .i64) (by rw [List.getElem?_map, hy]; rfl)
    have q2 := @name15 y.op
    repeat' (first|intro _|refine yU ?_|(apply YA.mk;intro cv hv)|(refine yT ?_ ?_<;>(intro e;(try simp only [nbT,nbF] at e);subst e;try contradiction)))
    all_goals refine yX ?_
    all_goals (refine congrArg AV.bool ?_; rw [Bool.eq_iff_iff]; simp only [opB, h5, jumpB, hy]; clear q1 q2 hnm hnm2 m1 m2 m3 l1 l2 hu hp hn; first | (simp_all [name_tick]; done) | (simp_all [name_tick]; omega))
   ·repeat' (first|intro _|refine yU ?_|(apply YA.mk;intro cv hv)|(refine yT ?_ ?_<;>(intro e;(try simp only [nbT,nbF] at e);subst e;try contradiction)))
    refine yX ?_
    refine congrArg AV.bool ?_
    simp [opB, h5, jumpB, List.getElem?_eq_none (Nat.le_of_not_lt hw)]
  by_cases h6 : x.op = 26
  ·have en : name x.op = [102, 97, 108, 115, 101] := by rw [h6]; kernel_rfl
   rw [en] at hnm
   by_cases hw : wide x < p.code.length
   ·obtain ⟨y, hy⟩ : ∃ y, p.code[wide x]? = some y := ⟨_, List.getElem?_eq_getElem hw⟩
    have q1 := hp.code.iadr (i := wide x) (r := insR y) (k := .i64) (by rw [List.getElem?_map, hy]; rfl)
    have q2 := @name15 y.op
    repeat' (first|intro _|refine yU ?_|(apply YA.mk;intro cv hv)|(refine yT ?_ ?_<;>(intro e;(try simp only [nbT,nbF] at e);subst e;try contradiction)))
    all_goals refine yX ?_
    all_goals (refine congrArg AV.bool ?_; rw [Bool.eq_iff_iff]; simp only [opB, h6, jumpB, hy]; clear q1 q2 hnm hnm2 m1 m2 m3 l1 l2 hu hp hn; first | (simp_all [name_tick]; done) | (simp_all [name_tick]; omega))
   ·repeat' (first|intro _|refine yU ?_|(apply YA.mk;intro cv hv)|(refine yT ?_ ?_<;>(intro e;(try simp only [nbT,nbF] at e);subst e;try contradiction)))
    refine yX ?_
    refine congrArg AV.bool ?_
    simp [opB, h6, jumpB, List.getElem?_eq_none (Nat.le_of_not_lt hw)]
  by_cases h7 : x.op = 27
  ·have en : name x.op = [116, 114, 117, 101] := by rw [h7]; kernel_rfl
   rw [en] at hnm
   by_cases hw : wide x < p.code.length
   ·obtain ⟨y, hy⟩ : ∃ y, p.code[wide x]? = some y := ⟨_, List.getElem?_eq_getElem hw⟩
    have q1 := hp.code.iadr (i := wide x) (r := insR y) (k := .i64) (by rw [List.getElem?_map, hy]; rfl)
    have q2 := @name15 y.op
    repeat' (first|intro _|refine yU ?_|(apply YA.mk;intro cv hv)|(refine yT ?_ ?_<;>(intro e;(try simp only [nbT,nbF] at e);subst e;try contradiction)))
    all_goals refine yX ?_
    all_goals (refine congrArg AV.bool ?_; rw [Bool.eq_iff_iff]; simp only [opB, h7, jumpB, hy]; clear q1 q2 hnm hnm2 m1 m2 m3 l1 l2 hu hp hn; first | (simp_all [name_tick]; done) | (simp_all [name_tick]; omega))
   ·repeat' (first|intro _|refine yU ?_|(apply YA.mk;intro cv hv)|(refine yT ?_ ?_<;>(intro e;(try simp only [nbT,nbF] at e);subst e;try contradiction)))
    refine yX ?_
    refine congrArg AV.bool ?_
    simp [opB, h7, jumpB, List.getElem?_eq_none (Nat.le_of_not_lt hw)]
  by_cases h8 : x.op = 28
  ·have en : name x.op = [102, 110] := by rw [h8]; kernel_rfl
   rw [en] at hnm
   repeat' (first|intro _|refine yU ?_|(apply YA.mk;intro cv hv)|(refine yT ?_ ?_<;>(intro e;(try simp only [nbT,nbF] at e);subst e;try contradiction)))
   all_goals refine yX ?_
   all_goals (refine congrArg AV.bool ?_; simp [opB, h8, hv])
  by_cases h9 : x.op = 29
  ·have en : name x.op = [99, 97, 108, 108] := by rw [h9]; kernel_rfl
   rw [en] at hnm
   have q := add_int (x := x.b) (y := x.c) (by omega) (by omega)
   repeat' (first|intro _|refine yU ?_|(apply YA.mk;intro cv hv)|(refine yT ?_ ?_<;>(intro e;(try simp only [nbT,nbF] at e);subst e;try contradiction)))
   all_goals refine yX ?_
   all_goals (refine congrArg AV.bool ?_; rw [Bool.eq_iff_iff, hv]; simp [opB, h9])
  by_cases ha0 : x.op = 30
  ·have en : name x.op = [111, 119, 110] := by rw [ha0]; kernel_rfl
   rw [en] at hnm
   by_cases hcf : x.c < u.funs
   ·obtain ⟨q, hq⟩ : ∃ q, u.protos[x.c.toNat]? = some q := ⟨_, List.getElem?_eq_getElem (by have := hn.f1; omega)⟩
    have q1 := hu.protos.iadr (i := x.c.toNat) (r := protoR q) (k := .i64) (by rw [List.getElem?_map, hq]; rfl)
    rw [show Int.ofNat x.c.toNat = x.c by simp; omega] at q1
    have hq2 := hn.ps q (List.mem_of_getElem? hq)
    have q2 := add_int (x := x.b) (y := q.params) (by omega) (by omega)
    repeat' (first|intro _|refine yU ?_|(apply YA.mk;intro cv hv)|(refine yT ?_ ?_<;>(intro e;(try simp only [nbT,nbF] at e);subst e;try contradiction)))
    all_goals refine yX ?_
    all_goals (refine congrArg AV.bool ?_; rw [Bool.eq_iff_iff, hv]; simp [opB, ha0, hcf, hq])
   ·repeat' (first|intro _|refine yU ?_|(apply YA.mk;intro cv hv)|(refine yT ?_ ?_<;>(intro e;(try simp only [nbT,nbF] at e);subst e;try contradiction)))
    all_goals refine yX ?_
    all_goals (refine congrArg AV.bool ?_; simp [opB, ha0, hcf])
  by_cases hb0 : x.op = 31
  ·have en : name x.op = [117, 115, 101] := by rw [hb0]; kernel_rfl
   rw [en] at hnm
   by_cases hcf : x.c < (u.uses.length : Int)
   ·obtain ⟨q, hq⟩ : ∃ q, u.uses[x.c.toNat]? = some q := ⟨_, List.getElem?_eq_getElem (by omega)⟩
    have q1 := hu.uses.iadr (i := x.c.toNat) (r := useR q) (k := .i64) (by rw [List.getElem?_map, hq]; rfl)
    rw [show Int.ofNat x.c.toNat = x.c by simp; omega] at q1
    have hq2 := hn.us q (List.mem_of_getElem? hq)
    have q2 := add_int (x := x.b) (y := q.p) (by omega) (by omega)
    repeat' (first|intro _|refine yU ?_|(apply YA.mk;intro cv hv)|(refine yT ?_ ?_<;>(intro e;(try simp only [nbT,nbF] at e);subst e;try contradiction)))
    all_goals refine yX ?_
    all_goals (refine congrArg AV.bool ?_; rw [Bool.eq_iff_iff, hv]; simp [opB, hb0, hq])
   ·have hq : u.uses[x.c.toNat]? = none := List.getElem?_eq_none (by omega)
    repeat' (first|intro _|refine yU ?_|(apply YA.mk;intro cv hv)|(refine yT ?_ ?_<;>(intro e;(try simp only [nbT,nbF] at e);subst e;try contradiction)))
    all_goals refine yX ?_
    all_goals (refine congrArg AV.bool ?_; simp [opB, hb0, hq])
  have hno := name_other ho h0 h1 h2 h3 h4 h5 h6 h7 h8 h9 ha0 hb0
  have n0 : ¬ name x.op = [116, 105, 99, 107] := hno _ (by decide)
  have n1 : ¬ name x.op = [121, 105, 101, 108, 100] := hno _ (by decide)
  have n2 : ¬ name x.op = [99, 111, 110, 115, 116] := hno _ (by decide)
  have n3 : ¬ name x.op = [117, 112] := hno _ (by decide)
  have n4 : ¬ name x.op = [117, 112, 115, 101, 116] := hno _ (by decide)
  have n5 : ¬ name x.op = [106, 117, 109, 112] := hno _ (by decide)
  have n6 : ¬ name x.op = [102, 97, 108, 115, 101] := hno _ (by decide)
  have n7 : ¬ name x.op = [116, 114, 117, 101] := hno _ (by decide)
  have n8 : ¬ name x.op = [102, 110] := hno _ (by decide)
  have n9 : ¬ name x.op = [99, 97, 108, 108] := hno _ (by decide)
  have n10 : ¬ name x.op = [111, 119, 110] := hno _ (by decide)
  have n11 : ¬ name x.op = [117, 115, 101] := hno _ (by decide)
  repeat' (first|intro _|refine yU ?_|(apply YA.mk;intro cv hv)|(refine yT ?_ ?_<;>(intro e;(try simp only [nbT,nbF] at e);subst e;try contradiction)))
  refine yX ?_
  refine congrArg AV.bool ?_
  simp [opB, h0, h1, h2, h3, h4, h5, h6, h7, h8, h9, ha0, hb0]
end Go.Proofs.YtlimjjilakldgaaGreat
namespace Go.Proofs.YtlimjjilakldgaaGreat
open Go Go.Abs
attribute [local irreducible] Cmp Rg Dw Cd Lp Ev Rdk CT Upd InK
theorem proto31_loop0 {p : Proto} (hp : OkP p) {b : Nat} {Q : AX → SL → Mem → Prop} (hret : ∀ l' K, p.caps.all capB = false → lkS l' 4 = some (.bool false) → Q .ret l' K) (hend : ∀ l', p.caps.all capB = true → lkS l' 2 = some (.ptr b 0 0 6) → Q (.ext 0) l' [[(b, .cells (protoR p) 0 0 false)]]) :
  ∀ (k i : Nat), p.caps.length < i + k → i ≤ p.caps.length → (∀ x, x ∈ p.caps.take i → capB x = true) → Lp Try.prog false b70_0 k [(2, .ptr b 0 0 6), (5, .int .i64 (.ofNat i))] [[(b, .cells (protoR p) 0 0 false)]] Q := by
 have hl := hp.lcaps
 obtain ⟨l1, l2, l3⟩ := hp.lens
 intro k
 induction k with
 | zero => intro i h1 h2; omega
 | succ k ih =>
  intro i h1 h2 h3
  refine Lp.round ?_
  by_cases hi : i < p.caps.length
  ·obtain ⟨x, hx⟩ : ∃ x, p.caps[i]? = some x := ⟨_, List.getElem?_eq_getElem hi⟩
   have q1 := hp.caps.iadr (i := i) (r := capR x) (k := .i64) (by rw [List.getElem?_map, hx]; rfl)
   have q5 := @in_ x.i 0 255
   repeat' (first|intro _|refine yU ?_|(apply YA.mk;intro cv hv)|(refine yT ?_ ?_<;>(intro e;(try simp only [nbT,nbF] at e);subst e;try contradiction)))
   ·refine hret _ _ ?_ rfl
    cases ha : p.caps.all capB with
    | false => rfl
    | true => have hx1 := List.all_eq_true.1 ha x (List.mem_of_getElem? hx); simp only [capB] at hx1 hv; simp_all
   ·refine Lp.drop (m := [[(b, .cells (protoR p) 0 0 false)]]) (.cons .here .nil) (Lp.weak ?hw (ih (i + 1) (by omega) (by omega) ?_))
    case hw => exact ⟨rfl, rfl, trivial⟩
    intro y hy
    rw [List.take_add_one, hx] at hy
    rcases List.mem_append.1 hy with hy | hy
    ·exact h3 y hy
    ·simp at hy; subst hy; exact hv
  ·repeat' (first|intro _|refine yU ?_|(apply YA.mk;intro cv hv)|(refine yT ?_ ?_<;>(intro e;(try simp only [nbT,nbF] at e);subst e;try contradiction)))
   exact hend _ (List.all_eq_true.2 fun x hx => h3 x (by rw [List.take_of_length_le (by omega)]; exact hx)) rfl
theorem proto31_loop1 {p : Proto} (hp : OkP p) {b : Nat} {Q : AX → SL → Mem → Prop} (hret : ∀ l' K, p.consts.all constB = false → lkS l' 4 = some (.bool false) → Q .ret l' K) (hend : ∀ l', p.consts.all constB = true → lkS l' 2 = some (.ptr b 0 0 6) → Q (.ext 2) l' [[(b, .cells (protoR p) 0 0 false)]]) :
  ∀ (k i : Nat), p.consts.length < i + k → i ≤ p.consts.length → (∀ x, x ∈ p.consts.take i → constB x = true) → Lp Try.prog false b70_1 k [(2, .ptr b 0 0 6), (6, .int .i64 (.ofNat i))] [[(b, .cells (protoR p) 0 0 false)]] Q := by
 have hl := hp.lconsts
 obtain ⟨l1, l2, l3⟩ := hp.lens
 intro k
 induction k with
 | zero => intro i h1 h2; omega
 | succ k ih =>
  intro i h1 h2 h3
  refine Lp.round ?_
  by_cases hi : i < p.consts.length
  ·obtain ⟨x, hx⟩ : ∃ x, p.consts[i]? = some x := ⟨_, List.getElem?_eq_getElem hi⟩
   have q1 := hp.consts.iadr (i := i) (r := valR x) (k := .i64) (by rw [List.getElem?_map, hx]; rfl)
   have q5 := const46 x
   repeat' (first|intro _|refine yU ?_|(apply YA.mk;intro cv hv)|(refine yT ?_ ?_<;>(intro e;(try simp only [nbT,nbF] at e);subst e;try contradiction)))
   ·refine hret _ _ ?_ rfl
    cases ha : p.consts.all constB with
    | false => rfl
    | true => have hx1 := List.all_eq_true.1 ha x (List.mem_of_getElem? hx); rw [hx1] at hv; cases hv
   ·refine Lp.drop (m := [[(b, .cells (protoR p) 0 0 false)]]) (.cons .here .nil) (Lp.weak ?hw (ih (i + 1) (by omega) (by omega) ?_))
    case hw => exact ⟨rfl, rfl, trivial⟩
    intro y hy
    rw [List.take_add_one, hx] at hy
    rcases List.mem_append.1 hy with hy | hy
    ·exact h3 y hy
    ·simp at hy; subst hy; exact hv
  ·repeat' (first|intro _|refine yU ?_|(apply YA.mk;intro cv hv)|(refine yT ?_ ?_<;>(intro e;(try simp only [nbT,nbF] at e);subst e;try contradiction)))
   exact hend _ (List.all_eq_true.2 fun x hx => h3 x (by rw [List.take_of_length_le (by omega)]; exact hx)) rfl
theorem proto31_loop2 {p : Proto} (hp : OkP p) {b : Nat} {Q : AX → SL → Mem → Prop} (hret : ∀ l' K, p.code.all rightI = false → lkS l' 4 = some (.bool false) → Q .ret l' K) (hend : ∀ l', p.code.all rightI = true → lkS l' 2 = some (.ptr b 0 0 6) → Q (.ext 4) l' [[(b, .cells (protoR p) 0 0 false)]]) :
  ∀ (k i : Nat), p.code.length < i + k → i ≤ p.code.length → (∀ x, x ∈ p.code.take i → rightI x = true) → Lp Try.prog false b70_2 k [(2, .ptr b 0 0 6), (7, .int .i64 (.ofNat i))] [[(b, .cells (protoR p) 0 0 false)]] Q := by
 have hl := hp.lcode
 obtain ⟨l1, l2, l3⟩ := hp.lens
 intro k
 induction k with
 | zero => intro i h1 h2; omega
 | succ k ih =>
  intro i h1 h2 h3
  refine Lp.round ?_
  by_cases hi : i < p.code.length
  ·obtain ⟨x, hx⟩ : ∃ x, p.code[i]? = some x := ⟨_, List.getElem?_eq_getElem hi⟩
   have q1 := hp.code.iadr (i := i) (r := insR x) (k := .i64) (by rw [List.getElem?_map, hx]; rfl)
   have q5 := right47 x
   repeat' (first|intro _|refine yU ?_|(apply YA.mk;intro cv hv)|(refine yT ?_ ?_<;>(intro e;(try simp only [nbT,nbF] at e);subst e;try contradiction)))
   ·refine hret _ _ ?_ rfl
    cases ha : p.code.all rightI with
    | false => rfl
    | true => have hx1 := List.all_eq_true.1 ha x (List.mem_of_getElem? hx); rw [hx1] at hv; cases hv
   ·refine Lp.drop (m := [[(b, .cells (protoR p) 0 0 false)]]) (.cons .here .nil) (Lp.weak ?hw (ih (i + 1) (by omega) (by omega) ?_))
    case hw => exact ⟨rfl, rfl, trivial⟩
    intro y hy
    rw [List.take_add_one, hx] at hy
    rcases List.mem_append.1 hy with hy | hy
    ·exact h3 y hy
    ·simp at hy; subst hy; exact hv
  ·repeat' (first|intro _|refine yU ?_|(apply YA.mk;intro cv hv)|(refine yT ?_ ?_<;>(intro e;(try simp only [nbT,nbF] at e);subst e;try contradiction)))
   exact hend _ (List.all_eq_true.2 fun x hx => h3 x (by rw [List.take_of_length_le (by omega)]; exact hx)) rfl
theorem proto31_tail {p : Proto} (hp : OkP p) {top : Bool} {l : SL} {b : Nat} (h2 : lkS l 2 = some (.ptr b 0 0 6)) (hB : protoB p top = (p.caps.all capB && (p.consts.all constB && p.code.all rightI))) :
  Cd Try.prog false (.seq (.seq (.reg r70_5) (.blk 0 (.loop b70_0))) (.seq (.seq (.reg r70_10) (.blk 2 (.loop b70_1))) (.seq (.seq (.reg r70_15) (.blk 4 (.loop b70_2))) (.seq (.reg r70_20) .ret)))) l [[(b, .cells (protoR p) 0 0 false)]] (DoneK fn70.results fun w _ => w = .bool (protoB p top)) := by
 refine Cd.weak (l2 := [(2, .ptr b 0 0 6)]) ⟨h2, trivial⟩ ?_
 have lc := hp.lcaps
 have lk := hp.lconsts
 have lo := hp.lcode
 repeat' (first|intro _|refine yU ?_|(apply YA.mk;intro cv hv)|(refine yT ?_ ?_<;>(intro e;(try simp only [nbT,nbF] at e);subst e;try contradiction)))
 refine Cd.loop (k := p.caps.length + 1) (Lp.weak ?hw (proto31_loop0 hp ?_ ?_ (p.caps.length + 1) 0 (by omega) (by omega) (by intro x hx; simp at hx)))
 case hw => exact ⟨rfl, rfl, trivial⟩
 ·intro l' K h1 h3
  exact ⟨.inr rfl, _, .t h3 .nil, by rw [hB, h1]; rfl⟩
 intro l' h1 h3
 show Cd _ _ _ _ _ _
 refine Cd.weak (l2 := [(2, .ptr b 0 0 6)]) ⟨h3, trivial⟩ ?_
 repeat' (first|intro _|refine yU ?_|(apply YA.mk;intro cv hv)|(refine yT ?_ ?_<;>(intro e;(try simp only [nbT,nbF] at e);subst e;try contradiction)))
 refine Cd.loop (k := p.consts.length + 1) (Lp.weak ?hw (proto31_loop1 hp ?_ ?_ (p.consts.length + 1) 0 (by omega) (by omega) (by intro x hx; simp at hx)))
 case hw => exact ⟨rfl, rfl, trivial⟩
 ·intro l' K h4 h5
  exact ⟨.inr rfl, _, .t h5 .nil, by rw [hB, h1, h4]; rfl⟩
 intro l' h4 h5
 show Cd _ _ _ _ _ _
 refine Cd.weak (l2 := [(2, .ptr b 0 0 6)]) ⟨h5, trivial⟩ ?_
 repeat' (first|intro _|refine yU ?_|(apply YA.mk;intro cv hv)|(refine yT ?_ ?_<;>(intro e;(try simp only [nbT,nbF] at e);subst e;try contradiction)))
 refine Cd.loop (k := p.code.length + 1) (Lp.weak ?hw (proto31_loop2 hp ?_ ?_ (p.code.length + 1) 0 (by omega) (by omega) (by intro x hx; simp at hx)))
 case hw => exact ⟨rfl, rfl, trivial⟩
 ·intro l' K h6 h7
  exact ⟨.inr rfl, _, .t h7 .nil, by rw [hB, h1, h4, h6]; rfl⟩
 intro l' h6 h7
 show Cd _ _ _ _ _ _
 refine Cd.weak (l2 := []) trivial ?_
 repeat' (first|intro _|refine yU ?_|(apply YA.mk;intro cv hv)|(refine yT ?_ ?_<;>(intro e;(try simp only [nbT,nbF] at e);subst e;try contradiction)))
 refine yX ?_
 rw [hB, h1, h4, h6]; rfl
theorem proto31 {p : Proto} (hp : OkP p) (top : Bool) : PT Try.prog false 70 [.agg (protoR p), .bool top] (.bool (protoB p top)) := by
 refine PT.of (CT.enter mixed comp70 (Nat.le_of_ble_eq_true rfl) ?_)
 obtain ⟨l1, l2, l3⟩ := hp.lens
 have hn := name29 hp.name
 cases top with
 | true =>
  repeat' (first|refine proto31_tail hp rfl ?_|(refine zq in_ ?_;intro cv hv)|refine zs in_ ?_|(refine zqv in_ ?_;intro cv hv)|(refine zqd in_ ?_;intro cv hv)|refine zsd in_ ?_|intro _|refine yU ?_|(apply YA.mk;intro cv hv)|(refine yT ?_ ?_<;>(intro e;(try simp only [nbT,nbF] at e);subst e;try contradiction)))
  all_goals (try refine yX ?_)
  all_goals (clear hp l1 l2 l3 hn)
  all_goals (try (refine congrArg AV.bool ?_; symm; rw [← Bool.not_eq_true]; intro hb; simp only [protoB, headB, shapedB, Bool.and_eq_true, decide_eq_true_eq, if_true, if_false, Bool.false_eq_true] at hb; first | (simp_all; done) | (simp_all; omega) | omega))
  all_goals (rw [Bool.eq_iff_iff]; simp only [protoB, headB, shapedB, if_true, if_false, Bool.false_eq_true, Bool.and_eq_true, decide_eq_true_eq] at *)
  simp only [false_iff, ne_eq, Classical.not_not, Nat.not_lt, Int.not_lt] at *
  constructor
  ·rintro ⟨⟨_, hc⟩, ⟨_, _, h1⟩, _, h2⟩
   exact ⟨by rw [List.eq_nil_of_length_eq_zero hc]; rfl, h1, h2⟩
  ·rintro ⟨h0, h1, h2⟩
   exact ⟨⟨by first | assumption | omega, by first | assumption | omega⟩, ⟨⟨by simp at *; omega, by simp at *; omega⟩, by first | assumption | omega, h1⟩, by first | assumption | omega, h2⟩
 | false =>
  repeat' (first|refine proto31_tail hp rfl ?_|(refine zq in_ ?_;intro cv hv)|refine zs in_ ?_|(refine zqv in_ ?_;intro cv hv)|(refine zqd in_ ?_;intro cv hv)|refine zsd in_ ?_|intro _|refine yU ?_|(apply YA.mk;intro cv hv)|(refine yT ?_ ?_<;>(intro e;(try simp only [nbT,nbF] at e);subst e;try contradiction)))
  all_goals (try refine yX ?_)
  all_goals (clear hp l1 l2 l3 hn)
  all_goals (try (refine congrArg AV.bool ?_; symm; rw [← Bool.not_eq_true]; intro hb; simp only [protoB, headB, shapedB, Bool.and_eq_true, decide_eq_true_eq, if_true, if_false, Bool.false_eq_true] at hb; first | (simp_all; done) | (simp_all; omega) | omega))
  all_goals (rw [Bool.eq_iff_iff]; simp only [protoB, headB, shapedB, if_true, if_false, Bool.false_eq_true, Bool.and_eq_true, decide_eq_true_eq] at *)
  simp only [false_iff, ne_eq, Classical.not_not, Nat.not_lt, Int.not_lt] at *
  constructor
  ·rintro ⟨⟨_, _, h0⟩, ⟨_, _, h1⟩, _, h2⟩
   exact ⟨h0, h1, h2⟩
  ·rintro ⟨h0, h1, h2⟩
   exact ⟨⟨by first | assumption | omega, by first | assumption | omega, h0⟩, ⟨⟨by simp at *; omega, by simp at *; omega⟩, by first | assumption | omega, h1⟩, by first | assumption | omega, h2⟩
theorem right14_uses {u : Unt} (hu : OkU u) {b : Nat} {Q : AX → SL → Mem → Prop} (hret : ∀ l' K, u.uses.all useB = false → lkS l' 2 = some (.bool false) → Q .ret l' K) (hend : ∀ l', u.uses.all useB = true → lkS l' 1 = some (.ptr b 0 0 5) → Q (.ext 0) l' [boxU b u]) :
  ∀ (k i : Nat), u.uses.length < i + k → i ≤ u.uses.length → (∀ x, x ∈ u.uses.take i → useB x = true) → Lp Try.prog false b49_0 k [(1, .ptr b 0 0 5), (3, .int .i64 (.ofNat i))] [boxU b u] Q := by
 have hl := hu.luses
 obtain ⟨l1, l2⟩ := hu.lens
 intro k
 induction k with
 | zero => intro i h1 h2; omega
 | succ k ih =>
  intro i h1 h2 h3
  refine Lp.round ?_
  by_cases hi : i < u.uses.length
  ·obtain ⟨x, hx⟩ : ∃ x, u.uses[i]? = some x := ⟨_, List.getElem?_eq_getElem hi⟩
   have q1 := hu.uses.iadr (i := i) (r := useR x) (k := .i64) (by rw [List.getElem?_map, hx]; rfl)
   obtain ⟨t1, t2⟩ := hu.um x (List.mem_of_getElem? hx)
   have bad : useB x = false → u.uses.all useB = false := fun hb => by
    cases ha : u.uses.all useB with
    | false => rfl
    | true => rw [List.all_eq_true.1 ha x (List.mem_of_getElem? hx)] at hb; cases hb
   repeat' (first|(refine zq (name29 t1) ?_;intro cv hv)|refine zs (name29 t1) ?_|(refine zqv (name29 t1) ?_;intro cv hv)|(refine zqd (name29 t1) ?_;intro cv hv)|refine zsd (name29 t1) ?_|(refine zq (name29 t2) ?_;intro cv hv)|refine zs (name29 t2) ?_|(refine zqv (name29 t2) ?_;intro cv hv)|(refine zqd (name29 t2) ?_;intro cv hv)|refine zsd (name29 t2) ?_|(refine zq in_ ?_;intro cv hv)|refine zs in_ ?_|(refine zqv in_ ?_;intro cv hv)|(refine zqd in_ ?_;intro cv hv)|refine zsd in_ ?_|intro _|refine yU ?_|(apply YA.mk;intro cv hv)|(refine yT ?_ ?_<;>(intro e;(try simp only [nbT,nbF] at e);subst e;try contradiction)))
   ·exact hret _ _ (bad (by simp [useB, hv])) rfl
   ·exact hret _ _ (bad (by simp [useB, hv])) rfl
   ·rename_i h4 _ h5
    exact hret _ _ (bad (by simp only [useB]; simp_all)) rfl
   ·refine Lp.drop (m := [boxU b u]) (.cons (.there .here) .nil) (Lp.weak ?hw (ih (i + 1) (by omega) (by omega) ?_))
    case hw => exact ⟨rfl, rfl, trivial⟩
    intro y hy
    rw [List.take_add_one, hx] at hy
    rcases List.mem_append.1 hy with hy | hy
    ·exact h3 y hy
    ·simp at hy; subst hy; simp only [useB]; simp_all
  ·repeat' (first|intro _|refine yU ?_|(apply YA.mk;intro cv hv)|(refine yT ?_ ?_<;>(intro e;(try simp only [nbT,nbF] at e);subst e;try contradiction)))
   exact hend _ (List.all_eq_true.2 fun x hx => h3 x (by rw [List.take_of_length_le (by omega)]; exact hx)) rfl
theorem right14_protos {u : Unt} (hu : OkU u) {b : Nat} {Q : AX → SL → Mem → Prop} (hret : ∀ l' K, protosB u.funs 0 u.protos = false → lkS l' 2 = some (.bool false) → Q .ret l' K) (hend : ∀ l' K, protosB u.funs 0 u.protos = true → Q (.ext 2) l' K) :
  ∀ (k i : Nat), u.protos.length < i + k → i ≤ u.protos.length → protosB u.funs i (u.protos.drop i) = protosB u.funs 0 u.protos → Lp Try.prog false b49_1 k [(1, .ptr b 0 0 5), (5, .int .i64 (.ofNat i))] [boxU b u] Q := by
 have hl := hu.lprotos
 obtain ⟨l1, l2⟩ := hu.lens
 intro k
 induction k with
 | zero => intro i h1 h2; omega
 | succ k ih =>
  intro i h1 h2 h3
  refine Lp.round ?_
  by_cases hi : i < u.protos.length
  ·obtain ⟨x, hx⟩ : ∃ x, u.protos[i]? = some x := ⟨_, List.getElem?_eq_getElem hi⟩
   have q1 := hu.protos.iadr (i := i) (r := protoR x) (k := .i64) (by rw [List.getElem?_map, hx]; rfl)
   have q2 := fun top => proto31 (hu.ps x (List.mem_of_getElem? hx)) top
   rw [protosB_drop hx] at h3
   repeat' (first|(refine zq (q2 _) ?_;intro cv hv)|refine zs (q2 _) ?_|(refine zqv (q2 _) ?_;intro cv hv)|(refine zqd (q2 _) ?_;intro cv hv)|refine zsd (q2 _) ?_|intro _|refine yU ?_|(apply YA.mk;intro cv hv)|(refine yT ?_ ?_<;>(intro e;(try simp only [nbT,nbF] at e);subst e;try contradiction)))
   all_goals (rename_i h4; have e4 : decide (((i + 1 : Nat) : Int) ≤ u.funs) = cv := by rw [Bool.eq_iff_iff, h4]; simp; omega)
   ·exact hret _ _ (by rw [← h3, e4, hv]; rfl) rfl
   ·refine Lp.drop (m := [boxU b u]) (.cons .here .nil) (Lp.weak ?hw (ih (i + 1) (by omega) (by omega) ?_))
    case hw => exact ⟨rfl, rfl, trivial⟩
    rw [← h3, e4, hv]; rfl
  ·repeat' (first|intro _|refine yU ?_|(apply YA.mk;intro cv hv)|(refine yT ?_ ?_<;>(intro e;(try simp only [nbT,nbF] at e);subst e;try contradiction)))
   refine hend _ _ ?_
   rw [← h3, List.drop_of_length_le (by omega)]; rfl
theorem right14_tail {u : Unt} (hu : OkU u) {l : SL} {b : Nat} (h2 : lkS l 1 = some (.ptr b 0 0 5)) (hB : unitB u = (u.uses.all useB && protosB u.funs 0 u.protos)) :
  Cd Try.prog false (.seq (.seq (.reg r49_3) (.blk 0 (.loop b49_0))) (.seq (.seq (.reg r49_9) (.blk 2 (.loop b49_1))) (.seq (.reg r49_14) .ret))) l [boxU b u] (DoneK fn49.results fun w _ => w = .bool (unitB u)) := by
 refine Cd.weak (l2 := [(1, .ptr b 0 0 5)]) ⟨h2, trivial⟩ ?_
 have lc := hu.luses
 have lk := hu.lprotos
 repeat' (first|intro _|refine yU ?_|(apply YA.mk;intro cv hv)|(refine yT ?_ ?_<;>(intro e;(try simp only [nbT,nbF] at e);subst e;try contradiction)))
 refine Cd.loop (k := u.uses.length + 1) (Lp.weak ?hw (right14_uses hu ?_ ?_ (u.uses.length + 1) 0 (by omega) (by omega) (by intro x hx; simp at hx)))
 case hw => exact ⟨rfl, rfl, trivial⟩
 ·intro l' K h1 h3
  exact ⟨.inr rfl, _, .t h3 .nil, by rw [hB, h1]; rfl⟩
 intro l' h1 h3
 show Cd _ _ _ _ _ _
 refine Cd.weak (l2 := [(1, .ptr b 0 0 5)]) ⟨h3, trivial⟩ ?_
 repeat' (first|intro _|refine yU ?_|(apply YA.mk;intro cv hv)|(refine yT ?_ ?_<;>(intro e;(try simp only [nbT,nbF] at e);subst e;try contradiction)))
 refine Cd.loop (k := u.protos.length + 1) (Lp.weak ?hw (right14_protos hu ?_ ?_ (u.protos.length + 1) 0 (by omega) (by omega) rfl))
 case hw => exact ⟨rfl, rfl, trivial⟩
 ·intro l' K h4 h5
  exact ⟨.inr rfl, _, .t h5 .nil, by rw [hB, h1, h4]; rfl⟩
 intro l' K h4
 show Cd _ _ _ _ _ _
 refine Cd.weak (l2 := []) trivial ?_
 repeat' (first|intro _|refine yU ?_|(apply YA.mk;intro cv hv)|(refine yT ?_ ?_<;>(intro e;(try simp only [nbT,nbF] at e);subst e;try contradiction)))
 refine yX ?_
 rw [hB, h1, h4]; rfl
theorem right14 {u : Unt} (hu : OkU u) : PT Try.prog false 49 [.agg (unitR u)] (.bool (unitB u)) := by
 refine PT.of (CT.enter mixed comp49 (Nat.le_of_ble_eq_true rfl) ?_)
 obtain ⟨l1, l2⟩ := hu.lens
 have hn := name29 hu.name
 repeat' (first|refine right14_tail hu rfl ?_|(refine zq in_ ?_;intro cv hv)|refine zs in_ ?_|(refine zqv in_ ?_;intro cv hv)|(refine zqd in_ ?_;intro cv hv)|refine zsd in_ ?_|intro _|refine yU ?_|(apply YA.mk;intro cv hv)|(refine yT ?_ ?_<;>(intro e;(try simp only [nbT,nbF] at e);subst e;try contradiction)))
 all_goals (try refine yX ?_)
 all_goals (clear l1 l2 hn)
 all_goals (try (clear hu; (refine congrArg AV.bool ?_; symm; rw [← Bool.not_eq_true]; intro hb; simp only [unitB, Bool.and_eq_true, decide_eq_true_eq, if_true, if_false, Bool.false_eq_true] at hb; first | (simp_all; done) | (simp_all; omega) | omega); done))
 rw [Bool.eq_iff_iff]
 simp only [unitB, Bool.and_eq_true, decide_eq_true_eq] at *
 simp only [Bool.false_eq_true, false_iff, Nat.not_lt, Int.not_lt] at *
 constructor
 ·rintro ⟨⟨_, _, h1⟩, _, h2⟩
  exact ⟨h1, h2⟩
 ·rintro ⟨h1, h2⟩
  exact ⟨⟨⟨⟨by first | assumption | omega, by first | assumption | omega⟩, by simp at *; omega⟩, by first | assumption | omega, h1⟩, by first | assumption | omega, h2⟩
end Go.Proofs.YtlimjjilakldgaaGreat
namespace Go.Proofs.YtlimjjilakldgaaGreat
open Go Go.Abs
attribute [local irreducible] Cmp Rg Dw Cd Lp Ev Rdk CT Upd InK
theorem rets : (List.range 38).all (fun k => Nat.beq k 37 || !(nam k == [114, 101, 116, 117, 114, 110])) = true := by kernel_rfl
theorem name_ret {op : Int} : name op = [114, 101, 116, 117, 114, 110] ↔ op = 37 := by
 constructor
 ·intro e
  by_cases h : 0 ≤ op ∧ op < 38
  ·rw [name, if_pos h] at e
   have := List.all_eq_true.1 rets op.toNat (List.mem_range.2 (by omega))
   rw [e] at this
   simp at this
   omega
  ·rw [name, if_neg h] at e; cases e
 ·rintro rfl; kernel_rfl
theorem jmps : (List.range 38).all (fun k => Nat.beq k 25 || !(nam k == [106, 117, 109, 112])) = true := by kernel_rfl
theorem name_jump {op : Int} : name op = [106, 117, 109, 112] ↔ op = 25 := by
 constructor
 ·intro e
  by_cases h : 0 ≤ op ∧ op < 38
  ·rw [name, if_pos h] at e
   have := List.all_eq_true.1 jmps op.toNat (List.mem_range.2 (by omega))
   rw [e] at this
   simp at this
   omega
  ·rw [name, if_neg h] at e; cases e
 ·rintro rfl; kernel_rfl
theorem check9_in {u : Unt} {p : Proto} (hu : OkU u) (hp : OkP p) (hn : OkN u) (hr : ∀ x, x ∈ p.code → rightI x = true) {b1 b6 i : Nat} {Q : AX → SL → Mem → Prop}
  (hret : ∀ l' K pc, firstBad u p 0 p.code = some pc → lkS l' 2 = some (.int .i64 (.ofNat 14)) → lkS l' 3 = some (.int .i64 (.ofNat i)) → lkS l' 4 = some (.int .i64 (.ofNat pc)) → Q .ret l' K)
  (hend : ∀ l', firstBad u p 0 p.code = none → Sub2 [(1, .ptr b1 0 0 5), (5, .int .i64 (.ofNat i))] l' → Q (.ext 2) l' [[(b6, .cells (protoR p) 0 0 false)], boxU b1 u]) :
  ∀ (k j : Nat), p.code.length < j + k → j ≤ p.code.length → firstBad u p j (p.code.drop j) = firstBad u p 0 p.code →
  Lp Try.prog false b40_0 k [(1, .ptr b1 0 0 5), (5, .int .i64 (.ofNat i)), (6, .ptr b6 0 0 6), (7, .int .i64 (.ofNat p.code.length)), (9, .int .i64 (.ofNat j))] [[(b6, .cells (protoR p) 0 0 false)], boxU b1 u] Q := by
 have hl := hp.lcode
 intro k
 induction k with
 | zero => intro j h1 h2; omega
 | succ k ih =>
  intro j h1 h2 h3
  refine Lp.round ?_
  by_cases hj : j < p.code.length
  ·obtain ⟨x, hx⟩ : ∃ x, p.code[j]? = some x := ⟨_, List.getElem?_eq_getElem hj⟩
   have c := right16 hu hp hn hx (hr x (List.mem_of_getElem? hx))
   rw [firstBad_drop hx] at h3
   repeat' (first|intro _|refine yU ?_|(apply YA.mk;intro cv hv)|(refine yT ?_ ?_<;>(intro e;(try simp only [nbT,nbF] at e);subst e;try contradiction)))
   ·exact hret _ _ j (by rw [← h3, hv]; rfl) rfl rfl rfl
   ·refine Lp.weak ?hw (ih (j + 1) (by omega) (by omega) ?_)
    case hw => exact ⟨rfl, rfl, rfl, rfl, rfl, trivial⟩
    rw [← h3, hv]; rfl
  ·repeat' (first|intro _|refine yU ?_|(apply YA.mk;intro cv hv)|(refine yT ?_ ?_<;>(intro e;(try simp only [nbT,nbF] at e);subst e;try contradiction)))
   exact hend _ (by rw [← h3, List.drop_of_length_le (by omega)]; rfl) ⟨rfl, rfl, trivial⟩
theorem check9_out {u : Unt} (hu : OkU u) (hn : OkN u) (hr : ∀ p, p ∈ u.protos → ∀ x, x ∈ p.code → rightI x = true) {b1 : Nat} {Q : AX → SL → Mem → Prop}
  (hret : ∀ l' K i pc, chk u 0 u.protos = (14, i, pc) → lkS l' 2 = some (.int .i64 (.ofNat 14)) → lkS l' 3 = some (.int .i64 (.ofNat i)) → lkS l' 4 = some (.int .i64 (.ofNat pc)) → Q .ret l' K)
  (hend : ∀ l' K, chk u 0 u.protos = (0, 0, 0) → Q (.ext 0) l' K) :
  ∀ (k i : Nat), u.protos.length < i + k → i ≤ u.protos.length → chk u i (u.protos.drop i) = chk u 0 u.protos →
  Lp Try.prog false b40_1 k [(1, .ptr b1 0 0 5), (5, .int .i64 (.ofNat i))] [boxU b1 u] Q := by
 have hl := hu.lprotos
 obtain ⟨n1, n2⟩ := hu.lens
 intro k
 induction k with
 | zero => intro j h1 h2; omega
 | succ k ih =>
  intro i h1 h2 h3
  refine Lp.round ?_
  by_cases hi : i < u.protos.length
  ·obtain ⟨p, hx⟩ : ∃ p, u.protos[i]? = some p := ⟨_, List.getElem?_eq_getElem hi⟩
   have hm := List.mem_of_getElem? hx
   have hp := hu.ps p hm
   obtain ⟨m1, m2, m3⟩ := hp.lens
   have q1 := hu.protos.iadr (i := i) (r := protoR p) (k := .i64) (by rw [List.getElem?_map, hx]; rfl)
   rw [chk_drop hx] at h3
   by_cases hc : p.code.length = 0
   ·have hpb : protoBad u p = some 0 := by rw [protoBad, List.getElem?_eq_none (by omega)]
    rw [hpb] at h3
    rw [hc] at m1
    repeat' (first|intro _|refine yU ?_|(apply YA.mk;intro cv hv)|(refine yT ?_ ?_<;>(intro e;(try simp only [nbT,nbF] at e);subst e;try contradiction)))
    exact hret _ _ i 0 h3.symm rfl rfl rfl
   ·obtain ⟨y, hy⟩ : ∃ y, p.code[p.code.length - 1]? = some y := ⟨_, List.getElem?_eq_getElem (by omega)⟩
    have q2 := hp.code.iadr (i := p.code.length - 1) (r := insR y) (k := .i64) (by rw [List.getElem?_map, hy]; rfl)
    have hlc := hp.lcode
    have c := @name15 y.op
    cases he : endsB y with
    | false =>
     have hpb : protoBad u p = some (p.code.length - 1) := by rw [protoBad, hy]; simp [he]
     rw [hpb] at h3
     simp only [endsB, decide_eq_false_iff_not, not_or] at he
     have s1 : abin .neq (.str (name y.op)) (.str [114, 101, 116, 117, 114, 110]) = some (.bool true) := Cmp.T Cmp.neS (fun e => he.1 (name_ret.1 e))
     have s2 : abin .neq (.str (name y.op)) (.str [106, 117, 109, 112]) = some (.bool true) := Cmp.T Cmp.neS (fun e => he.2 (name_jump.1 e))
     repeat' (first|intro _|refine yU ?_|(apply YA.mk;intro cv hv)|(refine yT ?_ ?_<;>(intro e;(try simp only [nbT,nbF] at e);subst e;try contradiction)))
     exact hret _ _ i (p.code.length - 1) h3.symm rfl rfl rfl
    | true =>
     have hpb : protoBad u p = firstBad u p 0 p.code := by rw [protoBad, hy]; simp [he]
     rw [hpb] at h3
     simp only [endsB, decide_eq_true_eq] at he
     have s : abin .neq (.str (name y.op)) (.str [114, 101, 116, 117, 114, 110]) = some (.bool false) ∨ (abin .neq (.str (name y.op)) (.str [114, 101, 116, 117, 114, 110]) = some (.bool true) ∧ abin .neq (.str (name y.op)) (.str [106, 117, 109, 112]) = some (.bool false)) := by
      by_cases e : y.op = 37
      ·exact .inl (Cmp.F Cmp.neS (fun h => h (name_ret.2 e)))
      ·exact .inr ⟨Cmp.T Cmp.neS (fun h => e (name_ret.1 h)), Cmp.F Cmp.neS (fun h => h (name_jump.2 (he.resolve_left e)))⟩
     rcases s with s1 | ⟨s1, s2⟩
     ·repeat' (first|intro _|refine yU ?_|(apply YA.mk;intro cv hv)|(refine yT ?_ ?_<;>(intro e;(try simp only [nbT,nbF] at e);subst e;try contradiction)))
      rename_i b6
      refine Cd.weak (l2 := [(1, _), (5, _), (6, _), (7, _), (9, _)]) ⟨rfl, rfl, rfl, rfl, rfl, trivial⟩ ?_
      refine Cd.loop (k := p.code.length + 1) (check9_in hu hp hn (hr p hm) ?_ ?_ (p.code.length + 1) 0 (by omega) (by omega) rfl)
      ·intro l' K pc e1 e2 e3 e4
       rw [e1] at h3
       exact hret _ _ i pc h3.symm e2 e3 e4
      ·intro l' e1 hs
       rw [e1] at h3
       show Cd _ _ _ _ _ _
       refine Cd.weak hs ?_
       repeat' (first|intro _|refine yU ?_|(apply YA.mk;intro cv hv)|(refine yT ?_ ?_<;>(intro e;(try simp only [nbT,nbF] at e);subst e;try contradiction)))
       refine Lp.drop (m := [boxU b1 u]) (.cons (.there .here) .nil) (Lp.weak ?hw (ih (i + 1) (by omega) (by omega) h3))
       case hw => exact ⟨rfl, rfl, trivial⟩
     ·repeat' (first|intro _|refine yU ?_|(apply YA.mk;intro cv hv)|(refine yT ?_ ?_<;>(intro e;(try simp only [nbT,nbF] at e);subst e;try contradiction)))
      rename_i b6
      refine Cd.weak (l2 := [(1, _), (5, _), (6, _), (7, _), (9, _)]) ⟨rfl, rfl, rfl, rfl, rfl, trivial⟩ ?_
      refine Cd.loop (k := p.code.length + 1) (check9_in hu hp hn (hr p hm) ?_ ?_ (p.code.length + 1) 0 (by omega) (by omega) rfl)
      ·intro l' K pc e1 e2 e3 e4
       rw [e1] at h3
       exact hret _ _ i pc h3.symm e2 e3 e4
      ·intro l' e1 hs
       rw [e1] at h3
       show Cd _ _ _ _ _ _
       refine Cd.weak hs ?_
       repeat' (first|intro _|refine yU ?_|(apply YA.mk;intro cv hv)|(refine yT ?_ ?_<;>(intro e;(try simp only [nbT,nbF] at e);subst e;try contradiction)))
       refine Lp.drop (m := [boxU b1 u]) (.cons (.there .here) .nil) (Lp.weak ?hw (ih (i + 1) (by omega) (by omega) h3))
       case hw => exact ⟨rfl, rfl, trivial⟩
  ·repeat' (first|intro _|refine yU ?_|(apply YA.mk;intro cv hv)|(refine yT ?_ ?_<;>(intro e;(try simp only [nbT,nbF] at e);subst e;try contradiction)))
   exact hend _ _ (by rw [← h3, List.drop_of_length_le (by omega)]; rfl)
theorem check9 {u : Unt} (hu : OkU u) : PT Try.prog false 40 [.agg (unitR u)] (tup3 (check u)) := by
 have hl := hu.lprotos
 obtain ⟨n1, n2⟩ := hu.lens
 refine PT.of (CT.enter mixed comp40 (Nat.le_of_ble_eq_true rfl) ?_)
 cases hb : unitB u with
 | false =>
  have c := right14 hu
  rw [hb] at c
  rw [show check u = (4, 0, 0) by rw [check, hb]; rfl]
  repeat' (first|intro _|refine yU ?_|(apply YA.mk;intro cv hv)|(refine yT ?_ ?_<;>(intro e;(try simp only [nbT,nbF] at e);subst e;try contradiction)))
  all_goals refine yX ?_
  all_goals rfl
 | true =>
  have c := right14 hu
  rw [hb] at c
  have hn := unitB_ok hb
  rw [show check u = chk u 0 u.protos by rw [check, hb]; rfl]
  repeat' (first|intro _|refine yU ?_|(apply YA.mk;intro cv hv)|(refine yT ?_ ?_<;>(intro e;(try simp only [nbT,nbF] at e);subst e;try contradiction)))
  rename_i b1
  refine Cd.weak (l2 := [(1, _), (5, _)]) ⟨rfl, rfl, trivial⟩ ?_
  refine Cd.loop (k := u.protos.length + 1) (Lp.weak ?hw (check9_out hu hn.1 hn.2 ?_ ?_ (u.protos.length + 1) 0 (by omega) (by omega) rfl))
  case hw => exact ⟨rfl, rfl, trivial⟩
  ·intro l' K i pc e1 e2 e3 e4
   rw [e1]
   exact ⟨.inr rfl, _, .t e2 (.t e3 (.t e4 .nil)), rfl⟩
  ·intro l' K e1
   rw [e1]
   show Cd _ _ _ _ _ _
   refine Cd.weak (l2 := []) trivial ?_
   repeat' (first|intro _|refine yU ?_|(apply YA.mk;intro cv hv)|(refine yT ?_ ?_<;>(intro e;(try simp only [nbT,nbF] at e);subst e;try contradiction)))
   all_goals refine yX ?_
   all_goals rfl
end Go.Proofs.YtlimjjilakldgaaGreat
namespace Go.Proofs.YtlimjjilakldgaaGreat
open Go Go.Abs
attribute [local irreducible] Cmp Rg Dw Cd Lp Ev Rdk CT Upd InK
theorem addX (x y : Int) : ∃ z, abin .add (.int .i64 x) (.int .i64 y) = some (.int .i64 z) := ⟨_, rfl⟩
theorem light6_uses {u : Unt} (hu : OkU u) {b : Nat} {Q : AX → SL → Mem → Prop} (hret : ∀ l' K c, lkS l' 2 = some (.bool c) → Q .ret l' K) (hend : ∀ l', lkS l' 1 = some (.ptr b 0 0 5) → Q (.ext 0) l' [boxU b u]) :
  ∀ (k i : Nat), u.uses.length < i + k → i ≤ u.uses.length → Lp Try.prog false b5_0 k [(1, .ptr b 0 0 5), (3, .int .i64 (.ofNat i))] [boxU b u] Q := by
 have hl := hu.luses
 obtain ⟨l1, l2⟩ := hu.lens
 intro k
 induction k with
 | zero => intro i h1 h2; omega
 | succ k ih =>
  intro i h1 h2
  refine Lp.round ?_
  by_cases hi : i < u.uses.length
  ·obtain ⟨x, hx⟩ : ∃ x, u.uses[i]? = some x := ⟨_, List.getElem?_eq_getElem hi⟩
   have q1 := hu.uses.iadr (i := i) (r := useR x) (k := .i64) (by rw [List.getElem?_map, hx]; rfl)
   repeat' (first|intro _|refine yU ?_|(apply YA.mk;intro cv hv)|(refine yT ?_ ?_<;>(intro e;(try simp only [nbT,nbF] at e);subst e;try contradiction)))
   all_goals first | exact hret _ _ _ rfl | skip
   all_goals (refine Lp.weak ?hw (ih (i + 1) (by omega) (by omega)); exact ⟨rfl, rfl, trivial⟩)
  ·repeat' (first|intro _|refine yU ?_|(apply YA.mk;intro cv hv)|(refine yT ?_ ?_<;>(intro e;(try simp only [nbT,nbF] at e);subst e;try contradiction)))
   exact hend _ rfl
theorem light6_consts {u : Unt} {p : Proto} (hp : OkP p) {b b6 i : Nat} {z : Int} {Q : AX → SL → Mem → Prop} (hret : ∀ l' K c, lkS l' 2 = some (.bool c) → Q .ret l' K)
  (hend : ∀ l', Sub2 [(1, .ptr b 0 0 5), (4, .int .i64 z), (5, .int .i64 (.ofNat i)), (6, .ptr b6 0 0 6)] l' → Q (.ext 4) l' [[(b6, .cells (protoR p) 0 0 false)], boxU b u]) :
  ∀ (k j : Nat), p.consts.length < j + k → j ≤ p.consts.length → Lp Try.prog false b5_1 k [(1, .ptr b 0 0 5), (4, .int .i64 z), (5, .int .i64 (.ofNat i)), (6, .ptr b6 0 0 6), (7, .int .i64 (.ofNat j))] [[(b6, .cells (protoR p) 0 0 false)], boxU b u] Q := by
 have hl := hp.lconsts
 obtain ⟨l1, l2, l3⟩ := hp.lens
 intro k
 induction k with
 | zero => intro i h1 h2; omega
 | succ k ih =>
  intro j h1 h2
  refine Lp.round ?_
  by_cases hi : j < p.consts.length
  ·obtain ⟨x, hx⟩ : ∃ x, p.consts[j]? = some x := ⟨_, List.getElem?_eq_getElem hi⟩
   have q1 := hp.consts.iadr (i := j) (r := valR x) (k := .i64) (by rw [List.getElem?_map, hx]; rfl)
   repeat' (first|intro _|refine yU ?_|(apply YA.mk;intro cv hv)|(refine yT ?_ ?_<;>(intro e;(try simp only [nbT,nbF] at e);subst e;try contradiction)))
   all_goals first | exact hret _ _ _ rfl | skip
   all_goals (refine Lp.weak ?hw (ih (j + 1) (by omega) (by omega)); exact ⟨rfl, rfl, rfl, rfl, rfl, trivial⟩)
  ·repeat' (first|intro _|refine yU ?_|(apply YA.mk;intro cv hv)|(refine yT ?_ ?_<;>(intro e;(try simp only [nbT,nbF] at e);subst e;try contradiction)))
   exact hend _ ⟨rfl, rfl, rfl, rfl, trivial⟩
theorem light6_protos {u : Unt} (hu : OkU u) {b : Nat} {Q : AX → SL → Mem → Prop} (hret : ∀ l' K c, lkS l' 2 = some (.bool c) → Q .ret l' K) (hend : ∀ l' K z, lkS l' 4 = some (.int .i64 z) → Q (.ext 2) l' K) :
  ∀ (k i : Nat) (z : Int), u.protos.length < i + k → i ≤ u.protos.length → Lp Try.prog false b5_2 k [(1, .ptr b 0 0 5), (4, .int .i64 z), (5, .int .i64 (.ofNat i))] [boxU b u] Q := by
 have hl := hu.lprotos
 obtain ⟨l1, l2⟩ := hu.lens
 intro k
 induction k with
 | zero => intro i z h1 h2; omega
 | succ k ih =>
  intro i z h1 h2
  refine Lp.round ?_
  by_cases hi : i < u.protos.length
  ·obtain ⟨p, hx⟩ : ∃ p, u.protos[i]? = some p := ⟨_, List.getElem?_eq_getElem hi⟩
   have hm := List.mem_of_getElem? hx
   have hp := hu.ps p hm
   obtain ⟨m1, m2, m3⟩ := hp.lens
   have hlc := hp.lconsts
   obtain ⟨z1, a1⟩ := addX z (.ofNat p.code.length)
   obtain ⟨z2, a2⟩ := addX z1 (.ofNat p.consts.length)
   have q1 := hu.protos.iadr (i := i) (r := protoR p) (k := .i64) (by rw [List.getElem?_map, hx]; rfl)
   repeat' (first|intro _|refine yU ?_|(apply YA.mk;intro cv hv)|(refine yT ?_ ?_<;>(intro e;(try simp only [nbT,nbF] at e);subst e;try contradiction)))
   all_goals first | exact hret _ _ _ rfl | skip
   rename_i b6
   refine Cd.weak (l2 := [(1, _), (4, _), (5, _), (6, _), (7, _)]) ⟨rfl, rfl, rfl, rfl, rfl, trivial⟩ ?_
   refine Cd.loop (k := p.consts.length + 1) (light6_consts (u := u) hp ?_ ?_ (p.consts.length + 1) 0 (by omega) (by omega))
   ·intro l' K c e
    exact hret _ _ _ e
   ·intro l' hs
    show Cd _ _ _ _ _ _
    refine Cd.weak hs ?_
    repeat' (first|intro _|refine yU ?_|(apply YA.mk;intro cv hv)|(refine yT ?_ ?_<;>(intro e;(try simp only [nbT,nbF] at e);subst e;try contradiction)))
    refine Lp.drop (m := [boxU b u]) (.cons (.there .here) .nil) (Lp.weak ?hw (ih (i + 1) z2 (by omega) (by omega)))
    case hw => exact ⟨rfl, rfl, rfl, trivial⟩
  ·repeat' (first|intro _|refine yU ?_|(apply YA.mk;intro cv hv)|(refine yT ?_ ?_<;>(intro e;(try simp only [nbT,nbF] at e);subst e;try contradiction)))
   exact hend _ _ _ rfl
theorem light6 {u : Unt} (hu : OkU u) : CT Try.prog false 5 [.agg (unitR u)] [] (fun w K' => K' = [] ∧ ∃ c, w = .bool c) := by
 have key : CT Try.prog false 5 [.agg (unitR u)] [] (fun w K' => ∃ c, w = .bool c) := by
  refine CT.enter mixed comp5 (Nat.le_of_ble_eq_true rfl) ?_
  have hl := hu.lprotos
  have hl2 := hu.luses
  obtain ⟨l1, l2⟩ := hu.lens
  repeat' (first|intro _|refine yU ?_|(apply YA.mk;intro cv hv)|(refine yT ?_ ?_<;>(intro e;(try simp only [nbT,nbF] at e);subst e;try contradiction)))
  rotate_left
  all_goals first | (refine yX ?_; exact ⟨_, rfl⟩) | skip
  refine Cd.weak (l2 := [(1, _), (3, _)]) ⟨rfl, rfl, trivial⟩ ?_
  refine Cd.loop (k := u.uses.length + 1) (light6_uses hu ?_ ?_ (u.uses.length + 1) 0 (by omega) (by omega))
  ·intro l' K c e
   exact ⟨.inr rfl, _, .t e .nil, _, rfl⟩
  ·intro l' e
   show Cd _ _ _ _ _ _
   refine Cd.weak (l2 := [(1, _)]) ⟨e, trivial⟩ ?_
   repeat' (first|intro _|refine yU ?_|(apply YA.mk;intro cv hv)|(refine yT ?_ ?_<;>(intro e;(try simp only [nbT,nbF] at e);subst e;try contradiction)))
   refine Cd.weak (l2 := [(1, _), (4, _), (5, _)]) ⟨rfl, rfl, rfl, trivial⟩ ?_
   refine Cd.loop (k := u.protos.length + 1) (light6_protos hu ?_ ?_ (u.protos.length + 1) 0 (.ofNat 0) (by omega) (by omega))
   ·intro l' K c e
    exact ⟨.inr rfl, _, .t e .nil, _, rfl⟩
   ·intro l' K z e
    show Cd _ _ _ _ _ _
    refine Cd.weak (l2 := [(4, .int .i64 z)]) ⟨e, trivial⟩ ?_
    repeat' (first|intro _|refine yU ?_|(apply YA.mk;intro cv hv)|(refine yT ?_ ?_<;>(intro e;(try simp only [nbT,nbF] at e);subst e;try contradiction)))
    all_goals refine yX ?_
    all_goals exact ⟨_, rfl⟩
 refine key.dropR ?_
 rintro v K' ⟨c, rfl⟩
 exact ⟨[], _, .nil, rfl, _, rfl⟩
end Go.Proofs.YtlimjjilakldgaaGreat
namespace Go.Proofs.YtlimjjilakldgaaGreat.Q
open Go Go.Abs
attribute [local irreducible] Cmp Rg Dw Cd Lp Ev Rdk CT Upd InK
abbrev hB (b room used : Nat) (vt vf vc : AV) : Chk := [(b, .cells [.bool true, .int .i64 (.ofNat room), .int .i64 (.ofNat used), vt, vf, vc] 0 0 false)]
abbrev hP (b : Nat) : AV := .ptr b 0 0 6
section
variable {b room used : Nat} {vt vf vc : AV}
end
theorem int23 {n : Int} : PT Try.prog false 99 [.int .i64 n] (valA ⟨1, n, []⟩) := by
 refine PT.of (CT.enter mixed comp99 (Nat.le_of_ble_eq_true rfl) ?_)
 repeat' (first|intro _|refine yU ?_|(apply YA.mk;intro cv hv)|(refine yT ?_ ?_<;>(intro e;(try simp only [nbT,nbF] at e);subst e;try contradiction)))
 refine yX ?_
 rfl
end Go.Proofs.YtlimjjilakldgaaGreat.Q
