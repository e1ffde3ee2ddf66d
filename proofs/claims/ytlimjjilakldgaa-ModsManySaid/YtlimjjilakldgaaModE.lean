/- Contracts: values, uses, functions of a unit. -/
import Derived.Test.YtlimjjilakldgaaModB
set_option autoImplicit false
set_option maxRecDepth 100000
set_option maxHeartbeats 2000000
set_option linter.unusedVariables false
set_option linter.unusedSimpArgs false
namespace Go.Proofs.Ytlimjjilakldgaa
open Go Go.Abs
attribute [local irreducible] Cmp Rg Dw Cd Lp Ev Rdk CT Upd InK
/-- A value that can be a constant. -/
def constB (v : Val) : Bool := if v.k = 0 then decide (v.n = 0 ∧ v.s = []) else if v.k = 1 then decide (v.s = []) else if v.k = 2 then decide (v.n = 0 ∧ v.s.length ≤ 1024) else false
theorem plain40 (v : Val) : PT Try.prog false 66 [valA v] (.bool (constB v)) := by
  refine PT.of (CT.enter mixed comp66 (Nat.le_of_ble_eq_true rfl) ?_)
  have q : aeq (.flat true [.i, .i, .s]) (.agg (valR v)) (.agg [.int .i64 (.ofNat 0), .int .i64 (.ofNat 0), .str []]) = some (decide (v = ⟨0, 0, []⟩)) := flatVal v ⟨0, 0, []⟩
  have e : decide (v = ⟨0, 0, []⟩) = (decide (v.k = 0) && decide (v.n = 0 ∧ v.s = [])) := by cases v; simp
  rw [e] at q
  repeat' (first|refine zz ?_|(refine zv ?_;intro cv hv)|(refine za ?_;intro _)|refine zc ?_|(refine zd ?_;refine And.intro ?_ ?_<;>(intro e;(try simp only [Bool.not_eq_true',Bool.not_eq_false'] at e);subst e;try contradiction)))
  all_goals (first|refine ⟨.inr rfl,_,.t rfl .nil,?_⟩|refine ⟨.inr rfl,_,.t rfl (.t rfl .nil),?_⟩|refine ⟨.inr rfl,_,.t rfl (.t rfl (.t rfl .nil)),?_⟩|refine ⟨.inr rfl,_,.nil,?_⟩|refine ⟨.inl rfl,_,.t rfl .nil,?_⟩|refine ⟨.inl rfl,_,.nil,?_⟩|refine ⟨.inr rfl,_,.cn rfl (by exact zN) .nil,?_⟩|refine ⟨.inr rfl,_,.cn rfl (by exact zN) (.t rfl .nil),?_⟩)
  all_goals (refine congrArg AV.bool ?_; rw [Bool.eq_iff_iff]; simp only [constB]; clear q e; simp_all)
structure Use where
  m : List Nat
  n : List Nat
  p : Int
def useR (x : Use) : List AV := [.str x.m, .str x.n, .int .i64 x.p]
def useB (x : Use) : Bool := isName x.m && isName x.n && decide (0 ≤ x.p ∧ x.p ≤ 8)
theorem used20 (x : Use) (h1 : Txt x.m) (h2 : Txt x.n) : PT Try.prog false 45 [.agg (useR x)] (.bool (useB x)) := by
  refine PT.of (CT.enter mixed comp45 (Nat.le_of_ble_eq_true rfl) ?_)
  repeat' (first|(refine zq (name17 h1) ?_;intro cv hv)|refine zs (name17 h1) ?_|(refine zqv (name17 h1) ?_;intro cv hv)|(refine zqd (name17 h1) ?_;intro cv hv)|refine zsd (name17 h1) ?_|(refine zq (name17 h2) ?_;intro cv hv)|refine zs (name17 h2) ?_|(refine zqv (name17 h2) ?_;intro cv hv)|(refine zqd (name17 h2) ?_;intro cv hv)|refine zsd (name17 h2) ?_|(refine zq between_ ?_;intro cv hv)|refine zs between_ ?_|(refine zqv between_ ?_;intro cv hv)|(refine zqd between_ ?_;intro cv hv)|refine zsd between_ ?_|refine zz ?_|(refine zv ?_;intro cv hv)|(refine za ?_;intro _)|refine zc ?_|(refine zd ?_;refine And.intro ?_ ?_<;>(intro e;(try simp only [Bool.not_eq_true',Bool.not_eq_false'] at e);subst e;try contradiction)))
  all_goals (first|refine ⟨.inr rfl,_,.t rfl .nil,?_⟩|refine ⟨.inr rfl,_,.t rfl (.t rfl .nil),?_⟩|refine ⟨.inr rfl,_,.t rfl (.t rfl (.t rfl .nil)),?_⟩|refine ⟨.inr rfl,_,.nil,?_⟩|refine ⟨.inl rfl,_,.t rfl .nil,?_⟩|refine ⟨.inl rfl,_,.nil,?_⟩|refine ⟨.inr rfl,_,.cn rfl (by exact zN) .nil,?_⟩|refine ⟨.inr rfl,_,.cn rfl (by exact zN) (.t rfl .nil),?_⟩)
  all_goals (refine congrArg AV.bool ?_; simp only [useB]; simp_all)
structure Cap where
  up : Bool
  i : Int
def capR (x : Cap) : List AV := [.bool x.up, .int .i64 x.i]
def capB (x : Cap) : Bool := decide (0 ≤ x.i ∧ x.i ≤ 255)
theorem cap38 (x : Cap) : PT Try.prog false 64 [.agg (capR x)] (.bool (capB x)) := by
  refine PT.of (CT.enter mixed comp64 (Nat.le_of_ble_eq_true rfl) ?_)
  repeat' (first|(refine zq between_ ?_;intro cv hv)|refine zs between_ ?_|(refine zqv between_ ?_;intro cv hv)|(refine zqd between_ ?_;intro cv hv)|refine zsd between_ ?_|refine zz ?_|(refine zv ?_;intro cv hv)|(refine za ?_;intro _)|refine zc ?_|(refine zd ?_;refine And.intro ?_ ?_<;>(intro e;(try simp only [Bool.not_eq_true',Bool.not_eq_false'] at e);subst e;try contradiction)))
  all_goals (first|refine ⟨.inr rfl,_,.t rfl .nil,?_⟩|refine ⟨.inr rfl,_,.t rfl (.t rfl .nil),?_⟩|refine ⟨.inr rfl,_,.t rfl (.t rfl (.t rfl .nil)),?_⟩|refine ⟨.inr rfl,_,.nil,?_⟩|refine ⟨.inl rfl,_,.t rfl .nil,?_⟩|refine ⟨.inl rfl,_,.nil,?_⟩|refine ⟨.inr rfl,_,.cn rfl (by exact zN) .nil,?_⟩|refine ⟨.inr rfl,_,.cn rfl (by exact zN) (.t rfl .nil),?_⟩)
  all_goals (refine congrArg AV.bool ?_; simp only [capB]; simp_all)
structure Proto where
  name : List Nat
  params : Int
  regs : Int
  codeV : AV
  code : List Ins
  constsV : AV
  consts : List Val
  capsV : AV
  caps : List Cap
def protoR (p : Proto) : List AV := [.str p.name, .int .i64 p.params, .int .i64 p.regs, p.codeV, p.constsV, p.capsV]
structure OkP (p : Proto) : Prop where
  name : Txt p.name
  code : ASl 4 p.codeV (p.code.map insR)
  consts : ASl 3 p.constsV (p.consts.map valR)
  caps : ASl 2 p.capsV (p.caps.map capR)
  lcode : p.code.length ≤ 9223372036854775807
  lconsts : p.consts.length ≤ 9223372036854775807
  lcaps : p.caps.length ≤ 9223372036854775807
def headB (p : Proto) (top : Bool) : Bool := if top = true then isName p.name && decide (p.caps.length = 0) else decide (p.name = []) && (decide (p.caps.length ≤ 255) && p.caps.all capB)
def shapedB (p : Proto) : Bool := decide (0 ≤ p.params ∧ p.params ≤ 8) && decide (max 1 p.params ≤ p.regs ∧ p.regs ≤ 100) && (decide (p.consts.length ≤ 200) && p.consts.all constB) && (decide (p.code.length ≤ 8000) && p.code.all rightI)
def protoB (p : Proto) (top : Bool) : Bool := headB p top && shapedB p
theorem OkP.lens {p : Proto} (h : OkP p) : apure .e (.len false (.c p.codeV)) = some (.int .i64 (.ofNat p.code.length)) ∧ apure .e (.len false (.c p.constsV)) = some (.int .i64 (.ofNat p.consts.length)) ∧ apure .e (.len false (.c p.capsV)) = some (.int .i64 (.ofNat p.caps.length)) := by
  have h1 := h.code.len
  have h2 := h.consts.len
  have h3 := h.caps.len
  rw [List.length_map] at h1 h2 h3
  exact ⟨h1, h2, h3⟩
theorem headed23 {p : Proto} (h : OkP p) (top : Bool) : PT Try.prog false 48 [.agg (protoR p), .bool top] (.bool (headB p top)) := by
  refine PT.of (CT.enter mixed comp48 (Nat.le_of_ble_eq_true rfl) ?_)
  obtain ⟨l1, l2, l3⟩ := h.lens
  have hn := name17 h.name
  have he := every37 (m := 255) h.caps (fun _ => rfl) (fun x _ => cap38 x) h.lcaps
  cases top with
  | true =>
    repeat' (first|refine zz ?_|(refine zv ?_;intro cv hv)|(refine za ?_;intro _)|refine zc ?_|(refine zd ?_;refine And.intro ?_ ?_<;>(intro e;(try simp only [Bool.not_eq_true',Bool.not_eq_false'] at e);subst e;try contradiction)))
    all_goals (first|refine ⟨.inr rfl,_,.t rfl .nil,?_⟩|refine ⟨.inr rfl,_,.t rfl (.t rfl .nil),?_⟩|refine ⟨.inr rfl,_,.t rfl (.t rfl (.t rfl .nil)),?_⟩|refine ⟨.inr rfl,_,.nil,?_⟩|refine ⟨.inl rfl,_,.t rfl .nil,?_⟩|refine ⟨.inl rfl,_,.nil,?_⟩|refine ⟨.inr rfl,_,.cn rfl (by exact zN) .nil,?_⟩|refine ⟨.inr rfl,_,.cn rfl (by exact zN) (.t rfl .nil),?_⟩)
    all_goals (clear he hn l1 l2 l3 h; (refine congrArg AV.bool ?_; simp only [headB, if_true, if_false, Bool.false_eq_true]; first | (simp_all only [Bool.and_true, Bool.true_and, Bool.and_false, Bool.false_and, Bool.or_true, Bool.or_false, Bool.true_or, Bool.false_or, Bool.not_true, Bool.not_false]; done) | (rw [Bool.eq_iff_iff]; simp_all; done) | (rw [Bool.eq_iff_iff]; simp_all; omega) | (simp; omega)))
  | false =>
    repeat' (first|refine zz ?_|(refine zv ?_;intro cv hv)|(refine za ?_;intro _)|refine zc ?_|(refine zd ?_;refine And.intro ?_ ?_<;>(intro e;(try simp only [Bool.not_eq_true',Bool.not_eq_false'] at e);subst e;try contradiction)))
    all_goals (first|refine ⟨.inr rfl,_,.t rfl .nil,?_⟩|refine ⟨.inr rfl,_,.t rfl (.t rfl .nil),?_⟩|refine ⟨.inr rfl,_,.t rfl (.t rfl (.t rfl .nil)),?_⟩|refine ⟨.inr rfl,_,.nil,?_⟩|refine ⟨.inl rfl,_,.t rfl .nil,?_⟩|refine ⟨.inl rfl,_,.nil,?_⟩|refine ⟨.inr rfl,_,.cn rfl (by exact zN) .nil,?_⟩|refine ⟨.inr rfl,_,.cn rfl (by exact zN) (.t rfl .nil),?_⟩)
    all_goals (clear he hn l1 l2 l3 h; (refine congrArg AV.bool ?_; simp only [headB, if_true, if_false, Bool.false_eq_true]; first | (simp_all only [Bool.and_true, Bool.true_and, Bool.and_false, Bool.false_and, Bool.or_true, Bool.or_false, Bool.true_or, Bool.false_or, Bool.not_true, Bool.not_false]; done) | (rw [Bool.eq_iff_iff]; simp_all; done) | (rw [Bool.eq_iff_iff]; simp_all; omega) | (simp; omega)))
theorem amax2 {k j : IntKind} {a b : Int} : amax k a [.int j b] = some (.int k (max a b)) := by
  simp only [amax, ilt_dec]
  by_cases h : a < b
  · simp [h]; omega
  · simp [h]; omega
theorem amin2 {k j : IntKind} {a b : Int} : amin k a [.int j b] = some (.int k (min a b)) := by
  simp only [amin, ilt_dec]
  by_cases h : b < a
  · simp [h]; omega
  · simp [h]; omega
theorem shaped24 {p : Proto} (h : OkP p) : PT Try.prog false 49 [.agg (protoR p)] (.bool (shapedB p)) := by
  refine PT.of (CT.enter mixed comp49 (Nat.le_of_ble_eq_true rfl) ?_)
  have h1 := every39 (m := 200) h.consts (fun _ => rfl) (fun x _ => plain40 x) h.lconsts
  have h2 := every41 (m := 8000) h.code (fun _ => rfl) (fun x _ => right42 x) h.lcode
  have h3 : amax .i64 (.ofNat 1) [.int .i64 p.params] = some (.int .i64 (max 1 p.params)) := amax2
  repeat' (first|(refine zq between_ ?_;intro cv hv)|refine zs between_ ?_|(refine zqv between_ ?_;intro cv hv)|(refine zqd between_ ?_;intro cv hv)|refine zsd between_ ?_|refine zz ?_|(refine zv ?_;intro cv hv)|(refine za ?_;intro _)|refine zc ?_|(refine zd ?_;refine And.intro ?_ ?_<;>(intro e;(try simp only [Bool.not_eq_true',Bool.not_eq_false'] at e);subst e;try contradiction)))
  all_goals (first|refine ⟨.inr rfl,_,.t rfl .nil,?_⟩|refine ⟨.inr rfl,_,.t rfl (.t rfl .nil),?_⟩|refine ⟨.inr rfl,_,.t rfl (.t rfl (.t rfl .nil)),?_⟩|refine ⟨.inr rfl,_,.nil,?_⟩|refine ⟨.inl rfl,_,.t rfl .nil,?_⟩|refine ⟨.inl rfl,_,.nil,?_⟩|refine ⟨.inr rfl,_,.cn rfl (by exact zN) .nil,?_⟩|refine ⟨.inr rfl,_,.cn rfl (by exact zN) (.t rfl .nil),?_⟩)
  all_goals (clear h1 h2 h3 h; (refine congrArg AV.bool ?_; simp only [shapedB]; first | (simp_all only [Bool.and_true, Bool.true_and, Bool.and_false, Bool.false_and, Bool.or_true, Bool.or_false, Bool.true_or, Bool.false_or, Bool.not_true, Bool.not_false]; done) | (rw [Bool.eq_iff_iff]; simp_all; done) | (rw [Bool.eq_iff_iff]; simp_all; omega) | (simp; omega)))
end Go.Proofs.Ytlimjjilakldgaa

namespace Go.Proofs.Ytlimjjilakldgaa
open Go Go.Abs
attribute [local irreducible] Cmp Rg Dw Cd Lp Ev Rdk CT Upd InK
structure Unt where
  name : List Nat
  version : Int
  usesV : AV
  uses : List Use
  funs : Int
  protosV : AV
  protos : List Proto
def unitR (u : Unt) : List AV := [.str u.name, .int .i64 u.version, u.usesV, .int .i64 u.funs, u.protosV]
structure OkU (u : Unt) : Prop where
  name : Txt u.name
  uses : ASl 3 u.usesV (u.uses.map useR)
  protos : ASl 6 u.protosV (u.protos.map protoR)
  luses : u.uses.length ≤ 9223372036854775807
  lprotos : u.protos.length ≤ 9223372036854775807
  um : ∀ x, x ∈ u.uses → Txt x.m ∧ Txt x.n
  ps : ∀ p, p ∈ u.protos → OkP p
theorem OkU.lens {u : Unt} (h : OkU u) : apure .e (.len false (.c u.usesV)) = some (.int .i64 (.ofNat u.uses.length)) ∧ apure .e (.len false (.c u.protosV)) = some (.int .i64 (.ofNat u.protos.length)) := by
  have h1 := h.uses.len
  have h2 := h.protos.len
  rw [List.length_map] at h1 h2
  exact ⟨h1, h2⟩
abbrev boxI (b i : Nat) : Chk := [(b, .cells [.int .i64 (.ofNat i)] 0 0 false)]
abbrev boxU (b : Nat) (u : Unt) : Chk := [(b, .cells (unitR u) 0 0 false)]
theorem right22 {p : Proto} {u : Unt} {bi bu i : Nat} (h : OkP p) (hi : i < 9223372036854775807) :
    CT Try.prog false 47 [.agg (protoR p), .ptr bi 0 0 1, .ptr bu 0 0 5] [boxI bi i, boxU bu u] (fun w K' => w = .bool (protoB p (decide (((i + 1 : Nat) : Int) ≤ u.funs))) ∧ K' = [boxI bi (i + 1), boxU bu u]) := by
  have key : CT Try.prog false 47 [.agg (protoR p), .ptr bi 0 0 1, .ptr bu 0 0 5] [boxI bi i, boxU bu u] (fun w K' => w = .bool (protoB p (decide (((i + 1 : Nat) : Int) ≤ u.funs))) ∧ ∃ c, K' = [c, boxI bi (i + 1), boxU bu u]) := by
    refine CT.enter mixed comp47 (Nat.le_of_ble_eq_true rfl) ?_
    have hs := shaped24 h
    have hh := headed23 h
    repeat' (first|(refine zq (hh _) ?_;intro cv hv)|refine zs (hh _) ?_|(refine zqv (hh _) ?_;intro cv hv)|(refine zqd (hh _) ?_;intro cv hv)|refine zsd (hh _) ?_|refine zz ?_|(refine zv ?_;intro cv hv)|(refine za ?_;intro _)|refine zc ?_|(refine zd ?_;refine And.intro ?_ ?_<;>(intro e;(try simp only [Bool.not_eq_true',Bool.not_eq_false'] at e);subst e;try contradiction)))
    all_goals (first|refine ⟨.inr rfl,_,.t rfl .nil,?_⟩|refine ⟨.inr rfl,_,.t rfl (.t rfl .nil),?_⟩|refine ⟨.inr rfl,_,.t rfl (.t rfl (.t rfl .nil)),?_⟩|refine ⟨.inr rfl,_,.nil,?_⟩|refine ⟨.inl rfl,_,.t rfl .nil,?_⟩|refine ⟨.inl rfl,_,.nil,?_⟩|refine ⟨.inr rfl,_,.cn rfl (by exact zN) .nil,?_⟩|refine ⟨.inr rfl,_,.cn rfl (by exact zN) (.t rfl .nil),?_⟩)
    all_goals (refine ⟨?_, _, rfl⟩)
    · rename_i _ c1 h1 h2
      rw [protoB, show decide (((i + 1 : Nat) : Int) ≤ u.funs) = c1 by rw [Bool.eq_iff_iff, h1]; simp, h2, hv]; rfl
    · rename_i _ h1
      rw [protoB, show decide (((i + 1 : Nat) : Int) ≤ u.funs) = cv by rw [Bool.eq_iff_iff, h1]; simp, hv]; rfl
  refine key.dropR ?_
  rintro v K' ⟨rfl, c, rfl⟩
  exact ⟨_, _, .cons (.there .here) (.cons (.there .here) .nil), rfl, rfl⟩
/-- Functions, the first ones as functions of the module. -/
def protosB (funs : Int) : Nat → List Proto → Bool
  | _, [] => true
  | i, p :: r => protoB p (decide (((i + 1 : Nat) : Int) ≤ funs)) && protosB funs (i + 1) r
theorem protosB_drop {funs : Int} {l : List Proto} {i : Nat} {p : Proto} (h : l[i]? = some p) (j : Nat) : protosB funs j (l.drop i) = (protoB p (decide (((j + 1 : Nat) : Int) ≤ funs)) && protosB funs (j + 1) (l.drop (i + 1))) := by
  obtain ⟨h1, h2⟩ := List.getElem?_eq_some_iff.1 h
  rw [List.drop_eq_getElem_cons h1, h2]; rfl
theorem every21_loop {u : Unt} (hu : OkU u) {bi bu : Nat} {Q : AX → SL → Mem → Prop} (hret : ∀ l' K, protosB u.funs 0 u.protos = false → lkS l' 6 = some (.bool false) → Q .ret l' K) (hend : ∀ l' K, protosB u.funs 0 u.protos = true → Q (.ext 0) l' K) :
    ∀ (k i : Nat), u.protos.length < i + k → i ≤ u.protos.length → protosB u.funs i (u.protos.drop i) = protosB u.funs 0 u.protos → Lp Try.prog false b46_0 k [(2, .fn 47 [] [.ptr bi 0 0 1, .ptr bu 0 0 5]), (13, u.protosV), (14, .int .i64 (.ofNat u.protos.length)), (15, .int .i64 (.ofNat i))] [boxI bi i, boxU bu u] Q := by
  have hl := hu.lprotos
  intro k
  induction k with
  | zero => intro i h1 h2; omega
  | succ k ih =>
    intro i h1 h2 h3
    refine Lp.round ?_
    by_cases hi : i < u.protos.length
    · obtain ⟨x, hx⟩ : ∃ x, u.protos[i]? = some x := ⟨_, List.getElem?_eq_getElem hi⟩
      have q1 := hu.protos.iadr (i := i) (r := protoR x) (k := .i64) (by rw [List.getElem?_map, hx]; rfl)
      have hx2 := hu.ps x (List.mem_of_getElem? hx)
      rw [protosB_drop hx] at h3
      repeat (first|refine zz ?_|(refine zv ?_;intro cv hv)|(refine za ?_;intro _)|refine zc ?_|(refine zd ?_;refine And.intro ?_ ?_<;>(intro e;(try simp only [Bool.not_eq_true',Bool.not_eq_false'] at e);subst e;try contradiction)))
      have hc := right22 (u := u) (bi := bi) (bu := bu) (i := i) hx2 (by omega)
      refine Rg.callvM (first := []) (vs := [.agg (protoR x)]) (cap := [.ptr bi 0 0 1, .ptr bu 0 0 5]) (m := [boxI bi i, boxU bu u]) (r := ?_) ?_ ?_ hc ?_ ?_
      rotate_left
      exact rfl
      exact rfl
      (repeat (first | exact Sel.nil | (apply Sel.cons; (repeat (first | exact Take.here | apply Take.there)))))
      rintro v K' ⟨rfl, rfl⟩
      generalize hg : protoB x (decide (((i + 1 : Nat) : Int) ≤ u.funs)) = cv at h3 ⊢
      repeat' (first|refine zz ?_|(refine zv ?_;intro cv hv)|(refine za ?_;intro _)|refine zc ?_|(refine zd ?_;refine And.intro ?_ ?_<;>(intro e;(try simp only [Bool.not_eq_true',Bool.not_eq_false'] at e);subst e;try contradiction)))
      · exact hret _ _ (by rw [← h3]; rfl) rfl
      · refine Lp.drop (m := [boxI bi (i + 1), boxU bu u]) (.cons .here (.cons .here .nil)) (Lp.weak ?hw (ih (i + 1) (by omega) (by omega) ?_))
        case hw => exact ⟨rfl, rfl, rfl, rfl, trivial⟩
        rw [← h3]; rfl
    · repeat' (first|refine zz ?_|(refine zv ?_;intro cv hv)|(refine za ?_;intro _)|refine zc ?_|(refine zd ?_;refine And.intro ?_ ?_<;>(intro e;(try simp only [Bool.not_eq_true',Bool.not_eq_false'] at e);subst e;try contradiction)))
      refine hend _ _ ?_
      rw [← h3, List.drop_of_length_le (by omega)]; rfl
theorem every21 {u : Unt} (hu : OkU u) {bi bu : Nat} : CT Try.prog false 46 [u.protosV, .int .i64 (.ofNat 64), .fn 47 [] [.ptr bi 0 0 1, .ptr bu 0 0 5]] [boxI bi 0, boxU bu u] (fun w _ => w = .bool (decide (u.protos.length ≤ 64) && protosB u.funs 0 u.protos)) := by
  refine CT.enter mixed comp46 (Nat.le_of_ble_eq_true rfl) ?_
  obtain ⟨_, q1⟩ := hu.lens
  by_cases hm : u.protos.length ≤ 64
  · repeat' (first|refine zz ?_|(refine zv ?_;intro cv hv)|(refine za ?_;intro _)|refine zc ?_|(refine zd ?_;refine And.intro ?_ ?_<;>(intro e;(try simp only [Bool.not_eq_true',Bool.not_eq_false'] at e);subst e;try contradiction)))
    refine Cd.loop (k := u.protos.length + 1) (Lp.weak ?hw (every21_loop hu ?_ ?_ (u.protos.length + 1) 0 (by omega) (by omega) rfl))
    case hw => exact ⟨rfl, rfl, rfl, rfl, trivial⟩
    · intro l' K h1 h2
      exact ⟨.inr rfl, _, .t h2 .nil, by rw [h1, Bool.and_false]; rfl⟩
    · intro l' K h1
      show Cd _ _ _ _ _ _
      refine Cd.weak (l2 := []) trivial ?_
      repeat' (first|refine zz ?_|(refine zv ?_;intro cv hv)|(refine za ?_;intro _)|refine zc ?_|(refine zd ?_;refine And.intro ?_ ?_<;>(intro e;(try simp only [Bool.not_eq_true',Bool.not_eq_false'] at e);subst e;try contradiction)))
      (first|refine ⟨.inr rfl,_,.t rfl .nil,?_⟩|refine ⟨.inr rfl,_,.t rfl (.t rfl .nil),?_⟩|refine ⟨.inr rfl,_,.t rfl (.t rfl (.t rfl .nil)),?_⟩|refine ⟨.inr rfl,_,.nil,?_⟩|refine ⟨.inl rfl,_,.t rfl .nil,?_⟩|refine ⟨.inl rfl,_,.nil,?_⟩|refine ⟨.inr rfl,_,.cn rfl (by exact zN) .nil,?_⟩|refine ⟨.inr rfl,_,.cn rfl (by exact zN) (.t rfl .nil),?_⟩)
      rw [h1]; simp [hm, packL]
  · repeat' (first|refine zz ?_|(refine zv ?_;intro cv hv)|(refine za ?_;intro _)|refine zc ?_|(refine zd ?_;refine And.intro ?_ ?_<;>(intro e;(try simp only [Bool.not_eq_true',Bool.not_eq_false'] at e);subst e;try contradiction)))
    (first|refine ⟨.inr rfl,_,.t rfl .nil,?_⟩|refine ⟨.inr rfl,_,.t rfl (.t rfl .nil),?_⟩|refine ⟨.inr rfl,_,.t rfl (.t rfl (.t rfl .nil)),?_⟩|refine ⟨.inr rfl,_,.nil,?_⟩|refine ⟨.inl rfl,_,.t rfl .nil,?_⟩|refine ⟨.inl rfl,_,.nil,?_⟩|refine ⟨.inr rfl,_,.cn rfl (by exact zN) .nil,?_⟩|refine ⟨.inr rfl,_,.cn rfl (by exact zN) (.t rfl .nil),?_⟩)
    simp [hm, packL]
/-- A unit that can be. -/
def unitB (u : Unt) : Bool := isName u.name && decide (1 ≤ u.version ∧ u.version ≤ 2147483647) && decide (0 ≤ u.funs ∧ u.funs ≤ min 32 (u.protos.length : Int)) && (decide (u.uses.length ≤ 16) && u.uses.all useB) && (decide (u.protos.length ≤ 64) && protosB u.funs 0 u.protos)
theorem right11 {u : Unt} (hu : OkU u) : PT Try.prog false 33 [.agg (unitR u)] (.bool (unitB u)) := by
  refine PT.of (CT.enter mixed comp33 (Nat.le_of_ble_eq_true rfl) ?_)
  obtain ⟨l1, l2⟩ := hu.lens
  have hn := name17 hu.name
  have he := every19 (m := 16) hu.uses (fun _ => rfl) (fun x hx => used20 x (hu.um x hx).1 (hu.um x hx).2) hu.luses
  have h3 : amin .i64 (.ofNat 32) [.int .i64 (.ofNat u.protos.length)] = some (.int .i64 (min 32 (u.protos.length : Int))) := amin2
  repeat' (first|(refine zq between_ ?_;intro cv hv)|refine zs between_ ?_|(refine zqv between_ ?_;intro cv hv)|(refine zqd between_ ?_;intro cv hv)|refine zsd between_ ?_|refine zz ?_|(refine zv ?_;intro cv hv)|(refine za ?_;intro _)|refine zc ?_|(refine zd ?_;refine And.intro ?_ ?_<;>(intro e;(try simp only [Bool.not_eq_true',Bool.not_eq_false'] at e);subst e;try contradiction)))
  all_goals (try ((first|refine ⟨.inr rfl,_,.t rfl .nil,?_⟩|refine ⟨.inr rfl,_,.t rfl (.t rfl .nil),?_⟩|refine ⟨.inr rfl,_,.t rfl (.t rfl (.t rfl .nil)),?_⟩|refine ⟨.inr rfl,_,.nil,?_⟩|refine ⟨.inl rfl,_,.t rfl .nil,?_⟩|refine ⟨.inl rfl,_,.nil,?_⟩|refine ⟨.inr rfl,_,.cn rfl (by exact zN) .nil,?_⟩|refine ⟨.inr rfl,_,.cn rfl (by exact zN) (.t rfl .nil),?_⟩); (refine congrArg AV.bool ?_; simp only [unitB]; first | (simp_all only [Bool.and_true, Bool.true_and, Bool.and_false, Bool.false_and, Bool.or_true, Bool.or_false, Bool.true_or, Bool.false_or, Bool.not_true, Bool.not_false]; done) | (rw [Bool.eq_iff_iff]; simp_all; done) | (rw [Bool.eq_iff_iff]; simp_all; omega) | (simp; omega)); done))
  rename_i bu _ _ _ bi
  refine Rg.callM (vs := [u.protosV, .int .i64 (.ofNat 64), .fn 47 [] [.ptr bi 0 0 1, .ptr bu 0 0 5]]) (m := [boxI bi 0, boxU bu u]) (r := ?_) ?_ (every21 hu) ?_ ?_
  rotate_left
  exact rfl
  (repeat (first | exact Sel.nil | (apply Sel.cons; (repeat (first | exact Take.here | apply Take.there)))))
  rintro v K' rfl
  generalize hg : (decide (u.protos.length ≤ 64) && protosB u.funs 0 u.protos) = cv
  repeat' (first|refine zz ?_|(refine zv ?_;intro cv hv)|(refine za ?_;intro _)|refine zc ?_|(refine zd ?_;refine And.intro ?_ ?_<;>(intro e;(try simp only [Bool.not_eq_true',Bool.not_eq_false'] at e);subst e;try contradiction)))
  (first|refine ⟨.inr rfl,_,.t rfl .nil,?_⟩|refine ⟨.inr rfl,_,.t rfl (.t rfl .nil),?_⟩|refine ⟨.inr rfl,_,.t rfl (.t rfl (.t rfl .nil)),?_⟩|refine ⟨.inr rfl,_,.nil,?_⟩|refine ⟨.inl rfl,_,.t rfl .nil,?_⟩|refine ⟨.inl rfl,_,.nil,?_⟩|refine ⟨.inr rfl,_,.cn rfl (by exact zN) .nil,?_⟩|refine ⟨.inr rfl,_,.cn rfl (by exact zN) (.t rfl .nil),?_⟩)
  (refine congrArg AV.bool ?_; simp only [unitB]; first | (simp_all only [Bool.and_true, Bool.true_and, Bool.and_false, Bool.false_and, Bool.or_true, Bool.or_false, Bool.true_or, Bool.false_or, Bool.not_true, Bool.not_false]; done) | (rw [Bool.eq_iff_iff]; simp_all; done) | (rw [Bool.eq_iff_iff]; simp_all; omega) | (simp; omega))
end Go.Proofs.Ytlimjjilakldgaa

namespace Go.Proofs.Ytlimjjilakldgaa
open Go Go.Abs
attribute [local irreducible] Cmp Rg Dw Cd Lp Ev Rdk CT Upd InK
theorem fitD_le {ch : Nat} {n : Int} (h : fitD ch n = true) : 0 ≤ n ∧ n ≤ 255 := by
  unfold fitD at h
  split at h
  · have := of_decide_eq_true h; omega
  · exact of_decide_eq_true h
theorem rightI_op {x : Ins} (h : rightI x = true) : 0 ≤ x.op ∧ x.op < 38 := by
  by_cases hk : 0 ≤ x.op ∧ x.op < 38
  · exact hk
  · rw [rightI, shape, if_neg hk] at h; cases h
theorem rightI_le {x : Ins} (h : rightI x = true) : (0 ≤ x.a ∧ x.a ≤ 255) ∧ (0 ≤ x.b ∧ x.b ≤ 255) ∧ 0 ≤ x.c ∧ x.c ≤ 255 := by
  unfold rightI at h
  rcases shape_cases x.op with e | ⟨p, e⟩ | ⟨p, q, r, e⟩ <;> rw [e] at h <;> simp only [fit3, Bool.and_eq_true, Bool.false_eq_true] at h
  · exact ⟨fitD_le h.1.1, fitD_le h.1.2, fitD_le h.2⟩
  · exact ⟨fitD_le h.1.1, fitD_le h.1.2, fitD_le h.2⟩
/-- An instruction's number of two bytes. -/
def wide (x : Ins) : Nat := if rightI x = true then (x.b + 256 * x.c).toNat else 0
theorem or_byte {a b : Nat} (ha : a ≤ 255) (hb : b ≤ 255) : abin .or (.int .i64 (.ofNat b)) (.int .i64 (.ofNat (a * 256))) = some (.int .i64 (.ofNat (b + a * 256))) := by
  have h : Nat.lor b (a * 256) = b + a * 256 := by
    have := Nat.shiftLeft_add_eq_or_of_lt (i := 8) (b := b) (by omega) a
    rw [Nat.shiftLeft_eq, show (2 : Nat) ^ 8 = 256 from rfl] at this
    have e : Nat.lor b (a * 256) = a * 256 ||| b := Nat.or_comm _ _
    rw [e]
    omega
  show abitw .or .i64 Nat.lor (.ofNat b) (.ofNat (a * 256)) = _
  simp only [abitw, top]
  rw [Nat.ble_eq_true_of_le (by omega), Nat.ble_eq_true_of_le (by omega), h]; rfl
theorem shl_byte {a : Nat} (ha : a ≤ 255) : abin .shl (.int .i64 (.ofNat a)) (.int .u64 (.ofNat 8)) = some (.int .i64 (.ofNat (a * 256))) := by
  show some (AV.int .i64 (awrap .i64 (.ofNat (a * 2 ^ 8)))) = _
  simp only [awrap, top]
  rw [Nat.ble_eq_true_of_le (by omega)]; rfl
theorem wide25 (x : Ins) : PT Try.prog false 50 [insA x] (.int .i64 (.ofNat (wide x))) := by
  refine PT.of (CT.enter mixed comp50 (Nat.le_of_ble_eq_true rfl) ?_)
  have hr := right42 x
  cases h : rightI x with
  | false =>
    rw [h] at hr
    repeat' (first|refine zz ?_|(refine zv ?_;intro cv hv)|(refine za ?_;intro _)|refine zc ?_|(refine zd ?_;refine And.intro ?_ ?_<;>(intro e;(try simp only [Bool.not_eq_true',Bool.not_eq_false'] at e);subst e;try contradiction)))
    · (first|refine ⟨.inr rfl,_,.t rfl .nil,?_⟩|refine ⟨.inr rfl,_,.t rfl (.t rfl .nil),?_⟩|refine ⟨.inr rfl,_,.t rfl (.t rfl (.t rfl .nil)),?_⟩|refine ⟨.inr rfl,_,.nil,?_⟩|refine ⟨.inl rfl,_,.t rfl .nil,?_⟩|refine ⟨.inl rfl,_,.nil,?_⟩|refine ⟨.inr rfl,_,.cn rfl (by exact zN) .nil,?_⟩|refine ⟨.inr rfl,_,.cn rfl (by exact zN) (.t rfl .nil),?_⟩)
      rw [wide, h]; rfl
  | true =>
    rw [h] at hr
    obtain ⟨_, hb, hc⟩ := rightI_le h
    obtain ⟨op, a, b, c⟩ := x
    simp only at hb hc
    obtain ⟨b, rfl⟩ := Int.eq_ofNat_of_zero_le hb.1
    obtain ⟨c, rfl⟩ := Int.eq_ofNat_of_zero_le hc.1
    have q1 := shl_byte (a := c) (by omega)
    have q2 := or_byte (a := c) (b := b) (by omega) (by omega)
    repeat' (first|refine zz ?_|(refine zv ?_;intro cv hv)|(refine za ?_;intro _)|refine zc ?_|(refine zd ?_;refine And.intro ?_ ?_<;>(intro e;(try simp only [Bool.not_eq_true',Bool.not_eq_false'] at e);subst e;try contradiction)))
    · (first|refine ⟨.inr rfl,_,.t rfl .nil,?_⟩|refine ⟨.inr rfl,_,.t rfl (.t rfl .nil),?_⟩|refine ⟨.inr rfl,_,.t rfl (.t rfl (.t rfl .nil)),?_⟩|refine ⟨.inr rfl,_,.nil,?_⟩|refine ⟨.inl rfl,_,.t rfl .nil,?_⟩|refine ⟨.inl rfl,_,.nil,?_⟩|refine ⟨.inr rfl,_,.cn rfl (by exact zN) .nil,?_⟩|refine ⟨.inr rfl,_,.cn rfl (by exact zN) (.t rfl .nil),?_⟩)
      rw [wide, h, if_pos rfl]
      show AV.int .i64 (.ofNat (b + c * 256)) = AV.int .i64 (.ofNat ((b : Int) + 256 * (c : Int)).toNat)
      congr 2; omega
theorem ends12 (x : Ins) : PT Try.prog false 34 [insA x] (.bool (decide (x.op = 37 ∨ x.op = 25))) := by
  refine PT.of (CT.enter mixed comp34 (Nat.le_of_ble_eq_true rfl) ?_)
  repeat' (first|refine zz ?_|(refine zv ?_;intro cv hv)|(refine za ?_;intro _)|refine zc ?_|(refine zd ?_;refine And.intro ?_ ?_<;>(intro e;(try simp only [Bool.not_eq_true',Bool.not_eq_false'] at e);subst e;try contradiction)))
  all_goals (first|refine ⟨.inr rfl,_,.t rfl .nil,?_⟩|refine ⟨.inr rfl,_,.t rfl (.t rfl .nil),?_⟩|refine ⟨.inr rfl,_,.t rfl (.t rfl (.t rfl .nil)),?_⟩|refine ⟨.inr rfl,_,.nil,?_⟩|refine ⟨.inl rfl,_,.t rfl .nil,?_⟩|refine ⟨.inl rfl,_,.nil,?_⟩|refine ⟨.inr rfl,_,.cn rfl (by exact zN) .nil,?_⟩|refine ⟨.inr rfl,_,.cn rfl (by exact zN) (.t rfl .nil),?_⟩)
  all_goals (refine congrArg AV.bool ?_; rw [Bool.eq_iff_iff]; (try simp_all); (try omega))
/-- Registers. -/
def regs3 (n : Int) (s : List Nat) (x : Ins) : Bool := match s with
  | [p, q] => !(decide (p = 114 ∧ n ≤ x.a)) && !(decide (q = 114 ∧ n ≤ x.b))
  | [p, q, r] => !(decide (p = 114 ∧ n ≤ x.a)) && !(decide (q = 114 ∧ n ≤ x.b)) && !(decide (r = 114 ∧ n ≤ x.c))
  | _ => true
end Go.Proofs.Ytlimjjilakldgaa
