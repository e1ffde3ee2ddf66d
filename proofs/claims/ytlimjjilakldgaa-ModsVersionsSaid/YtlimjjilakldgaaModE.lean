/- Contracts: values, uses, functions of a unit. -/
import Derived.Test.YtlimjjilakldgaaModB
set_option autoImplicit false
set_option maxRecDepth 100000
set_option maxHeartbeats 2000000
set_option linter.unusedVariables false
set_option linter.unusedSimpArgs false
namespace Go.Proofs.Ytlimjjilakldgaa
open Go Go.Abs
/-- A value that can be a constant. -/
def constB (v : Val) : Bool := if v.k = 0 then decide (v.n = 0 ∧ v.s = []) else if v.k = 1 then decide (v.s = []) else if v.k = 2 then decide (v.n = 0 ∧ v.s.length ≤ 1024) else false
theorem plain40 (v : Val) : PT Try.prog false 66 [valA v] (.bool (constB v)) := by
  refine PT.of (CT.enter mixed comp66 (Nat.le_of_ble_eq_true rfl) ?_)
  have q : aeq (.flat true [.i, .i, .s]) (.agg (valR v)) (.agg [.int .i64 (.ofNat 0), .int .i64 (.ofNat 0), .str []]) = some (decide (v = ⟨0, 0, []⟩)) := flatVal v ⟨0, 0, []⟩
  have e : decide (v = ⟨0, 0, []⟩) = (decide (v.k = 0) && decide (v.n = 0 ∧ v.s = [])) := by cases v; simp
  rw [e] at q
  repeat' (first|refine zA ?_|refine Cd.reg ?_|refine Rg.nil ?_|refine zF ?_|refine zG ?_|refine zH ?_|(refine Rg.p (v:=?_) ?_ ?_;rotate_left;exact zE)|(refine Rg.cmp (p:=?_) rfl rfl ?_ ?_;rotate_left;exact zC;intro cv hv)|(refine Rg.r (v:=?_) rfl rfl ?_ ?_;rotate_left;exact zN)|refine zL fun _=>?_|refine Rg.alloc fun _=>?_|refine Rg.a (Mk.lits rfl) fun _=>?_|refine zO (cs:=?_) (K':=?_) ?_|refine zP (cs:=?_) (K':=?_) ?_|(refine zQ (g:=?_) ?_;intro cv hv)|(refine zR (w:=?_) ?_;intro cv hv)|refine zS (v:=?_) ?_|refine zT (v:=?_) ?_|refine Lp.round ?_|refine Cd.draw ?_|refine Dw.nil ?_|refine Dw.guardY rfl ?_|refine Dw.guardN rfl ?_|refine Dw.guardT rfl ?_|(refine Dw.p (v:=?_) ?_ ?_;rotate_left;exact zE)|(refine Dw.cmp (p:=?_) rfl rfl ?_ ?_;rotate_left;exact zC;intro cv hv)|(refine Dw.r (v:=?_) rfl rfl ?_ ?_ ?_;rotate_left;exact zN;exact zM)|refine Dw.a Mk.alloc fun _=>?_|refine Dw.a (Mk.lits rfl) fun _=>?_|(refine zY (g:=?_) ?_;intro cv hv)|refine zW (v:=?_) ?_|refine Cd.condT rfl ?_|refine Cd.condF rfl ?_|((first|refine Cd.cond rfl ?_ ?_|refine Rg.guardS rfl ?_ ?_|refine Dw.guardS rfl ?_ ?_)<;>(intro e;(try simp only [Bool.not_eq_true',Bool.not_eq_false'] at e);subst e;try contradiction))|refine Cd.skip ?_|refine Cd.blk ?_|refine Cd.ext ?_|refine Cd.ret ?_)
  all_goals (first|refine ⟨.inr rfl,_,.t rfl .nil,?_⟩|refine ⟨.inr rfl,_,.t rfl (.t rfl .nil),?_⟩|refine ⟨.inr rfl,_,.t rfl (.t rfl (.t rfl .nil)),?_⟩|refine ⟨.inr rfl,_,.nil,?_⟩|refine ⟨.inl rfl,_,.t rfl .nil,?_⟩|refine ⟨.inl rfl,_,.nil,?_⟩|refine ⟨.inr rfl,_,.cn rfl (by exact zN) .nil,?_⟩|refine ⟨.inr rfl,_,.cn rfl (by exact zN) (.t rfl .nil),?_⟩)
  all_goals (refine congrArg AV.bool ?_; rw [Bool.eq_iff_iff]; simp only [constB]; clear q e; simp_all)
theorem const46 (v : Val) : PT Try.prog false 38 [valA v] (.bool (constB v)) := by
  refine PT.of (CT.enter mixed comp38 (Nat.le_of_ble_eq_true rfl) ?_)
  repeat' (first|refine zA ?_|refine Cd.reg ?_|refine Rg.nil ?_|refine zF ?_|refine zG ?_|refine zH ?_|(refine Rg.p (v:=?_) ?_ ?_;rotate_left;exact zE)|(refine Rg.cmp (p:=?_) rfl rfl ?_ ?_;rotate_left;exact zC;intro cv hv)|(refine Rg.r (v:=?_) rfl rfl ?_ ?_;rotate_left;exact zN)|refine zL fun _=>?_|refine Rg.alloc fun _=>?_|refine Rg.a (Mk.lits rfl) fun _=>?_|refine zO (cs:=?_) (K':=?_) ?_|refine zP (cs:=?_) (K':=?_) ?_|(refine zQ (g:=?_) ?_;intro cv hv)|(refine zR (w:=?_) ?_;intro cv hv)|refine zS (v:=?_) ?_|refine zT (v:=?_) ?_|refine Lp.round ?_|refine Cd.draw ?_|refine Dw.nil ?_|refine Dw.guardY rfl ?_|refine Dw.guardN rfl ?_|refine Dw.guardT rfl ?_|(refine Dw.p (v:=?_) ?_ ?_;rotate_left;exact zE)|(refine Dw.cmp (p:=?_) rfl rfl ?_ ?_;rotate_left;exact zC;intro cv hv)|(refine Dw.r (v:=?_) rfl rfl ?_ ?_ ?_;rotate_left;exact zN;exact zM)|refine Dw.a Mk.alloc fun _=>?_|refine Dw.a (Mk.lits rfl) fun _=>?_|(refine zY (g:=?_) ?_;intro cv hv)|refine zW (v:=?_) ?_|refine Cd.condT rfl ?_|refine Cd.condF rfl ?_|((first|refine Cd.cond rfl ?_ ?_|refine Rg.guardS rfl ?_ ?_|refine Dw.guardS rfl ?_ ?_)<;>(intro e;(try simp only [Bool.not_eq_true',Bool.not_eq_false'] at e);subst e;try contradiction))|refine Cd.skip ?_|refine Cd.blk ?_|refine Cd.ext ?_|refine Cd.ret ?_)
  all_goals (first|refine ⟨.inr rfl,_,.t rfl .nil,?_⟩|refine ⟨.inr rfl,_,.t rfl (.t rfl .nil),?_⟩|refine ⟨.inr rfl,_,.t rfl (.t rfl (.t rfl .nil)),?_⟩|refine ⟨.inr rfl,_,.nil,?_⟩|refine ⟨.inl rfl,_,.t rfl .nil,?_⟩|refine ⟨.inl rfl,_,.nil,?_⟩|refine ⟨.inr rfl,_,.cn rfl (by exact zN) .nil,?_⟩|refine ⟨.inr rfl,_,.cn rfl (by exact zN) (.t rfl .nil),?_⟩)
  all_goals (refine congrArg AV.bool ?_; rw [Bool.eq_iff_iff]; simp only [constB]; simp_all)
structure Use where
  m : List Nat
  n : List Nat
  p : Int
def useR (x : Use) : List AV := [.str x.m, .str x.n, .int .i64 x.p]
def useB (x : Use) : Bool := isName x.m && isName x.n && decide (0 ≤ x.p ∧ x.p ≤ 8)
theorem used20 (x : Use) (h1 : Txt x.m) (h2 : Txt x.n) : PT Try.prog false 45 [.agg (useR x)] (.bool (useB x)) := by
  refine PT.of (CT.enter mixed comp45 (Nat.le_of_ble_eq_true rfl) ?_)
  repeat' (first|refine zA ?_|refine Cd.reg ?_|refine Rg.nil ?_|refine zF ?_|refine zG ?_|refine zH ?_|(refine Rg.p (v:=?_) ?_ ?_;rotate_left;exact zE)|(refine Rg.cmp (p:=?_) rfl rfl ?_ ?_;rotate_left;exact zC;intro cv hv)|(refine Rg.r (v:=?_) rfl rfl ?_ ?_;rotate_left;exact zN)|refine zL fun _=>?_|refine Rg.alloc fun _=>?_|refine Rg.a (Mk.lits rfl) fun _=>?_|refine zO (cs:=?_) (K':=?_) ?_|refine zP (cs:=?_) (K':=?_) ?_|((first|refine Rg.callB (g:=?_) rfl ?_ ?_|refine Rg.callvB (w:=?_) rfl rfl ?_ ?_);rotate_left;(first|assumption|exact name17 h1|exact name17 h2|exact between_);intro cv hv)|((first|refine Rg.callv (v:=?_) rfl rfl ?_ ?_|refine Rg.call (v:=?_) rfl ?_ ?_);rotate_left;(first|assumption|exact name17 h1|exact name17 h2|exact between_))|(refine Dw.callB (g:=?_) rfl ?_ ?_ ?_;rotate_left;(first|assumption|exact name17 h1|exact name17 h2|exact between_);(focus (repeat (first | exact trivial | refine And.intro (Or.inl rfl) ?_ | (refine And.intro (Or.inr ?_) ?_; (focus (first | exact Rdk.i1 | assumption | (refine Rdk.in ?_; first | assumption | exact rfl) | (refine Rdk.b1 (cs := ?_) ?_ ?_; rotate_left; (repeat (first | exact InK.here | refine InK.there ?_)); exact rfl) | (refine Rdk.bw (cs := ?_) ?_ ?_; rotate_left; (repeat (first | exact InK.here | refine InK.there ?_)); first | assumption | exact rfl) | (refine Rdk.bn (cs := ?_) ?_ ?_; rotate_left; (repeat (first | exact InK.here | refine InK.there ?_)); exact rfl)))))));intro cv hv)|(refine Dw.call (v:=?_) rfl ?_ ?_ ?_;rotate_left;(first|assumption|exact name17 h1|exact name17 h2|exact between_);focus (repeat (first | exact trivial | refine And.intro (Or.inl rfl) ?_ | (refine And.intro (Or.inr ?_) ?_; (focus (first | exact Rdk.i1 | assumption | (refine Rdk.in ?_; first | assumption | exact rfl) | (refine Rdk.b1 (cs := ?_) ?_ ?_; rotate_left; (repeat (first | exact InK.here | refine InK.there ?_)); exact rfl) | (refine Rdk.bw (cs := ?_) ?_ ?_; rotate_left; (repeat (first | exact InK.here | refine InK.there ?_)); first | assumption | exact rfl) | (refine Rdk.bn (cs := ?_) ?_ ?_; rotate_left; (repeat (first | exact InK.here | refine InK.there ?_)); exact rfl)))))))|(refine zQ (g:=?_) ?_;intro cv hv)|(refine zR (w:=?_) ?_;intro cv hv)|refine zS (v:=?_) ?_|refine zT (v:=?_) ?_|refine Lp.round ?_|refine Cd.draw ?_|refine Dw.nil ?_|refine Dw.guardY rfl ?_|refine Dw.guardN rfl ?_|refine Dw.guardT rfl ?_|(refine Dw.p (v:=?_) ?_ ?_;rotate_left;exact zE)|(refine Dw.cmp (p:=?_) rfl rfl ?_ ?_;rotate_left;exact zC;intro cv hv)|(refine Dw.r (v:=?_) rfl rfl ?_ ?_ ?_;rotate_left;exact zN;exact zM)|refine Dw.a Mk.alloc fun _=>?_|refine Dw.a (Mk.lits rfl) fun _=>?_|(refine zY (g:=?_) ?_;intro cv hv)|refine zW (v:=?_) ?_|refine Cd.condT rfl ?_|refine Cd.condF rfl ?_|((first|refine Cd.cond rfl ?_ ?_|refine Rg.guardS rfl ?_ ?_|refine Dw.guardS rfl ?_ ?_)<;>(intro e;(try simp only [Bool.not_eq_true',Bool.not_eq_false'] at e);subst e;try contradiction))|refine Cd.skip ?_|refine Cd.blk ?_|refine Cd.ext ?_|refine Cd.ret ?_)
  all_goals (first|refine ⟨.inr rfl,_,.t rfl .nil,?_⟩|refine ⟨.inr rfl,_,.t rfl (.t rfl .nil),?_⟩|refine ⟨.inr rfl,_,.t rfl (.t rfl (.t rfl .nil)),?_⟩|refine ⟨.inr rfl,_,.nil,?_⟩|refine ⟨.inl rfl,_,.t rfl .nil,?_⟩|refine ⟨.inl rfl,_,.nil,?_⟩|refine ⟨.inr rfl,_,.cn rfl (by exact zN) .nil,?_⟩|refine ⟨.inr rfl,_,.cn rfl (by exact zN) (.t rfl .nil),?_⟩)
  all_goals (refine congrArg AV.bool ?_; simp only [useB]; simp_all)
structure Cap where
  up : Bool
  i : Int
def capR (x : Cap) : List AV := [.bool x.up, .int .i64 x.i]
def capB (x : Cap) : Bool := decide (0 ≤ x.i ∧ x.i ≤ 255)
theorem cap38 (x : Cap) : PT Try.prog false 64 [.agg (capR x)] (.bool (capB x)) := by
  refine PT.of (CT.enter mixed comp64 (Nat.le_of_ble_eq_true rfl) ?_)
  repeat' (first|refine zA ?_|refine Cd.reg ?_|refine Rg.nil ?_|refine zF ?_|refine zG ?_|refine zH ?_|(refine Rg.p (v:=?_) ?_ ?_;rotate_left;exact zE)|(refine Rg.cmp (p:=?_) rfl rfl ?_ ?_;rotate_left;exact zC;intro cv hv)|(refine Rg.r (v:=?_) rfl rfl ?_ ?_;rotate_left;exact zN)|refine zL fun _=>?_|refine Rg.alloc fun _=>?_|refine Rg.a (Mk.lits rfl) fun _=>?_|refine zO (cs:=?_) (K':=?_) ?_|refine zP (cs:=?_) (K':=?_) ?_|((first|refine Rg.callB (g:=?_) rfl ?_ ?_|refine Rg.callvB (w:=?_) rfl rfl ?_ ?_);rotate_left;(first|assumption|exact between_);intro cv hv)|((first|refine Rg.callv (v:=?_) rfl rfl ?_ ?_|refine Rg.call (v:=?_) rfl ?_ ?_);rotate_left;(first|assumption|exact between_))|(refine Dw.callB (g:=?_) rfl ?_ ?_ ?_;rotate_left;(first|assumption|exact between_);(focus (repeat (first | exact trivial | refine And.intro (Or.inl rfl) ?_ | (refine And.intro (Or.inr ?_) ?_; (focus (first | exact Rdk.i1 | assumption | (refine Rdk.in ?_; first | assumption | exact rfl) | (refine Rdk.b1 (cs := ?_) ?_ ?_; rotate_left; (repeat (first | exact InK.here | refine InK.there ?_)); exact rfl) | (refine Rdk.bw (cs := ?_) ?_ ?_; rotate_left; (repeat (first | exact InK.here | refine InK.there ?_)); first | assumption | exact rfl) | (refine Rdk.bn (cs := ?_) ?_ ?_; rotate_left; (repeat (first | exact InK.here | refine InK.there ?_)); exact rfl)))))));intro cv hv)|(refine Dw.call (v:=?_) rfl ?_ ?_ ?_;rotate_left;(first|assumption|exact between_);focus (repeat (first | exact trivial | refine And.intro (Or.inl rfl) ?_ | (refine And.intro (Or.inr ?_) ?_; (focus (first | exact Rdk.i1 | assumption | (refine Rdk.in ?_; first | assumption | exact rfl) | (refine Rdk.b1 (cs := ?_) ?_ ?_; rotate_left; (repeat (first | exact InK.here | refine InK.there ?_)); exact rfl) | (refine Rdk.bw (cs := ?_) ?_ ?_; rotate_left; (repeat (first | exact InK.here | refine InK.there ?_)); first | assumption | exact rfl) | (refine Rdk.bn (cs := ?_) ?_ ?_; rotate_left; (repeat (first | exact InK.here | refine InK.there ?_)); exact rfl)))))))|(refine zQ (g:=?_) ?_;intro cv hv)|(refine zR (w:=?_) ?_;intro cv hv)|refine zS (v:=?_) ?_|refine zT (v:=?_) ?_|refine Lp.round ?_|refine Cd.draw ?_|refine Dw.nil ?_|refine Dw.guardY rfl ?_|refine Dw.guardN rfl ?_|refine Dw.guardT rfl ?_|(refine Dw.p (v:=?_) ?_ ?_;rotate_left;exact zE)|(refine Dw.cmp (p:=?_) rfl rfl ?_ ?_;rotate_left;exact zC;intro cv hv)|(refine Dw.r (v:=?_) rfl rfl ?_ ?_ ?_;rotate_left;exact zN;exact zM)|refine Dw.a Mk.alloc fun _=>?_|refine Dw.a (Mk.lits rfl) fun _=>?_|(refine zY (g:=?_) ?_;intro cv hv)|refine zW (v:=?_) ?_|refine Cd.condT rfl ?_|refine Cd.condF rfl ?_|((first|refine Cd.cond rfl ?_ ?_|refine Rg.guardS rfl ?_ ?_|refine Dw.guardS rfl ?_ ?_)<;>(intro e;(try simp only [Bool.not_eq_true',Bool.not_eq_false'] at e);subst e;try contradiction))|refine Cd.skip ?_|refine Cd.blk ?_|refine Cd.ext ?_|refine Cd.ret ?_)
  all_goals (first|refine ⟨.inr rfl,_,.t rfl .nil,?_⟩|refine ⟨.inr rfl,_,.t rfl (.t rfl .nil),?_⟩|refine ⟨.inr rfl,_,.t rfl (.t rfl (.t rfl .nil)),?_⟩|refine ⟨.inr rfl,_,.nil,?_⟩|refine ⟨.inl rfl,_,.t rfl .nil,?_⟩|refine ⟨.inl rfl,_,.nil,?_⟩|refine ⟨.inr rfl,_,.cn rfl (by exact zN) .nil,?_⟩|refine ⟨.inr rfl,_,.cn rfl (by exact zN) (.t rfl .nil),?_⟩)
  all_goals (refine congrArg AV.bool ?_; simp only [capB]; simp_all)
structure Proto where
  name : List Nat
  params : Int
  regs : Int
  codeV : AV
  code : List Ins
  constsV : AV
  consts : List Val
  capsV : AV
  caps : List Cap
def protoR (p : Proto) : List AV := [.str p.name, .int .i64 p.params, .int .i64 p.regs, p.codeV, p.constsV, p.capsV]
structure OkP (p : Proto) : Prop where
  name : Txt p.name
  code : ASl 4 p.codeV (p.code.map insR)
  consts : ASl 3 p.constsV (p.consts.map valR)
  caps : ASl 2 p.capsV (p.caps.map capR)
  lcode : p.code.length ≤ 9223372036854775807
  lconsts : p.consts.length ≤ 9223372036854775807
  lcaps : p.caps.length ≤ 9223372036854775807
def headB (p : Proto) (top : Bool) : Bool := if top = true then isName p.name && decide (p.caps.length = 0) else decide (p.name = []) && (decide (p.caps.length ≤ 255) && p.caps.all capB)
def shapedB (p : Proto) : Bool := decide (0 ≤ p.params ∧ p.params ≤ 8) && decide (max 1 p.params ≤ p.regs ∧ p.regs ≤ 100) && (decide (p.consts.length ≤ 200) && p.consts.all constB) && (decide (p.code.length ≤ 8000) && p.code.all rightI)
def protoB (p : Proto) (top : Bool) : Bool := headB p top && shapedB p
theorem OkP.lens {p : Proto} (h : OkP p) : apure .e (.len false (.c p.codeV)) = some (.int .i64 (.ofNat p.code.length)) ∧ apure .e (.len false (.c p.constsV)) = some (.int .i64 (.ofNat p.consts.length)) ∧ apure .e (.len false (.c p.capsV)) = some (.int .i64 (.ofNat p.caps.length)) := by
  have h1 := h.code.len
  have h2 := h.consts.len
  have h3 := h.caps.len
  rw [List.length_map] at h1 h2 h3
  exact ⟨h1, h2, h3⟩
theorem headed23 {p : Proto} (h : OkP p) (top : Bool) : PT Try.prog false 48 [.agg (protoR p), .bool top] (.bool (headB p top)) := by
  refine PT.of (CT.enter mixed comp48 (Nat.le_of_ble_eq_true rfl) ?_)
  obtain ⟨l1, l2, l3⟩ := h.lens
  have hn := name17 h.name
  have he := every37 (m := 255) h.caps (fun _ => rfl) (fun x _ => cap38 x) h.lcaps
  cases top with
  | true =>
    repeat' (first|refine zA ?_|refine Cd.reg ?_|refine Rg.nil ?_|refine zF ?_|refine zG ?_|refine zH ?_|(refine Rg.p (v:=?_) ?_ ?_;rotate_left;exact zE)|(refine Rg.cmp (p:=?_) rfl rfl ?_ ?_;rotate_left;exact zC;intro cv hv)|(refine Rg.r (v:=?_) rfl rfl ?_ ?_;rotate_left;exact zN)|refine zL fun _=>?_|refine Rg.alloc fun _=>?_|refine Rg.a (Mk.lits rfl) fun _=>?_|refine zO (cs:=?_) (K':=?_) ?_|refine zP (cs:=?_) (K':=?_) ?_|(refine zQ (g:=?_) ?_;intro cv hv)|(refine zR (w:=?_) ?_;intro cv hv)|refine zS (v:=?_) ?_|refine zT (v:=?_) ?_|refine Lp.round ?_|refine Cd.draw ?_|refine Dw.nil ?_|refine Dw.guardY rfl ?_|refine Dw.guardN rfl ?_|refine Dw.guardT rfl ?_|(refine Dw.p (v:=?_) ?_ ?_;rotate_left;exact zE)|(refine Dw.cmp (p:=?_) rfl rfl ?_ ?_;rotate_left;exact zC;intro cv hv)|(refine Dw.r (v:=?_) rfl rfl ?_ ?_ ?_;rotate_left;exact zN;exact zM)|refine Dw.a Mk.alloc fun _=>?_|refine Dw.a (Mk.lits rfl) fun _=>?_|(refine zY (g:=?_) ?_;intro cv hv)|refine zW (v:=?_) ?_|refine Cd.condT rfl ?_|refine Cd.condF rfl ?_|((first|refine Cd.cond rfl ?_ ?_|refine Rg.guardS rfl ?_ ?_|refine Dw.guardS rfl ?_ ?_)<;>(intro e;(try simp only [Bool.not_eq_true',Bool.not_eq_false'] at e);subst e;try contradiction))|refine Cd.skip ?_|refine Cd.blk ?_|refine Cd.ext ?_|refine Cd.ret ?_)
    all_goals (first|refine ⟨.inr rfl,_,.t rfl .nil,?_⟩|refine ⟨.inr rfl,_,.t rfl (.t rfl .nil),?_⟩|refine ⟨.inr rfl,_,.t rfl (.t rfl (.t rfl .nil)),?_⟩|refine ⟨.inr rfl,_,.nil,?_⟩|refine ⟨.inl rfl,_,.t rfl .nil,?_⟩|refine ⟨.inl rfl,_,.nil,?_⟩|refine ⟨.inr rfl,_,.cn rfl (by exact zN) .nil,?_⟩|refine ⟨.inr rfl,_,.cn rfl (by exact zN) (.t rfl .nil),?_⟩)
    all_goals (clear he hn l1 l2 l3 h; (refine congrArg AV.bool ?_; simp only [headB, if_true, if_false, Bool.false_eq_true]; first | (simp_all only [Bool.and_true, Bool.true_and, Bool.and_false, Bool.false_and, Bool.or_true, Bool.or_false, Bool.true_or, Bool.false_or, Bool.not_true, Bool.not_false]; done) | (rw [Bool.eq_iff_iff]; simp_all; done) | (rw [Bool.eq_iff_iff]; simp_all; omega) | (simp; omega)))
  | false =>
    repeat' (first|refine zA ?_|refine Cd.reg ?_|refine Rg.nil ?_|refine zF ?_|refine zG ?_|refine zH ?_|(refine Rg.p (v:=?_) ?_ ?_;rotate_left;exact zE)|(refine Rg.cmp (p:=?_) rfl rfl ?_ ?_;rotate_left;exact zC;intro cv hv)|(refine Rg.r (v:=?_) rfl rfl ?_ ?_;rotate_left;exact zN)|refine zL fun _=>?_|refine Rg.alloc fun _=>?_|refine Rg.a (Mk.lits rfl) fun _=>?_|refine zO (cs:=?_) (K':=?_) ?_|refine zP (cs:=?_) (K':=?_) ?_|(refine zQ (g:=?_) ?_;intro cv hv)|(refine zR (w:=?_) ?_;intro cv hv)|refine zS (v:=?_) ?_|refine zT (v:=?_) ?_|refine Lp.round ?_|refine Cd.draw ?_|refine Dw.nil ?_|refine Dw.guardY rfl ?_|refine Dw.guardN rfl ?_|refine Dw.guardT rfl ?_|(refine Dw.p (v:=?_) ?_ ?_;rotate_left;exact zE)|(refine Dw.cmp (p:=?_) rfl rfl ?_ ?_;rotate_left;exact zC;intro cv hv)|(refine Dw.r (v:=?_) rfl rfl ?_ ?_ ?_;rotate_left;exact zN;exact zM)|refine Dw.a Mk.alloc fun _=>?_|refine Dw.a (Mk.lits rfl) fun _=>?_|(refine zY (g:=?_) ?_;intro cv hv)|refine zW (v:=?_) ?_|refine Cd.condT rfl ?_|refine Cd.condF rfl ?_|((first|refine Cd.cond rfl ?_ ?_|refine Rg.guardS rfl ?_ ?_|refine Dw.guardS rfl ?_ ?_)<;>(intro e;(try simp only [Bool.not_eq_true',Bool.not_eq_false'] at e);subst e;try contradiction))|refine Cd.skip ?_|refine Cd.blk ?_|refine Cd.ext ?_|refine Cd.ret ?_)
    all_goals (first|refine ⟨.inr rfl,_,.t rfl .nil,?_⟩|refine ⟨.inr rfl,_,.t rfl (.t rfl .nil),?_⟩|refine ⟨.inr rfl,_,.t rfl (.t rfl (.t rfl .nil)),?_⟩|refine ⟨.inr rfl,_,.nil,?_⟩|refine ⟨.inl rfl,_,.t rfl .nil,?_⟩|refine ⟨.inl rfl,_,.nil,?_⟩|refine ⟨.inr rfl,_,.cn rfl (by exact zN) .nil,?_⟩|refine ⟨.inr rfl,_,.cn rfl (by exact zN) (.t rfl .nil),?_⟩)
    all_goals (clear he hn l1 l2 l3 h; (refine congrArg AV.bool ?_; simp only [headB, if_true, if_false, Bool.false_eq_true]; first | (simp_all only [Bool.and_true, Bool.true_and, Bool.and_false, Bool.false_and, Bool.or_true, Bool.or_false, Bool.true_or, Bool.false_or, Bool.not_true, Bool.not_false]; done) | (rw [Bool.eq_iff_iff]; simp_all; done) | (rw [Bool.eq_iff_iff]; simp_all; omega) | (simp; omega)))
theorem amax2 {k j : IntKind} {a b : Int} : amax k a [.int j b] = some (.int k (max a b)) := by
  simp only [amax, ilt_dec]
  by_cases h : a < b
  · simp [h]; omega
  · simp [h]; omega
theorem amin2 {k j : IntKind} {a b : Int} : amin k a [.int j b] = some (.int k (min a b)) := by
  simp only [amin, ilt_dec]
  by_cases h : b < a
  · simp [h]; omega
  · simp [h]; omega
theorem shaped24 {p : Proto} (h : OkP p) : PT Try.prog false 49 [.agg (protoR p)] (.bool (shapedB p)) := by
  refine PT.of (CT.enter mixed comp49 (Nat.le_of_ble_eq_true rfl) ?_)
  have h1 := every39 (m := 200) h.consts (fun _ => rfl) (fun x _ => plain40 x) h.lconsts
  have h2 := every41 (m := 8000) h.code (fun _ => rfl) (fun x _ => right42 x) h.lcode
  have h3 : amax .i64 (.ofNat 1) [.int .i64 p.params] = some (.int .i64 (max 1 p.params)) := amax2
  repeat' (first|refine zA ?_|refine Cd.reg ?_|refine Rg.nil ?_|refine zF ?_|refine zG ?_|refine zH ?_|(refine Rg.p (v:=?_) ?_ ?_;rotate_left;exact zE)|(refine Rg.cmp (p:=?_) rfl rfl ?_ ?_;rotate_left;exact zC;intro cv hv)|(refine Rg.r (v:=?_) rfl rfl ?_ ?_;rotate_left;exact zN)|refine zL fun _=>?_|refine Rg.alloc fun _=>?_|refine Rg.a (Mk.lits rfl) fun _=>?_|refine zO (cs:=?_) (K':=?_) ?_|refine zP (cs:=?_) (K':=?_) ?_|((first|refine Rg.callB (g:=?_) rfl ?_ ?_|refine Rg.callvB (w:=?_) rfl rfl ?_ ?_);rotate_left;(first|assumption|exact between_);intro cv hv)|((first|refine Rg.callv (v:=?_) rfl rfl ?_ ?_|refine Rg.call (v:=?_) rfl ?_ ?_);rotate_left;(first|assumption|exact between_))|(refine Dw.callB (g:=?_) rfl ?_ ?_ ?_;rotate_left;(first|assumption|exact between_);(focus (repeat (first | exact trivial | refine And.intro (Or.inl rfl) ?_ | (refine And.intro (Or.inr ?_) ?_; (focus (first | exact Rdk.i1 | assumption | (refine Rdk.in ?_; first | assumption | exact rfl) | (refine Rdk.b1 (cs := ?_) ?_ ?_; rotate_left; (repeat (first | exact InK.here | refine InK.there ?_)); exact rfl) | (refine Rdk.bw (cs := ?_) ?_ ?_; rotate_left; (repeat (first | exact InK.here | refine InK.there ?_)); first | assumption | exact rfl) | (refine Rdk.bn (cs := ?_) ?_ ?_; rotate_left; (repeat (first | exact InK.here | refine InK.there ?_)); exact rfl)))))));intro cv hv)|(refine Dw.call (v:=?_) rfl ?_ ?_ ?_;rotate_left;(first|assumption|exact between_);focus (repeat (first | exact trivial | refine And.intro (Or.inl rfl) ?_ | (refine And.intro (Or.inr ?_) ?_; (focus (first | exact Rdk.i1 | assumption | (refine Rdk.in ?_; first | assumption | exact rfl) | (refine Rdk.b1 (cs := ?_) ?_ ?_; rotate_left; (repeat (first | exact InK.here | refine InK.there ?_)); exact rfl) | (refine Rdk.bw (cs := ?_) ?_ ?_; rotate_left; (repeat (first | exact InK.here | refine InK.there ?_)); first | assumption | exact rfl) | (refine Rdk.bn (cs := ?_) ?_ ?_; rotate_left; (repeat (first | exact InK.here | refine InK.there ?_)); exact rfl)))))))|(refine zQ (g:=?_) ?_;intro cv hv)|(refine zR (w:=?_) ?_;intro cv hv)|refine zS (v:=?_) ?_|refine zT (v:=?_) ?_|refine Lp.round ?_|refine Cd.draw ?_|refine Dw.nil ?_|refine Dw.guardY rfl ?_|refine Dw.guardN rfl ?_|refine Dw.guardT rfl ?_|(refine Dw.p (v:=?_) ?_ ?_;rotate_left;exact zE)|(refine Dw.cmp (p:=?_) rfl rfl ?_ ?_;rotate_left;exact zC;intro cv hv)|(refine Dw.r (v:=?_) rfl rfl ?_ ?_ ?_;rotate_left;exact zN;exact zM)|refine Dw.a Mk.alloc fun _=>?_|refine Dw.a (Mk.lits rfl) fun _=>?_|(refine zY (g:=?_) ?_;intro cv hv)|refine zW (v:=?_) ?_|refine Cd.condT rfl ?_|refine Cd.condF rfl ?_|((first|refine Cd.cond rfl ?_ ?_|refine Rg.guardS rfl ?_ ?_|refine Dw.guardS rfl ?_ ?_)<;>(intro e;(try simp only [Bool.not_eq_true',Bool.not_eq_false'] at e);subst e;try contradiction))|refine Cd.skip ?_|refine Cd.blk ?_|refine Cd.ext ?_|refine Cd.ret ?_)
  all_goals (first|refine ⟨.inr rfl,_,.t rfl .nil,?_⟩|refine ⟨.inr rfl,_,.t rfl (.t rfl .nil),?_⟩|refine ⟨.inr rfl,_,.t rfl (.t rfl (.t rfl .nil)),?_⟩|refine ⟨.inr rfl,_,.nil,?_⟩|refine ⟨.inl rfl,_,.t rfl .nil,?_⟩|refine ⟨.inl rfl,_,.nil,?_⟩|refine ⟨.inr rfl,_,.cn rfl (by exact zN) .nil,?_⟩|refine ⟨.inr rfl,_,.cn rfl (by exact zN) (.t rfl .nil),?_⟩)
  all_goals (clear h1 h2 h3 h; (refine congrArg AV.bool ?_; simp only [shapedB]; first | (simp_all only [Bool.and_true, Bool.true_and, Bool.and_false, Bool.false_and, Bool.or_true, Bool.or_false, Bool.true_or, Bool.false_or, Bool.not_true, Bool.not_false]; done) | (rw [Bool.eq_iff_iff]; simp_all; done) | (rw [Bool.eq_iff_iff]; simp_all; omega) | (simp; omega)))
end Go.Proofs.Ytlimjjilakldgaa

namespace Go.Proofs.Ytlimjjilakldgaa
open Go Go.Abs
structure Unt where
  name : List Nat
  version : Int
  usesV : AV
  uses : List Use
  funs : Int
  protosV : AV
  protos : List Proto
def unitR (u : Unt) : List AV := [.str u.name, .int .i64 u.version, u.usesV, .int .i64 u.funs, u.protosV]
structure OkU (u : Unt) : Prop where
  name : Txt u.name
  uses : ASl 3 u.usesV (u.uses.map useR)
  protos : ASl 6 u.protosV (u.protos.map protoR)
  luses : u.uses.length ≤ 9223372036854775807
  lprotos : u.protos.length ≤ 9223372036854775807
  um : ∀ x, x ∈ u.uses → Txt x.m ∧ Txt x.n
  ps : ∀ p, p ∈ u.protos → OkP p
theorem OkU.lens {u : Unt} (h : OkU u) : apure .e (.len false (.c u.usesV)) = some (.int .i64 (.ofNat u.uses.length)) ∧ apure .e (.len false (.c u.protosV)) = some (.int .i64 (.ofNat u.protos.length)) := by
  have h1 := h.uses.len
  have h2 := h.protos.len
  rw [List.length_map] at h1 h2
  exact ⟨h1, h2⟩
abbrev boxI (b i : Nat) : Chk := [(b, .cells [.int .i64 (.ofNat i)] 0 0 false)]
abbrev boxU (b : Nat) (u : Unt) : Chk := [(b, .cells (unitR u) 0 0 false)]
theorem right22 {p : Proto} {u : Unt} {bi bu i : Nat} (h : OkP p) (hi : i < 9223372036854775807) :
    CT Try.prog false 47 [.agg (protoR p), .ptr bi 0 0 1, .ptr bu 0 0 5] [boxI bi i, boxU bu u] (fun w K' => w = .bool (protoB p (decide (((i + 1 : Nat) : Int) ≤ u.funs))) ∧ K' = [boxI bi (i + 1), boxU bu u]) := by
  have key : CT Try.prog false 47 [.agg (protoR p), .ptr bi 0 0 1, .ptr bu 0 0 5] [boxI bi i, boxU bu u] (fun w K' => w = .bool (protoB p (decide (((i + 1 : Nat) : Int) ≤ u.funs))) ∧ ∃ c, K' = [c, boxI bi (i + 1), boxU bu u]) := by
    refine CT.enter mixed comp47 (Nat.le_of_ble_eq_true rfl) ?_
    have hs := shaped24 h
    have hh := headed23 h
    repeat' (first|refine zA ?_|refine Cd.reg ?_|refine Rg.nil ?_|refine zF ?_|refine zG ?_|refine zH ?_|(refine Rg.p (v:=?_) ?_ ?_;rotate_left;exact zE)|(refine Rg.cmp (p:=?_) rfl rfl ?_ ?_;rotate_left;exact zC;intro cv hv)|(refine Rg.r (v:=?_) rfl rfl ?_ ?_;rotate_left;exact zN)|refine zL fun _=>?_|refine Rg.alloc fun _=>?_|refine Rg.a (Mk.lits rfl) fun _=>?_|refine zO (cs:=?_) (K':=?_) ?_|refine zP (cs:=?_) (K':=?_) ?_|((first|refine Rg.callB (g:=?_) rfl ?_ ?_|refine Rg.callvB (w:=?_) rfl rfl ?_ ?_);rotate_left;(first|assumption|exact hh _);intro cv hv)|((first|refine Rg.callv (v:=?_) rfl rfl ?_ ?_|refine Rg.call (v:=?_) rfl ?_ ?_);rotate_left;(first|assumption|exact hh _))|(refine Dw.callB (g:=?_) rfl ?_ ?_ ?_;rotate_left;(first|assumption|exact hh _);(focus (repeat (first | exact trivial | refine And.intro (Or.inl rfl) ?_ | (refine And.intro (Or.inr ?_) ?_; (focus (first | exact Rdk.i1 | assumption | (refine Rdk.in ?_; first | assumption | exact rfl) | (refine Rdk.b1 (cs := ?_) ?_ ?_; rotate_left; (repeat (first | exact InK.here | refine InK.there ?_)); exact rfl) | (refine Rdk.bw (cs := ?_) ?_ ?_; rotate_left; (repeat (first | exact InK.here | refine InK.there ?_)); first | assumption | exact rfl) | (refine Rdk.bn (cs := ?_) ?_ ?_; rotate_left; (repeat (first | exact InK.here | refine InK.there ?_)); exact rfl)))))));intro cv hv)|(refine Dw.call (v:=?_) rfl ?_ ?_ ?_;rotate_left;(first|assumption|exact hh _);focus (repeat (first | exact trivial | refine And.intro (Or.inl rfl) ?_ | (refine And.intro (Or.inr ?_) ?_; (focus (first | exact Rdk.i1 | assumption | (refine Rdk.in ?_; first | assumption | exact rfl) | (refine Rdk.b1 (cs := ?_) ?_ ?_; rotate_left; (repeat (first | exact InK.here | refine InK.there ?_)); exact rfl) | (refine Rdk.bw (cs := ?_) ?_ ?_; rotate_left; (repeat (first | exact InK.here | refine InK.there ?_)); first | assumption | exact rfl) | (refine Rdk.bn (cs := ?_) ?_ ?_; rotate_left; (repeat (first | exact InK.here | refine InK.there ?_)); exact rfl)))))))|(refine zQ (g:=?_) ?_;intro cv hv)|(refine zR (w:=?_) ?_;intro cv hv)|refine zS (v:=?_) ?_|refine zT (v:=?_) ?_|refine Lp.round ?_|refine Cd.draw ?_|refine Dw.nil ?_|refine Dw.guardY rfl ?_|refine Dw.guardN rfl ?_|refine Dw.guardT rfl ?_|(refine Dw.p (v:=?_) ?_ ?_;rotate_left;exact zE)|(refine Dw.cmp (p:=?_) rfl rfl ?_ ?_;rotate_left;exact zC;intro cv hv)|(refine Dw.r (v:=?_) rfl rfl ?_ ?_ ?_;rotate_left;exact zN;exact zM)|refine Dw.a Mk.alloc fun _=>?_|refine Dw.a (Mk.lits rfl) fun _=>?_|(refine zY (g:=?_) ?_;intro cv hv)|refine zW (v:=?_) ?_|refine Cd.condT rfl ?_|refine Cd.condF rfl ?_|((first|refine Cd.cond rfl ?_ ?_|refine Rg.guardS rfl ?_ ?_|refine Dw.guardS rfl ?_ ?_)<;>(intro e;(try simp only [Bool.not_eq_true',Bool.not_eq_false'] at e);subst e;try contradiction))|refine Cd.skip ?_|refine Cd.blk ?_|refine Cd.ext ?_|refine Cd.ret ?_)
    all_goals (first|refine ⟨.inr rfl,_,.t rfl .nil,?_⟩|refine ⟨.inr rfl,_,.t rfl (.t rfl .nil),?_⟩|refine ⟨.inr rfl,_,.t rfl (.t rfl (.t rfl .nil)),?_⟩|refine ⟨.inr rfl,_,.nil,?_⟩|refine ⟨.inl rfl,_,.t rfl .nil,?_⟩|refine ⟨.inl rfl,_,.nil,?_⟩|refine ⟨.inr rfl,_,.cn rfl (by exact zN) .nil,?_⟩|refine ⟨.inr rfl,_,.cn rfl (by exact zN) (.t rfl .nil),?_⟩)
    all_goals (refine ⟨?_, _, rfl⟩)
    · rename_i _ c1 h1 h2
      rw [protoB, show decide (((i + 1 : Nat) : Int) ≤ u.funs) = c1 by rw [Bool.eq_iff_iff, h1]; simp, h2, hv]; rfl
    · rename_i _ h1
      rw [protoB, show decide (((i + 1 : Nat) : Int) ≤ u.funs) = cv by rw [Bool.eq_iff_iff, h1]; simp, hv]; rfl
  refine key.dropR ?_
  rintro v K' ⟨rfl, c, rfl⟩
  exact ⟨_, _, .cons (.there .here) (.cons (.there .here) .nil), rfl, rfl⟩
/-- Functions, the first ones as functions of the module. -/
def protosB (funs : Int) : Nat → List Proto → Bool
  | _, [] => true
  | i, p :: r => protoB p (decide (((i + 1 : Nat) : Int) ≤ funs)) && protosB funs (i + 1) r
theorem protosB_drop {funs : Int} {l : List Proto} {i : Nat} {p : Proto} (h : l[i]? = some p) (j : Nat) : protosB funs j (l.drop i) = (protoB p (decide (((j + 1 : Nat) : Int) ≤ funs)) && protosB funs (j + 1) (l.drop (i + 1))) := by
  obtain ⟨h1, h2⟩ := List.getElem?_eq_some_iff.1 h
  rw [List.drop_eq_getElem_cons h1, h2]; rfl
theorem every21_loop {u : Unt} (hu : OkU u) {bi bu : Nat} {Q : AX → SL → Mem → Prop} (hret : ∀ l' K, protosB u.funs 0 u.protos = false → lkS l' 6 = some (.bool false) → Q .ret l' K) (hend : ∀ l' K, protosB u.funs 0 u.protos = true → Q (.ext 0) l' K) :
    ∀ (k i : Nat), u.protos.length < i + k → i ≤ u.protos.length → protosB u.funs i (u.protos.drop i) = protosB u.funs 0 u.protos → Lp Try.prog false b46_0 k [(2, .fn 47 [] [.ptr bi 0 0 1, .ptr bu 0 0 5]), (13, u.protosV), (14, .int .i64 (.ofNat u.protos.length)), (15, .int .i64 (.ofNat i))] [boxI bi i, boxU bu u] Q := by
  have hl := hu.lprotos
  intro k
  induction k with
  | zero => intro i h1 h2; omega
  | succ k ih =>
    intro i h1 h2 h3
    refine Lp.round ?_
    by_cases hi : i < u.protos.length
    · obtain ⟨x, hx⟩ : ∃ x, u.protos[i]? = some x := ⟨_, List.getElem?_eq_getElem hi⟩
      have q1 := hu.protos.iadr (i := i) (r := protoR x) (k := .i64) (by rw [List.getElem?_map, hx]; rfl)
      have hx2 := hu.ps x (List.mem_of_getElem? hx)
      rw [protosB_drop hx] at h3
      repeat (first|refine zA ?_|refine Cd.reg ?_|refine Rg.nil ?_|refine zF ?_|refine zG ?_|refine zH ?_|(refine Rg.p (v:=?_) ?_ ?_;rotate_left;exact zE)|(refine Rg.cmp (p:=?_) rfl rfl ?_ ?_;rotate_left;exact zC;intro cv hv)|(refine Rg.r (v:=?_) rfl rfl ?_ ?_;rotate_left;exact zN)|refine zL fun _=>?_|refine Rg.alloc fun _=>?_|refine Rg.a (Mk.lits rfl) fun _=>?_|refine zO (cs:=?_) (K':=?_) ?_|refine zP (cs:=?_) (K':=?_) ?_|(refine zQ (g:=?_) ?_;intro cv hv)|(refine zR (w:=?_) ?_;intro cv hv)|refine zS (v:=?_) ?_|refine zT (v:=?_) ?_|refine Lp.round ?_|refine Cd.draw ?_|refine Dw.nil ?_|refine Dw.guardY rfl ?_|refine Dw.guardN rfl ?_|refine Dw.guardT rfl ?_|(refine Dw.p (v:=?_) ?_ ?_;rotate_left;exact zE)|(refine Dw.cmp (p:=?_) rfl rfl ?_ ?_;rotate_left;exact zC;intro cv hv)|(refine Dw.r (v:=?_) rfl rfl ?_ ?_ ?_;rotate_left;exact zN;exact zM)|refine Dw.a Mk.alloc fun _=>?_|refine Dw.a (Mk.lits rfl) fun _=>?_|(refine zY (g:=?_) ?_;intro cv hv)|refine zW (v:=?_) ?_|refine Cd.condT rfl ?_|refine Cd.condF rfl ?_|((first|refine Cd.cond rfl ?_ ?_|refine Rg.guardS rfl ?_ ?_|refine Dw.guardS rfl ?_ ?_)<;>(intro e;(try simp only [Bool.not_eq_true',Bool.not_eq_false'] at e);subst e;try contradiction))|refine Cd.skip ?_|refine Cd.blk ?_|refine Cd.ext ?_|refine Cd.ret ?_)
      have hc := right22 (u := u) (bi := bi) (bu := bu) (i := i) hx2 (by omega)
      refine Rg.callvM (first := []) (vs := [.agg (protoR x)]) (cap := [.ptr bi 0 0 1, .ptr bu 0 0 5]) (m := [boxI bi i, boxU bu u]) (r := ?_) ?_ ?_ hc ?_ ?_
      rotate_left
      exact rfl
      exact rfl
      (repeat (first | exact Sel.nil | (apply Sel.cons; (repeat (first | exact Take.here | apply Take.there)))))
      rintro v K' ⟨rfl, rfl⟩
      generalize hg : protoB x (decide (((i + 1 : Nat) : Int) ≤ u.funs)) = cv at h3 ⊢
      repeat' (first|refine zA ?_|refine Cd.reg ?_|refine Rg.nil ?_|refine zF ?_|refine zG ?_|refine zH ?_|(refine Rg.p (v:=?_) ?_ ?_;rotate_left;exact zE)|(refine Rg.cmp (p:=?_) rfl rfl ?_ ?_;rotate_left;exact zC;intro cv hv)|(refine Rg.r (v:=?_) rfl rfl ?_ ?_;rotate_left;exact zN)|refine zL fun _=>?_|refine Rg.alloc fun _=>?_|refine Rg.a (Mk.lits rfl) fun _=>?_|refine zO (cs:=?_) (K':=?_) ?_|refine zP (cs:=?_) (K':=?_) ?_|(refine zQ (g:=?_) ?_;intro cv hv)|(refine zR (w:=?_) ?_;intro cv hv)|refine zS (v:=?_) ?_|refine zT (v:=?_) ?_|refine Lp.round ?_|refine Cd.draw ?_|refine Dw.nil ?_|refine Dw.guardY rfl ?_|refine Dw.guardN rfl ?_|refine Dw.guardT rfl ?_|(refine Dw.p (v:=?_) ?_ ?_;rotate_left;exact zE)|(refine Dw.cmp (p:=?_) rfl rfl ?_ ?_;rotate_left;exact zC;intro cv hv)|(refine Dw.r (v:=?_) rfl rfl ?_ ?_ ?_;rotate_left;exact zN;exact zM)|refine Dw.a Mk.alloc fun _=>?_|refine Dw.a (Mk.lits rfl) fun _=>?_|(refine zY (g:=?_) ?_;intro cv hv)|refine zW (v:=?_) ?_|refine Cd.condT rfl ?_|refine Cd.condF rfl ?_|((first|refine Cd.cond rfl ?_ ?_|refine Rg.guardS rfl ?_ ?_|refine Dw.guardS rfl ?_ ?_)<;>(intro e;(try simp only [Bool.not_eq_true',Bool.not_eq_false'] at e);subst e;try contradiction))|refine Cd.skip ?_|refine Cd.blk ?_|refine Cd.ext ?_|refine Cd.ret ?_)
      · exact hret _ _ (by rw [← h3]; rfl) rfl
      · refine Lp.drop (m := [boxI bi (i + 1), boxU bu u]) (.cons .here (.cons .here .nil)) (Lp.weak ?hw (ih (i + 1) (by omega) (by omega) ?_))
        case hw => exact ⟨rfl, rfl, rfl, rfl, trivial⟩
        rw [← h3]; rfl
    · repeat' (first|refine zA ?_|refine Cd.reg ?_|refine Rg.nil ?_|refine zF ?_|refine zG ?_|refine zH ?_|(refine Rg.p (v:=?_) ?_ ?_;rotate_left;exact zE)|(refine Rg.cmp (p:=?_) rfl rfl ?_ ?_;rotate_left;exact zC;intro cv hv)|(refine Rg.r (v:=?_) rfl rfl ?_ ?_;rotate_left;exact zN)|refine zL fun _=>?_|refine Rg.alloc fun _=>?_|refine Rg.a (Mk.lits rfl) fun _=>?_|refine zO (cs:=?_) (K':=?_) ?_|refine zP (cs:=?_) (K':=?_) ?_|(refine zQ (g:=?_) ?_;intro cv hv)|(refine zR (w:=?_) ?_;intro cv hv)|refine zS (v:=?_) ?_|refine zT (v:=?_) ?_|refine Lp.round ?_|refine Cd.draw ?_|refine Dw.nil ?_|refine Dw.guardY rfl ?_|refine Dw.guardN rfl ?_|refine Dw.guardT rfl ?_|(refine Dw.p (v:=?_) ?_ ?_;rotate_left;exact zE)|(refine Dw.cmp (p:=?_) rfl rfl ?_ ?_;rotate_left;exact zC;intro cv hv)|(refine Dw.r (v:=?_) rfl rfl ?_ ?_ ?_;rotate_left;exact zN;exact zM)|refine Dw.a Mk.alloc fun _=>?_|refine Dw.a (Mk.lits rfl) fun _=>?_|(refine zY (g:=?_) ?_;intro cv hv)|refine zW (v:=?_) ?_|refine Cd.condT rfl ?_|refine Cd.condF rfl ?_|((first|refine Cd.cond rfl ?_ ?_|refine Rg.guardS rfl ?_ ?_|refine Dw.guardS rfl ?_ ?_)<;>(intro e;(try simp only [Bool.not_eq_true',Bool.not_eq_false'] at e);subst e;try contradiction))|refine Cd.skip ?_|refine Cd.blk ?_|refine Cd.ext ?_|refine Cd.ret ?_)
      refine hend _ _ ?_
      rw [← h3, List.drop_of_length_le (by omega)]; rfl
theorem every21 {u : Unt} (hu : OkU u) {bi bu : Nat} : CT Try.prog false 46 [u.protosV, .int .i64 (.ofNat 64), .fn 47 [] [.ptr bi 0 0 1, .ptr bu 0 0 5]] [boxI bi 0, boxU bu u] (fun w _ => w = .bool (decide (u.protos.length ≤ 64) && protosB u.funs 0 u.protos)) := by
  refine CT.enter mixed comp46 (Nat.le_of_ble_eq_true rfl) ?_
  obtain ⟨_, q1⟩ := hu.lens
  by_cases hm : u.protos.length ≤ 64
  · repeat' (first|refine zA ?_|refine Cd.reg ?_|refine Rg.nil ?_|refine zF ?_|refine zG ?_|refine zH ?_|(refine Rg.p (v:=?_) ?_ ?_;rotate_left;exact zE)|(refine Rg.cmp (p:=?_) rfl rfl ?_ ?_;rotate_left;exact zC;intro cv hv)|(refine Rg.r (v:=?_) rfl rfl ?_ ?_;rotate_left;exact zN)|refine zL fun _=>?_|refine Rg.alloc fun _=>?_|refine Rg.a (Mk.lits rfl) fun _=>?_|refine zO (cs:=?_) (K':=?_) ?_|refine zP (cs:=?_) (K':=?_) ?_|(refine zQ (g:=?_) ?_;intro cv hv)|(refine zR (w:=?_) ?_;intro cv hv)|refine zS (v:=?_) ?_|refine zT (v:=?_) ?_|refine Lp.round ?_|refine Cd.draw ?_|refine Dw.nil ?_|refine Dw.guardY rfl ?_|refine Dw.guardN rfl ?_|refine Dw.guardT rfl ?_|(refine Dw.p (v:=?_) ?_ ?_;rotate_left;exact zE)|(refine Dw.cmp (p:=?_) rfl rfl ?_ ?_;rotate_left;exact zC;intro cv hv)|(refine Dw.r (v:=?_) rfl rfl ?_ ?_ ?_;rotate_left;exact zN;exact zM)|refine Dw.a Mk.alloc fun _=>?_|refine Dw.a (Mk.lits rfl) fun _=>?_|(refine zY (g:=?_) ?_;intro cv hv)|refine zW (v:=?_) ?_|refine Cd.condT rfl ?_|refine Cd.condF rfl ?_|((first|refine Cd.cond rfl ?_ ?_|refine Rg.guardS rfl ?_ ?_|refine Dw.guardS rfl ?_ ?_)<;>(intro e;(try simp only [Bool.not_eq_true',Bool.not_eq_false'] at e);subst e;try contradiction))|refine Cd.skip ?_|refine Cd.blk ?_|refine Cd.ext ?_|refine Cd.ret ?_)
    refine Cd.loop (k := u.protos.length + 1) (Lp.weak ?hw (every21_loop hu ?_ ?_ (u.protos.length + 1) 0 (by omega) (by omega) rfl))
    case hw => exact ⟨rfl, rfl, rfl, rfl, trivial⟩
    · intro l' K h1 h2
      exact ⟨.inr rfl, _, .t h2 .nil, by rw [h1, Bool.and_false]; rfl⟩
    · intro l' K h1
      show Cd _ _ _ _ _ _
      refine Cd.weak (l2 := []) trivial ?_
      repeat' (first|refine zA ?_|refine Cd.reg ?_|refine Rg.nil ?_|refine zF ?_|refine zG ?_|refine zH ?_|(refine Rg.p (v:=?_) ?_ ?_;rotate_left;exact zE)|(refine Rg.cmp (p:=?_) rfl rfl ?_ ?_;rotate_left;exact zC;intro cv hv)|(refine Rg.r (v:=?_) rfl rfl ?_ ?_;rotate_left;exact zN)|refine zL fun _=>?_|refine Rg.alloc fun _=>?_|refine Rg.a (Mk.lits rfl) fun _=>?_|refine zO (cs:=?_) (K':=?_) ?_|refine zP (cs:=?_) (K':=?_) ?_|(refine zQ (g:=?_) ?_;intro cv hv)|(refine zR (w:=?_) ?_;intro cv hv)|refine zS (v:=?_) ?_|refine zT (v:=?_) ?_|refine Lp.round ?_|refine Cd.draw ?_|refine Dw.nil ?_|refine Dw.guardY rfl ?_|refine Dw.guardN rfl ?_|refine Dw.guardT rfl ?_|(refine Dw.p (v:=?_) ?_ ?_;rotate_left;exact zE)|(refine Dw.cmp (p:=?_) rfl rfl ?_ ?_;rotate_left;exact zC;intro cv hv)|(refine Dw.r (v:=?_) rfl rfl ?_ ?_ ?_;rotate_left;exact zN;exact zM)|refine Dw.a Mk.alloc fun _=>?_|refine Dw.a (Mk.lits rfl) fun _=>?_|(refine zY (g:=?_) ?_;intro cv hv)|refine zW (v:=?_) ?_|refine Cd.condT rfl ?_|refine Cd.condF rfl ?_|((first|refine Cd.cond rfl ?_ ?_|refine Rg.guardS rfl ?_ ?_|refine Dw.guardS rfl ?_ ?_)<;>(intro e;(try simp only [Bool.not_eq_true',Bool.not_eq_false'] at e);subst e;try contradiction))|refine Cd.skip ?_|refine Cd.blk ?_|refine Cd.ext ?_|refine Cd.ret ?_)
      (first|refine ⟨.inr rfl,_,.t rfl .nil,?_⟩|refine ⟨.inr rfl,_,.t rfl (.t rfl .nil),?_⟩|refine ⟨.inr rfl,_,.t rfl (.t rfl (.t rfl .nil)),?_⟩|refine ⟨.inr rfl,_,.nil,?_⟩|refine ⟨.inl rfl,_,.t rfl .nil,?_⟩|refine ⟨.inl rfl,_,.nil,?_⟩|refine ⟨.inr rfl,_,.cn rfl (by exact zN) .nil,?_⟩|refine ⟨.inr rfl,_,.cn rfl (by exact zN) (.t rfl .nil),?_⟩)
      rw [h1]; simp [hm, packL]
  · repeat' (first|refine zA ?_|refine Cd.reg ?_|refine Rg.nil ?_|refine zF ?_|refine zG ?_|refine zH ?_|(refine Rg.p (v:=?_) ?_ ?_;rotate_left;exact zE)|(refine Rg.cmp (p:=?_) rfl rfl ?_ ?_;rotate_left;exact zC;intro cv hv)|(refine Rg.r (v:=?_) rfl rfl ?_ ?_;rotate_left;exact zN)|refine zL fun _=>?_|refine Rg.alloc fun _=>?_|refine Rg.a (Mk.lits rfl) fun _=>?_|refine zO (cs:=?_) (K':=?_) ?_|refine zP (cs:=?_) (K':=?_) ?_|(refine zQ (g:=?_) ?_;intro cv hv)|(refine zR (w:=?_) ?_;intro cv hv)|refine zS (v:=?_) ?_|refine zT (v:=?_) ?_|refine Lp.round ?_|refine Cd.draw ?_|refine Dw.nil ?_|refine Dw.guardY rfl ?_|refine Dw.guardN rfl ?_|refine Dw.guardT rfl ?_|(refine Dw.p (v:=?_) ?_ ?_;rotate_left;exact zE)|(refine Dw.cmp (p:=?_) rfl rfl ?_ ?_;rotate_left;exact zC;intro cv hv)|(refine Dw.r (v:=?_) rfl rfl ?_ ?_ ?_;rotate_left;exact zN;exact zM)|refine Dw.a Mk.alloc fun _=>?_|refine Dw.a (Mk.lits rfl) fun _=>?_|(refine zY (g:=?_) ?_;intro cv hv)|refine zW (v:=?_) ?_|refine Cd.condT rfl ?_|refine Cd.condF rfl ?_|((first|refine Cd.cond rfl ?_ ?_|refine Rg.guardS rfl ?_ ?_|refine Dw.guardS rfl ?_ ?_)<;>(intro e;(try simp only [Bool.not_eq_true',Bool.not_eq_false'] at e);subst e;try contradiction))|refine Cd.skip ?_|refine Cd.blk ?_|refine Cd.ext ?_|refine Cd.ret ?_)
    (first|refine ⟨.inr rfl,_,.t rfl .nil,?_⟩|refine ⟨.inr rfl,_,.t rfl (.t rfl .nil),?_⟩|refine ⟨.inr rfl,_,.t rfl (.t rfl (.t rfl .nil)),?_⟩|refine ⟨.inr rfl,_,.nil,?_⟩|refine ⟨.inl rfl,_,.t rfl .nil,?_⟩|refine ⟨.inl rfl,_,.nil,?_⟩|refine ⟨.inr rfl,_,.cn rfl (by exact zN) .nil,?_⟩|refine ⟨.inr rfl,_,.cn rfl (by exact zN) (.t rfl .nil),?_⟩)
    simp [hm, packL]
/-- A unit that can be. -/
def unitB (u : Unt) : Bool := isName u.name && decide (1 ≤ u.version ∧ u.version ≤ 2147483647) && decide (0 ≤ u.funs ∧ u.funs ≤ min 32 (u.protos.length : Int)) && (decide (u.uses.length ≤ 16) && u.uses.all useB) && (decide (u.protos.length ≤ 64) && protosB u.funs 0 u.protos)
theorem right11 {u : Unt} (hu : OkU u) : PT Try.prog false 33 [.agg (unitR u)] (.bool (unitB u)) := by
  refine PT.of (CT.enter mixed comp33 (Nat.le_of_ble_eq_true rfl) ?_)
  obtain ⟨l1, l2⟩ := hu.lens
  have hn := name17 hu.name
  have he := every19 (m := 16) hu.uses (fun _ => rfl) (fun x hx => used20 x (hu.um x hx).1 (hu.um x hx).2) hu.luses
  have h3 : amin .i64 (.ofNat 32) [.int .i64 (.ofNat u.protos.length)] = some (.int .i64 (min 32 (u.protos.length : Int))) := amin2
  repeat' (first|refine zA ?_|refine Cd.reg ?_|refine Rg.nil ?_|refine zF ?_|refine zG ?_|refine zH ?_|(refine Rg.p (v:=?_) ?_ ?_;rotate_left;exact zE)|(refine Rg.cmp (p:=?_) rfl rfl ?_ ?_;rotate_left;exact zC;intro cv hv)|(refine Rg.r (v:=?_) rfl rfl ?_ ?_;rotate_left;exact zN)|refine zL fun _=>?_|refine Rg.alloc fun _=>?_|refine Rg.a (Mk.lits rfl) fun _=>?_|refine zO (cs:=?_) (K':=?_) ?_|refine zP (cs:=?_) (K':=?_) ?_|((first|refine Rg.callB (g:=?_) rfl ?_ ?_|refine Rg.callvB (w:=?_) rfl rfl ?_ ?_);rotate_left;(first|assumption|exact between_);intro cv hv)|((first|refine Rg.callv (v:=?_) rfl rfl ?_ ?_|refine Rg.call (v:=?_) rfl ?_ ?_);rotate_left;(first|assumption|exact between_))|(refine Dw.callB (g:=?_) rfl ?_ ?_ ?_;rotate_left;(first|assumption|exact between_);(focus (repeat (first | exact trivial | refine And.intro (Or.inl rfl) ?_ | (refine And.intro (Or.inr ?_) ?_; (focus (first | exact Rdk.i1 | assumption | (refine Rdk.in ?_; first | assumption | exact rfl) | (refine Rdk.b1 (cs := ?_) ?_ ?_; rotate_left; (repeat (first | exact InK.here | refine InK.there ?_)); exact rfl) | (refine Rdk.bw (cs := ?_) ?_ ?_; rotate_left; (repeat (first | exact InK.here | refine InK.there ?_)); first | assumption | exact rfl) | (refine Rdk.bn (cs := ?_) ?_ ?_; rotate_left; (repeat (first | exact InK.here | refine InK.there ?_)); exact rfl)))))));intro cv hv)|(refine Dw.call (v:=?_) rfl ?_ ?_ ?_;rotate_left;(first|assumption|exact between_);focus (repeat (first | exact trivial | refine And.intro (Or.inl rfl) ?_ | (refine And.intro (Or.inr ?_) ?_; (focus (first | exact Rdk.i1 | assumption | (refine Rdk.in ?_; first | assumption | exact rfl) | (refine Rdk.b1 (cs := ?_) ?_ ?_; rotate_left; (repeat (first | exact InK.here | refine InK.there ?_)); exact rfl) | (refine Rdk.bw (cs := ?_) ?_ ?_; rotate_left; (repeat (first | exact InK.here | refine InK.there ?_)); first | assumption | exact rfl) | (refine Rdk.bn (cs := ?_) ?_ ?_; rotate_left; (repeat (first | exact InK.here | refine InK.there ?_)); exact rfl)))))))|(refine zQ (g:=?_) ?_;intro cv hv)|(refine zR (w:=?_) ?_;intro cv hv)|refine zS (v:=?_) ?_|refine zT (v:=?_) ?_|refine Lp.round ?_|refine Cd.draw ?_|refine Dw.nil ?_|refine Dw.guardY rfl ?_|refine Dw.guardN rfl ?_|refine Dw.guardT rfl ?_|(refine Dw.p (v:=?_) ?_ ?_;rotate_left;exact zE)|(refine Dw.cmp (p:=?_) rfl rfl ?_ ?_;rotate_left;exact zC;intro cv hv)|(refine Dw.r (v:=?_) rfl rfl ?_ ?_ ?_;rotate_left;exact zN;exact zM)|refine Dw.a Mk.alloc fun _=>?_|refine Dw.a (Mk.lits rfl) fun _=>?_|(refine zY (g:=?_) ?_;intro cv hv)|refine zW (v:=?_) ?_|refine Cd.condT rfl ?_|refine Cd.condF rfl ?_|((first|refine Cd.cond rfl ?_ ?_|refine Rg.guardS rfl ?_ ?_|refine Dw.guardS rfl ?_ ?_)<;>(intro e;(try simp only [Bool.not_eq_true',Bool.not_eq_false'] at e);subst e;try contradiction))|refine Cd.skip ?_|refine Cd.blk ?_|refine Cd.ext ?_|refine Cd.ret ?_)
  all_goals (try ((first|refine ⟨.inr rfl,_,.t rfl .nil,?_⟩|refine ⟨.inr rfl,_,.t rfl (.t rfl .nil),?_⟩|refine ⟨.inr rfl,_,.t rfl (.t rfl (.t rfl .nil)),?_⟩|refine ⟨.inr rfl,_,.nil,?_⟩|refine ⟨.inl rfl,_,.t rfl .nil,?_⟩|refine ⟨.inl rfl,_,.nil,?_⟩|refine ⟨.inr rfl,_,.cn rfl (by exact zN) .nil,?_⟩|refine ⟨.inr rfl,_,.cn rfl (by exact zN) (.t rfl .nil),?_⟩); (refine congrArg AV.bool ?_; simp only [unitB]; first | (simp_all only [Bool.and_true, Bool.true_and, Bool.and_false, Bool.false_and, Bool.or_true, Bool.or_false, Bool.true_or, Bool.false_or, Bool.not_true, Bool.not_false]; done) | (rw [Bool.eq_iff_iff]; simp_all; done) | (rw [Bool.eq_iff_iff]; simp_all; omega) | (simp; omega)); done))
  rename_i bu _ _ _ bi
  refine Rg.callM (vs := [u.protosV, .int .i64 (.ofNat 64), .fn 47 [] [.ptr bi 0 0 1, .ptr bu 0 0 5]]) (m := [boxI bi 0, boxU bu u]) (r := ?_) ?_ (every21 hu) ?_ ?_
  rotate_left
  exact rfl
  (repeat (first | exact Sel.nil | (apply Sel.cons; (repeat (first | exact Take.here | apply Take.there)))))
  rintro v K' rfl
  generalize hg : (decide (u.protos.length ≤ 64) && protosB u.funs 0 u.protos) = cv
  repeat' (first|refine zA ?_|refine Cd.reg ?_|refine Rg.nil ?_|refine zF ?_|refine zG ?_|refine zH ?_|(refine Rg.p (v:=?_) ?_ ?_;rotate_left;exact zE)|(refine Rg.cmp (p:=?_) rfl rfl ?_ ?_;rotate_left;exact zC;intro cv hv)|(refine Rg.r (v:=?_) rfl rfl ?_ ?_;rotate_left;exact zN)|refine zL fun _=>?_|refine Rg.alloc fun _=>?_|refine Rg.a (Mk.lits rfl) fun _=>?_|refine zO (cs:=?_) (K':=?_) ?_|refine zP (cs:=?_) (K':=?_) ?_|(refine zQ (g:=?_) ?_;intro cv hv)|(refine zR (w:=?_) ?_;intro cv hv)|refine zS (v:=?_) ?_|refine zT (v:=?_) ?_|refine Lp.round ?_|refine Cd.draw ?_|refine Dw.nil ?_|refine Dw.guardY rfl ?_|refine Dw.guardN rfl ?_|refine Dw.guardT rfl ?_|(refine Dw.p (v:=?_) ?_ ?_;rotate_left;exact zE)|(refine Dw.cmp (p:=?_) rfl rfl ?_ ?_;rotate_left;exact zC;intro cv hv)|(refine Dw.r (v:=?_) rfl rfl ?_ ?_ ?_;rotate_left;exact zN;exact zM)|refine Dw.a Mk.alloc fun _=>?_|refine Dw.a (Mk.lits rfl) fun _=>?_|(refine zY (g:=?_) ?_;intro cv hv)|refine zW (v:=?_) ?_|refine Cd.condT rfl ?_|refine Cd.condF rfl ?_|((first|refine Cd.cond rfl ?_ ?_|refine Rg.guardS rfl ?_ ?_|refine Dw.guardS rfl ?_ ?_)<;>(intro e;(try simp only [Bool.not_eq_true',Bool.not_eq_false'] at e);subst e;try contradiction))|refine Cd.skip ?_|refine Cd.blk ?_|refine Cd.ext ?_|refine Cd.ret ?_)
  (first|refine ⟨.inr rfl,_,.t rfl .nil,?_⟩|refine ⟨.inr rfl,_,.t rfl (.t rfl .nil),?_⟩|refine ⟨.inr rfl,_,.t rfl (.t rfl (.t rfl .nil)),?_⟩|refine ⟨.inr rfl,_,.nil,?_⟩|refine ⟨.inl rfl,_,.t rfl .nil,?_⟩|refine ⟨.inl rfl,_,.nil,?_⟩|refine ⟨.inr rfl,_,.cn rfl (by exact zN) .nil,?_⟩|refine ⟨.inr rfl,_,.cn rfl (by exact zN) (.t rfl .nil),?_⟩)
  (refine congrArg AV.bool ?_; simp only [unitB]; first | (simp_all only [Bool.and_true, Bool.true_and, Bool.and_false, Bool.false_and, Bool.or_true, Bool.or_false, Bool.true_or, Bool.false_or, Bool.not_true, Bool.not_false]; done) | (rw [Bool.eq_iff_iff]; simp_all; done) | (rw [Bool.eq_iff_iff]; simp_all; omega) | (simp; omega))
end Go.Proofs.Ytlimjjilakldgaa

namespace Go.Proofs.Ytlimjjilakldgaa
open Go Go.Abs
theorem proto31_loop0 {p : Proto} (hp : OkP p) {b : Nat} {Q : AX → SL → Mem → Prop} (hret : ∀ l' K, p.caps.all capB = false → lkS l' 4 = some (.bool false) → Q .ret l' K) (hend : ∀ l', p.caps.all capB = true → lkS l' 2 = some (.ptr b 0 0 6) → Q (.ext 0) l' [[(b, .cells (protoR p) 0 0 false)]]) :
    ∀ (k i : Nat), p.caps.length < i + k → i ≤ p.caps.length → (∀ x, x ∈ p.caps.take i → capB x = true) → Lp Try.prog false b30_0 k [(2, .ptr b 0 0 6), (5, .int .i64 (.ofNat i))] [[(b, .cells (protoR p) 0 0 false)]] Q := by
  have hl := hp.lcaps
  obtain ⟨l1, l2, l3⟩ := hp.lens
  intro k
  induction k with
  | zero => intro i h1 h2; omega
  | succ k ih =>
    intro i h1 h2 h3
    refine Lp.round ?_
    by_cases hi : i < p.caps.length
    · obtain ⟨x, hx⟩ : ∃ x, p.caps[i]? = some x := ⟨_, List.getElem?_eq_getElem hi⟩
      have q1 := hp.caps.iadr (i := i) (r := capR x) (k := .i64) (by rw [List.getElem?_map, hx]; rfl)
      have q5 := @in_ x.i 0 255
      repeat' (first|refine zA ?_|refine Cd.reg ?_|refine Rg.nil ?_|refine zF ?_|refine zG ?_|refine zH ?_|(refine Rg.p (v:=?_) ?_ ?_;rotate_left;exact zE)|(refine Rg.cmp (p:=?_) rfl rfl ?_ ?_;rotate_left;exact zC;intro cv hv)|(refine Rg.r (v:=?_) rfl rfl ?_ ?_;rotate_left;exact zN)|refine zL fun _=>?_|refine Rg.alloc fun _=>?_|refine Rg.a (Mk.lits rfl) fun _=>?_|refine zO (cs:=?_) (K':=?_) ?_|refine zP (cs:=?_) (K':=?_) ?_|(refine zQ (g:=?_) ?_;intro cv hv)|(refine zR (w:=?_) ?_;intro cv hv)|refine zS (v:=?_) ?_|refine zT (v:=?_) ?_|refine Lp.round ?_|refine Cd.draw ?_|refine Dw.nil ?_|refine Dw.guardY rfl ?_|refine Dw.guardN rfl ?_|refine Dw.guardT rfl ?_|(refine Dw.p (v:=?_) ?_ ?_;rotate_left;exact zE)|(refine Dw.cmp (p:=?_) rfl rfl ?_ ?_;rotate_left;exact zC;intro cv hv)|(refine Dw.r (v:=?_) rfl rfl ?_ ?_ ?_;rotate_left;exact zN;exact zM)|refine Dw.a Mk.alloc fun _=>?_|refine Dw.a (Mk.lits rfl) fun _=>?_|(refine zY (g:=?_) ?_;intro cv hv)|refine zW (v:=?_) ?_|refine Cd.condT rfl ?_|refine Cd.condF rfl ?_|((first|refine Cd.cond rfl ?_ ?_|refine Rg.guardS rfl ?_ ?_|refine Dw.guardS rfl ?_ ?_)<;>(intro e;(try simp only [Bool.not_eq_true',Bool.not_eq_false'] at e);subst e;try contradiction))|refine Cd.skip ?_|refine Cd.blk ?_|refine Cd.ext ?_|refine Cd.ret ?_)
      · refine hret _ _ ?_ rfl
        cases ha : p.caps.all capB with
        | false => rfl
        | true => have hx1 := List.all_eq_true.1 ha x (List.mem_of_getElem? hx); simp only [capB] at hx1 hv; simp_all
      · refine Lp.drop (m := [[(b, .cells (protoR p) 0 0 false)]]) (.cons .here .nil) (Lp.weak ?hw (ih (i + 1) (by omega) (by omega) ?_))
        case hw => exact ⟨rfl, rfl, trivial⟩
        intro y hy
        rw [List.take_add_one, hx] at hy
        rcases List.mem_append.1 hy with hy | hy
        · exact h3 y hy
        · simp at hy; subst hy; exact hv
    · repeat' (first|refine zA ?_|refine Cd.reg ?_|refine Rg.nil ?_|refine zF ?_|refine zG ?_|refine zH ?_|(refine Rg.p (v:=?_) ?_ ?_;rotate_left;exact zE)|(refine Rg.cmp (p:=?_) rfl rfl ?_ ?_;rotate_left;exact zC;intro cv hv)|(refine Rg.r (v:=?_) rfl rfl ?_ ?_;rotate_left;exact zN)|refine zL fun _=>?_|refine Rg.alloc fun _=>?_|refine Rg.a (Mk.lits rfl) fun _=>?_|refine zO (cs:=?_) (K':=?_) ?_|refine zP (cs:=?_) (K':=?_) ?_|(refine zQ (g:=?_) ?_;intro cv hv)|(refine zR (w:=?_) ?_;intro cv hv)|refine zS (v:=?_) ?_|refine zT (v:=?_) ?_|refine Lp.round ?_|refine Cd.draw ?_|refine Dw.nil ?_|refine Dw.guardY rfl ?_|refine Dw.guardN rfl ?_|refine Dw.guardT rfl ?_|(refine Dw.p (v:=?_) ?_ ?_;rotate_left;exact zE)|(refine Dw.cmp (p:=?_) rfl rfl ?_ ?_;rotate_left;exact zC;intro cv hv)|(refine Dw.r (v:=?_) rfl rfl ?_ ?_ ?_;rotate_left;exact zN;exact zM)|refine Dw.a Mk.alloc fun _=>?_|refine Dw.a (Mk.lits rfl) fun _=>?_|(refine zY (g:=?_) ?_;intro cv hv)|refine zW (v:=?_) ?_|refine Cd.condT rfl ?_|refine Cd.condF rfl ?_|((first|refine Cd.cond rfl ?_ ?_|refine Rg.guardS rfl ?_ ?_|refine Dw.guardS rfl ?_ ?_)<;>(intro e;(try simp only [Bool.not_eq_true',Bool.not_eq_false'] at e);subst e;try contradiction))|refine Cd.skip ?_|refine Cd.blk ?_|refine Cd.ext ?_|refine Cd.ret ?_)
      exact hend _ (List.all_eq_true.2 fun x hx => h3 x (by rw [List.take_of_length_le (by omega)]; exact hx)) rfl
theorem proto31_loop1 {p : Proto} (hp : OkP p) {b : Nat} {Q : AX → SL → Mem → Prop} (hret : ∀ l' K, p.consts.all constB = false → lkS l' 4 = some (.bool false) → Q .ret l' K) (hend : ∀ l', p.consts.all constB = true → lkS l' 2 = some (.ptr b 0 0 6) → Q (.ext 2) l' [[(b, .cells (protoR p) 0 0 false)]]) :
    ∀ (k i : Nat), p.consts.length < i + k → i ≤ p.consts.length → (∀ x, x ∈ p.consts.take i → constB x = true) → Lp Try.prog false b30_1 k [(2, .ptr b 0 0 6), (6, .int .i64 (.ofNat i))] [[(b, .cells (protoR p) 0 0 false)]] Q := by
  have hl := hp.lconsts
  obtain ⟨l1, l2, l3⟩ := hp.lens
  intro k
  induction k with
  | zero => intro i h1 h2; omega
  | succ k ih =>
    intro i h1 h2 h3
    refine Lp.round ?_
    by_cases hi : i < p.consts.length
    · obtain ⟨x, hx⟩ : ∃ x, p.consts[i]? = some x := ⟨_, List.getElem?_eq_getElem hi⟩
      have q1 := hp.consts.iadr (i := i) (r := valR x) (k := .i64) (by rw [List.getElem?_map, hx]; rfl)
      have q5 := const46 x
      repeat' (first|refine zA ?_|refine Cd.reg ?_|refine Rg.nil ?_|refine zF ?_|refine zG ?_|refine zH ?_|(refine Rg.p (v:=?_) ?_ ?_;rotate_left;exact zE)|(refine Rg.cmp (p:=?_) rfl rfl ?_ ?_;rotate_left;exact zC;intro cv hv)|(refine Rg.r (v:=?_) rfl rfl ?_ ?_;rotate_left;exact zN)|refine zL fun _=>?_|refine Rg.alloc fun _=>?_|refine Rg.a (Mk.lits rfl) fun _=>?_|refine zO (cs:=?_) (K':=?_) ?_|refine zP (cs:=?_) (K':=?_) ?_|(refine zQ (g:=?_) ?_;intro cv hv)|(refine zR (w:=?_) ?_;intro cv hv)|refine zS (v:=?_) ?_|refine zT (v:=?_) ?_|refine Lp.round ?_|refine Cd.draw ?_|refine Dw.nil ?_|refine Dw.guardY rfl ?_|refine Dw.guardN rfl ?_|refine Dw.guardT rfl ?_|(refine Dw.p (v:=?_) ?_ ?_;rotate_left;exact zE)|(refine Dw.cmp (p:=?_) rfl rfl ?_ ?_;rotate_left;exact zC;intro cv hv)|(refine Dw.r (v:=?_) rfl rfl ?_ ?_ ?_;rotate_left;exact zN;exact zM)|refine Dw.a Mk.alloc fun _=>?_|refine Dw.a (Mk.lits rfl) fun _=>?_|(refine zY (g:=?_) ?_;intro cv hv)|refine zW (v:=?_) ?_|refine Cd.condT rfl ?_|refine Cd.condF rfl ?_|((first|refine Cd.cond rfl ?_ ?_|refine Rg.guardS rfl ?_ ?_|refine Dw.guardS rfl ?_ ?_)<;>(intro e;(try simp only [Bool.not_eq_true',Bool.not_eq_false'] at e);subst e;try contradiction))|refine Cd.skip ?_|refine Cd.blk ?_|refine Cd.ext ?_|refine Cd.ret ?_)
      · refine hret _ _ ?_ rfl
        cases ha : p.consts.all constB with
        | false => rfl
        | true => have hx1 := List.all_eq_true.1 ha x (List.mem_of_getElem? hx); rw [hx1] at hv; cases hv
      · refine Lp.drop (m := [[(b, .cells (protoR p) 0 0 false)]]) (.cons .here .nil) (Lp.weak ?hw (ih (i + 1) (by omega) (by omega) ?_))
        case hw => exact ⟨rfl, rfl, trivial⟩
        intro y hy
        rw [List.take_add_one, hx] at hy
        rcases List.mem_append.1 hy with hy | hy
        · exact h3 y hy
        · simp at hy; subst hy; exact hv
    · repeat' (first|refine zA ?_|refine Cd.reg ?_|refine Rg.nil ?_|refine zF ?_|refine zG ?_|refine zH ?_|(refine Rg.p (v:=?_) ?_ ?_;rotate_left;exact zE)|(refine Rg.cmp (p:=?_) rfl rfl ?_ ?_;rotate_left;exact zC;intro cv hv)|(refine Rg.r (v:=?_) rfl rfl ?_ ?_;rotate_left;exact zN)|refine zL fun _=>?_|refine Rg.alloc fun _=>?_|refine Rg.a (Mk.lits rfl) fun _=>?_|refine zO (cs:=?_) (K':=?_) ?_|refine zP (cs:=?_) (K':=?_) ?_|(refine zQ (g:=?_) ?_;intro cv hv)|(refine zR (w:=?_) ?_;intro cv hv)|refine zS (v:=?_) ?_|refine zT (v:=?_) ?_|refine Lp.round ?_|refine Cd.draw ?_|refine Dw.nil ?_|refine Dw.guardY rfl ?_|refine Dw.guardN rfl ?_|refine Dw.guardT rfl ?_|(refine Dw.p (v:=?_) ?_ ?_;rotate_left;exact zE)|(refine Dw.cmp (p:=?_) rfl rfl ?_ ?_;rotate_left;exact zC;intro cv hv)|(refine Dw.r (v:=?_) rfl rfl ?_ ?_ ?_;rotate_left;exact zN;exact zM)|refine Dw.a Mk.alloc fun _=>?_|refine Dw.a (Mk.lits rfl) fun _=>?_|(refine zY (g:=?_) ?_;intro cv hv)|refine zW (v:=?_) ?_|refine Cd.condT rfl ?_|refine Cd.condF rfl ?_|((first|refine Cd.cond rfl ?_ ?_|refine Rg.guardS rfl ?_ ?_|refine Dw.guardS rfl ?_ ?_)<;>(intro e;(try simp only [Bool.not_eq_true',Bool.not_eq_false'] at e);subst e;try contradiction))|refine Cd.skip ?_|refine Cd.blk ?_|refine Cd.ext ?_|refine Cd.ret ?_)
      exact hend _ (List.all_eq_true.2 fun x hx => h3 x (by rw [List.take_of_length_le (by omega)]; exact hx)) rfl
theorem proto31_loop2 {p : Proto} (hp : OkP p) {b : Nat} {Q : AX → SL → Mem → Prop} (hret : ∀ l' K, p.code.all rightI = false → lkS l' 4 = some (.bool false) → Q .ret l' K) (hend : ∀ l', p.code.all rightI = true → lkS l' 2 = some (.ptr b 0 0 6) → Q (.ext 4) l' [[(b, .cells (protoR p) 0 0 false)]]) :
    ∀ (k i : Nat), p.code.length < i + k → i ≤ p.code.length → (∀ x, x ∈ p.code.take i → rightI x = true) → Lp Try.prog false b30_2 k [(2, .ptr b 0 0 6), (7, .int .i64 (.ofNat i))] [[(b, .cells (protoR p) 0 0 false)]] Q := by
  have hl := hp.lcode
  obtain ⟨l1, l2, l3⟩ := hp.lens
  intro k
  induction k with
  | zero => intro i h1 h2; omega
  | succ k ih =>
    intro i h1 h2 h3
    refine Lp.round ?_
    by_cases hi : i < p.code.length
    · obtain ⟨x, hx⟩ : ∃ x, p.code[i]? = some x := ⟨_, List.getElem?_eq_getElem hi⟩
      have q1 := hp.code.iadr (i := i) (r := insR x) (k := .i64) (by rw [List.getElem?_map, hx]; rfl)
      have q5 := right47 x
      repeat' (first|refine zA ?_|refine Cd.reg ?_|refine Rg.nil ?_|refine zF ?_|refine zG ?_|refine zH ?_|(refine Rg.p (v:=?_) ?_ ?_;rotate_left;exact zE)|(refine Rg.cmp (p:=?_) rfl rfl ?_ ?_;rotate_left;exact zC;intro cv hv)|(refine Rg.r (v:=?_) rfl rfl ?_ ?_;rotate_left;exact zN)|refine zL fun _=>?_|refine Rg.alloc fun _=>?_|refine Rg.a (Mk.lits rfl) fun _=>?_|refine zO (cs:=?_) (K':=?_) ?_|refine zP (cs:=?_) (K':=?_) ?_|(refine zQ (g:=?_) ?_;intro cv hv)|(refine zR (w:=?_) ?_;intro cv hv)|refine zS (v:=?_) ?_|refine zT (v:=?_) ?_|refine Lp.round ?_|refine Cd.draw ?_|refine Dw.nil ?_|refine Dw.guardY rfl ?_|refine Dw.guardN rfl ?_|refine Dw.guardT rfl ?_|(refine Dw.p (v:=?_) ?_ ?_;rotate_left;exact zE)|(refine Dw.cmp (p:=?_) rfl rfl ?_ ?_;rotate_left;exact zC;intro cv hv)|(refine Dw.r (v:=?_) rfl rfl ?_ ?_ ?_;rotate_left;exact zN;exact zM)|refine Dw.a Mk.alloc fun _=>?_|refine Dw.a (Mk.lits rfl) fun _=>?_|(refine zY (g:=?_) ?_;intro cv hv)|refine zW (v:=?_) ?_|refine Cd.condT rfl ?_|refine Cd.condF rfl ?_|((first|refine Cd.cond rfl ?_ ?_|refine Rg.guardS rfl ?_ ?_|refine Dw.guardS rfl ?_ ?_)<;>(intro e;(try simp only [Bool.not_eq_true',Bool.not_eq_false'] at e);subst e;try contradiction))|refine Cd.skip ?_|refine Cd.blk ?_|refine Cd.ext ?_|refine Cd.ret ?_)
      · refine hret _ _ ?_ rfl
        cases ha : p.code.all rightI with
        | false => rfl
        | true => have hx1 := List.all_eq_true.1 ha x (List.mem_of_getElem? hx); rw [hx1] at hv; cases hv
      · refine Lp.drop (m := [[(b, .cells (protoR p) 0 0 false)]]) (.cons .here .nil) (Lp.weak ?hw (ih (i + 1) (by omega) (by omega) ?_))
        case hw => exact ⟨rfl, rfl, trivial⟩
        intro y hy
        rw [List.take_add_one, hx] at hy
        rcases List.mem_append.1 hy with hy | hy
        · exact h3 y hy
        · simp at hy; subst hy; exact hv
    · repeat' (first|refine zA ?_|refine Cd.reg ?_|refine Rg.nil ?_|refine zF ?_|refine zG ?_|refine zH ?_|(refine Rg.p (v:=?_) ?_ ?_;rotate_left;exact zE)|(refine Rg.cmp (p:=?_) rfl rfl ?_ ?_;rotate_left;exact zC;intro cv hv)|(refine Rg.r (v:=?_) rfl rfl ?_ ?_;rotate_left;exact zN)|refine zL fun _=>?_|refine Rg.alloc fun _=>?_|refine Rg.a (Mk.lits rfl) fun _=>?_|refine zO (cs:=?_) (K':=?_) ?_|refine zP (cs:=?_) (K':=?_) ?_|(refine zQ (g:=?_) ?_;intro cv hv)|(refine zR (w:=?_) ?_;intro cv hv)|refine zS (v:=?_) ?_|refine zT (v:=?_) ?_|refine Lp.round ?_|refine Cd.draw ?_|refine Dw.nil ?_|refine Dw.guardY rfl ?_|refine Dw.guardN rfl ?_|refine Dw.guardT rfl ?_|(refine Dw.p (v:=?_) ?_ ?_;rotate_left;exact zE)|(refine Dw.cmp (p:=?_) rfl rfl ?_ ?_;rotate_left;exact zC;intro cv hv)|(refine Dw.r (v:=?_) rfl rfl ?_ ?_ ?_;rotate_left;exact zN;exact zM)|refine Dw.a Mk.alloc fun _=>?_|refine Dw.a (Mk.lits rfl) fun _=>?_|(refine zY (g:=?_) ?_;intro cv hv)|refine zW (v:=?_) ?_|refine Cd.condT rfl ?_|refine Cd.condF rfl ?_|((first|refine Cd.cond rfl ?_ ?_|refine Rg.guardS rfl ?_ ?_|refine Dw.guardS rfl ?_ ?_)<;>(intro e;(try simp only [Bool.not_eq_true',Bool.not_eq_false'] at e);subst e;try contradiction))|refine Cd.skip ?_|refine Cd.blk ?_|refine Cd.ext ?_|refine Cd.ret ?_)
      exact hend _ (List.all_eq_true.2 fun x hx => h3 x (by rw [List.take_of_length_le (by omega)]; exact hx)) rfl
/-- Behind the conditions of a function: its lists. -/
theorem proto31_tail {p : Proto} (hp : OkP p) {top : Bool} {l : SL} {b : Nat} (h2 : lkS l 2 = some (.ptr b 0 0 6)) (hB : protoB p top = (p.caps.all capB && (p.consts.all constB && p.code.all rightI))) :
    Cd Try.prog false (.seq (.seq (.reg r30_5) (.blk 0 (.loop b30_0))) (.seq (.seq (.reg r30_10) (.blk 2 (.loop b30_1))) (.seq (.seq (.reg r30_15) (.blk 4 (.loop b30_2))) (.seq (.reg r30_20) .ret)))) l [[(b, .cells (protoR p) 0 0 false)]] (DoneK fn30.results fun w _ => w = .bool (protoB p top)) := by
  refine Cd.weak (l2 := [(2, .ptr b 0 0 6)]) ⟨h2, trivial⟩ ?_
  have lc := hp.lcaps
  have lk := hp.lconsts
  have lo := hp.lcode
  repeat' (first|refine zA ?_|refine Cd.reg ?_|refine Rg.nil ?_|refine zF ?_|refine zG ?_|refine zH ?_|(refine Rg.p (v:=?_) ?_ ?_;rotate_left;exact zE)|(refine Rg.cmp (p:=?_) rfl rfl ?_ ?_;rotate_left;exact zC;intro cv hv)|(refine Rg.r (v:=?_) rfl rfl ?_ ?_;rotate_left;exact zN)|refine zL fun _=>?_|refine Rg.alloc fun _=>?_|refine Rg.a (Mk.lits rfl) fun _=>?_|refine zO (cs:=?_) (K':=?_) ?_|refine zP (cs:=?_) (K':=?_) ?_|(refine zQ (g:=?_) ?_;intro cv hv)|(refine zR (w:=?_) ?_;intro cv hv)|refine zS (v:=?_) ?_|refine zT (v:=?_) ?_|refine Lp.round ?_|refine Cd.draw ?_|refine Dw.nil ?_|refine Dw.guardY rfl ?_|refine Dw.guardN rfl ?_|refine Dw.guardT rfl ?_|(refine Dw.p (v:=?_) ?_ ?_;rotate_left;exact zE)|(refine Dw.cmp (p:=?_) rfl rfl ?_ ?_;rotate_left;exact zC;intro cv hv)|(refine Dw.r (v:=?_) rfl rfl ?_ ?_ ?_;rotate_left;exact zN;exact zM)|refine Dw.a Mk.alloc fun _=>?_|refine Dw.a (Mk.lits rfl) fun _=>?_|(refine zY (g:=?_) ?_;intro cv hv)|refine zW (v:=?_) ?_|refine Cd.condT rfl ?_|refine Cd.condF rfl ?_|((first|refine Cd.cond rfl ?_ ?_|refine Rg.guardS rfl ?_ ?_|refine Dw.guardS rfl ?_ ?_)<;>(intro e;(try simp only [Bool.not_eq_true',Bool.not_eq_false'] at e);subst e;try contradiction))|refine Cd.skip ?_|refine Cd.blk ?_|refine Cd.ext ?_|refine Cd.ret ?_)
  refine Cd.loop (k := p.caps.length + 1) (Lp.weak ?hw (proto31_loop0 hp ?_ ?_ (p.caps.length + 1) 0 (by omega) (by omega) (by intro x hx; simp at hx)))
  case hw => exact ⟨rfl, rfl, trivial⟩
  · intro l' K h1 h3
    exact ⟨.inr rfl, _, .t h3 .nil, by rw [hB, h1]; rfl⟩
  intro l' h1 h3
  show Cd _ _ _ _ _ _
  refine Cd.weak (l2 := [(2, .ptr b 0 0 6)]) ⟨h3, trivial⟩ ?_
  repeat' (first|refine zA ?_|refine Cd.reg ?_|refine Rg.nil ?_|refine zF ?_|refine zG ?_|refine zH ?_|(refine Rg.p (v:=?_) ?_ ?_;rotate_left;exact zE)|(refine Rg.cmp (p:=?_) rfl rfl ?_ ?_;rotate_left;exact zC;intro cv hv)|(refine Rg.r (v:=?_) rfl rfl ?_ ?_;rotate_left;exact zN)|refine zL fun _=>?_|refine Rg.alloc fun _=>?_|refine Rg.a (Mk.lits rfl) fun _=>?_|refine zO (cs:=?_) (K':=?_) ?_|refine zP (cs:=?_) (K':=?_) ?_|(refine zQ (g:=?_) ?_;intro cv hv)|(refine zR (w:=?_) ?_;intro cv hv)|refine zS (v:=?_) ?_|refine zT (v:=?_) ?_|refine Lp.round ?_|refine Cd.draw ?_|refine Dw.nil ?_|refine Dw.guardY rfl ?_|refine Dw.guardN rfl ?_|refine Dw.guardT rfl ?_|(refine Dw.p (v:=?_) ?_ ?_;rotate_left;exact zE)|(refine Dw.cmp (p:=?_) rfl rfl ?_ ?_;rotate_left;exact zC;intro cv hv)|(refine Dw.r (v:=?_) rfl rfl ?_ ?_ ?_;rotate_left;exact zN;exact zM)|refine Dw.a Mk.alloc fun _=>?_|refine Dw.a (Mk.lits rfl) fun _=>?_|(refine zY (g:=?_) ?_;intro cv hv)|refine zW (v:=?_) ?_|refine Cd.condT rfl ?_|refine Cd.condF rfl ?_|((first|refine Cd.cond rfl ?_ ?_|refine Rg.guardS rfl ?_ ?_|refine Dw.guardS rfl ?_ ?_)<;>(intro e;(try simp only [Bool.not_eq_true',Bool.not_eq_false'] at e);subst e;try contradiction))|refine Cd.skip ?_|refine Cd.blk ?_|refine Cd.ext ?_|refine Cd.ret ?_)
  refine Cd.loop (k := p.consts.length + 1) (Lp.weak ?hw (proto31_loop1 hp ?_ ?_ (p.consts.length + 1) 0 (by omega) (by omega) (by intro x hx; simp at hx)))
  case hw => exact ⟨rfl, rfl, trivial⟩
  · intro l' K h4 h5
    exact ⟨.inr rfl, _, .t h5 .nil, by rw [hB, h1, h4]; rfl⟩
  intro l' h4 h5
  show Cd _ _ _ _ _ _
  refine Cd.weak (l2 := [(2, .ptr b 0 0 6)]) ⟨h5, trivial⟩ ?_
  repeat' (first|refine zA ?_|refine Cd.reg ?_|refine Rg.nil ?_|refine zF ?_|refine zG ?_|refine zH ?_|(refine Rg.p (v:=?_) ?_ ?_;rotate_left;exact zE)|(refine Rg.cmp (p:=?_) rfl rfl ?_ ?_;rotate_left;exact zC;intro cv hv)|(refine Rg.r (v:=?_) rfl rfl ?_ ?_;rotate_left;exact zN)|refine zL fun _=>?_|refine Rg.alloc fun _=>?_|refine Rg.a (Mk.lits rfl) fun _=>?_|refine zO (cs:=?_) (K':=?_) ?_|refine zP (cs:=?_) (K':=?_) ?_|(refine zQ (g:=?_) ?_;intro cv hv)|(refine zR (w:=?_) ?_;intro cv hv)|refine zS (v:=?_) ?_|refine zT (v:=?_) ?_|refine Lp.round ?_|refine Cd.draw ?_|refine Dw.nil ?_|refine Dw.guardY rfl ?_|refine Dw.guardN rfl ?_|refine Dw.guardT rfl ?_|(refine Dw.p (v:=?_) ?_ ?_;rotate_left;exact zE)|(refine Dw.cmp (p:=?_) rfl rfl ?_ ?_;rotate_left;exact zC;intro cv hv)|(refine Dw.r (v:=?_) rfl rfl ?_ ?_ ?_;rotate_left;exact zN;exact zM)|refine Dw.a Mk.alloc fun _=>?_|refine Dw.a (Mk.lits rfl) fun _=>?_|(refine zY (g:=?_) ?_;intro cv hv)|refine zW (v:=?_) ?_|refine Cd.condT rfl ?_|refine Cd.condF rfl ?_|((first|refine Cd.cond rfl ?_ ?_|refine Rg.guardS rfl ?_ ?_|refine Dw.guardS rfl ?_ ?_)<;>(intro e;(try simp only [Bool.not_eq_true',Bool.not_eq_false'] at e);subst e;try contradiction))|refine Cd.skip ?_|refine Cd.blk ?_|refine Cd.ext ?_|refine Cd.ret ?_)
  refine Cd.loop (k := p.code.length + 1) (Lp.weak ?hw (proto31_loop2 hp ?_ ?_ (p.code.length + 1) 0 (by omega) (by omega) (by intro x hx; simp at hx)))
  case hw => exact ⟨rfl, rfl, trivial⟩
  · intro l' K h6 h7
    exact ⟨.inr rfl, _, .t h7 .nil, by rw [hB, h1, h4, h6]; rfl⟩
  intro l' h6 h7
  show Cd _ _ _ _ _ _
  refine Cd.weak (l2 := []) trivial ?_
  repeat' (first|refine zA ?_|refine Cd.reg ?_|refine Rg.nil ?_|refine zF ?_|refine zG ?_|refine zH ?_|(refine Rg.p (v:=?_) ?_ ?_;rotate_left;exact zE)|(refine Rg.cmp (p:=?_) rfl rfl ?_ ?_;rotate_left;exact zC;intro cv hv)|(refine Rg.r (v:=?_) rfl rfl ?_ ?_;rotate_left;exact zN)|refine zL fun _=>?_|refine Rg.alloc fun _=>?_|refine Rg.a (Mk.lits rfl) fun _=>?_|refine zO (cs:=?_) (K':=?_) ?_|refine zP (cs:=?_) (K':=?_) ?_|(refine zQ (g:=?_) ?_;intro cv hv)|(refine zR (w:=?_) ?_;intro cv hv)|refine zS (v:=?_) ?_|refine zT (v:=?_) ?_|refine Lp.round ?_|refine Cd.draw ?_|refine Dw.nil ?_|refine Dw.guardY rfl ?_|refine Dw.guardN rfl ?_|refine Dw.guardT rfl ?_|(refine Dw.p (v:=?_) ?_ ?_;rotate_left;exact zE)|(refine Dw.cmp (p:=?_) rfl rfl ?_ ?_;rotate_left;exact zC;intro cv hv)|(refine Dw.r (v:=?_) rfl rfl ?_ ?_ ?_;rotate_left;exact zN;exact zM)|refine Dw.a Mk.alloc fun _=>?_|refine Dw.a (Mk.lits rfl) fun _=>?_|(refine zY (g:=?_) ?_;intro cv hv)|refine zW (v:=?_) ?_|refine Cd.condT rfl ?_|refine Cd.condF rfl ?_|((first|refine Cd.cond rfl ?_ ?_|refine Rg.guardS rfl ?_ ?_|refine Dw.guardS rfl ?_ ?_)<;>(intro e;(try simp only [Bool.not_eq_true',Bool.not_eq_false'] at e);subst e;try contradiction))|refine Cd.skip ?_|refine Cd.blk ?_|refine Cd.ext ?_|refine Cd.ret ?_)
  (first|refine ⟨.inr rfl,_,.t rfl .nil,?_⟩|refine ⟨.inr rfl,_,.t rfl (.t rfl .nil),?_⟩|refine ⟨.inr rfl,_,.t rfl (.t rfl (.t rfl .nil)),?_⟩|refine ⟨.inr rfl,_,.nil,?_⟩|refine ⟨.inl rfl,_,.t rfl .nil,?_⟩|refine ⟨.inl rfl,_,.nil,?_⟩|refine ⟨.inr rfl,_,.cn rfl (by exact zN) .nil,?_⟩|refine ⟨.inr rfl,_,.cn rfl (by exact zN) (.t rfl .nil),?_⟩)
  rw [hB, h1, h4, h6]; rfl
theorem proto31 {p : Proto} (hp : OkP p) (top : Bool) : PT Try.prog false 30 [.agg (protoR p), .bool top] (.bool (protoB p top)) := by
  refine PT.of (CT.enter mixed comp30 (Nat.le_of_ble_eq_true rfl) ?_)
  obtain ⟨l1, l2, l3⟩ := hp.lens
  have hn := name29 hp.name
  cases top with
  | true =>
    repeat' (first|(refine proto31_tail hp rfl ?_)|refine zA ?_|refine Cd.reg ?_|refine Rg.nil ?_|refine zF ?_|refine zG ?_|refine zH ?_|(refine Rg.p (v:=?_) ?_ ?_;rotate_left;exact zE)|(refine Rg.cmp (p:=?_) rfl rfl ?_ ?_;rotate_left;exact zC;intro cv hv)|(refine Rg.r (v:=?_) rfl rfl ?_ ?_;rotate_left;exact zN)|refine zL fun _=>?_|refine Rg.alloc fun _=>?_|refine Rg.a (Mk.lits rfl) fun _=>?_|refine zO (cs:=?_) (K':=?_) ?_|refine zP (cs:=?_) (K':=?_) ?_|((first|refine Rg.callB (g:=?_) rfl ?_ ?_|refine Rg.callvB (w:=?_) rfl rfl ?_ ?_);rotate_left;(first|assumption|exact in_);intro cv hv)|((first|refine Rg.callv (v:=?_) rfl rfl ?_ ?_|refine Rg.call (v:=?_) rfl ?_ ?_);rotate_left;(first|assumption|exact in_))|(refine Dw.callB (g:=?_) rfl ?_ ?_ ?_;rotate_left;(first|assumption|exact in_);(focus (repeat (first | exact trivial | refine And.intro (Or.inl rfl) ?_ | (refine And.intro (Or.inr ?_) ?_; (focus (first | exact Rdk.i1 | assumption | (refine Rdk.in ?_; first | assumption | exact rfl) | (refine Rdk.b1 (cs := ?_) ?_ ?_; rotate_left; (repeat (first | exact InK.here | refine InK.there ?_)); exact rfl) | (refine Rdk.bw (cs := ?_) ?_ ?_; rotate_left; (repeat (first | exact InK.here | refine InK.there ?_)); first | assumption | exact rfl) | (refine Rdk.bn (cs := ?_) ?_ ?_; rotate_left; (repeat (first | exact InK.here | refine InK.there ?_)); exact rfl)))))));intro cv hv)|(refine Dw.call (v:=?_) rfl ?_ ?_ ?_;rotate_left;(first|assumption|exact in_);focus (repeat (first | exact trivial | refine And.intro (Or.inl rfl) ?_ | (refine And.intro (Or.inr ?_) ?_; (focus (first | exact Rdk.i1 | assumption | (refine Rdk.in ?_; first | assumption | exact rfl) | (refine Rdk.b1 (cs := ?_) ?_ ?_; rotate_left; (repeat (first | exact InK.here | refine InK.there ?_)); exact rfl) | (refine Rdk.bw (cs := ?_) ?_ ?_; rotate_left; (repeat (first | exact InK.here | refine InK.there ?_)); first | assumption | exact rfl) | (refine Rdk.bn (cs := ?_) ?_ ?_; rotate_left; (repeat (first | exact InK.here | refine InK.there ?_)); exact rfl)))))))|(refine zQ (g:=?_) ?_;intro cv hv)|(refine zR (w:=?_) ?_;intro cv hv)|refine zS (v:=?_) ?_|refine zT (v:=?_) ?_|refine Lp.round ?_|refine Cd.draw ?_|refine Dw.nil ?_|refine Dw.guardY rfl ?_|refine Dw.guardN rfl ?_|refine Dw.guardT rfl ?_|(refine Dw.p (v:=?_) ?_ ?_;rotate_left;exact zE)|(refine Dw.cmp (p:=?_) rfl rfl ?_ ?_;rotate_left;exact zC;intro cv hv)|(refine Dw.r (v:=?_) rfl rfl ?_ ?_ ?_;rotate_left;exact zN;exact zM)|refine Dw.a Mk.alloc fun _=>?_|refine Dw.a (Mk.lits rfl) fun _=>?_|(refine zY (g:=?_) ?_;intro cv hv)|refine zW (v:=?_) ?_|refine Cd.condT rfl ?_|refine Cd.condF rfl ?_|((first|refine Cd.cond rfl ?_ ?_|refine Rg.guardS rfl ?_ ?_|refine Dw.guardS rfl ?_ ?_)<;>(intro e;(try simp only [Bool.not_eq_true',Bool.not_eq_false'] at e);subst e;try contradiction))|refine Cd.skip ?_|refine Cd.blk ?_|refine Cd.ext ?_|refine Cd.ret ?_)
    all_goals (try (first|refine ⟨.inr rfl,_,.t rfl .nil,?_⟩|refine ⟨.inr rfl,_,.t rfl (.t rfl .nil),?_⟩|refine ⟨.inr rfl,_,.t rfl (.t rfl (.t rfl .nil)),?_⟩|refine ⟨.inr rfl,_,.nil,?_⟩|refine ⟨.inl rfl,_,.t rfl .nil,?_⟩|refine ⟨.inl rfl,_,.nil,?_⟩|refine ⟨.inr rfl,_,.cn rfl (by exact zN) .nil,?_⟩|refine ⟨.inr rfl,_,.cn rfl (by exact zN) (.t rfl .nil),?_⟩))
    all_goals (clear hp l1 l2 l3 hn)
    all_goals (try (refine congrArg AV.bool ?_; symm; rw [← Bool.not_eq_true]; intro hb; simp only [protoB, headB, shapedB, Bool.and_eq_true, decide_eq_true_eq, if_true, if_false, Bool.false_eq_true] at hb; first | (simp_all; done) | (simp_all; omega) | omega))
    all_goals (rw [Bool.eq_iff_iff]; simp only [protoB, headB, shapedB, if_true, if_false, Bool.false_eq_true, Bool.and_eq_true, decide_eq_true_eq] at *)
    simp only [false_iff, ne_eq, Classical.not_not, Nat.not_lt, Int.not_lt] at *
    constructor
    · rintro ⟨⟨_, hc⟩, ⟨_, _, h1⟩, _, h2⟩
      exact ⟨by rw [List.eq_nil_of_length_eq_zero hc]; rfl, h1, h2⟩
    · rintro ⟨h0, h1, h2⟩
      exact ⟨⟨by assumption, by assumption⟩, ⟨⟨by simp at *; omega, by simp at *; omega⟩, by assumption, h1⟩, by assumption, h2⟩
  | false =>
    repeat' (first|(refine proto31_tail hp rfl ?_)|refine zA ?_|refine Cd.reg ?_|refine Rg.nil ?_|refine zF ?_|refine zG ?_|refine zH ?_|(refine Rg.p (v:=?_) ?_ ?_;rotate_left;exact zE)|(refine Rg.cmp (p:=?_) rfl rfl ?_ ?_;rotate_left;exact zC;intro cv hv)|(refine Rg.r (v:=?_) rfl rfl ?_ ?_;rotate_left;exact zN)|refine zL fun _=>?_|refine Rg.alloc fun _=>?_|refine Rg.a (Mk.lits rfl) fun _=>?_|refine zO (cs:=?_) (K':=?_) ?_|refine zP (cs:=?_) (K':=?_) ?_|((first|refine Rg.callB (g:=?_) rfl ?_ ?_|refine Rg.callvB (w:=?_) rfl rfl ?_ ?_);rotate_left;(first|assumption|exact in_);intro cv hv)|((first|refine Rg.callv (v:=?_) rfl rfl ?_ ?_|refine Rg.call (v:=?_) rfl ?_ ?_);rotate_left;(first|assumption|exact in_))|(refine Dw.callB (g:=?_) rfl ?_ ?_ ?_;rotate_left;(first|assumption|exact in_);(focus (repeat (first | exact trivial | refine And.intro (Or.inl rfl) ?_ | (refine And.intro (Or.inr ?_) ?_; (focus (first | exact Rdk.i1 | assumption | (refine Rdk.in ?_; first | assumption | exact rfl) | (refine Rdk.b1 (cs := ?_) ?_ ?_; rotate_left; (repeat (first | exact InK.here | refine InK.there ?_)); exact rfl) | (refine Rdk.bw (cs := ?_) ?_ ?_; rotate_left; (repeat (first | exact InK.here | refine InK.there ?_)); first | assumption | exact rfl) | (refine Rdk.bn (cs := ?_) ?_ ?_; rotate_left; (repeat (first | exact InK.here | refine InK.there ?_)); exact rfl)))))));intro cv hv)|(refine Dw.call (v:=?_) rfl ?_ ?_ ?_;rotate_left;(first|assumption|exact in_);focus (repeat (first | exact trivial | refine And.intro (Or.inl rfl) ?_ | (refine And.intro (Or.inr ?_) ?_; (focus (first | exact Rdk.i1 | assumption | (refine Rdk.in ?_; first | assumption | exact rfl) | (refine Rdk.b1 (cs := ?_) ?_ ?_; rotate_left; (repeat (first | exact InK.here | refine InK.there ?_)); exact rfl) | (refine Rdk.bw (cs := ?_) ?_ ?_; rotate_left; (repeat (first | exact InK.here | refine InK.there ?_)); first | assumption | exact rfl) | (refine Rdk.bn (cs := ?_) ?_ ?_; rotate_left; (repeat (first | exact InK.here | refine InK.there ?_)); exact rfl)))))))|(refine zQ (g:=?_) ?_;intro cv hv)|(refine zR (w:=?_) ?_;intro cv hv)|refine zS (v:=?_) ?_|refine zT (v:=?_) ?_|refine Lp.round ?_|refine Cd.draw ?_|refine Dw.nil ?_|refine Dw.guardY rfl ?_|refine Dw.guardN rfl ?_|refine Dw.guardT rfl ?_|(refine Dw.p (v:=?_) ?_ ?_;rotate_left;exact zE)|(refine Dw.cmp (p:=?_) rfl rfl ?_ ?_;rotate_left;exact zC;intro cv hv)|(refine Dw.r (v:=?_) rfl rfl ?_ ?_ ?_;rotate_left;exact zN;exact zM)|refine Dw.a Mk.alloc fun _=>?_|refine Dw.a (Mk.lits rfl) fun _=>?_|(refine zY (g:=?_) ?_;intro cv hv)|refine zW (v:=?_) ?_|refine Cd.condT rfl ?_|refine Cd.condF rfl ?_|((first|refine Cd.cond rfl ?_ ?_|refine Rg.guardS rfl ?_ ?_|refine Dw.guardS rfl ?_ ?_)<;>(intro e;(try simp only [Bool.not_eq_true',Bool.not_eq_false'] at e);subst e;try contradiction))|refine Cd.skip ?_|refine Cd.blk ?_|refine Cd.ext ?_|refine Cd.ret ?_)
    all_goals (try (first|refine ⟨.inr rfl,_,.t rfl .nil,?_⟩|refine ⟨.inr rfl,_,.t rfl (.t rfl .nil),?_⟩|refine ⟨.inr rfl,_,.t rfl (.t rfl (.t rfl .nil)),?_⟩|refine ⟨.inr rfl,_,.nil,?_⟩|refine ⟨.inl rfl,_,.t rfl .nil,?_⟩|refine ⟨.inl rfl,_,.nil,?_⟩|refine ⟨.inr rfl,_,.cn rfl (by exact zN) .nil,?_⟩|refine ⟨.inr rfl,_,.cn rfl (by exact zN) (.t rfl .nil),?_⟩))
    all_goals (clear hp l1 l2 l3 hn)
    all_goals (try (refine congrArg AV.bool ?_; symm; rw [← Bool.not_eq_true]; intro hb; simp only [protoB, headB, shapedB, Bool.and_eq_true, decide_eq_true_eq, if_true, if_false, Bool.false_eq_true] at hb; first | (simp_all; done) | (simp_all; omega) | omega))
    all_goals (rw [Bool.eq_iff_iff]; simp only [protoB, headB, shapedB, if_true, if_false, Bool.false_eq_true, Bool.and_eq_true, decide_eq_true_eq] at *)
    simp only [false_iff, ne_eq, Classical.not_not, Nat.not_lt, Int.not_lt] at *
    constructor
    · rintro ⟨⟨_, _, h0⟩, ⟨_, _, h1⟩, _, h2⟩
      exact ⟨h0, h1, h2⟩
    · rintro ⟨h0, h1, h2⟩
      exact ⟨⟨by assumption, by assumption, h0⟩, ⟨⟨by simp at *; omega, by simp at *; omega⟩, by assumption, h1⟩, by assumption, h2⟩
/-! The whole unit. -/
theorem right14_uses {u : Unt} (hu : OkU u) {b : Nat} {Q : AX → SL → Mem → Prop} (hret : ∀ l' K, u.uses.all useB = false → lkS l' 2 = some (.bool false) → Q .ret l' K) (hend : ∀ l', u.uses.all useB = true → lkS l' 1 = some (.ptr b 0 0 5) → Q (.ext 0) l' [boxU b u]) :
    ∀ (k i : Nat), u.uses.length < i + k → i ≤ u.uses.length → (∀ x, x ∈ u.uses.take i → useB x = true) → Lp Try.prog false b13_0 k [(1, .ptr b 0 0 5), (3, .int .i64 (.ofNat i))] [boxU b u] Q := by
  have hl := hu.luses
  obtain ⟨l1, l2⟩ := hu.lens
  intro k
  induction k with
  | zero => intro i h1 h2; omega
  | succ k ih =>
    intro i h1 h2 h3
    refine Lp.round ?_
    by_cases hi : i < u.uses.length
    · obtain ⟨x, hx⟩ : ∃ x, u.uses[i]? = some x := ⟨_, List.getElem?_eq_getElem hi⟩
      have q1 := hu.uses.iadr (i := i) (r := useR x) (k := .i64) (by rw [List.getElem?_map, hx]; rfl)
      obtain ⟨t1, t2⟩ := hu.um x (List.mem_of_getElem? hx)
      have bad : useB x = false → u.uses.all useB = false := fun hb => by
        cases ha : u.uses.all useB with
        | false => rfl
        | true => rw [List.all_eq_true.1 ha x (List.mem_of_getElem? hx)] at hb; cases hb
      repeat' (first|refine zA ?_|refine Cd.reg ?_|refine Rg.nil ?_|refine zF ?_|refine zG ?_|refine zH ?_|(refine Rg.p (v:=?_) ?_ ?_;rotate_left;exact zE)|(refine Rg.cmp (p:=?_) rfl rfl ?_ ?_;rotate_left;exact zC;intro cv hv)|(refine Rg.r (v:=?_) rfl rfl ?_ ?_;rotate_left;exact zN)|refine zL fun _=>?_|refine Rg.alloc fun _=>?_|refine Rg.a (Mk.lits rfl) fun _=>?_|refine zO (cs:=?_) (K':=?_) ?_|refine zP (cs:=?_) (K':=?_) ?_|((first|refine Rg.callB (g:=?_) rfl ?_ ?_|refine Rg.callvB (w:=?_) rfl rfl ?_ ?_);rotate_left;(first|assumption|exact name29 t1|exact name29 t2|exact in_);intro cv hv)|((first|refine Rg.callv (v:=?_) rfl rfl ?_ ?_|refine Rg.call (v:=?_) rfl ?_ ?_);rotate_left;(first|assumption|exact name29 t1|exact name29 t2|exact in_))|(refine Dw.callB (g:=?_) rfl ?_ ?_ ?_;rotate_left;(first|assumption|exact name29 t1|exact name29 t2|exact in_);(focus (repeat (first | exact trivial | refine And.intro (Or.inl rfl) ?_ | (refine And.intro (Or.inr ?_) ?_; (focus (first | exact Rdk.i1 | assumption | (refine Rdk.in ?_; first | assumption | exact rfl) | (refine Rdk.b1 (cs := ?_) ?_ ?_; rotate_left; (repeat (first | exact InK.here | refine InK.there ?_)); exact rfl) | (refine Rdk.bw (cs := ?_) ?_ ?_; rotate_left; (repeat (first | exact InK.here | refine InK.there ?_)); first | assumption | exact rfl) | (refine Rdk.bn (cs := ?_) ?_ ?_; rotate_left; (repeat (first | exact InK.here | refine InK.there ?_)); exact rfl)))))));intro cv hv)|(refine Dw.call (v:=?_) rfl ?_ ?_ ?_;rotate_left;(first|assumption|exact name29 t1|exact name29 t2|exact in_);focus (repeat (first | exact trivial | refine And.intro (Or.inl rfl) ?_ | (refine And.intro (Or.inr ?_) ?_; (focus (first | exact Rdk.i1 | assumption | (refine Rdk.in ?_; first | assumption | exact rfl) | (refine Rdk.b1 (cs := ?_) ?_ ?_; rotate_left; (repeat (first | exact InK.here | refine InK.there ?_)); exact rfl) | (refine Rdk.bw (cs := ?_) ?_ ?_; rotate_left; (repeat (first | exact InK.here | refine InK.there ?_)); first | assumption | exact rfl) | (refine Rdk.bn (cs := ?_) ?_ ?_; rotate_left; (repeat (first | exact InK.here | refine InK.there ?_)); exact rfl)))))))|(refine zQ (g:=?_) ?_;intro cv hv)|(refine zR (w:=?_) ?_;intro cv hv)|refine zS (v:=?_) ?_|refine zT (v:=?_) ?_|refine Lp.round ?_|refine Cd.draw ?_|refine Dw.nil ?_|refine Dw.guardY rfl ?_|refine Dw.guardN rfl ?_|refine Dw.guardT rfl ?_|(refine Dw.p (v:=?_) ?_ ?_;rotate_left;exact zE)|(refine Dw.cmp (p:=?_) rfl rfl ?_ ?_;rotate_left;exact zC;intro cv hv)|(refine Dw.r (v:=?_) rfl rfl ?_ ?_ ?_;rotate_left;exact zN;exact zM)|refine Dw.a Mk.alloc fun _=>?_|refine Dw.a (Mk.lits rfl) fun _=>?_|(refine zY (g:=?_) ?_;intro cv hv)|refine zW (v:=?_) ?_|refine Cd.condT rfl ?_|refine Cd.condF rfl ?_|((first|refine Cd.cond rfl ?_ ?_|refine Rg.guardS rfl ?_ ?_|refine Dw.guardS rfl ?_ ?_)<;>(intro e;(try simp only [Bool.not_eq_true',Bool.not_eq_false'] at e);subst e;try contradiction))|refine Cd.skip ?_|refine Cd.blk ?_|refine Cd.ext ?_|refine Cd.ret ?_)
      · exact hret _ _ (bad (by simp [useB, hv])) rfl
      · exact hret _ _ (bad (by simp [useB, hv])) rfl
      · rename_i h4 _ h5
        exact hret _ _ (bad (by simp only [useB]; simp_all)) rfl
      · refine Lp.drop (m := [boxU b u]) (.cons (.there .here) .nil) (Lp.weak ?hw (ih (i + 1) (by omega) (by omega) ?_))
        case hw => exact ⟨rfl, rfl, trivial⟩
        intro y hy
        rw [List.take_add_one, hx] at hy
        rcases List.mem_append.1 hy with hy | hy
        · exact h3 y hy
        · simp at hy; subst hy; simp only [useB]; simp_all
    · repeat' (first|refine zA ?_|refine Cd.reg ?_|refine Rg.nil ?_|refine zF ?_|refine zG ?_|refine zH ?_|(refine Rg.p (v:=?_) ?_ ?_;rotate_left;exact zE)|(refine Rg.cmp (p:=?_) rfl rfl ?_ ?_;rotate_left;exact zC;intro cv hv)|(refine Rg.r (v:=?_) rfl rfl ?_ ?_;rotate_left;exact zN)|refine zL fun _=>?_|refine Rg.alloc fun _=>?_|refine Rg.a (Mk.lits rfl) fun _=>?_|refine zO (cs:=?_) (K':=?_) ?_|refine zP (cs:=?_) (K':=?_) ?_|(refine zQ (g:=?_) ?_;intro cv hv)|(refine zR (w:=?_) ?_;intro cv hv)|refine zS (v:=?_) ?_|refine zT (v:=?_) ?_|refine Lp.round ?_|refine Cd.draw ?_|refine Dw.nil ?_|refine Dw.guardY rfl ?_|refine Dw.guardN rfl ?_|refine Dw.guardT rfl ?_|(refine Dw.p (v:=?_) ?_ ?_;rotate_left;exact zE)|(refine Dw.cmp (p:=?_) rfl rfl ?_ ?_;rotate_left;exact zC;intro cv hv)|(refine Dw.r (v:=?_) rfl rfl ?_ ?_ ?_;rotate_left;exact zN;exact zM)|refine Dw.a Mk.alloc fun _=>?_|refine Dw.a (Mk.lits rfl) fun _=>?_|(refine zY (g:=?_) ?_;intro cv hv)|refine zW (v:=?_) ?_|refine Cd.condT rfl ?_|refine Cd.condF rfl ?_|((first|refine Cd.cond rfl ?_ ?_|refine Rg.guardS rfl ?_ ?_|refine Dw.guardS rfl ?_ ?_)<;>(intro e;(try simp only [Bool.not_eq_true',Bool.not_eq_false'] at e);subst e;try contradiction))|refine Cd.skip ?_|refine Cd.blk ?_|refine Cd.ext ?_|refine Cd.ret ?_)
      exact hend _ (List.all_eq_true.2 fun x hx => h3 x (by rw [List.take_of_length_le (by omega)]; exact hx)) rfl
theorem right14_protos {u : Unt} (hu : OkU u) {b : Nat} {Q : AX → SL → Mem → Prop} (hret : ∀ l' K, protosB u.funs 0 u.protos = false → lkS l' 2 = some (.bool false) → Q .ret l' K) (hend : ∀ l' K, protosB u.funs 0 u.protos = true → Q (.ext 2) l' K) :
    ∀ (k i : Nat), u.protos.length < i + k → i ≤ u.protos.length → protosB u.funs i (u.protos.drop i) = protosB u.funs 0 u.protos → Lp Try.prog false b13_1 k [(1, .ptr b 0 0 5), (5, .int .i64 (.ofNat i))] [boxU b u] Q := by
  have hl := hu.lprotos
  obtain ⟨l1, l2⟩ := hu.lens
  intro k
  induction k with
  | zero => intro i h1 h2; omega
  | succ k ih =>
    intro i h1 h2 h3
    refine Lp.round ?_
    by_cases hi : i < u.protos.length
    · obtain ⟨x, hx⟩ : ∃ x, u.protos[i]? = some x := ⟨_, List.getElem?_eq_getElem hi⟩
      have q1 := hu.protos.iadr (i := i) (r := protoR x) (k := .i64) (by rw [List.getElem?_map, hx]; rfl)
      have q2 := fun top => proto31 (hu.ps x (List.mem_of_getElem? hx)) top
      rw [protosB_drop hx] at h3
      repeat' (first|refine zA ?_|refine Cd.reg ?_|refine Rg.nil ?_|refine zF ?_|refine zG ?_|refine zH ?_|(refine Rg.p (v:=?_) ?_ ?_;rotate_left;exact zE)|(refine Rg.cmp (p:=?_) rfl rfl ?_ ?_;rotate_left;exact zC;intro cv hv)|(refine Rg.r (v:=?_) rfl rfl ?_ ?_;rotate_left;exact zN)|refine zL fun _=>?_|refine Rg.alloc fun _=>?_|refine Rg.a (Mk.lits rfl) fun _=>?_|refine zO (cs:=?_) (K':=?_) ?_|refine zP (cs:=?_) (K':=?_) ?_|((first|refine Rg.callB (g:=?_) rfl ?_ ?_|refine Rg.callvB (w:=?_) rfl rfl ?_ ?_);rotate_left;(first|assumption|exact q2 _);intro cv hv)|((first|refine Rg.callv (v:=?_) rfl rfl ?_ ?_|refine Rg.call (v:=?_) rfl ?_ ?_);rotate_left;(first|assumption|exact q2 _))|(refine Dw.callB (g:=?_) rfl ?_ ?_ ?_;rotate_left;(first|assumption|exact q2 _);(focus (repeat (first | exact trivial | refine And.intro (Or.inl rfl) ?_ | (refine And.intro (Or.inr ?_) ?_; (focus (first | exact Rdk.i1 | assumption | (refine Rdk.in ?_; first | assumption | exact rfl) | (refine Rdk.b1 (cs := ?_) ?_ ?_; rotate_left; (repeat (first | exact InK.here | refine InK.there ?_)); exact rfl) | (refine Rdk.bw (cs := ?_) ?_ ?_; rotate_left; (repeat (first | exact InK.here | refine InK.there ?_)); first | assumption | exact rfl) | (refine Rdk.bn (cs := ?_) ?_ ?_; rotate_left; (repeat (first | exact InK.here | refine InK.there ?_)); exact rfl)))))));intro cv hv)|(refine Dw.call (v:=?_) rfl ?_ ?_ ?_;rotate_left;(first|assumption|exact q2 _);focus (repeat (first | exact trivial | refine And.intro (Or.inl rfl) ?_ | (refine And.intro (Or.inr ?_) ?_; (focus (first | exact Rdk.i1 | assumption | (refine Rdk.in ?_; first | assumption | exact rfl) | (refine Rdk.b1 (cs := ?_) ?_ ?_; rotate_left; (repeat (first | exact InK.here | refine InK.there ?_)); exact rfl) | (refine Rdk.bw (cs := ?_) ?_ ?_; rotate_left; (repeat (first | exact InK.here | refine InK.there ?_)); first | assumption | exact rfl) | (refine Rdk.bn (cs := ?_) ?_ ?_; rotate_left; (repeat (first | exact InK.here | refine InK.there ?_)); exact rfl)))))))|(refine zQ (g:=?_) ?_;intro cv hv)|(refine zR (w:=?_) ?_;intro cv hv)|refine zS (v:=?_) ?_|refine zT (v:=?_) ?_|refine Lp.round ?_|refine Cd.draw ?_|refine Dw.nil ?_|refine Dw.guardY rfl ?_|refine Dw.guardN rfl ?_|refine Dw.guardT rfl ?_|(refine Dw.p (v:=?_) ?_ ?_;rotate_left;exact zE)|(refine Dw.cmp (p:=?_) rfl rfl ?_ ?_;rotate_left;exact zC;intro cv hv)|(refine Dw.r (v:=?_) rfl rfl ?_ ?_ ?_;rotate_left;exact zN;exact zM)|refine Dw.a Mk.alloc fun _=>?_|refine Dw.a (Mk.lits rfl) fun _=>?_|(refine zY (g:=?_) ?_;intro cv hv)|refine zW (v:=?_) ?_|refine Cd.condT rfl ?_|refine Cd.condF rfl ?_|((first|refine Cd.cond rfl ?_ ?_|refine Rg.guardS rfl ?_ ?_|refine Dw.guardS rfl ?_ ?_)<;>(intro e;(try simp only [Bool.not_eq_true',Bool.not_eq_false'] at e);subst e;try contradiction))|refine Cd.skip ?_|refine Cd.blk ?_|refine Cd.ext ?_|refine Cd.ret ?_)
      all_goals (rename_i h4; have e4 : decide (((i + 1 : Nat) : Int) ≤ u.funs) = cv := by rw [Bool.eq_iff_iff, h4]; simp; omega)
      · exact hret _ _ (by rw [← h3, e4, hv]; rfl) rfl
      · refine Lp.drop (m := [boxU b u]) (.cons .here .nil) (Lp.weak ?hw (ih (i + 1) (by omega) (by omega) ?_))
        case hw => exact ⟨rfl, rfl, trivial⟩
        rw [← h3, e4, hv]; rfl
    · repeat' (first|refine zA ?_|refine Cd.reg ?_|refine Rg.nil ?_|refine zF ?_|refine zG ?_|refine zH ?_|(refine Rg.p (v:=?_) ?_ ?_;rotate_left;exact zE)|(refine Rg.cmp (p:=?_) rfl rfl ?_ ?_;rotate_left;exact zC;intro cv hv)|(refine Rg.r (v:=?_) rfl rfl ?_ ?_;rotate_left;exact zN)|refine zL fun _=>?_|refine Rg.alloc fun _=>?_|refine Rg.a (Mk.lits rfl) fun _=>?_|refine zO (cs:=?_) (K':=?_) ?_|refine zP (cs:=?_) (K':=?_) ?_|(refine zQ (g:=?_) ?_;intro cv hv)|(refine zR (w:=?_) ?_;intro cv hv)|refine zS (v:=?_) ?_|refine zT (v:=?_) ?_|refine Lp.round ?_|refine Cd.draw ?_|refine Dw.nil ?_|refine Dw.guardY rfl ?_|refine Dw.guardN rfl ?_|refine Dw.guardT rfl ?_|(refine Dw.p (v:=?_) ?_ ?_;rotate_left;exact zE)|(refine Dw.cmp (p:=?_) rfl rfl ?_ ?_;rotate_left;exact zC;intro cv hv)|(refine Dw.r (v:=?_) rfl rfl ?_ ?_ ?_;rotate_left;exact zN;exact zM)|refine Dw.a Mk.alloc fun _=>?_|refine Dw.a (Mk.lits rfl) fun _=>?_|(refine zY (g:=?_) ?_;intro cv hv)|refine zW (v:=?_) ?_|refine Cd.condT rfl ?_|refine Cd.condF rfl ?_|((first|refine Cd.cond rfl ?_ ?_|refine Rg.guardS rfl ?_ ?_|refine Dw.guardS rfl ?_ ?_)<;>(intro e;(try simp only [Bool.not_eq_true',Bool.not_eq_false'] at e);subst e;try contradiction))|refine Cd.skip ?_|refine Cd.blk ?_|refine Cd.ext ?_|refine Cd.ret ?_)
      refine hend _ _ ?_
      rw [← h3, List.drop_of_length_le (by omega)]; rfl
theorem right14_tail {u : Unt} (hu : OkU u) {l : SL} {b : Nat} (h2 : lkS l 1 = some (.ptr b 0 0 5)) (hB : unitB u = (u.uses.all useB && protosB u.funs 0 u.protos)) :
    Cd Try.prog false (.seq (.seq (.reg r13_3) (.blk 0 (.loop b13_0))) (.seq (.seq (.reg r13_9) (.blk 2 (.loop b13_1))) (.seq (.reg r13_14) .ret))) l [boxU b u] (DoneK fn13.results fun w _ => w = .bool (unitB u)) := by
  refine Cd.weak (l2 := [(1, .ptr b 0 0 5)]) ⟨h2, trivial⟩ ?_
  have lc := hu.luses
  have lk := hu.lprotos
  repeat' (first|refine zA ?_|refine Cd.reg ?_|refine Rg.nil ?_|refine zF ?_|refine zG ?_|refine zH ?_|(refine Rg.p (v:=?_) ?_ ?_;rotate_left;exact zE)|(refine Rg.cmp (p:=?_) rfl rfl ?_ ?_;rotate_left;exact zC;intro cv hv)|(refine Rg.r (v:=?_) rfl rfl ?_ ?_;rotate_left;exact zN)|refine zL fun _=>?_|refine Rg.alloc fun _=>?_|refine Rg.a (Mk.lits rfl) fun _=>?_|refine zO (cs:=?_) (K':=?_) ?_|refine zP (cs:=?_) (K':=?_) ?_|(refine zQ (g:=?_) ?_;intro cv hv)|(refine zR (w:=?_) ?_;intro cv hv)|refine zS (v:=?_) ?_|refine zT (v:=?_) ?_|refine Lp.round ?_|refine Cd.draw ?_|refine Dw.nil ?_|refine Dw.guardY rfl ?_|refine Dw.guardN rfl ?_|refine Dw.guardT rfl ?_|(refine Dw.p (v:=?_) ?_ ?_;rotate_left;exact zE)|(refine Dw.cmp (p:=?_) rfl rfl ?_ ?_;rotate_left;exact zC;intro cv hv)|(refine Dw.r (v:=?_) rfl rfl ?_ ?_ ?_;rotate_left;exact zN;exact zM)|refine Dw.a Mk.alloc fun _=>?_|refine Dw.a (Mk.lits rfl) fun _=>?_|(refine zY (g:=?_) ?_;intro cv hv)|refine zW (v:=?_) ?_|refine Cd.condT rfl ?_|refine Cd.condF rfl ?_|((first|refine Cd.cond rfl ?_ ?_|refine Rg.guardS rfl ?_ ?_|refine Dw.guardS rfl ?_ ?_)<;>(intro e;(try simp only [Bool.not_eq_true',Bool.not_eq_false'] at e);subst e;try contradiction))|refine Cd.skip ?_|refine Cd.blk ?_|refine Cd.ext ?_|refine Cd.ret ?_)
  refine Cd.loop (k := u.uses.length + 1) (Lp.weak ?hw (right14_uses hu ?_ ?_ (u.uses.length + 1) 0 (by omega) (by omega) (by intro x hx; simp at hx)))
  case hw => exact ⟨rfl, rfl, trivial⟩
  · intro l' K h1 h3
    exact ⟨.inr rfl, _, .t h3 .nil, by rw [hB, h1]; rfl⟩
  intro l' h1 h3
  show Cd _ _ _ _ _ _
  refine Cd.weak (l2 := [(1, .ptr b 0 0 5)]) ⟨h3, trivial⟩ ?_
  repeat' (first|refine zA ?_|refine Cd.reg ?_|refine Rg.nil ?_|refine zF ?_|refine zG ?_|refine zH ?_|(refine Rg.p (v:=?_) ?_ ?_;rotate_left;exact zE)|(refine Rg.cmp (p:=?_) rfl rfl ?_ ?_;rotate_left;exact zC;intro cv hv)|(refine Rg.r (v:=?_) rfl rfl ?_ ?_;rotate_left;exact zN)|refine zL fun _=>?_|refine Rg.alloc fun _=>?_|refine Rg.a (Mk.lits rfl) fun _=>?_|refine zO (cs:=?_) (K':=?_) ?_|refine zP (cs:=?_) (K':=?_) ?_|(refine zQ (g:=?_) ?_;intro cv hv)|(refine zR (w:=?_) ?_;intro cv hv)|refine zS (v:=?_) ?_|refine zT (v:=?_) ?_|refine Lp.round ?_|refine Cd.draw ?_|refine Dw.nil ?_|refine Dw.guardY rfl ?_|refine Dw.guardN rfl ?_|refine Dw.guardT rfl ?_|(refine Dw.p (v:=?_) ?_ ?_;rotate_left;exact zE)|(refine Dw.cmp (p:=?_) rfl rfl ?_ ?_;rotate_left;exact zC;intro cv hv)|(refine Dw.r (v:=?_) rfl rfl ?_ ?_ ?_;rotate_left;exact zN;exact zM)|refine Dw.a Mk.alloc fun _=>?_|refine Dw.a (Mk.lits rfl) fun _=>?_|(refine zY (g:=?_) ?_;intro cv hv)|refine zW (v:=?_) ?_|refine Cd.condT rfl ?_|refine Cd.condF rfl ?_|((first|refine Cd.cond rfl ?_ ?_|refine Rg.guardS rfl ?_ ?_|refine Dw.guardS rfl ?_ ?_)<;>(intro e;(try simp only [Bool.not_eq_true',Bool.not_eq_false'] at e);subst e;try contradiction))|refine Cd.skip ?_|refine Cd.blk ?_|refine Cd.ext ?_|refine Cd.ret ?_)
  refine Cd.loop (k := u.protos.length + 1) (Lp.weak ?hw (right14_protos hu ?_ ?_ (u.protos.length + 1) 0 (by omega) (by omega) rfl))
  case hw => exact ⟨rfl, rfl, trivial⟩
  · intro l' K h4 h5
    exact ⟨.inr rfl, _, .t h5 .nil, by rw [hB, h1, h4]; rfl⟩
  intro l' K h4
  show Cd _ _ _ _ _ _
  refine Cd.weak (l2 := []) trivial ?_
  repeat' (first|refine zA ?_|refine Cd.reg ?_|refine Rg.nil ?_|refine zF ?_|refine zG ?_|refine zH ?_|(refine Rg.p (v:=?_) ?_ ?_;rotate_left;exact zE)|(refine Rg.cmp (p:=?_) rfl rfl ?_ ?_;rotate_left;exact zC;intro cv hv)|(refine Rg.r (v:=?_) rfl rfl ?_ ?_;rotate_left;exact zN)|refine zL fun _=>?_|refine Rg.alloc fun _=>?_|refine Rg.a (Mk.lits rfl) fun _=>?_|refine zO (cs:=?_) (K':=?_) ?_|refine zP (cs:=?_) (K':=?_) ?_|(refine zQ (g:=?_) ?_;intro cv hv)|(refine zR (w:=?_) ?_;intro cv hv)|refine zS (v:=?_) ?_|refine zT (v:=?_) ?_|refine Lp.round ?_|refine Cd.draw ?_|refine Dw.nil ?_|refine Dw.guardY rfl ?_|refine Dw.guardN rfl ?_|refine Dw.guardT rfl ?_|(refine Dw.p (v:=?_) ?_ ?_;rotate_left;exact zE)|(refine Dw.cmp (p:=?_) rfl rfl ?_ ?_;rotate_left;exact zC;intro cv hv)|(refine Dw.r (v:=?_) rfl rfl ?_ ?_ ?_;rotate_left;exact zN;exact zM)|refine Dw.a Mk.alloc fun _=>?_|refine Dw.a (Mk.lits rfl) fun _=>?_|(refine zY (g:=?_) ?_;intro cv hv)|refine zW (v:=?_) ?_|refine Cd.condT rfl ?_|refine Cd.condF rfl ?_|((first|refine Cd.cond rfl ?_ ?_|refine Rg.guardS rfl ?_ ?_|refine Dw.guardS rfl ?_ ?_)<;>(intro e;(try simp only [Bool.not_eq_true',Bool.not_eq_false'] at e);subst e;try contradiction))|refine Cd.skip ?_|refine Cd.blk ?_|refine Cd.ext ?_|refine Cd.ret ?_)
  (first|refine ⟨.inr rfl,_,.t rfl .nil,?_⟩|refine ⟨.inr rfl,_,.t rfl (.t rfl .nil),?_⟩|refine ⟨.inr rfl,_,.t rfl (.t rfl (.t rfl .nil)),?_⟩|refine ⟨.inr rfl,_,.nil,?_⟩|refine ⟨.inl rfl,_,.t rfl .nil,?_⟩|refine ⟨.inl rfl,_,.nil,?_⟩|refine ⟨.inr rfl,_,.cn rfl (by exact zN) .nil,?_⟩|refine ⟨.inr rfl,_,.cn rfl (by exact zN) (.t rfl .nil),?_⟩)
  rw [hB, h1, h4]; rfl
theorem right14 {u : Unt} (hu : OkU u) : PT Try.prog false 13 [.agg (unitR u)] (.bool (unitB u)) := by
  refine PT.of (CT.enter mixed comp13 (Nat.le_of_ble_eq_true rfl) ?_)
  obtain ⟨l1, l2⟩ := hu.lens
  have hn := name29 hu.name
  repeat' (first|(refine right14_tail hu rfl ?_)|refine zA ?_|refine Cd.reg ?_|refine Rg.nil ?_|refine zF ?_|refine zG ?_|refine zH ?_|(refine Rg.p (v:=?_) ?_ ?_;rotate_left;exact zE)|(refine Rg.cmp (p:=?_) rfl rfl ?_ ?_;rotate_left;exact zC;intro cv hv)|(refine Rg.r (v:=?_) rfl rfl ?_ ?_;rotate_left;exact zN)|refine zL fun _=>?_|refine Rg.alloc fun _=>?_|refine Rg.a (Mk.lits rfl) fun _=>?_|refine zO (cs:=?_) (K':=?_) ?_|refine zP (cs:=?_) (K':=?_) ?_|((first|refine Rg.callB (g:=?_) rfl ?_ ?_|refine Rg.callvB (w:=?_) rfl rfl ?_ ?_);rotate_left;(first|assumption|exact in_);intro cv hv)|((first|refine Rg.callv (v:=?_) rfl rfl ?_ ?_|refine Rg.call (v:=?_) rfl ?_ ?_);rotate_left;(first|assumption|exact in_))|(refine Dw.callB (g:=?_) rfl ?_ ?_ ?_;rotate_left;(first|assumption|exact in_);(focus (repeat (first | exact trivial | refine And.intro (Or.inl rfl) ?_ | (refine And.intro (Or.inr ?_) ?_; (focus (first | exact Rdk.i1 | assumption | (refine Rdk.in ?_; first | assumption | exact rfl) | (refine Rdk.b1 (cs := ?_) ?_ ?_; rotate_left; (repeat (first | exact InK.here | refine InK.there ?_)); exact rfl) | (refine Rdk.bw (cs := ?_) ?_ ?_; rotate_left; (repeat (first | exact InK.here | refine InK.there ?_)); first | assumption | exact rfl) | (refine Rdk.bn (cs := ?_) ?_ ?_; rotate_left; (repeat (first | exact InK.here | refine InK.there ?_)); exact rfl)))))));intro cv hv)|(refine Dw.call (v:=?_) rfl ?_ ?_ ?_;rotate_left;(first|assumption|exact in_);focus (repeat (first | exact trivial | refine And.intro (Or.inl rfl) ?_ | (refine And.intro (Or.inr ?_) ?_; (focus (first | exact Rdk.i1 | assumption | (refine Rdk.in ?_; first | assumption | exact rfl) | (refine Rdk.b1 (cs := ?_) ?_ ?_; rotate_left; (repeat (first | exact InK.here | refine InK.there ?_)); exact rfl) | (refine Rdk.bw (cs := ?_) ?_ ?_; rotate_left; (repeat (first | exact InK.here | refine InK.there ?_)); first | assumption | exact rfl) | (refine Rdk.bn (cs := ?_) ?_ ?_; rotate_left; (repeat (first | exact InK.here | refine InK.there ?_)); exact rfl)))))))|(refine zQ (g:=?_) ?_;intro cv hv)|(refine zR (w:=?_) ?_;intro cv hv)|refine zS (v:=?_) ?_|refine zT (v:=?_) ?_|refine Lp.round ?_|refine Cd.draw ?_|refine Dw.nil ?_|refine Dw.guardY rfl ?_|refine Dw.guardN rfl ?_|refine Dw.guardT rfl ?_|(refine Dw.p (v:=?_) ?_ ?_;rotate_left;exact zE)|(refine Dw.cmp (p:=?_) rfl rfl ?_ ?_;rotate_left;exact zC;intro cv hv)|(refine Dw.r (v:=?_) rfl rfl ?_ ?_ ?_;rotate_left;exact zN;exact zM)|refine Dw.a Mk.alloc fun _=>?_|refine Dw.a (Mk.lits rfl) fun _=>?_|(refine zY (g:=?_) ?_;intro cv hv)|refine zW (v:=?_) ?_|refine Cd.condT rfl ?_|refine Cd.condF rfl ?_|((first|refine Cd.cond rfl ?_ ?_|refine Rg.guardS rfl ?_ ?_|refine Dw.guardS rfl ?_ ?_)<;>(intro e;(try simp only [Bool.not_eq_true',Bool.not_eq_false'] at e);subst e;try contradiction))|refine Cd.skip ?_|refine Cd.blk ?_|refine Cd.ext ?_|refine Cd.ret ?_)
  all_goals (try (first|refine ⟨.inr rfl,_,.t rfl .nil,?_⟩|refine ⟨.inr rfl,_,.t rfl (.t rfl .nil),?_⟩|refine ⟨.inr rfl,_,.t rfl (.t rfl (.t rfl .nil)),?_⟩|refine ⟨.inr rfl,_,.nil,?_⟩|refine ⟨.inl rfl,_,.t rfl .nil,?_⟩|refine ⟨.inl rfl,_,.nil,?_⟩|refine ⟨.inr rfl,_,.cn rfl (by exact zN) .nil,?_⟩|refine ⟨.inr rfl,_,.cn rfl (by exact zN) (.t rfl .nil),?_⟩))
  all_goals (clear l1 l2 hn)
  all_goals (try (clear hu; (refine congrArg AV.bool ?_; symm; rw [← Bool.not_eq_true]; intro hb; simp only [unitB, Bool.and_eq_true, decide_eq_true_eq, if_true, if_false, Bool.false_eq_true] at hb; first | (simp_all; done) | (simp_all; omega) | omega); done))
  rw [Bool.eq_iff_iff]
  simp only [unitB, Bool.and_eq_true, decide_eq_true_eq] at *
  simp only [Bool.false_eq_true, false_iff, Nat.not_lt, Int.not_lt] at *
  constructor
  · rintro ⟨⟨_, _, h1⟩, _, h2⟩
    exact ⟨h1, h2⟩
  · rintro ⟨h1, h2⟩
    exact ⟨⟨⟨⟨by assumption, by assumption⟩, by simp at *; omega⟩, by assumption, h1⟩, by assumption, h2⟩
end Go.Proofs.Ytlimjjilakldgaa

namespace Go.Proofs.Ytlimjjilakldgaa
open Go Go.Abs
theorem fitD_le {ch : Nat} {n : Int} (h : fitD ch n = true) : 0 ≤ n ∧ n ≤ 255 := by
  unfold fitD at h
  split at h
  · have := of_decide_eq_true h; omega
  · exact of_decide_eq_true h
theorem rightI_op {x : Ins} (h : rightI x = true) : 0 ≤ x.op ∧ x.op < 38 := by
  by_cases hk : 0 ≤ x.op ∧ x.op < 38
  · exact hk
  · rw [rightI, shape, if_neg hk] at h; cases h
theorem rightI_le {x : Ins} (h : rightI x = true) : (0 ≤ x.a ∧ x.a ≤ 255) ∧ (0 ≤ x.b ∧ x.b ≤ 255) ∧ 0 ≤ x.c ∧ x.c ≤ 255 := by
  unfold rightI at h
  rcases shape_cases x.op with e | ⟨p, e⟩ | ⟨p, q, r, e⟩ <;> rw [e] at h <;> simp only [fit3, Bool.and_eq_true, Bool.false_eq_true] at h
  · exact ⟨fitD_le h.1.1, fitD_le h.1.2, fitD_le h.2⟩
  · exact ⟨fitD_le h.1.1, fitD_le h.1.2, fitD_le h.2⟩
/-- An instruction's number of two bytes. -/
def wide (x : Ins) : Nat := if rightI x = true then (x.b + 256 * x.c).toNat else 0
theorem or_byte {a b : Nat} (ha : a ≤ 255) (hb : b ≤ 255) : abin .or (.int .i64 (.ofNat b)) (.int .i64 (.ofNat (a * 256))) = some (.int .i64 (.ofNat (b + a * 256))) := by
  have h : Nat.lor b (a * 256) = b + a * 256 := by
    have := Nat.shiftLeft_add_eq_or_of_lt (i := 8) (b := b) (by omega) a
    rw [Nat.shiftLeft_eq, show (2 : Nat) ^ 8 = 256 from rfl] at this
    have e : Nat.lor b (a * 256) = a * 256 ||| b := Nat.or_comm _ _
    rw [e]
    omega
  show abitw .or .i64 Nat.lor (.ofNat b) (.ofNat (a * 256)) = _
  simp only [abitw, top]
  rw [Nat.ble_eq_true_of_le (by omega), Nat.ble_eq_true_of_le (by omega), h]; rfl
theorem shl_byte {a : Nat} (ha : a ≤ 255) : abin .shl (.int .i64 (.ofNat a)) (.int .u64 (.ofNat 8)) = some (.int .i64 (.ofNat (a * 256))) := by
  show some (AV.int .i64 (awrap .i64 (.ofNat (a * 2 ^ 8)))) = _
  simp only [awrap, top]
  rw [Nat.ble_eq_true_of_le (by omega)]; rfl
theorem wide25 (x : Ins) : PT Try.prog false 50 [insA x] (.int .i64 (.ofNat (wide x))) := by
  refine PT.of (CT.enter mixed comp50 (Nat.le_of_ble_eq_true rfl) ?_)
  have hr := right42 x
  cases h : rightI x with
  | false =>
    rw [h] at hr
    repeat' (first|refine zA ?_|refine Cd.reg ?_|refine Rg.nil ?_|refine zF ?_|refine zG ?_|refine zH ?_|(refine Rg.p (v:=?_) ?_ ?_;rotate_left;exact zE)|(refine Rg.cmp (p:=?_) rfl rfl ?_ ?_;rotate_left;exact zC;intro cv hv)|(refine Rg.r (v:=?_) rfl rfl ?_ ?_;rotate_left;exact zN)|refine zL fun _=>?_|refine Rg.alloc fun _=>?_|refine Rg.a (Mk.lits rfl) fun _=>?_|refine zO (cs:=?_) (K':=?_) ?_|refine zP (cs:=?_) (K':=?_) ?_|(refine zQ (g:=?_) ?_;intro cv hv)|(refine zR (w:=?_) ?_;intro cv hv)|refine zS (v:=?_) ?_|refine zT (v:=?_) ?_|refine Lp.round ?_|refine Cd.draw ?_|refine Dw.nil ?_|refine Dw.guardY rfl ?_|refine Dw.guardN rfl ?_|refine Dw.guardT rfl ?_|(refine Dw.p (v:=?_) ?_ ?_;rotate_left;exact zE)|(refine Dw.cmp (p:=?_) rfl rfl ?_ ?_;rotate_left;exact zC;intro cv hv)|(refine Dw.r (v:=?_) rfl rfl ?_ ?_ ?_;rotate_left;exact zN;exact zM)|refine Dw.a Mk.alloc fun _=>?_|refine Dw.a (Mk.lits rfl) fun _=>?_|(refine zY (g:=?_) ?_;intro cv hv)|refine zW (v:=?_) ?_|refine Cd.condT rfl ?_|refine Cd.condF rfl ?_|((first|refine Cd.cond rfl ?_ ?_|refine Rg.guardS rfl ?_ ?_|refine Dw.guardS rfl ?_ ?_)<;>(intro e;(try simp only [Bool.not_eq_true',Bool.not_eq_false'] at e);subst e;try contradiction))|refine Cd.skip ?_|refine Cd.blk ?_|refine Cd.ext ?_|refine Cd.ret ?_)
    · (first|refine ⟨.inr rfl,_,.t rfl .nil,?_⟩|refine ⟨.inr rfl,_,.t rfl (.t rfl .nil),?_⟩|refine ⟨.inr rfl,_,.t rfl (.t rfl (.t rfl .nil)),?_⟩|refine ⟨.inr rfl,_,.nil,?_⟩|refine ⟨.inl rfl,_,.t rfl .nil,?_⟩|refine ⟨.inl rfl,_,.nil,?_⟩|refine ⟨.inr rfl,_,.cn rfl (by exact zN) .nil,?_⟩|refine ⟨.inr rfl,_,.cn rfl (by exact zN) (.t rfl .nil),?_⟩)
      rw [wide, h]; rfl
  | true =>
    rw [h] at hr
    obtain ⟨_, hb, hc⟩ := rightI_le h
    obtain ⟨op, a, b, c⟩ := x
    simp only at hb hc
    obtain ⟨b, rfl⟩ := Int.eq_ofNat_of_zero_le hb.1
    obtain ⟨c, rfl⟩ := Int.eq_ofNat_of_zero_le hc.1
    have q1 := shl_byte (a := c) (by omega)
    have q2 := or_byte (a := c) (b := b) (by omega) (by omega)
    repeat' (first|refine zA ?_|refine Cd.reg ?_|refine Rg.nil ?_|refine zF ?_|refine zG ?_|refine zH ?_|(refine Rg.p (v:=?_) ?_ ?_;rotate_left;exact zE)|(refine Rg.cmp (p:=?_) rfl rfl ?_ ?_;rotate_left;exact zC;intro cv hv)|(refine Rg.r (v:=?_) rfl rfl ?_ ?_;rotate_left;exact zN)|refine zL fun _=>?_|refine Rg.alloc fun _=>?_|refine Rg.a (Mk.lits rfl) fun _=>?_|refine zO (cs:=?_) (K':=?_) ?_|refine zP (cs:=?_) (K':=?_) ?_|(refine zQ (g:=?_) ?_;intro cv hv)|(refine zR (w:=?_) ?_;intro cv hv)|refine zS (v:=?_) ?_|refine zT (v:=?_) ?_|refine Lp.round ?_|refine Cd.draw ?_|refine Dw.nil ?_|refine Dw.guardY rfl ?_|refine Dw.guardN rfl ?_|refine Dw.guardT rfl ?_|(refine Dw.p (v:=?_) ?_ ?_;rotate_left;exact zE)|(refine Dw.cmp (p:=?_) rfl rfl ?_ ?_;rotate_left;exact zC;intro cv hv)|(refine Dw.r (v:=?_) rfl rfl ?_ ?_ ?_;rotate_left;exact zN;exact zM)|refine Dw.a Mk.alloc fun _=>?_|refine Dw.a (Mk.lits rfl) fun _=>?_|(refine zY (g:=?_) ?_;intro cv hv)|refine zW (v:=?_) ?_|refine Cd.condT rfl ?_|refine Cd.condF rfl ?_|((first|refine Cd.cond rfl ?_ ?_|refine Rg.guardS rfl ?_ ?_|refine Dw.guardS rfl ?_ ?_)<;>(intro e;(try simp only [Bool.not_eq_true',Bool.not_eq_false'] at e);subst e;try contradiction))|refine Cd.skip ?_|refine Cd.blk ?_|refine Cd.ext ?_|refine Cd.ret ?_)
    · (first|refine ⟨.inr rfl,_,.t rfl .nil,?_⟩|refine ⟨.inr rfl,_,.t rfl (.t rfl .nil),?_⟩|refine ⟨.inr rfl,_,.t rfl (.t rfl (.t rfl .nil)),?_⟩|refine ⟨.inr rfl,_,.nil,?_⟩|refine ⟨.inl rfl,_,.t rfl .nil,?_⟩|refine ⟨.inl rfl,_,.nil,?_⟩|refine ⟨.inr rfl,_,.cn rfl (by exact zN) .nil,?_⟩|refine ⟨.inr rfl,_,.cn rfl (by exact zN) (.t rfl .nil),?_⟩)
      rw [wide, h, if_pos rfl]
      show AV.int .i64 (.ofNat (b + c * 256)) = AV.int .i64 (.ofNat ((b : Int) + 256 * (c : Int)).toNat)
      congr 2; omega
theorem ends12 (x : Ins) : PT Try.prog false 34 [insA x] (.bool (decide (x.op = 37 ∨ x.op = 25))) := by
  refine PT.of (CT.enter mixed comp34 (Nat.le_of_ble_eq_true rfl) ?_)
  repeat' (first|refine zA ?_|refine Cd.reg ?_|refine Rg.nil ?_|refine zF ?_|refine zG ?_|refine zH ?_|(refine Rg.p (v:=?_) ?_ ?_;rotate_left;exact zE)|(refine Rg.cmp (p:=?_) rfl rfl ?_ ?_;rotate_left;exact zC;intro cv hv)|(refine Rg.r (v:=?_) rfl rfl ?_ ?_;rotate_left;exact zN)|refine zL fun _=>?_|refine Rg.alloc fun _=>?_|refine Rg.a (Mk.lits rfl) fun _=>?_|refine zO (cs:=?_) (K':=?_) ?_|refine zP (cs:=?_) (K':=?_) ?_|(refine zQ (g:=?_) ?_;intro cv hv)|(refine zR (w:=?_) ?_;intro cv hv)|refine zS (v:=?_) ?_|refine zT (v:=?_) ?_|refine Lp.round ?_|refine Cd.draw ?_|refine Dw.nil ?_|refine Dw.guardY rfl ?_|refine Dw.guardN rfl ?_|refine Dw.guardT rfl ?_|(refine Dw.p (v:=?_) ?_ ?_;rotate_left;exact zE)|(refine Dw.cmp (p:=?_) rfl rfl ?_ ?_;rotate_left;exact zC;intro cv hv)|(refine Dw.r (v:=?_) rfl rfl ?_ ?_ ?_;rotate_left;exact zN;exact zM)|refine Dw.a Mk.alloc fun _=>?_|refine Dw.a (Mk.lits rfl) fun _=>?_|(refine zY (g:=?_) ?_;intro cv hv)|refine zW (v:=?_) ?_|refine Cd.condT rfl ?_|refine Cd.condF rfl ?_|((first|refine Cd.cond rfl ?_ ?_|refine Rg.guardS rfl ?_ ?_|refine Dw.guardS rfl ?_ ?_)<;>(intro e;(try simp only [Bool.not_eq_true',Bool.not_eq_false'] at e);subst e;try contradiction))|refine Cd.skip ?_|refine Cd.blk ?_|refine Cd.ext ?_|refine Cd.ret ?_)
  all_goals (first|refine ⟨.inr rfl,_,.t rfl .nil,?_⟩|refine ⟨.inr rfl,_,.t rfl (.t rfl .nil),?_⟩|refine ⟨.inr rfl,_,.t rfl (.t rfl (.t rfl .nil)),?_⟩|refine ⟨.inr rfl,_,.nil,?_⟩|refine ⟨.inl rfl,_,.t rfl .nil,?_⟩|refine ⟨.inl rfl,_,.nil,?_⟩|refine ⟨.inr rfl,_,.cn rfl (by exact zN) .nil,?_⟩|refine ⟨.inr rfl,_,.cn rfl (by exact zN) (.t rfl .nil),?_⟩)
  all_goals (refine congrArg AV.bool ?_; rw [Bool.eq_iff_iff]; (try simp_all); (try omega))
/-- Registers. -/
def regs3 (n : Int) (s : List Nat) (x : Ins) : Bool := match s with
  | [p, q] => !(decide (p = 114 ∧ n ≤ x.a)) && !(decide (q = 114 ∧ n ≤ x.b))
  | [p, q, r] => !(decide (p = 114 ∧ n ≤ x.a)) && !(decide (q = 114 ∧ n ≤ x.b)) && !(decide (r = 114 ∧ n ≤ x.c))
  | _ => true
end Go.Proofs.Ytlimjjilakldgaa
