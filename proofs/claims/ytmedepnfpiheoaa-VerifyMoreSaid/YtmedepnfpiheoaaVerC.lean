/- Contracts: values, uses, functions of a unit. -/
import Derived.Test.YtmedepnfpiheoaaVerB
set_option autoImplicit false
set_option maxRecDepth 100000
set_option maxHeartbeats 2000000
set_option linter.unusedVariables false
set_option linter.unusedSimpArgs false
namespace Go.Proofs.Ytmedepnfpiheoaa
open Go Go.Abs
/-- A value that can be a constant. -/
def constB (v : Val) : Bool := if v.k = 0 then decide (v.n = 0 ∧ v.s = []) else if v.k = 1 then decide (v.s = []) else if v.k = 2 then decide (v.n = 0 ∧ v.s.length ≤ 1024) else false
theorem plain40 (v : Val) : PT Try.prog false 40 [valA v] (.bool (constB v)) := by
  refine PT.of (CT.enter mixed comp40 (Nat.le_of_ble_eq_true rfl) ?_)
  have q : aeq (.flat true [.i, .i, .s]) (.agg (valR v)) (.agg [.int .i64 (.ofNat 0), .int .i64 (.ofNat 0), .str []]) = some (decide (v = ⟨0, 0, []⟩)) := flatVal v ⟨0, 0, []⟩
  have e : decide (v = ⟨0, 0, []⟩) = (decide (v.k = 0) && decide (v.n = 0 ∧ v.s = [])) := by cases v; simp
  rw [e] at q
  repeat' (first|refine zA ?_|refine Cd.reg ?_|refine Rg.nil ?_|refine zF ?_|refine zG ?_|refine zH ?_|(refine Rg.p (v:=?_) ?_ ?_;rotate_left;exact zE)|(refine Rg.cmp (p:=?_) rfl rfl ?_ ?_;rotate_left;exact zC;intro cv hv)|(refine Rg.r (v:=?_) rfl rfl ?_ ?_;rotate_left;exact zN)|refine zL fun _=>?_|refine Rg.alloc fun _=>?_|refine Rg.a (Mk.lits rfl) fun _=>?_|refine zO (cs:=?_) (K':=?_) ?_|refine zP (cs:=?_) (K':=?_) ?_|(refine zQ (g:=?_) ?_;intro cv hv)|(refine zR (w:=?_) ?_;intro cv hv)|refine zS (v:=?_) ?_|refine zT (v:=?_) ?_|refine Lp.round ?_|refine Cd.draw ?_|refine Dw.nil ?_|refine Dw.guardY rfl ?_|refine Dw.guardN rfl ?_|refine Dw.guardT rfl ?_|(refine Dw.p (v:=?_) ?_ ?_;rotate_left;exact zE)|(refine Dw.cmp (p:=?_) rfl rfl ?_ ?_;rotate_left;exact zC;intro cv hv)|(refine Dw.r (v:=?_) rfl rfl ?_ ?_ ?_;rotate_left;exact zN;exact zM)|refine Dw.a Mk.alloc fun _=>?_|refine Dw.a (Mk.lits rfl) fun _=>?_|(refine zY (g:=?_) ?_;intro cv hv)|refine zW (v:=?_) ?_|refine Cd.condT rfl ?_|refine Cd.condF rfl ?_|((first|refine Cd.cond rfl ?_ ?_|refine Rg.guardS rfl ?_ ?_|refine Dw.guardS rfl ?_ ?_)<;>(intro e;(try simp only [Bool.not_eq_true',Bool.not_eq_false'] at e);subst e;try contradiction))|refine Cd.skip ?_|refine Cd.blk ?_|refine Cd.ext ?_|refine Cd.ret ?_)
  all_goals (first|refine ⟨.inr rfl,_,.t rfl .nil,?_⟩|refine ⟨.inr rfl,_,.t rfl (.t rfl .nil),?_⟩|refine ⟨.inr rfl,_,.t rfl (.t rfl (.t rfl .nil)),?_⟩|refine ⟨.inr rfl,_,.nil,?_⟩|refine ⟨.inl rfl,_,.t rfl .nil,?_⟩|refine ⟨.inl rfl,_,.nil,?_⟩|refine ⟨.inr rfl,_,.cn rfl (by exact zN) .nil,?_⟩)
  all_goals (refine congrArg AV.bool ?_; rw [Bool.eq_iff_iff]; simp only [constB]; clear q e; simp_all)
theorem const46 (v : Val) : PT Try.prog false 46 [valA v] (.bool (constB v)) := by
  refine PT.of (CT.enter mixed comp46 (Nat.le_of_ble_eq_true rfl) ?_)
  repeat' (first|refine zA ?_|refine Cd.reg ?_|refine Rg.nil ?_|refine zF ?_|refine zG ?_|refine zH ?_|(refine Rg.p (v:=?_) ?_ ?_;rotate_left;exact zE)|(refine Rg.cmp (p:=?_) rfl rfl ?_ ?_;rotate_left;exact zC;intro cv hv)|(refine Rg.r (v:=?_) rfl rfl ?_ ?_;rotate_left;exact zN)|refine zL fun _=>?_|refine Rg.alloc fun _=>?_|refine Rg.a (Mk.lits rfl) fun _=>?_|refine zO (cs:=?_) (K':=?_) ?_|refine zP (cs:=?_) (K':=?_) ?_|(refine zQ (g:=?_) ?_;intro cv hv)|(refine zR (w:=?_) ?_;intro cv hv)|refine zS (v:=?_) ?_|refine zT (v:=?_) ?_|refine Lp.round ?_|refine Cd.draw ?_|refine Dw.nil ?_|refine Dw.guardY rfl ?_|refine Dw.guardN rfl ?_|refine Dw.guardT rfl ?_|(refine Dw.p (v:=?_) ?_ ?_;rotate_left;exact zE)|(refine Dw.cmp (p:=?_) rfl rfl ?_ ?_;rotate_left;exact zC;intro cv hv)|(refine Dw.r (v:=?_) rfl rfl ?_ ?_ ?_;rotate_left;exact zN;exact zM)|refine Dw.a Mk.alloc fun _=>?_|refine Dw.a (Mk.lits rfl) fun _=>?_|(refine zY (g:=?_) ?_;intro cv hv)|refine zW (v:=?_) ?_|refine Cd.condT rfl ?_|refine Cd.condF rfl ?_|((first|refine Cd.cond rfl ?_ ?_|refine Rg.guardS rfl ?_ ?_|refine Dw.guardS rfl ?_ ?_)<;>(intro e;(try simp only [Bool.not_eq_true',Bool.not_eq_false'] at e);subst e;try contradiction))|refine Cd.skip ?_|refine Cd.blk ?_|refine Cd.ext ?_|refine Cd.ret ?_)
  all_goals (first|refine ⟨.inr rfl,_,.t rfl .nil,?_⟩|refine ⟨.inr rfl,_,.t rfl (.t rfl .nil),?_⟩|refine ⟨.inr rfl,_,.t rfl (.t rfl (.t rfl .nil)),?_⟩|refine ⟨.inr rfl,_,.nil,?_⟩|refine ⟨.inl rfl,_,.t rfl .nil,?_⟩|refine ⟨.inl rfl,_,.nil,?_⟩|refine ⟨.inr rfl,_,.cn rfl (by exact zN) .nil,?_⟩)
  all_goals (refine congrArg AV.bool ?_; rw [Bool.eq_iff_iff]; simp only [constB]; simp_all)
structure Use where
  m : List Nat
  n : List Nat
  p : Int
def useR (x : Use) : List AV := [.str x.m, .str x.n, .int .i64 x.p]
def useB (x : Use) : Bool := isName x.m && isName x.n && decide (0 ≤ x.p ∧ x.p ≤ 8)
theorem used20 (x : Use) (h1 : Txt x.m) (h2 : Txt x.n) : PT Try.prog false 20 [.agg (useR x)] (.bool (useB x)) := by
  refine PT.of (CT.enter mixed comp20 (Nat.le_of_ble_eq_true rfl) ?_)
  repeat' (first|refine zA ?_|refine Cd.reg ?_|refine Rg.nil ?_|refine zF ?_|refine zG ?_|refine zH ?_|(refine Rg.p (v:=?_) ?_ ?_;rotate_left;exact zE)|(refine Rg.cmp (p:=?_) rfl rfl ?_ ?_;rotate_left;exact zC;intro cv hv)|(refine Rg.r (v:=?_) rfl rfl ?_ ?_;rotate_left;exact zN)|refine zL fun _=>?_|refine Rg.alloc fun _=>?_|refine Rg.a (Mk.lits rfl) fun _=>?_|refine zO (cs:=?_) (K':=?_) ?_|refine zP (cs:=?_) (K':=?_) ?_|((first|refine Rg.callB (g:=?_) rfl ?_ ?_|refine Rg.callvB (w:=?_) rfl rfl ?_ ?_);rotate_left;(first|assumption|exact name17 h1|exact name17 h2|exact between_);intro cv hv)|((first|refine Rg.callv (v:=?_) rfl rfl ?_ ?_|refine Rg.call (v:=?_) rfl ?_ ?_);rotate_left;(first|assumption|exact name17 h1|exact name17 h2|exact between_))|(refine Dw.callB (g:=?_) rfl ?_ ?_ ?_;rotate_left;(first|assumption|exact name17 h1|exact name17 h2|exact between_);(focus (repeat (first | exact trivial | refine And.intro (Or.inl rfl) ?_ | (refine And.intro (Or.inr ?_) ?_; (focus (first | exact Rdk.i1 | assumption | (refine Rdk.in ?_; first | assumption | exact rfl) | (refine Rdk.b1 (cs := ?_) ?_ ?_; rotate_left; (repeat (first | exact InK.here | refine InK.there ?_)); exact rfl) | (refine Rdk.bw (cs := ?_) ?_ ?_; rotate_left; (repeat (first | exact InK.here | refine InK.there ?_)); first | assumption | exact rfl) | (refine Rdk.bn (cs := ?_) ?_ ?_; rotate_left; (repeat (first | exact InK.here | refine InK.there ?_)); exact rfl)))))));intro cv hv)|(refine Dw.call (v:=?_) rfl ?_ ?_ ?_;rotate_left;(first|assumption|exact name17 h1|exact name17 h2|exact between_);focus (repeat (first | exact trivial | refine And.intro (Or.inl rfl) ?_ | (refine And.intro (Or.inr ?_) ?_; (focus (first | exact Rdk.i1 | assumption | (refine Rdk.in ?_; first | assumption | exact rfl) | (refine Rdk.b1 (cs := ?_) ?_ ?_; rotate_left; (repeat (first | exact InK.here | refine InK.there ?_)); exact rfl) | (refine Rdk.bw (cs := ?_) ?_ ?_; rotate_left; (repeat (first | exact InK.here | refine InK.there ?_)); first | assumption | exact rfl) | (refine Rdk.bn (cs := ?_) ?_ ?_; rotate_left; (repeat (first | exact InK.here | refine InK.there ?_)); exact rfl)))))))|(refine zQ (g:=?_) ?_;intro cv hv)|(refine zR (w:=?_) ?_;intro cv hv)|refine zS (v:=?_) ?_|refine zT (v:=?_) ?_|refine Lp.round ?_|refine Cd.draw ?_|refine Dw.nil ?_|refine Dw.guardY rfl ?_|refine Dw.guardN rfl ?_|refine Dw.guardT rfl ?_|(refine Dw.p (v:=?_) ?_ ?_;rotate_left;exact zE)|(refine Dw.cmp (p:=?_) rfl rfl ?_ ?_;rotate_left;exact zC;intro cv hv)|(refine Dw.r (v:=?_) rfl rfl ?_ ?_ ?_;rotate_left;exact zN;exact zM)|refine Dw.a Mk.alloc fun _=>?_|refine Dw.a (Mk.lits rfl) fun _=>?_|(refine zY (g:=?_) ?_;intro cv hv)|refine zW (v:=?_) ?_|refine Cd.condT rfl ?_|refine Cd.condF rfl ?_|((first|refine Cd.cond rfl ?_ ?_|refine Rg.guardS rfl ?_ ?_|refine Dw.guardS rfl ?_ ?_)<;>(intro e;(try simp only [Bool.not_eq_true',Bool.not_eq_false'] at e);subst e;try contradiction))|refine Cd.skip ?_|refine Cd.blk ?_|refine Cd.ext ?_|refine Cd.ret ?_)
  all_goals (first|refine ⟨.inr rfl,_,.t rfl .nil,?_⟩|refine ⟨.inr rfl,_,.t rfl (.t rfl .nil),?_⟩|refine ⟨.inr rfl,_,.t rfl (.t rfl (.t rfl .nil)),?_⟩|refine ⟨.inr rfl,_,.nil,?_⟩|refine ⟨.inl rfl,_,.t rfl .nil,?_⟩|refine ⟨.inl rfl,_,.nil,?_⟩|refine ⟨.inr rfl,_,.cn rfl (by exact zN) .nil,?_⟩)
  all_goals (refine congrArg AV.bool ?_; simp only [useB]; simp_all)
structure Cap where
  up : Bool
  i : Int
def capR (x : Cap) : List AV := [.bool x.up, .int .i64 x.i]
def capB (x : Cap) : Bool := decide (0 ≤ x.i ∧ x.i ≤ 255)
theorem cap38 (x : Cap) : PT Try.prog false 38 [.agg (capR x)] (.bool (capB x)) := by
  refine PT.of (CT.enter mixed comp38 (Nat.le_of_ble_eq_true rfl) ?_)
  repeat' (first|refine zA ?_|refine Cd.reg ?_|refine Rg.nil ?_|refine zF ?_|refine zG ?_|refine zH ?_|(refine Rg.p (v:=?_) ?_ ?_;rotate_left;exact zE)|(refine Rg.cmp (p:=?_) rfl rfl ?_ ?_;rotate_left;exact zC;intro cv hv)|(refine Rg.r (v:=?_) rfl rfl ?_ ?_;rotate_left;exact zN)|refine zL fun _=>?_|refine Rg.alloc fun _=>?_|refine Rg.a (Mk.lits rfl) fun _=>?_|refine zO (cs:=?_) (K':=?_) ?_|refine zP (cs:=?_) (K':=?_) ?_|((first|refine Rg.callB (g:=?_) rfl ?_ ?_|refine Rg.callvB (w:=?_) rfl rfl ?_ ?_);rotate_left;(first|assumption|exact between_);intro cv hv)|((first|refine Rg.callv (v:=?_) rfl rfl ?_ ?_|refine Rg.call (v:=?_) rfl ?_ ?_);rotate_left;(first|assumption|exact between_))|(refine Dw.callB (g:=?_) rfl ?_ ?_ ?_;rotate_left;(first|assumption|exact between_);(focus (repeat (first | exact trivial | refine And.intro (Or.inl rfl) ?_ | (refine And.intro (Or.inr ?_) ?_; (focus (first | exact Rdk.i1 | assumption | (refine Rdk.in ?_; first | assumption | exact rfl) | (refine Rdk.b1 (cs := ?_) ?_ ?_; rotate_left; (repeat (first | exact InK.here | refine InK.there ?_)); exact rfl) | (refine Rdk.bw (cs := ?_) ?_ ?_; rotate_left; (repeat (first | exact InK.here | refine InK.there ?_)); first | assumption | exact rfl) | (refine Rdk.bn (cs := ?_) ?_ ?_; rotate_left; (repeat (first | exact InK.here | refine InK.there ?_)); exact rfl)))))));intro cv hv)|(refine Dw.call (v:=?_) rfl ?_ ?_ ?_;rotate_left;(first|assumption|exact between_);focus (repeat (first | exact trivial | refine And.intro (Or.inl rfl) ?_ | (refine And.intro (Or.inr ?_) ?_; (focus (first | exact Rdk.i1 | assumption | (refine Rdk.in ?_; first | assumption | exact rfl) | (refine Rdk.b1 (cs := ?_) ?_ ?_; rotate_left; (repeat (first | exact InK.here | refine InK.there ?_)); exact rfl) | (refine Rdk.bw (cs := ?_) ?_ ?_; rotate_left; (repeat (first | exact InK.here | refine InK.there ?_)); first | assumption | exact rfl) | (refine Rdk.bn (cs := ?_) ?_ ?_; rotate_left; (repeat (first | exact InK.here | refine InK.there ?_)); exact rfl)))))))|(refine zQ (g:=?_) ?_;intro cv hv)|(refine zR (w:=?_) ?_;intro cv hv)|refine zS (v:=?_) ?_|refine zT (v:=?_) ?_|refine Lp.round ?_|refine Cd.draw ?_|refine Dw.nil ?_|refine Dw.guardY rfl ?_|refine Dw.guardN rfl ?_|refine Dw.guardT rfl ?_|(refine Dw.p (v:=?_) ?_ ?_;rotate_left;exact zE)|(refine Dw.cmp (p:=?_) rfl rfl ?_ ?_;rotate_left;exact zC;intro cv hv)|(refine Dw.r (v:=?_) rfl rfl ?_ ?_ ?_;rotate_left;exact zN;exact zM)|refine Dw.a Mk.alloc fun _=>?_|refine Dw.a (Mk.lits rfl) fun _=>?_|(refine zY (g:=?_) ?_;intro cv hv)|refine zW (v:=?_) ?_|refine Cd.condT rfl ?_|refine Cd.condF rfl ?_|((first|refine Cd.cond rfl ?_ ?_|refine Rg.guardS rfl ?_ ?_|refine Dw.guardS rfl ?_ ?_)<;>(intro e;(try simp only [Bool.not_eq_true',Bool.not_eq_false'] at e);subst e;try contradiction))|refine Cd.skip ?_|refine Cd.blk ?_|refine Cd.ext ?_|refine Cd.ret ?_)
  all_goals (first|refine ⟨.inr rfl,_,.t rfl .nil,?_⟩|refine ⟨.inr rfl,_,.t rfl (.t rfl .nil),?_⟩|refine ⟨.inr rfl,_,.t rfl (.t rfl (.t rfl .nil)),?_⟩|refine ⟨.inr rfl,_,.nil,?_⟩|refine ⟨.inl rfl,_,.t rfl .nil,?_⟩|refine ⟨.inl rfl,_,.nil,?_⟩|refine ⟨.inr rfl,_,.cn rfl (by exact zN) .nil,?_⟩)
  all_goals (refine congrArg AV.bool ?_; simp only [capB]; simp_all)
structure Proto where
  name : List Nat
  params : Int
  regs : Int
  codeV : AV
  code : List Ins
  constsV : AV
  consts : List Val
  capsV : AV
  caps : List Cap
def protoR (p : Proto) : List AV := [.str p.name, .int .i64 p.params, .int .i64 p.regs, p.codeV, p.constsV, p.capsV]
structure OkP (p : Proto) : Prop where
  name : Txt p.name
  code : ASl 4 p.codeV (p.code.map insR)
  consts : ASl 3 p.constsV (p.consts.map valR)
  caps : ASl 2 p.capsV (p.caps.map capR)
  lcode : p.code.length ≤ 9223372036854775807
  lconsts : p.consts.length ≤ 9223372036854775807
  lcaps : p.caps.length ≤ 9223372036854775807
def headB (p : Proto) (top : Bool) : Bool := if top = true then isName p.name && decide (p.caps.length = 0) else decide (p.name = []) && (decide (p.caps.length ≤ 255) && p.caps.all capB)
def shapedB (p : Proto) : Bool := decide (0 ≤ p.params ∧ p.params ≤ 8) && decide (max 1 p.params ≤ p.regs ∧ p.regs ≤ 100) && (decide (p.consts.length ≤ 200) && p.consts.all constB) && (decide (p.code.length ≤ 8000) && p.code.all rightI)
def protoB (p : Proto) (top : Bool) : Bool := headB p top && shapedB p
theorem OkP.lens {p : Proto} (h : OkP p) : apure .e (.len false (.c p.codeV)) = some (.int .i64 (.ofNat p.code.length)) ∧ apure .e (.len false (.c p.constsV)) = some (.int .i64 (.ofNat p.consts.length)) ∧ apure .e (.len false (.c p.capsV)) = some (.int .i64 (.ofNat p.caps.length)) := by
  have h1 := h.code.len
  have h2 := h.consts.len
  have h3 := h.caps.len
  rw [List.length_map] at h1 h2 h3
  exact ⟨h1, h2, h3⟩
theorem headed23 {p : Proto} (h : OkP p) (top : Bool) : PT Try.prog false 23 [.agg (protoR p), .bool top] (.bool (headB p top)) := by
  refine PT.of (CT.enter mixed comp23 (Nat.le_of_ble_eq_true rfl) ?_)
  obtain ⟨l1, l2, l3⟩ := h.lens
  have hn := name17 h.name
  have he := every37 (m := 255) h.caps (fun _ => rfl) (fun x _ => cap38 x) h.lcaps
  cases top with
  | true =>
    repeat' (first|refine zA ?_|refine Cd.reg ?_|refine Rg.nil ?_|refine zF ?_|refine zG ?_|refine zH ?_|(refine Rg.p (v:=?_) ?_ ?_;rotate_left;exact zE)|(refine Rg.cmp (p:=?_) rfl rfl ?_ ?_;rotate_left;exact zC;intro cv hv)|(refine Rg.r (v:=?_) rfl rfl ?_ ?_;rotate_left;exact zN)|refine zL fun _=>?_|refine Rg.alloc fun _=>?_|refine Rg.a (Mk.lits rfl) fun _=>?_|refine zO (cs:=?_) (K':=?_) ?_|refine zP (cs:=?_) (K':=?_) ?_|(refine zQ (g:=?_) ?_;intro cv hv)|(refine zR (w:=?_) ?_;intro cv hv)|refine zS (v:=?_) ?_|refine zT (v:=?_) ?_|refine Lp.round ?_|refine Cd.draw ?_|refine Dw.nil ?_|refine Dw.guardY rfl ?_|refine Dw.guardN rfl ?_|refine Dw.guardT rfl ?_|(refine Dw.p (v:=?_) ?_ ?_;rotate_left;exact zE)|(refine Dw.cmp (p:=?_) rfl rfl ?_ ?_;rotate_left;exact zC;intro cv hv)|(refine Dw.r (v:=?_) rfl rfl ?_ ?_ ?_;rotate_left;exact zN;exact zM)|refine Dw.a Mk.alloc fun _=>?_|refine Dw.a (Mk.lits rfl) fun _=>?_|(refine zY (g:=?_) ?_;intro cv hv)|refine zW (v:=?_) ?_|refine Cd.condT rfl ?_|refine Cd.condF rfl ?_|((first|refine Cd.cond rfl ?_ ?_|refine Rg.guardS rfl ?_ ?_|refine Dw.guardS rfl ?_ ?_)<;>(intro e;(try simp only [Bool.not_eq_true',Bool.not_eq_false'] at e);subst e;try contradiction))|refine Cd.skip ?_|refine Cd.blk ?_|refine Cd.ext ?_|refine Cd.ret ?_)
    all_goals (first|refine ⟨.inr rfl,_,.t rfl .nil,?_⟩|refine ⟨.inr rfl,_,.t rfl (.t rfl .nil),?_⟩|refine ⟨.inr rfl,_,.t rfl (.t rfl (.t rfl .nil)),?_⟩|refine ⟨.inr rfl,_,.nil,?_⟩|refine ⟨.inl rfl,_,.t rfl .nil,?_⟩|refine ⟨.inl rfl,_,.nil,?_⟩|refine ⟨.inr rfl,_,.cn rfl (by exact zN) .nil,?_⟩)
    all_goals (clear he hn l1 l2 l3 h; (refine congrArg AV.bool ?_; simp only [headB, if_true, if_false, Bool.false_eq_true]; first | (simp_all only [Bool.and_true, Bool.true_and, Bool.and_false, Bool.false_and, Bool.or_true, Bool.or_false, Bool.true_or, Bool.false_or, Bool.not_true, Bool.not_false]; done) | (rw [Bool.eq_iff_iff]; simp_all; done) | (rw [Bool.eq_iff_iff]; simp_all; omega) | (simp; omega)))
  | false =>
    repeat' (first|refine zA ?_|refine Cd.reg ?_|refine Rg.nil ?_|refine zF ?_|refine zG ?_|refine zH ?_|(refine Rg.p (v:=?_) ?_ ?_;rotate_left;exact zE)|(refine Rg.cmp (p:=?_) rfl rfl ?_ ?_;rotate_left;exact zC;intro cv hv)|(refine Rg.r (v:=?_) rfl rfl ?_ ?_;rotate_left;exact zN)|refine zL fun _=>?_|refine Rg.alloc fun _=>?_|refine Rg.a (Mk.lits rfl) fun _=>?_|refine zO (cs:=?_) (K':=?_) ?_|refine zP (cs:=?_) (K':=?_) ?_|(refine zQ (g:=?_) ?_;intro cv hv)|(refine zR (w:=?_) ?_;intro cv hv)|refine zS (v:=?_) ?_|refine zT (v:=?_) ?_|refine Lp.round ?_|refine Cd.draw ?_|refine Dw.nil ?_|refine Dw.guardY rfl ?_|refine Dw.guardN rfl ?_|refine Dw.guardT rfl ?_|(refine Dw.p (v:=?_) ?_ ?_;rotate_left;exact zE)|(refine Dw.cmp (p:=?_) rfl rfl ?_ ?_;rotate_left;exact zC;intro cv hv)|(refine Dw.r (v:=?_) rfl rfl ?_ ?_ ?_;rotate_left;exact zN;exact zM)|refine Dw.a Mk.alloc fun _=>?_|refine Dw.a (Mk.lits rfl) fun _=>?_|(refine zY (g:=?_) ?_;intro cv hv)|refine zW (v:=?_) ?_|refine Cd.condT rfl ?_|refine Cd.condF rfl ?_|((first|refine Cd.cond rfl ?_ ?_|refine Rg.guardS rfl ?_ ?_|refine Dw.guardS rfl ?_ ?_)<;>(intro e;(try simp only [Bool.not_eq_true',Bool.not_eq_false'] at e);subst e;try contradiction))|refine Cd.skip ?_|refine Cd.blk ?_|refine Cd.ext ?_|refine Cd.ret ?_)
    all_goals (first|refine ⟨.inr rfl,_,.t rfl .nil,?_⟩|refine ⟨.inr rfl,_,.t rfl (.t rfl .nil),?_⟩|refine ⟨.inr rfl,_,.t rfl (.t rfl (.t rfl .nil)),?_⟩|refine ⟨.inr rfl,_,.nil,?_⟩|refine ⟨.inl rfl,_,.t rfl .nil,?_⟩|refine ⟨.inl rfl,_,.nil,?_⟩|refine ⟨.inr rfl,_,.cn rfl (by exact zN) .nil,?_⟩)
    all_goals (clear he hn l1 l2 l3 h; (refine congrArg AV.bool ?_; simp only [headB, if_true, if_false, Bool.false_eq_true]; first | (simp_all only [Bool.and_true, Bool.true_and, Bool.and_false, Bool.false_and, Bool.or_true, Bool.or_false, Bool.true_or, Bool.false_or, Bool.not_true, Bool.not_false]; done) | (rw [Bool.eq_iff_iff]; simp_all; done) | (rw [Bool.eq_iff_iff]; simp_all; omega) | (simp; omega)))
theorem amax2 {k j : IntKind} {a b : Int} : amax k a [.int j b] = some (.int k (max a b)) := by
  simp only [amax, ilt_dec]
  by_cases h : a < b
  · simp [h]; omega
  · simp [h]; omega
theorem amin2 {k j : IntKind} {a b : Int} : amin k a [.int j b] = some (.int k (min a b)) := by
  simp only [amin, ilt_dec]
  by_cases h : b < a
  · simp [h]; omega
  · simp [h]; omega
theorem shaped24 {p : Proto} (h : OkP p) : PT Try.prog false 24 [.agg (protoR p)] (.bool (shapedB p)) := by
  refine PT.of (CT.enter mixed comp24 (Nat.le_of_ble_eq_true rfl) ?_)
  have h1 := every39 (m := 200) h.consts (fun _ => rfl) (fun x _ => plain40 x) h.lconsts
  have h2 := every41 (m := 8000) h.code (fun _ => rfl) (fun x _ => right42 x) h.lcode
  have h3 : amax .i64 (.ofNat 1) [.int .i64 p.params] = some (.int .i64 (max 1 p.params)) := amax2
  repeat' (first|refine zA ?_|refine Cd.reg ?_|refine Rg.nil ?_|refine zF ?_|refine zG ?_|refine zH ?_|(refine Rg.p (v:=?_) ?_ ?_;rotate_left;exact zE)|(refine Rg.cmp (p:=?_) rfl rfl ?_ ?_;rotate_left;exact zC;intro cv hv)|(refine Rg.r (v:=?_) rfl rfl ?_ ?_;rotate_left;exact zN)|refine zL fun _=>?_|refine Rg.alloc fun _=>?_|refine Rg.a (Mk.lits rfl) fun _=>?_|refine zO (cs:=?_) (K':=?_) ?_|refine zP (cs:=?_) (K':=?_) ?_|((first|refine Rg.callB (g:=?_) rfl ?_ ?_|refine Rg.callvB (w:=?_) rfl rfl ?_ ?_);rotate_left;(first|assumption|exact between_);intro cv hv)|((first|refine Rg.callv (v:=?_) rfl rfl ?_ ?_|refine Rg.call (v:=?_) rfl ?_ ?_);rotate_left;(first|assumption|exact between_))|(refine Dw.callB (g:=?_) rfl ?_ ?_ ?_;rotate_left;(first|assumption|exact between_);(focus (repeat (first | exact trivial | refine And.intro (Or.inl rfl) ?_ | (refine And.intro (Or.inr ?_) ?_; (focus (first | exact Rdk.i1 | assumption | (refine Rdk.in ?_; first | assumption | exact rfl) | (refine Rdk.b1 (cs := ?_) ?_ ?_; rotate_left; (repeat (first | exact InK.here | refine InK.there ?_)); exact rfl) | (refine Rdk.bw (cs := ?_) ?_ ?_; rotate_left; (repeat (first | exact InK.here | refine InK.there ?_)); first | assumption | exact rfl) | (refine Rdk.bn (cs := ?_) ?_ ?_; rotate_left; (repeat (first | exact InK.here | refine InK.there ?_)); exact rfl)))))));intro cv hv)|(refine Dw.call (v:=?_) rfl ?_ ?_ ?_;rotate_left;(first|assumption|exact between_);focus (repeat (first | exact trivial | refine And.intro (Or.inl rfl) ?_ | (refine And.intro (Or.inr ?_) ?_; (focus (first | exact Rdk.i1 | assumption | (refine Rdk.in ?_; first | assumption | exact rfl) | (refine Rdk.b1 (cs := ?_) ?_ ?_; rotate_left; (repeat (first | exact InK.here | refine InK.there ?_)); exact rfl) | (refine Rdk.bw (cs := ?_) ?_ ?_; rotate_left; (repeat (first | exact InK.here | refine InK.there ?_)); first | assumption | exact rfl) | (refine Rdk.bn (cs := ?_) ?_ ?_; rotate_left; (repeat (first | exact InK.here | refine InK.there ?_)); exact rfl)))))))|(refine zQ (g:=?_) ?_;intro cv hv)|(refine zR (w:=?_) ?_;intro cv hv)|refine zS (v:=?_) ?_|refine zT (v:=?_) ?_|refine Lp.round ?_|refine Cd.draw ?_|refine Dw.nil ?_|refine Dw.guardY rfl ?_|refine Dw.guardN rfl ?_|refine Dw.guardT rfl ?_|(refine Dw.p (v:=?_) ?_ ?_;rotate_left;exact zE)|(refine Dw.cmp (p:=?_) rfl rfl ?_ ?_;rotate_left;exact zC;intro cv hv)|(refine Dw.r (v:=?_) rfl rfl ?_ ?_ ?_;rotate_left;exact zN;exact zM)|refine Dw.a Mk.alloc fun _=>?_|refine Dw.a (Mk.lits rfl) fun _=>?_|(refine zY (g:=?_) ?_;intro cv hv)|refine zW (v:=?_) ?_|refine Cd.condT rfl ?_|refine Cd.condF rfl ?_|((first|refine Cd.cond rfl ?_ ?_|refine Rg.guardS rfl ?_ ?_|refine Dw.guardS rfl ?_ ?_)<;>(intro e;(try simp only [Bool.not_eq_true',Bool.not_eq_false'] at e);subst e;try contradiction))|refine Cd.skip ?_|refine Cd.blk ?_|refine Cd.ext ?_|refine Cd.ret ?_)
  all_goals (first|refine ⟨.inr rfl,_,.t rfl .nil,?_⟩|refine ⟨.inr rfl,_,.t rfl (.t rfl .nil),?_⟩|refine ⟨.inr rfl,_,.t rfl (.t rfl (.t rfl .nil)),?_⟩|refine ⟨.inr rfl,_,.nil,?_⟩|refine ⟨.inl rfl,_,.t rfl .nil,?_⟩|refine ⟨.inl rfl,_,.nil,?_⟩|refine ⟨.inr rfl,_,.cn rfl (by exact zN) .nil,?_⟩)
  all_goals (clear h1 h2 h3 h; (refine congrArg AV.bool ?_; simp only [shapedB]; first | (simp_all only [Bool.and_true, Bool.true_and, Bool.and_false, Bool.false_and, Bool.or_true, Bool.or_false, Bool.true_or, Bool.false_or, Bool.not_true, Bool.not_false]; done) | (rw [Bool.eq_iff_iff]; simp_all; done) | (rw [Bool.eq_iff_iff]; simp_all; omega) | (simp; omega)))
end Go.Proofs.Ytmedepnfpiheoaa

namespace Go.Proofs.Ytmedepnfpiheoaa
open Go Go.Abs
structure Unt where
  name : List Nat
  version : Int
  usesV : AV
  uses : List Use
  funs : Int
  protosV : AV
  protos : List Proto
def unitR (u : Unt) : List AV := [.str u.name, .int .i64 u.version, u.usesV, .int .i64 u.funs, u.protosV]
structure OkU (u : Unt) : Prop where
  name : Txt u.name
  uses : ASl 3 u.usesV (u.uses.map useR)
  protos : ASl 6 u.protosV (u.protos.map protoR)
  luses : u.uses.length ≤ 9223372036854775807
  lprotos : u.protos.length ≤ 9223372036854775807
  um : ∀ x, x ∈ u.uses → Txt x.m ∧ Txt x.n
  ps : ∀ p, p ∈ u.protos → OkP p
theorem OkU.lens {u : Unt} (h : OkU u) : apure .e (.len false (.c u.usesV)) = some (.int .i64 (.ofNat u.uses.length)) ∧ apure .e (.len false (.c u.protosV)) = some (.int .i64 (.ofNat u.protos.length)) := by
  have h1 := h.uses.len
  have h2 := h.protos.len
  rw [List.length_map] at h1 h2
  exact ⟨h1, h2⟩
abbrev boxI (b i : Nat) : Chk := [(b, .cells [.int .i64 (.ofNat i)] 0 0 false)]
abbrev boxU (b : Nat) (u : Unt) : Chk := [(b, .cells (unitR u) 0 0 false)]
theorem right22 {p : Proto} {u : Unt} {bi bu i : Nat} (h : OkP p) (hi : i < 9223372036854775807) :
    CT Try.prog false 22 [.agg (protoR p), .ptr bi 0 0 1, .ptr bu 0 0 5] [boxI bi i, boxU bu u] (fun w K' => w = .bool (protoB p (decide (((i + 1 : Nat) : Int) ≤ u.funs))) ∧ K' = [boxI bi (i + 1), boxU bu u]) := by
  have key : CT Try.prog false 22 [.agg (protoR p), .ptr bi 0 0 1, .ptr bu 0 0 5] [boxI bi i, boxU bu u] (fun w K' => w = .bool (protoB p (decide (((i + 1 : Nat) : Int) ≤ u.funs))) ∧ ∃ c, K' = [c, boxI bi (i + 1), boxU bu u]) := by
    refine CT.enter mixed comp22 (Nat.le_of_ble_eq_true rfl) ?_
    have hs := shaped24 h
    have hh := headed23 h
    repeat' (first|refine zA ?_|refine Cd.reg ?_|refine Rg.nil ?_|refine zF ?_|refine zG ?_|refine zH ?_|(refine Rg.p (v:=?_) ?_ ?_;rotate_left;exact zE)|(refine Rg.cmp (p:=?_) rfl rfl ?_ ?_;rotate_left;exact zC;intro cv hv)|(refine Rg.r (v:=?_) rfl rfl ?_ ?_;rotate_left;exact zN)|refine zL fun _=>?_|refine Rg.alloc fun _=>?_|refine Rg.a (Mk.lits rfl) fun _=>?_|refine zO (cs:=?_) (K':=?_) ?_|refine zP (cs:=?_) (K':=?_) ?_|((first|refine Rg.callB (g:=?_) rfl ?_ ?_|refine Rg.callvB (w:=?_) rfl rfl ?_ ?_);rotate_left;(first|assumption|exact hh _);intro cv hv)|((first|refine Rg.callv (v:=?_) rfl rfl ?_ ?_|refine Rg.call (v:=?_) rfl ?_ ?_);rotate_left;(first|assumption|exact hh _))|(refine Dw.callB (g:=?_) rfl ?_ ?_ ?_;rotate_left;(first|assumption|exact hh _);(focus (repeat (first | exact trivial | refine And.intro (Or.inl rfl) ?_ | (refine And.intro (Or.inr ?_) ?_; (focus (first | exact Rdk.i1 | assumption | (refine Rdk.in ?_; first | assumption | exact rfl) | (refine Rdk.b1 (cs := ?_) ?_ ?_; rotate_left; (repeat (first | exact InK.here | refine InK.there ?_)); exact rfl) | (refine Rdk.bw (cs := ?_) ?_ ?_; rotate_left; (repeat (first | exact InK.here | refine InK.there ?_)); first | assumption | exact rfl) | (refine Rdk.bn (cs := ?_) ?_ ?_; rotate_left; (repeat (first | exact InK.here | refine InK.there ?_)); exact rfl)))))));intro cv hv)|(refine Dw.call (v:=?_) rfl ?_ ?_ ?_;rotate_left;(first|assumption|exact hh _);focus (repeat (first | exact trivial | refine And.intro (Or.inl rfl) ?_ | (refine And.intro (Or.inr ?_) ?_; (focus (first | exact Rdk.i1 | assumption | (refine Rdk.in ?_; first | assumption | exact rfl) | (refine Rdk.b1 (cs := ?_) ?_ ?_; rotate_left; (repeat (first | exact InK.here | refine InK.there ?_)); exact rfl) | (refine Rdk.bw (cs := ?_) ?_ ?_; rotate_left; (repeat (first | exact InK.here | refine InK.there ?_)); first | assumption | exact rfl) | (refine Rdk.bn (cs := ?_) ?_ ?_; rotate_left; (repeat (first | exact InK.here | refine InK.there ?_)); exact rfl)))))))|(refine zQ (g:=?_) ?_;intro cv hv)|(refine zR (w:=?_) ?_;intro cv hv)|refine zS (v:=?_) ?_|refine zT (v:=?_) ?_|refine Lp.round ?_|refine Cd.draw ?_|refine Dw.nil ?_|refine Dw.guardY rfl ?_|refine Dw.guardN rfl ?_|refine Dw.guardT rfl ?_|(refine Dw.p (v:=?_) ?_ ?_;rotate_left;exact zE)|(refine Dw.cmp (p:=?_) rfl rfl ?_ ?_;rotate_left;exact zC;intro cv hv)|(refine Dw.r (v:=?_) rfl rfl ?_ ?_ ?_;rotate_left;exact zN;exact zM)|refine Dw.a Mk.alloc fun _=>?_|refine Dw.a (Mk.lits rfl) fun _=>?_|(refine zY (g:=?_) ?_;intro cv hv)|refine zW (v:=?_) ?_|refine Cd.condT rfl ?_|refine Cd.condF rfl ?_|((first|refine Cd.cond rfl ?_ ?_|refine Rg.guardS rfl ?_ ?_|refine Dw.guardS rfl ?_ ?_)<;>(intro e;(try simp only [Bool.not_eq_true',Bool.not_eq_false'] at e);subst e;try contradiction))|refine Cd.skip ?_|refine Cd.blk ?_|refine Cd.ext ?_|refine Cd.ret ?_)
    all_goals (first|refine ⟨.inr rfl,_,.t rfl .nil,?_⟩|refine ⟨.inr rfl,_,.t rfl (.t rfl .nil),?_⟩|refine ⟨.inr rfl,_,.t rfl (.t rfl (.t rfl .nil)),?_⟩|refine ⟨.inr rfl,_,.nil,?_⟩|refine ⟨.inl rfl,_,.t rfl .nil,?_⟩|refine ⟨.inl rfl,_,.nil,?_⟩|refine ⟨.inr rfl,_,.cn rfl (by exact zN) .nil,?_⟩)
    all_goals (refine ⟨?_, _, rfl⟩)
    · rename_i _ c1 h1 h2
      rw [protoB, show decide (((i + 1 : Nat) : Int) ≤ u.funs) = c1 by rw [Bool.eq_iff_iff, h1]; simp, h2, hv]; rfl
    · rename_i _ h1
      rw [protoB, show decide (((i + 1 : Nat) : Int) ≤ u.funs) = cv by rw [Bool.eq_iff_iff, h1]; simp, hv]; rfl
  refine key.dropR ?_
  rintro v K' ⟨rfl, c, rfl⟩
  exact ⟨_, _, .cons (.there .here) (.cons (.there .here) .nil), rfl, rfl⟩
/-- Functions, the first ones as functions of the module. -/
def protosB (funs : Int) : Nat → List Proto → Bool
  | _, [] => true
  | i, p :: r => protoB p (decide (((i + 1 : Nat) : Int) ≤ funs)) && protosB funs (i + 1) r
theorem protosB_drop {funs : Int} {l : List Proto} {i : Nat} {p : Proto} (h : l[i]? = some p) (j : Nat) : protosB funs j (l.drop i) = (protoB p (decide (((j + 1 : Nat) : Int) ≤ funs)) && protosB funs (j + 1) (l.drop (i + 1))) := by
  obtain ⟨h1, h2⟩ := List.getElem?_eq_some_iff.1 h
  rw [List.drop_eq_getElem_cons h1, h2]; rfl
theorem every21_loop {u : Unt} (hu : OkU u) {bi bu : Nat} {Q : AX → SL → Mem → Prop} (hret : ∀ l' K, protosB u.funs 0 u.protos = false → lkS l' 6 = some (.bool false) → Q .ret l' K) (hend : ∀ l' K, protosB u.funs 0 u.protos = true → Q (.ext 0) l' K) :
    ∀ (k i : Nat), u.protos.length < i + k → i ≤ u.protos.length → protosB u.funs i (u.protos.drop i) = protosB u.funs 0 u.protos → Lp Try.prog false b21_0 k [(2, .fn 22 [] [.ptr bi 0 0 1, .ptr bu 0 0 5]), (13, u.protosV), (14, .int .i64 (.ofNat u.protos.length)), (15, .int .i64 (.ofNat i))] [boxI bi i, boxU bu u] Q := by
  have hl := hu.lprotos
  intro k
  induction k with
  | zero => intro i h1 h2; omega
  | succ k ih =>
    intro i h1 h2 h3
    refine Lp.round ?_
    by_cases hi : i < u.protos.length
    · obtain ⟨x, hx⟩ : ∃ x, u.protos[i]? = some x := ⟨_, List.getElem?_eq_getElem hi⟩
      have q1 := hu.protos.iadr (i := i) (r := protoR x) (k := .i64) (by rw [List.getElem?_map, hx]; rfl)
      have hx2 := hu.ps x (List.mem_of_getElem? hx)
      rw [protosB_drop hx] at h3
      repeat (first|refine zA ?_|refine Cd.reg ?_|refine Rg.nil ?_|refine zF ?_|refine zG ?_|refine zH ?_|(refine Rg.p (v:=?_) ?_ ?_;rotate_left;exact zE)|(refine Rg.cmp (p:=?_) rfl rfl ?_ ?_;rotate_left;exact zC;intro cv hv)|(refine Rg.r (v:=?_) rfl rfl ?_ ?_;rotate_left;exact zN)|refine zL fun _=>?_|refine Rg.alloc fun _=>?_|refine Rg.a (Mk.lits rfl) fun _=>?_|refine zO (cs:=?_) (K':=?_) ?_|refine zP (cs:=?_) (K':=?_) ?_|(refine zQ (g:=?_) ?_;intro cv hv)|(refine zR (w:=?_) ?_;intro cv hv)|refine zS (v:=?_) ?_|refine zT (v:=?_) ?_|refine Lp.round ?_|refine Cd.draw ?_|refine Dw.nil ?_|refine Dw.guardY rfl ?_|refine Dw.guardN rfl ?_|refine Dw.guardT rfl ?_|(refine Dw.p (v:=?_) ?_ ?_;rotate_left;exact zE)|(refine Dw.cmp (p:=?_) rfl rfl ?_ ?_;rotate_left;exact zC;intro cv hv)|(refine Dw.r (v:=?_) rfl rfl ?_ ?_ ?_;rotate_left;exact zN;exact zM)|refine Dw.a Mk.alloc fun _=>?_|refine Dw.a (Mk.lits rfl) fun _=>?_|(refine zY (g:=?_) ?_;intro cv hv)|refine zW (v:=?_) ?_|refine Cd.condT rfl ?_|refine Cd.condF rfl ?_|((first|refine Cd.cond rfl ?_ ?_|refine Rg.guardS rfl ?_ ?_|refine Dw.guardS rfl ?_ ?_)<;>(intro e;(try simp only [Bool.not_eq_true',Bool.not_eq_false'] at e);subst e;try contradiction))|refine Cd.skip ?_|refine Cd.blk ?_|refine Cd.ext ?_|refine Cd.ret ?_)
      have hc := right22 (u := u) (bi := bi) (bu := bu) (i := i) hx2 (by omega)
      refine Rg.callvM (first := []) (vs := [.agg (protoR x)]) (cap := [.ptr bi 0 0 1, .ptr bu 0 0 5]) (m := [boxI bi i, boxU bu u]) (r := ?_) ?_ ?_ hc ?_ ?_
      rotate_left
      exact rfl
      exact rfl
      (repeat (first | exact Sel.nil | (apply Sel.cons; (repeat (first | exact Take.here | apply Take.there)))))
      rintro v K' ⟨rfl, rfl⟩
      generalize hg : protoB x (decide (((i + 1 : Nat) : Int) ≤ u.funs)) = cv at h3 ⊢
      repeat' (first|refine zA ?_|refine Cd.reg ?_|refine Rg.nil ?_|refine zF ?_|refine zG ?_|refine zH ?_|(refine Rg.p (v:=?_) ?_ ?_;rotate_left;exact zE)|(refine Rg.cmp (p:=?_) rfl rfl ?_ ?_;rotate_left;exact zC;intro cv hv)|(refine Rg.r (v:=?_) rfl rfl ?_ ?_;rotate_left;exact zN)|refine zL fun _=>?_|refine Rg.alloc fun _=>?_|refine Rg.a (Mk.lits rfl) fun _=>?_|refine zO (cs:=?_) (K':=?_) ?_|refine zP (cs:=?_) (K':=?_) ?_|(refine zQ (g:=?_) ?_;intro cv hv)|(refine zR (w:=?_) ?_;intro cv hv)|refine zS (v:=?_) ?_|refine zT (v:=?_) ?_|refine Lp.round ?_|refine Cd.draw ?_|refine Dw.nil ?_|refine Dw.guardY rfl ?_|refine Dw.guardN rfl ?_|refine Dw.guardT rfl ?_|(refine Dw.p (v:=?_) ?_ ?_;rotate_left;exact zE)|(refine Dw.cmp (p:=?_) rfl rfl ?_ ?_;rotate_left;exact zC;intro cv hv)|(refine Dw.r (v:=?_) rfl rfl ?_ ?_ ?_;rotate_left;exact zN;exact zM)|refine Dw.a Mk.alloc fun _=>?_|refine Dw.a (Mk.lits rfl) fun _=>?_|(refine zY (g:=?_) ?_;intro cv hv)|refine zW (v:=?_) ?_|refine Cd.condT rfl ?_|refine Cd.condF rfl ?_|((first|refine Cd.cond rfl ?_ ?_|refine Rg.guardS rfl ?_ ?_|refine Dw.guardS rfl ?_ ?_)<;>(intro e;(try simp only [Bool.not_eq_true',Bool.not_eq_false'] at e);subst e;try contradiction))|refine Cd.skip ?_|refine Cd.blk ?_|refine Cd.ext ?_|refine Cd.ret ?_)
      · exact hret _ _ (by rw [← h3]; rfl) rfl
      · refine Lp.drop (m := [boxI bi (i + 1), boxU bu u]) (.cons .here (.cons .here .nil)) (Lp.weak ?hw (ih (i + 1) (by omega) (by omega) ?_))
        case hw => exact ⟨rfl, rfl, rfl, rfl, trivial⟩
        rw [← h3]; rfl
    · repeat' (first|refine zA ?_|refine Cd.reg ?_|refine Rg.nil ?_|refine zF ?_|refine zG ?_|refine zH ?_|(refine Rg.p (v:=?_) ?_ ?_;rotate_left;exact zE)|(refine Rg.cmp (p:=?_) rfl rfl ?_ ?_;rotate_left;exact zC;intro cv hv)|(refine Rg.r (v:=?_) rfl rfl ?_ ?_;rotate_left;exact zN)|refine zL fun _=>?_|refine Rg.alloc fun _=>?_|refine Rg.a (Mk.lits rfl) fun _=>?_|refine zO (cs:=?_) (K':=?_) ?_|refine zP (cs:=?_) (K':=?_) ?_|(refine zQ (g:=?_) ?_;intro cv hv)|(refine zR (w:=?_) ?_;intro cv hv)|refine zS (v:=?_) ?_|refine zT (v:=?_) ?_|refine Lp.round ?_|refine Cd.draw ?_|refine Dw.nil ?_|refine Dw.guardY rfl ?_|refine Dw.guardN rfl ?_|refine Dw.guardT rfl ?_|(refine Dw.p (v:=?_) ?_ ?_;rotate_left;exact zE)|(refine Dw.cmp (p:=?_) rfl rfl ?_ ?_;rotate_left;exact zC;intro cv hv)|(refine Dw.r (v:=?_) rfl rfl ?_ ?_ ?_;rotate_left;exact zN;exact zM)|refine Dw.a Mk.alloc fun _=>?_|refine Dw.a (Mk.lits rfl) fun _=>?_|(refine zY (g:=?_) ?_;intro cv hv)|refine zW (v:=?_) ?_|refine Cd.condT rfl ?_|refine Cd.condF rfl ?_|((first|refine Cd.cond rfl ?_ ?_|refine Rg.guardS rfl ?_ ?_|refine Dw.guardS rfl ?_ ?_)<;>(intro e;(try simp only [Bool.not_eq_true',Bool.not_eq_false'] at e);subst e;try contradiction))|refine Cd.skip ?_|refine Cd.blk ?_|refine Cd.ext ?_|refine Cd.ret ?_)
      refine hend _ _ ?_
      rw [← h3, List.drop_of_length_le (by omega)]; rfl
theorem every21 {u : Unt} (hu : OkU u) {bi bu : Nat} : CT Try.prog false 21 [u.protosV, .int .i64 (.ofNat 64), .fn 22 [] [.ptr bi 0 0 1, .ptr bu 0 0 5]] [boxI bi 0, boxU bu u] (fun w _ => w = .bool (decide (u.protos.length ≤ 64) && protosB u.funs 0 u.protos)) := by
  refine CT.enter mixed comp21 (Nat.le_of_ble_eq_true rfl) ?_
  obtain ⟨_, q1⟩ := hu.lens
  by_cases hm : u.protos.length ≤ 64
  · repeat' (first|refine zA ?_|refine Cd.reg ?_|refine Rg.nil ?_|refine zF ?_|refine zG ?_|refine zH ?_|(refine Rg.p (v:=?_) ?_ ?_;rotate_left;exact zE)|(refine Rg.cmp (p:=?_) rfl rfl ?_ ?_;rotate_left;exact zC;intro cv hv)|(refine Rg.r (v:=?_) rfl rfl ?_ ?_;rotate_left;exact zN)|refine zL fun _=>?_|refine Rg.alloc fun _=>?_|refine Rg.a (Mk.lits rfl) fun _=>?_|refine zO (cs:=?_) (K':=?_) ?_|refine zP (cs:=?_) (K':=?_) ?_|(refine zQ (g:=?_) ?_;intro cv hv)|(refine zR (w:=?_) ?_;intro cv hv)|refine zS (v:=?_) ?_|refine zT (v:=?_) ?_|refine Lp.round ?_|refine Cd.draw ?_|refine Dw.nil ?_|refine Dw.guardY rfl ?_|refine Dw.guardN rfl ?_|refine Dw.guardT rfl ?_|(refine Dw.p (v:=?_) ?_ ?_;rotate_left;exact zE)|(refine Dw.cmp (p:=?_) rfl rfl ?_ ?_;rotate_left;exact zC;intro cv hv)|(refine Dw.r (v:=?_) rfl rfl ?_ ?_ ?_;rotate_left;exact zN;exact zM)|refine Dw.a Mk.alloc fun _=>?_|refine Dw.a (Mk.lits rfl) fun _=>?_|(refine zY (g:=?_) ?_;intro cv hv)|refine zW (v:=?_) ?_|refine Cd.condT rfl ?_|refine Cd.condF rfl ?_|((first|refine Cd.cond rfl ?_ ?_|refine Rg.guardS rfl ?_ ?_|refine Dw.guardS rfl ?_ ?_)<;>(intro e;(try simp only [Bool.not_eq_true',Bool.not_eq_false'] at e);subst e;try contradiction))|refine Cd.skip ?_|refine Cd.blk ?_|refine Cd.ext ?_|refine Cd.ret ?_)
    refine Cd.loop (k := u.protos.length + 1) (Lp.weak ?hw (every21_loop hu ?_ ?_ (u.protos.length + 1) 0 (by omega) (by omega) rfl))
    case hw => exact ⟨rfl, rfl, rfl, rfl, trivial⟩
    · intro l' K h1 h2
      exact ⟨.inr rfl, _, .t h2 .nil, by rw [h1, Bool.and_false]; rfl⟩
    · intro l' K h1
      show Cd _ _ _ _ _ _
      refine Cd.weak (l2 := []) trivial ?_
      repeat' (first|refine zA ?_|refine Cd.reg ?_|refine Rg.nil ?_|refine zF ?_|refine zG ?_|refine zH ?_|(refine Rg.p (v:=?_) ?_ ?_;rotate_left;exact zE)|(refine Rg.cmp (p:=?_) rfl rfl ?_ ?_;rotate_left;exact zC;intro cv hv)|(refine Rg.r (v:=?_) rfl rfl ?_ ?_;rotate_left;exact zN)|refine zL fun _=>?_|refine Rg.alloc fun _=>?_|refine Rg.a (Mk.lits rfl) fun _=>?_|refine zO (cs:=?_) (K':=?_) ?_|refine zP (cs:=?_) (K':=?_) ?_|(refine zQ (g:=?_) ?_;intro cv hv)|(refine zR (w:=?_) ?_;intro cv hv)|refine zS (v:=?_) ?_|refine zT (v:=?_) ?_|refine Lp.round ?_|refine Cd.draw ?_|refine Dw.nil ?_|refine Dw.guardY rfl ?_|refine Dw.guardN rfl ?_|refine Dw.guardT rfl ?_|(refine Dw.p (v:=?_) ?_ ?_;rotate_left;exact zE)|(refine Dw.cmp (p:=?_) rfl rfl ?_ ?_;rotate_left;exact zC;intro cv hv)|(refine Dw.r (v:=?_) rfl rfl ?_ ?_ ?_;rotate_left;exact zN;exact zM)|refine Dw.a Mk.alloc fun _=>?_|refine Dw.a (Mk.lits rfl) fun _=>?_|(refine zY (g:=?_) ?_;intro cv hv)|refine zW (v:=?_) ?_|refine Cd.condT rfl ?_|refine Cd.condF rfl ?_|((first|refine Cd.cond rfl ?_ ?_|refine Rg.guardS rfl ?_ ?_|refine Dw.guardS rfl ?_ ?_)<;>(intro e;(try simp only [Bool.not_eq_true',Bool.not_eq_false'] at e);subst e;try contradiction))|refine Cd.skip ?_|refine Cd.blk ?_|refine Cd.ext ?_|refine Cd.ret ?_)
      (first|refine ⟨.inr rfl,_,.t rfl .nil,?_⟩|refine ⟨.inr rfl,_,.t rfl (.t rfl .nil),?_⟩|refine ⟨.inr rfl,_,.t rfl (.t rfl (.t rfl .nil)),?_⟩|refine ⟨.inr rfl,_,.nil,?_⟩|refine ⟨.inl rfl,_,.t rfl .nil,?_⟩|refine ⟨.inl rfl,_,.nil,?_⟩|refine ⟨.inr rfl,_,.cn rfl (by exact zN) .nil,?_⟩)
      rw [h1]; simp [hm, packL]
  · repeat' (first|refine zA ?_|refine Cd.reg ?_|refine Rg.nil ?_|refine zF ?_|refine zG ?_|refine zH ?_|(refine Rg.p (v:=?_) ?_ ?_;rotate_left;exact zE)|(refine Rg.cmp (p:=?_) rfl rfl ?_ ?_;rotate_left;exact zC;intro cv hv)|(refine Rg.r (v:=?_) rfl rfl ?_ ?_;rotate_left;exact zN)|refine zL fun _=>?_|refine Rg.alloc fun _=>?_|refine Rg.a (Mk.lits rfl) fun _=>?_|refine zO (cs:=?_) (K':=?_) ?_|refine zP (cs:=?_) (K':=?_) ?_|(refine zQ (g:=?_) ?_;intro cv hv)|(refine zR (w:=?_) ?_;intro cv hv)|refine zS (v:=?_) ?_|refine zT (v:=?_) ?_|refine Lp.round ?_|refine Cd.draw ?_|refine Dw.nil ?_|refine Dw.guardY rfl ?_|refine Dw.guardN rfl ?_|refine Dw.guardT rfl ?_|(refine Dw.p (v:=?_) ?_ ?_;rotate_left;exact zE)|(refine Dw.cmp (p:=?_) rfl rfl ?_ ?_;rotate_left;exact zC;intro cv hv)|(refine Dw.r (v:=?_) rfl rfl ?_ ?_ ?_;rotate_left;exact zN;exact zM)|refine Dw.a Mk.alloc fun _=>?_|refine Dw.a (Mk.lits rfl) fun _=>?_|(refine zY (g:=?_) ?_;intro cv hv)|refine zW (v:=?_) ?_|refine Cd.condT rfl ?_|refine Cd.condF rfl ?_|((first|refine Cd.cond rfl ?_ ?_|refine Rg.guardS rfl ?_ ?_|refine Dw.guardS rfl ?_ ?_)<;>(intro e;(try simp only [Bool.not_eq_true',Bool.not_eq_false'] at e);subst e;try contradiction))|refine Cd.skip ?_|refine Cd.blk ?_|refine Cd.ext ?_|refine Cd.ret ?_)
    (first|refine ⟨.inr rfl,_,.t rfl .nil,?_⟩|refine ⟨.inr rfl,_,.t rfl (.t rfl .nil),?_⟩|refine ⟨.inr rfl,_,.t rfl (.t rfl (.t rfl .nil)),?_⟩|refine ⟨.inr rfl,_,.nil,?_⟩|refine ⟨.inl rfl,_,.t rfl .nil,?_⟩|refine ⟨.inl rfl,_,.nil,?_⟩|refine ⟨.inr rfl,_,.cn rfl (by exact zN) .nil,?_⟩)
    simp [hm, packL]
/-- A unit that can be. -/
def unitB (u : Unt) : Bool := isName u.name && decide (1 ≤ u.version ∧ u.version ≤ 2147483647) && decide (0 ≤ u.funs ∧ u.funs ≤ min 32 (u.protos.length : Int)) && (decide (u.uses.length ≤ 16) && u.uses.all useB) && (decide (u.protos.length ≤ 64) && protosB u.funs 0 u.protos)
theorem right11 {u : Unt} (hu : OkU u) : PT Try.prog false 11 [.agg (unitR u)] (.bool (unitB u)) := by
  refine PT.of (CT.enter mixed comp11 (Nat.le_of_ble_eq_true rfl) ?_)
  obtain ⟨l1, l2⟩ := hu.lens
  have hn := name17 hu.name
  have he := every19 (m := 16) hu.uses (fun _ => rfl) (fun x hx => used20 x (hu.um x hx).1 (hu.um x hx).2) hu.luses
  have h3 : amin .i64 (.ofNat 32) [.int .i64 (.ofNat u.protos.length)] = some (.int .i64 (min 32 (u.protos.length : Int))) := amin2
  repeat' (first|refine zA ?_|refine Cd.reg ?_|refine Rg.nil ?_|refine zF ?_|refine zG ?_|refine zH ?_|(refine Rg.p (v:=?_) ?_ ?_;rotate_left;exact zE)|(refine Rg.cmp (p:=?_) rfl rfl ?_ ?_;rotate_left;exact zC;intro cv hv)|(refine Rg.r (v:=?_) rfl rfl ?_ ?_;rotate_left;exact zN)|refine zL fun _=>?_|refine Rg.alloc fun _=>?_|refine Rg.a (Mk.lits rfl) fun _=>?_|refine zO (cs:=?_) (K':=?_) ?_|refine zP (cs:=?_) (K':=?_) ?_|((first|refine Rg.callB (g:=?_) rfl ?_ ?_|refine Rg.callvB (w:=?_) rfl rfl ?_ ?_);rotate_left;(first|assumption|exact between_);intro cv hv)|((first|refine Rg.callv (v:=?_) rfl rfl ?_ ?_|refine Rg.call (v:=?_) rfl ?_ ?_);rotate_left;(first|assumption|exact between_))|(refine Dw.callB (g:=?_) rfl ?_ ?_ ?_;rotate_left;(first|assumption|exact between_);(focus (repeat (first | exact trivial | refine And.intro (Or.inl rfl) ?_ | (refine And.intro (Or.inr ?_) ?_; (focus (first | exact Rdk.i1 | assumption | (refine Rdk.in ?_; first | assumption | exact rfl) | (refine Rdk.b1 (cs := ?_) ?_ ?_; rotate_left; (repeat (first | exact InK.here | refine InK.there ?_)); exact rfl) | (refine Rdk.bw (cs := ?_) ?_ ?_; rotate_left; (repeat (first | exact InK.here | refine InK.there ?_)); first | assumption | exact rfl) | (refine Rdk.bn (cs := ?_) ?_ ?_; rotate_left; (repeat (first | exact InK.here | refine InK.there ?_)); exact rfl)))))));intro cv hv)|(refine Dw.call (v:=?_) rfl ?_ ?_ ?_;rotate_left;(first|assumption|exact between_);focus (repeat (first | exact trivial | refine And.intro (Or.inl rfl) ?_ | (refine And.intro (Or.inr ?_) ?_; (focus (first | exact Rdk.i1 | assumption | (refine Rdk.in ?_; first | assumption | exact rfl) | (refine Rdk.b1 (cs := ?_) ?_ ?_; rotate_left; (repeat (first | exact InK.here | refine InK.there ?_)); exact rfl) | (refine Rdk.bw (cs := ?_) ?_ ?_; rotate_left; (repeat (first | exact InK.here | refine InK.there ?_)); first | assumption | exact rfl) | (refine Rdk.bn (cs := ?_) ?_ ?_; rotate_left; (repeat (first | exact InK.here | refine InK.there ?_)); exact rfl)))))))|(refine zQ (g:=?_) ?_;intro cv hv)|(refine zR (w:=?_) ?_;intro cv hv)|refine zS (v:=?_) ?_|refine zT (v:=?_) ?_|refine Lp.round ?_|refine Cd.draw ?_|refine Dw.nil ?_|refine Dw.guardY rfl ?_|refine Dw.guardN rfl ?_|refine Dw.guardT rfl ?_|(refine Dw.p (v:=?_) ?_ ?_;rotate_left;exact zE)|(refine Dw.cmp (p:=?_) rfl rfl ?_ ?_;rotate_left;exact zC;intro cv hv)|(refine Dw.r (v:=?_) rfl rfl ?_ ?_ ?_;rotate_left;exact zN;exact zM)|refine Dw.a Mk.alloc fun _=>?_|refine Dw.a (Mk.lits rfl) fun _=>?_|(refine zY (g:=?_) ?_;intro cv hv)|refine zW (v:=?_) ?_|refine Cd.condT rfl ?_|refine Cd.condF rfl ?_|((first|refine Cd.cond rfl ?_ ?_|refine Rg.guardS rfl ?_ ?_|refine Dw.guardS rfl ?_ ?_)<;>(intro e;(try simp only [Bool.not_eq_true',Bool.not_eq_false'] at e);subst e;try contradiction))|refine Cd.skip ?_|refine Cd.blk ?_|refine Cd.ext ?_|refine Cd.ret ?_)
  all_goals (try ((first|refine ⟨.inr rfl,_,.t rfl .nil,?_⟩|refine ⟨.inr rfl,_,.t rfl (.t rfl .nil),?_⟩|refine ⟨.inr rfl,_,.t rfl (.t rfl (.t rfl .nil)),?_⟩|refine ⟨.inr rfl,_,.nil,?_⟩|refine ⟨.inl rfl,_,.t rfl .nil,?_⟩|refine ⟨.inl rfl,_,.nil,?_⟩|refine ⟨.inr rfl,_,.cn rfl (by exact zN) .nil,?_⟩); (refine congrArg AV.bool ?_; simp only [unitB]; first | (simp_all only [Bool.and_true, Bool.true_and, Bool.and_false, Bool.false_and, Bool.or_true, Bool.or_false, Bool.true_or, Bool.false_or, Bool.not_true, Bool.not_false]; done) | (rw [Bool.eq_iff_iff]; simp_all; done) | (rw [Bool.eq_iff_iff]; simp_all; omega) | (simp; omega)); done))
  rename_i bu _ _ _ bi
  refine Rg.callM (vs := [u.protosV, .int .i64 (.ofNat 64), .fn 22 [] [.ptr bi 0 0 1, .ptr bu 0 0 5]]) (m := [boxI bi 0, boxU bu u]) (r := ?_) ?_ (every21 hu) ?_ ?_
  rotate_left
  exact rfl
  (repeat (first | exact Sel.nil | (apply Sel.cons; (repeat (first | exact Take.here | apply Take.there)))))
  rintro v K' rfl
  generalize hg : (decide (u.protos.length ≤ 64) && protosB u.funs 0 u.protos) = cv
  repeat' (first|refine zA ?_|refine Cd.reg ?_|refine Rg.nil ?_|refine zF ?_|refine zG ?_|refine zH ?_|(refine Rg.p (v:=?_) ?_ ?_;rotate_left;exact zE)|(refine Rg.cmp (p:=?_) rfl rfl ?_ ?_;rotate_left;exact zC;intro cv hv)|(refine Rg.r (v:=?_) rfl rfl ?_ ?_;rotate_left;exact zN)|refine zL fun _=>?_|refine Rg.alloc fun _=>?_|refine Rg.a (Mk.lits rfl) fun _=>?_|refine zO (cs:=?_) (K':=?_) ?_|refine zP (cs:=?_) (K':=?_) ?_|(refine zQ (g:=?_) ?_;intro cv hv)|(refine zR (w:=?_) ?_;intro cv hv)|refine zS (v:=?_) ?_|refine zT (v:=?_) ?_|refine Lp.round ?_|refine Cd.draw ?_|refine Dw.nil ?_|refine Dw.guardY rfl ?_|refine Dw.guardN rfl ?_|refine Dw.guardT rfl ?_|(refine Dw.p (v:=?_) ?_ ?_;rotate_left;exact zE)|(refine Dw.cmp (p:=?_) rfl rfl ?_ ?_;rotate_left;exact zC;intro cv hv)|(refine Dw.r (v:=?_) rfl rfl ?_ ?_ ?_;rotate_left;exact zN;exact zM)|refine Dw.a Mk.alloc fun _=>?_|refine Dw.a (Mk.lits rfl) fun _=>?_|(refine zY (g:=?_) ?_;intro cv hv)|refine zW (v:=?_) ?_|refine Cd.condT rfl ?_|refine Cd.condF rfl ?_|((first|refine Cd.cond rfl ?_ ?_|refine Rg.guardS rfl ?_ ?_|refine Dw.guardS rfl ?_ ?_)<;>(intro e;(try simp only [Bool.not_eq_true',Bool.not_eq_false'] at e);subst e;try contradiction))|refine Cd.skip ?_|refine Cd.blk ?_|refine Cd.ext ?_|refine Cd.ret ?_)
  (first|refine ⟨.inr rfl,_,.t rfl .nil,?_⟩|refine ⟨.inr rfl,_,.t rfl (.t rfl .nil),?_⟩|refine ⟨.inr rfl,_,.t rfl (.t rfl (.t rfl .nil)),?_⟩|refine ⟨.inr rfl,_,.nil,?_⟩|refine ⟨.inl rfl,_,.t rfl .nil,?_⟩|refine ⟨.inl rfl,_,.nil,?_⟩|refine ⟨.inr rfl,_,.cn rfl (by exact zN) .nil,?_⟩)
  (refine congrArg AV.bool ?_; simp only [unitB]; first | (simp_all only [Bool.and_true, Bool.true_and, Bool.and_false, Bool.false_and, Bool.or_true, Bool.or_false, Bool.true_or, Bool.false_or, Bool.not_true, Bool.not_false]; done) | (rw [Bool.eq_iff_iff]; simp_all; done) | (rw [Bool.eq_iff_iff]; simp_all; omega) | (simp; omega))
end Go.Proofs.Ytmedepnfpiheoaa

namespace Go.Proofs.Ytmedepnfpiheoaa
open Go Go.Abs
theorem pull {α : Type} {f : α → List AV} {R : α → Prop} : ∀ {rows : List (List AV)}, (∀ r, r ∈ rows → ∃ x, r = f x ∧ R x) → ∃ l : List α, rows = l.map f ∧ ∀ x, x ∈ l → R x
  | [], _ => ⟨[], rfl, by simp⟩
  | r :: rs, h => by
    obtain ⟨x, rfl, hx⟩ := h r (by simp)
    obtain ⟨l, rfl, hl⟩ := pull (fun r hr => h r (List.mem_cons_of_mem _ hr))
    exact ⟨x :: l, rfl, fun y hy => by rcases List.mem_cons.1 hy with rfl | hy; exact hx; exact hl y hy⟩
theorem maxLen_eq : maxLen = 9223372036854775807 := by decide
def insSh : List Sh := [.int .i64, .int .i64, .int .i64, .int .i64]
def valSh : List Sh := [.int .i64, .int .i64, .str]
def capSh : List Sh := [.bool, .int .i64]
def protoSh : List Sh := [.str, .int .i64, .int .i64, .slc insSh, .slc valSh, .slc capSh]
def useSh : List Sh := [.str, .str, .int .i64]
def unitSh : List Sh := [.str, .int .i64, .slc useSh, .int .i64, .slc protoSh]
theorem ins_ok {r : List AV} (h : okL insSh r) : ∃ x : Ins, r = insR x ∧ True := by
  simp only [insSh, okL, okS] at h
  obtain ⟨_, _, rfl, ⟨a, rfl, _⟩, _, _, rfl, ⟨b, rfl, _⟩, _, _, rfl, ⟨c, rfl, _⟩, _, _, rfl, ⟨d, rfl, _⟩, rfl⟩ := h
  exact ⟨⟨a, b, c, d⟩, rfl, trivial⟩
theorem val_ok {r : List AV} (h : okL valSh r) : ∃ x : Val, r = valR x ∧ True := by
  simp only [valSh, okL, okS] at h
  obtain ⟨_, _, rfl, ⟨a, rfl, _⟩, _, _, rfl, ⟨b, rfl, _⟩, _, _, rfl, ⟨c, rfl, _⟩, rfl⟩ := h
  exact ⟨⟨a, b, c⟩, rfl, trivial⟩
theorem cap_ok {r : List AV} (h : okL capSh r) : ∃ x : Cap, r = capR x ∧ True := by
  simp only [capSh, okL, okS] at h
  obtain ⟨_, _, rfl, ⟨a, rfl⟩, _, _, rfl, ⟨b, rfl, _⟩, rfl⟩ := h
  exact ⟨⟨a, b⟩, rfl, trivial⟩
theorem use_ok {r : List AV} (h : okL useSh r) : ∃ x : Use, r = useR x ∧ Txt x.m ∧ Txt x.n := by
  simp only [useSh, okL, okS] at h
  obtain ⟨_, _, rfl, ⟨a, rfl, a1, a2⟩, _, _, rfl, ⟨b, rfl, b1, b2⟩, _, _, rfl, ⟨c, rfl, _⟩, rfl⟩ := h
  rw [maxLen_eq] at a1 b1
  exact ⟨⟨a, b, c⟩, rfl, ⟨a1, a2⟩, ⟨b1, b2⟩⟩
theorem proto_ok {r : List AV} (h : okL protoSh r) : ∃ p : Proto, r = protoR p ∧ OkP p := by
  simp only [protoSh, okL] at h
  obtain ⟨_, _, rfl, h1, _, _, rfl, h2, _, _, rfl, h3, cv, _, rfl, h4, kv, _, rfl, h5, pv, _, rfl, h6, rfl⟩ := h
  obtain ⟨r4, s4, l4, k4⟩ := ASl.of h4
  obtain ⟨r5, s5, l5, k5⟩ := ASl.of h5
  obtain ⟨r6, s6, l6, k6⟩ := ASl.of h6
  obtain ⟨c, rfl, _⟩ := pull fun r hr => ins_ok (k4 r hr)
  obtain ⟨k, rfl, _⟩ := pull fun r hr => val_ok (k5 r hr)
  obtain ⟨p, rfl, _⟩ := pull fun r hr => cap_ok (k6 r hr)
  simp only [okS] at h1 h2 h3
  obtain ⟨nm, rfl, n1, n2⟩ := h1
  obtain ⟨a, rfl, _⟩ := h2
  obtain ⟨b, rfl, _⟩ := h3
  rw [maxLen_eq] at n1 l4 l5 l6
  rw [List.length_map] at l4 l5 l6
  exact ⟨⟨nm, a, b, cv, c, kv, k, pv, p⟩, rfl, ⟨⟨n1, n2⟩, s4, s5, s6, l4, l5, l6⟩⟩
theorem unit_ok {r : List AV} (h : okL unitSh r) : ∃ u : Unt, r = unitR u ∧ OkU u := by
  simp only [unitSh, okL] at h
  obtain ⟨_, _, rfl, h1, _, _, rfl, h2, cv, _, rfl, h3, _, _, rfl, h4, pv, _, rfl, h5, rfl⟩ := h
  obtain ⟨r3, s3, l3, k3⟩ := ASl.of h3
  obtain ⟨r5, s5, l5, k5⟩ := ASl.of h5
  obtain ⟨c, rfl, hc⟩ := pull fun r hr => use_ok (k3 r hr)
  obtain ⟨p, rfl, hp⟩ := pull fun r hr => proto_ok (k5 r hr)
  simp only [okS] at h1 h2 h4
  obtain ⟨nm, rfl, n1, n2⟩ := h1
  obtain ⟨a, rfl, _⟩ := h2
  obtain ⟨b, rfl, _⟩ := h4
  rw [maxLen_eq] at n1 l3 l5
  rw [List.length_map] at l3 l5
  exact ⟨⟨nm, a, cv, c, b, pv, p⟩, rfl, ⟨⟨n1, n2⟩, s3, s5, l3, l5, hc, hp⟩⟩
def specs : List (Bool × List Sh) := [(true, unitSh)]
theorem args_ok {xs : List AV} (h : okArgs specs xs) : ∃ u : Unt, xs = [.agg (unitR u)] ∧ OkU u := by
  simp only [specs, okArgs, okA] at h
  obtain ⟨_, _, rfl, ⟨ys, rfl, hy⟩, rfl⟩ := h
  obtain ⟨u, rfl, hu⟩ := unit_ok hy
  exact ⟨u, rfl, hu⟩
end Go.Proofs.Ytmedepnfpiheoaa
