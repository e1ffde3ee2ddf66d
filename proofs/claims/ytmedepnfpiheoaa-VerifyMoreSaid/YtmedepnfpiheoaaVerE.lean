/- Contracts: an instruction's wide number, its registers, its jumps, what it closes. -/
import Derived.Test.YtmedepnfpiheoaaVerC
set_option autoImplicit false
set_option maxRecDepth 100000
set_option maxHeartbeats 2000000
set_option linter.unusedVariables false
set_option linter.unusedSimpArgs false
namespace Go.Proofs.Ytmedepnfpiheoaa
open Go Go.Abs
theorem fitD_le {ch : Nat} {n : Int} (h : fitD ch n = true) : 0 ≤ n ∧ n ≤ 255 := by
  unfold fitD at h
  split at h
  · have := of_decide_eq_true h; omega
  · exact of_decide_eq_true h
theorem rightI_op {x : Ins} (h : rightI x = true) : 0 ≤ x.op ∧ x.op < 38 := by
  by_cases hk : 0 ≤ x.op ∧ x.op < 38
  · exact hk
  · rw [rightI, shape, if_neg hk] at h; cases h
theorem rightI_le {x : Ins} (h : rightI x = true) : (0 ≤ x.a ∧ x.a ≤ 255) ∧ (0 ≤ x.b ∧ x.b ≤ 255) ∧ 0 ≤ x.c ∧ x.c ≤ 255 := by
  unfold rightI at h
  rcases shape_cases x.op with e | ⟨p, e⟩ | ⟨p, q, r, e⟩ <;> rw [e] at h <;> simp only [fit3, Bool.and_eq_true, Bool.false_eq_true] at h
  · exact ⟨fitD_le h.1.1, fitD_le h.1.2, fitD_le h.2⟩
  · exact ⟨fitD_le h.1.1, fitD_le h.1.2, fitD_le h.2⟩
/-- An instruction's number of two bytes. -/
def wide (x : Ins) : Nat := if rightI x = true then (x.b + 256 * x.c).toNat else 0
theorem or_byte {a b : Nat} (ha : a ≤ 255) (hb : b ≤ 255) : abin .or (.int .i64 (.ofNat b)) (.int .i64 (.ofNat (a * 256))) = some (.int .i64 (.ofNat (b + a * 256))) := by
  have h : Nat.lor b (a * 256) = b + a * 256 := by
    have := Nat.shiftLeft_add_eq_or_of_lt (i := 8) (b := b) (by omega) a
    rw [Nat.shiftLeft_eq, show (2 : Nat) ^ 8 = 256 from rfl] at this
    have e : Nat.lor b (a * 256) = a * 256 ||| b := Nat.or_comm _ _
    rw [e]
    omega
  show abitw .or .i64 Nat.lor (.ofNat b) (.ofNat (a * 256)) = _
  simp only [abitw, top]
  rw [Nat.ble_eq_true_of_le (by omega), Nat.ble_eq_true_of_le (by omega), h]; rfl
theorem shl_byte {a : Nat} (ha : a ≤ 255) : abin .shl (.int .i64 (.ofNat a)) (.int .u64 (.ofNat 8)) = some (.int .i64 (.ofNat (a * 256))) := by
  show some (AV.int .i64 (awrap .i64 (.ofNat (a * 2 ^ 8)))) = _
  simp only [awrap, top]
  rw [Nat.ble_eq_true_of_le (by omega)]; rfl
theorem mul_nat {a b : Nat} (h : a * b ≤ 9223372036854775807) : abin .mul (.int .i64 (.ofNat a)) (.int .i64 (.ofNat b)) = some (.int .i64 (.ofNat (a * b))) := by
  show some (AV.int .i64 (awrap .i64 (.ofNat (a * b)))) = _
  simp only [awrap, top]
  rw [Nat.ble_eq_true_of_le h]; rfl
theorem wide25 (x : Ins) : PT Try.prog false 25 [insA x] (.int .i64 (.ofNat (wide x))) := by
  refine PT.of (CT.enter mixed comp25 (Nat.le_of_ble_eq_true rfl) ?_)
  have hr := right42 x
  cases h : rightI x with
  | false =>
    rw [h] at hr
    repeat' (first|refine zA ?_|refine Cd.reg ?_|refine Rg.nil ?_|refine zF ?_|refine zG ?_|refine zH ?_|(refine Rg.p (v:=?_) ?_ ?_;rotate_left;exact zE)|(refine Rg.cmp (p:=?_) rfl rfl ?_ ?_;rotate_left;exact zC;intro cv hv)|(refine Rg.r (v:=?_) rfl rfl ?_ ?_;rotate_left;exact zN)|refine zL fun _=>?_|refine Rg.alloc fun _=>?_|refine Rg.a (Mk.lits rfl) fun _=>?_|refine zO (cs:=?_) (K':=?_) ?_|refine zP (cs:=?_) (K':=?_) ?_|(refine zQ (g:=?_) ?_;intro cv hv)|(refine zR (w:=?_) ?_;intro cv hv)|refine zS (v:=?_) ?_|refine zT (v:=?_) ?_|refine Lp.round ?_|refine Cd.draw ?_|refine Dw.nil ?_|refine Dw.guardY rfl ?_|refine Dw.guardN rfl ?_|refine Dw.guardT rfl ?_|(refine Dw.p (v:=?_) ?_ ?_;rotate_left;exact zE)|(refine Dw.cmp (p:=?_) rfl rfl ?_ ?_;rotate_left;exact zC;intro cv hv)|(refine Dw.r (v:=?_) rfl rfl ?_ ?_ ?_;rotate_left;exact zN;exact zM)|refine Dw.a Mk.alloc fun _=>?_|refine Dw.a (Mk.lits rfl) fun _=>?_|(refine zY (g:=?_) ?_;intro cv hv)|refine zW (v:=?_) ?_|refine Cd.condT rfl ?_|refine Cd.condF rfl ?_|((first|refine Cd.cond rfl ?_ ?_|refine Rg.guardS rfl ?_ ?_|refine Dw.guardS rfl ?_ ?_)<;>(intro e;(try simp only [Bool.not_eq_true',Bool.not_eq_false'] at e);subst e;try contradiction))|refine Cd.skip ?_|refine Cd.blk ?_|refine Cd.ext ?_|refine Cd.ret ?_)
    · (first|refine ⟨.inr rfl,_,.t rfl .nil,?_⟩|refine ⟨.inr rfl,_,.t rfl (.t rfl .nil),?_⟩|refine ⟨.inr rfl,_,.t rfl (.t rfl (.t rfl .nil)),?_⟩|refine ⟨.inr rfl,_,.nil,?_⟩|refine ⟨.inl rfl,_,.t rfl .nil,?_⟩|refine ⟨.inl rfl,_,.nil,?_⟩|refine ⟨.inr rfl,_,.cn rfl (by exact zN) .nil,?_⟩)
      rw [wide, h]; rfl
  | true =>
    rw [h] at hr
    obtain ⟨_, hb, hc⟩ := rightI_le h
    obtain ⟨op, a, b, c⟩ := x
    simp only at hb hc
    obtain ⟨b, rfl⟩ := Int.eq_ofNat_of_zero_le hb.1
    obtain ⟨c, rfl⟩ := Int.eq_ofNat_of_zero_le hc.1
    have q1 := shl_byte (a := c) (by omega)
    have q2 := or_byte (a := c) (b := b) (by omega) (by omega)
    repeat' (first|refine zA ?_|refine Cd.reg ?_|refine Rg.nil ?_|refine zF ?_|refine zG ?_|refine zH ?_|(refine Rg.p (v:=?_) ?_ ?_;rotate_left;exact zE)|(refine Rg.cmp (p:=?_) rfl rfl ?_ ?_;rotate_left;exact zC;intro cv hv)|(refine Rg.r (v:=?_) rfl rfl ?_ ?_;rotate_left;exact zN)|refine zL fun _=>?_|refine Rg.alloc fun _=>?_|refine Rg.a (Mk.lits rfl) fun _=>?_|refine zO (cs:=?_) (K':=?_) ?_|refine zP (cs:=?_) (K':=?_) ?_|(refine zQ (g:=?_) ?_;intro cv hv)|(refine zR (w:=?_) ?_;intro cv hv)|refine zS (v:=?_) ?_|refine zT (v:=?_) ?_|refine Lp.round ?_|refine Cd.draw ?_|refine Dw.nil ?_|refine Dw.guardY rfl ?_|refine Dw.guardN rfl ?_|refine Dw.guardT rfl ?_|(refine Dw.p (v:=?_) ?_ ?_;rotate_left;exact zE)|(refine Dw.cmp (p:=?_) rfl rfl ?_ ?_;rotate_left;exact zC;intro cv hv)|(refine Dw.r (v:=?_) rfl rfl ?_ ?_ ?_;rotate_left;exact zN;exact zM)|refine Dw.a Mk.alloc fun _=>?_|refine Dw.a (Mk.lits rfl) fun _=>?_|(refine zY (g:=?_) ?_;intro cv hv)|refine zW (v:=?_) ?_|refine Cd.condT rfl ?_|refine Cd.condF rfl ?_|((first|refine Cd.cond rfl ?_ ?_|refine Rg.guardS rfl ?_ ?_|refine Dw.guardS rfl ?_ ?_)<;>(intro e;(try simp only [Bool.not_eq_true',Bool.not_eq_false'] at e);subst e;try contradiction))|refine Cd.skip ?_|refine Cd.blk ?_|refine Cd.ext ?_|refine Cd.ret ?_)
    · (first|refine ⟨.inr rfl,_,.t rfl .nil,?_⟩|refine ⟨.inr rfl,_,.t rfl (.t rfl .nil),?_⟩|refine ⟨.inr rfl,_,.t rfl (.t rfl (.t rfl .nil)),?_⟩|refine ⟨.inr rfl,_,.nil,?_⟩|refine ⟨.inl rfl,_,.t rfl .nil,?_⟩|refine ⟨.inl rfl,_,.nil,?_⟩|refine ⟨.inr rfl,_,.cn rfl (by exact zN) .nil,?_⟩)
      rw [wide, h, if_pos rfl]
      show AV.int .i64 (.ofNat (b + c * 256)) = AV.int .i64 (.ofNat ((b : Int) + 256 * (c : Int)).toNat)
      congr 2; omega
theorem wide32 (x : Ins) : PT Try.prog false 32 [insA x] (.int .i64 (.ofNat (wide x))) := by
  refine PT.of (CT.enter mixed comp32 (Nat.le_of_ble_eq_true rfl) ?_)
  have hr := right47 x
  cases h : rightI x with
  | false =>
    rw [h] at hr
    repeat' (first|refine zA ?_|refine Cd.reg ?_|refine Rg.nil ?_|refine zF ?_|refine zG ?_|refine zH ?_|(refine Rg.p (v:=?_) ?_ ?_;rotate_left;exact zE)|(refine Rg.cmp (p:=?_) rfl rfl ?_ ?_;rotate_left;exact zC;intro cv hv)|(refine Rg.r (v:=?_) rfl rfl ?_ ?_;rotate_left;exact zN)|refine zL fun _=>?_|refine Rg.alloc fun _=>?_|refine Rg.a (Mk.lits rfl) fun _=>?_|refine zO (cs:=?_) (K':=?_) ?_|refine zP (cs:=?_) (K':=?_) ?_|(refine zQ (g:=?_) ?_;intro cv hv)|(refine zR (w:=?_) ?_;intro cv hv)|refine zS (v:=?_) ?_|refine zT (v:=?_) ?_|refine Lp.round ?_|refine Cd.draw ?_|refine Dw.nil ?_|refine Dw.guardY rfl ?_|refine Dw.guardN rfl ?_|refine Dw.guardT rfl ?_|(refine Dw.p (v:=?_) ?_ ?_;rotate_left;exact zE)|(refine Dw.cmp (p:=?_) rfl rfl ?_ ?_;rotate_left;exact zC;intro cv hv)|(refine Dw.r (v:=?_) rfl rfl ?_ ?_ ?_;rotate_left;exact zN;exact zM)|refine Dw.a Mk.alloc fun _=>?_|refine Dw.a (Mk.lits rfl) fun _=>?_|(refine zY (g:=?_) ?_;intro cv hv)|refine zW (v:=?_) ?_|refine Cd.condT rfl ?_|refine Cd.condF rfl ?_|((first|refine Cd.cond rfl ?_ ?_|refine Rg.guardS rfl ?_ ?_|refine Dw.guardS rfl ?_ ?_)<;>(intro e;(try simp only [Bool.not_eq_true',Bool.not_eq_false'] at e);subst e;try contradiction))|refine Cd.skip ?_|refine Cd.blk ?_|refine Cd.ext ?_|refine Cd.ret ?_)
    · (first|refine ⟨.inr rfl,_,.t rfl .nil,?_⟩|refine ⟨.inr rfl,_,.t rfl (.t rfl .nil),?_⟩|refine ⟨.inr rfl,_,.t rfl (.t rfl (.t rfl .nil)),?_⟩|refine ⟨.inr rfl,_,.nil,?_⟩|refine ⟨.inl rfl,_,.t rfl .nil,?_⟩|refine ⟨.inl rfl,_,.nil,?_⟩|refine ⟨.inr rfl,_,.cn rfl (by exact zN) .nil,?_⟩)
      rw [wide, h]; rfl
  | true =>
    rw [h] at hr
    obtain ⟨_, hb, hc⟩ := rightI_le h
    obtain ⟨op, a, b, c⟩ := x
    simp only at hb hc
    obtain ⟨b, rfl⟩ := Int.eq_ofNat_of_zero_le hb.1
    obtain ⟨c, rfl⟩ := Int.eq_ofNat_of_zero_le hc.1
    have q1 := mul_nat (a := 256) (b := c) (by omega)
    have q2 := add_nat (a := b) (b := 256 * c) (by omega)
    repeat' (first|refine zA ?_|refine Cd.reg ?_|refine Rg.nil ?_|refine zF ?_|refine zG ?_|refine zH ?_|(refine Rg.p (v:=?_) ?_ ?_;rotate_left;exact zE)|(refine Rg.cmp (p:=?_) rfl rfl ?_ ?_;rotate_left;exact zC;intro cv hv)|(refine Rg.r (v:=?_) rfl rfl ?_ ?_;rotate_left;exact zN)|refine zL fun _=>?_|refine Rg.alloc fun _=>?_|refine Rg.a (Mk.lits rfl) fun _=>?_|refine zO (cs:=?_) (K':=?_) ?_|refine zP (cs:=?_) (K':=?_) ?_|(refine zQ (g:=?_) ?_;intro cv hv)|(refine zR (w:=?_) ?_;intro cv hv)|refine zS (v:=?_) ?_|refine zT (v:=?_) ?_|refine Lp.round ?_|refine Cd.draw ?_|refine Dw.nil ?_|refine Dw.guardY rfl ?_|refine Dw.guardN rfl ?_|refine Dw.guardT rfl ?_|(refine Dw.p (v:=?_) ?_ ?_;rotate_left;exact zE)|(refine Dw.cmp (p:=?_) rfl rfl ?_ ?_;rotate_left;exact zC;intro cv hv)|(refine Dw.r (v:=?_) rfl rfl ?_ ?_ ?_;rotate_left;exact zN;exact zM)|refine Dw.a Mk.alloc fun _=>?_|refine Dw.a (Mk.lits rfl) fun _=>?_|(refine zY (g:=?_) ?_;intro cv hv)|refine zW (v:=?_) ?_|refine Cd.condT rfl ?_|refine Cd.condF rfl ?_|((first|refine Cd.cond rfl ?_ ?_|refine Rg.guardS rfl ?_ ?_|refine Dw.guardS rfl ?_ ?_)<;>(intro e;(try simp only [Bool.not_eq_true',Bool.not_eq_false'] at e);subst e;try contradiction))|refine Cd.skip ?_|refine Cd.blk ?_|refine Cd.ext ?_|refine Cd.ret ?_)
    · (first|refine ⟨.inr rfl,_,.t rfl .nil,?_⟩|refine ⟨.inr rfl,_,.t rfl (.t rfl .nil),?_⟩|refine ⟨.inr rfl,_,.t rfl (.t rfl (.t rfl .nil)),?_⟩|refine ⟨.inr rfl,_,.nil,?_⟩|refine ⟨.inl rfl,_,.t rfl .nil,?_⟩|refine ⟨.inl rfl,_,.nil,?_⟩|refine ⟨.inr rfl,_,.cn rfl (by exact zN) .nil,?_⟩)
      rw [wide, h, if_pos rfl]
      show AV.int .i64 (.ofNat (b + 256 * c)) = AV.int .i64 (.ofNat ((b : Int) + 256 * (c : Int)).toNat)
      congr 2
theorem ends12 (x : Ins) : PT Try.prog false 12 [insA x] (.bool (decide (x.op = 37 ∨ x.op = 25))) := by
  refine PT.of (CT.enter mixed comp12 (Nat.le_of_ble_eq_true rfl) ?_)
  repeat' (first|refine zA ?_|refine Cd.reg ?_|refine Rg.nil ?_|refine zF ?_|refine zG ?_|refine zH ?_|(refine Rg.p (v:=?_) ?_ ?_;rotate_left;exact zE)|(refine Rg.cmp (p:=?_) rfl rfl ?_ ?_;rotate_left;exact zC;intro cv hv)|(refine Rg.r (v:=?_) rfl rfl ?_ ?_;rotate_left;exact zN)|refine zL fun _=>?_|refine Rg.alloc fun _=>?_|refine Rg.a (Mk.lits rfl) fun _=>?_|refine zO (cs:=?_) (K':=?_) ?_|refine zP (cs:=?_) (K':=?_) ?_|(refine zQ (g:=?_) ?_;intro cv hv)|(refine zR (w:=?_) ?_;intro cv hv)|refine zS (v:=?_) ?_|refine zT (v:=?_) ?_|refine Lp.round ?_|refine Cd.draw ?_|refine Dw.nil ?_|refine Dw.guardY rfl ?_|refine Dw.guardN rfl ?_|refine Dw.guardT rfl ?_|(refine Dw.p (v:=?_) ?_ ?_;rotate_left;exact zE)|(refine Dw.cmp (p:=?_) rfl rfl ?_ ?_;rotate_left;exact zC;intro cv hv)|(refine Dw.r (v:=?_) rfl rfl ?_ ?_ ?_;rotate_left;exact zN;exact zM)|refine Dw.a Mk.alloc fun _=>?_|refine Dw.a (Mk.lits rfl) fun _=>?_|(refine zY (g:=?_) ?_;intro cv hv)|refine zW (v:=?_) ?_|refine Cd.condT rfl ?_|refine Cd.condF rfl ?_|((first|refine Cd.cond rfl ?_ ?_|refine Rg.guardS rfl ?_ ?_|refine Dw.guardS rfl ?_ ?_)<;>(intro e;(try simp only [Bool.not_eq_true',Bool.not_eq_false'] at e);subst e;try contradiction))|refine Cd.skip ?_|refine Cd.blk ?_|refine Cd.ext ?_|refine Cd.ret ?_)
  all_goals (first|refine ⟨.inr rfl,_,.t rfl .nil,?_⟩|refine ⟨.inr rfl,_,.t rfl (.t rfl .nil),?_⟩|refine ⟨.inr rfl,_,.t rfl (.t rfl (.t rfl .nil)),?_⟩|refine ⟨.inr rfl,_,.nil,?_⟩|refine ⟨.inl rfl,_,.t rfl .nil,?_⟩|refine ⟨.inl rfl,_,.nil,?_⟩|refine ⟨.inr rfl,_,.cn rfl (by exact zN) .nil,?_⟩)
  all_goals (refine congrArg AV.bool ?_; rw [Bool.eq_iff_iff]; (try simp_all); (try omega))
/-- Registers. -/
def regs3 (n : Int) (s : List Nat) (x : Ins) : Bool := match s with
  | [p, q] => !(decide (p = 114 ∧ n ≤ x.a)) && !(decide (q = 114 ∧ n ≤ x.b))
  | [p, q, r] => !(decide (p = 114 ∧ n ≤ x.a)) && !(decide (q = 114 ∧ n ≤ x.b)) && !(decide (r = 114 ∧ n ≤ x.c))
  | _ => true
end Go.Proofs.Ytmedepnfpiheoaa

namespace Go.Proofs.Ytmedepnfpiheoaa
open Go Go.Abs
/-- May a jump lead there? -/
def jumpB (p : Proto) (pc w : Nat) : Bool := match p.code[w]? with
  | some y => decide (pc < w) || decide (y.op = 0)
  | none => false
theorem jumps27 {p : Proto} (u : Unt) (hp : OkP p) {pc w : Nat} : PT Try.prog false 27 [.agg (unitR u ++ protoR p), .int .i64 (.ofNat pc), .int .i64 (.ofNat w)] (.bool (jumpB p pc w)) := by
  refine PT.of (CT.enter mixed comp27 (Nat.le_of_ble_eq_true rfl) ?_)
  obtain ⟨l1, l2, l3⟩ := hp.lens
  by_cases hw : w < p.code.length
  · obtain ⟨y, hy⟩ : ∃ y, p.code[w]? = some y := ⟨_, List.getElem?_eq_getElem hw⟩
    have q1 := hp.code.iadr (i := w) (r := insR y) (k := .i64) (by rw [List.getElem?_map, hy]; rfl)
    repeat' (first|refine zA ?_|refine Cd.reg ?_|refine Rg.nil ?_|refine zF ?_|refine zG ?_|refine zH ?_|(refine Rg.p (v:=?_) ?_ ?_;rotate_left;exact zE)|(refine Rg.cmp (p:=?_) rfl rfl ?_ ?_;rotate_left;exact zC;intro cv hv)|(refine Rg.r (v:=?_) rfl rfl ?_ ?_;rotate_left;exact zN)|refine zL fun _=>?_|refine Rg.alloc fun _=>?_|refine Rg.a (Mk.lits rfl) fun _=>?_|refine zO (cs:=?_) (K':=?_) ?_|refine zP (cs:=?_) (K':=?_) ?_|(refine zQ (g:=?_) ?_;intro cv hv)|(refine zR (w:=?_) ?_;intro cv hv)|refine zS (v:=?_) ?_|refine zT (v:=?_) ?_|refine Lp.round ?_|refine Cd.draw ?_|refine Dw.nil ?_|refine Dw.guardY rfl ?_|refine Dw.guardN rfl ?_|refine Dw.guardT rfl ?_|(refine Dw.p (v:=?_) ?_ ?_;rotate_left;exact zE)|(refine Dw.cmp (p:=?_) rfl rfl ?_ ?_;rotate_left;exact zC;intro cv hv)|(refine Dw.r (v:=?_) rfl rfl ?_ ?_ ?_;rotate_left;exact zN;exact zM)|refine Dw.a Mk.alloc fun _=>?_|refine Dw.a (Mk.lits rfl) fun _=>?_|(refine zY (g:=?_) ?_;intro cv hv)|refine zW (v:=?_) ?_|refine Cd.condT rfl ?_|refine Cd.condF rfl ?_|((first|refine Cd.cond rfl ?_ ?_|refine Rg.guardS rfl ?_ ?_|refine Dw.guardS rfl ?_ ?_)<;>(intro e;(try simp only [Bool.not_eq_true',Bool.not_eq_false'] at e);subst e;try contradiction))|refine Cd.skip ?_|refine Cd.blk ?_|refine Cd.ext ?_|refine Cd.ret ?_)
    all_goals (first|refine ⟨.inr rfl,_,.t rfl .nil,?_⟩|refine ⟨.inr rfl,_,.t rfl (.t rfl .nil),?_⟩|refine ⟨.inr rfl,_,.t rfl (.t rfl (.t rfl .nil)),?_⟩|refine ⟨.inr rfl,_,.nil,?_⟩|refine ⟨.inl rfl,_,.t rfl .nil,?_⟩|refine ⟨.inl rfl,_,.nil,?_⟩|refine ⟨.inr rfl,_,.cn rfl (by exact zN) .nil,?_⟩)
    all_goals (refine congrArg AV.bool ?_; rw [Bool.eq_iff_iff]; simp only [jumpB, hy]; clear l1 l2 l3 q1 hp; first | (simp_all; done) | (simp_all; omega))
  · repeat' (first|refine zA ?_|refine Cd.reg ?_|refine Rg.nil ?_|refine zF ?_|refine zG ?_|refine zH ?_|(refine Rg.p (v:=?_) ?_ ?_;rotate_left;exact zE)|(refine Rg.cmp (p:=?_) rfl rfl ?_ ?_;rotate_left;exact zC;intro cv hv)|(refine Rg.r (v:=?_) rfl rfl ?_ ?_;rotate_left;exact zN)|refine zL fun _=>?_|refine Rg.alloc fun _=>?_|refine Rg.a (Mk.lits rfl) fun _=>?_|refine zO (cs:=?_) (K':=?_) ?_|refine zP (cs:=?_) (K':=?_) ?_|(refine zQ (g:=?_) ?_;intro cv hv)|(refine zR (w:=?_) ?_;intro cv hv)|refine zS (v:=?_) ?_|refine zT (v:=?_) ?_|refine Lp.round ?_|refine Cd.draw ?_|refine Dw.nil ?_|refine Dw.guardY rfl ?_|refine Dw.guardN rfl ?_|refine Dw.guardT rfl ?_|(refine Dw.p (v:=?_) ?_ ?_;rotate_left;exact zE)|(refine Dw.cmp (p:=?_) rfl rfl ?_ ?_;rotate_left;exact zC;intro cv hv)|(refine Dw.r (v:=?_) rfl rfl ?_ ?_ ?_;rotate_left;exact zN;exact zM)|refine Dw.a Mk.alloc fun _=>?_|refine Dw.a (Mk.lits rfl) fun _=>?_|(refine zY (g:=?_) ?_;intro cv hv)|refine zW (v:=?_) ?_|refine Cd.condT rfl ?_|refine Cd.condF rfl ?_|((first|refine Cd.cond rfl ?_ ?_|refine Rg.guardS rfl ?_ ?_|refine Dw.guardS rfl ?_ ?_)<;>(intro e;(try simp only [Bool.not_eq_true',Bool.not_eq_false'] at e);subst e;try contradiction))|refine Cd.skip ?_|refine Cd.blk ?_|refine Cd.ext ?_|refine Cd.ret ?_)
    (first|refine ⟨.inr rfl,_,.t rfl .nil,?_⟩|refine ⟨.inr rfl,_,.t rfl (.t rfl .nil),?_⟩|refine ⟨.inr rfl,_,.t rfl (.t rfl (.t rfl .nil)),?_⟩|refine ⟨.inr rfl,_,.nil,?_⟩|refine ⟨.inl rfl,_,.t rfl .nil,?_⟩|refine ⟨.inl rfl,_,.nil,?_⟩|refine ⟨.inr rfl,_,.cn rfl (by exact zN) .nil,?_⟩)
    rw [jumpB, List.getElem?_eq_none (by omega)]; rfl
/-- Can a closure be made? -/
def capOk (p : Proto) (c : Cap) : Bool := decide (c.i < if c.up = true then (p.caps.length : Int) else p.regs)
def closesB (u : Unt) (p : Proto) (k : Nat) : Bool := match u.protos[k]? with
  | some q => decide (u.funs ≤ (k : Int)) && q.caps.all (capOk p)
  | none => false
theorem closes28_loop {u : Unt} {p q : Proto} (hp : OkP p) (hq : OkP q) {b : Nat} {Q : AX → SL → Mem → Prop} (hret : ∀ l' K, q.caps.all (capOk p) = false → lkS l' 4 = some (.bool false) → Q .ret l' K) (hend : ∀ l' K, q.caps.all (capOk p) = true → Q (.ext 0) l' K) :
    ∀ (k i : Nat), q.caps.length < i + k → i ≤ q.caps.length → (∀ x, x ∈ q.caps.take i → capOk p x = true) → Lp Try.prog false b28_0 k [(2, .ptr b 0 0 11), (27, q.capsV), (28, .int .i64 (.ofNat q.caps.length)), (29, .int .i64 (.ofNat i))] [[(b, .cells (unitR u ++ protoR p) 0 0 false)]] Q := by
  have hl := hq.lcaps
  obtain ⟨l1, l2, l3⟩ := hp.lens
  intro k
  induction k with
  | zero => intro i h1 h2; omega
  | succ k ih =>
    intro i h1 h2 h3
    refine Lp.round ?_
    by_cases hi : i < q.caps.length
    · obtain ⟨x, hx⟩ : ∃ x, q.caps[i]? = some x := ⟨_, List.getElem?_eq_getElem hi⟩
      have q1 := hq.caps.iadr (i := i) (r := capR x) (k := .i64) (by rw [List.getElem?_map, hx]; rfl)
      have bad : capOk p x = false → q.caps.all (capOk p) = false := fun hb => by
        cases ha : q.caps.all (capOk p) with
        | false => rfl
        | true => rw [List.all_eq_true.1 ha x (List.mem_of_getElem? hx)] at hb; cases hb
      have good : ∀ l' K r, capOk p x = true → Sel K [[(b, .cells (unitR u ++ protoR p) 0 0 false)]] r → lkS l' 2 = some (.ptr b 0 0 11) → lkS l' 27 = some q.capsV → lkS l' 28 = some (.int .i64 (.ofNat q.caps.length)) → lkS l' 29 = some (.int .i64 (.ofNat (i + 1))) → Lp Try.prog false b28_0 k l' K Q := by
        intro l' K r hg hs e1 e2 e3 e4
        refine Lp.drop hs (Lp.weak ?hw (ih (i + 1) (by omega) (by omega) ?_))
        case hw => exact ⟨e1, e2, e3, e4, trivial⟩
        intro y hy
        rw [List.take_add_one, hx] at hy
        rcases List.mem_append.1 hy with hy | hy
        · exact h3 y hy
        · simp at hy; subst hy; exact hg
      cases hu : x.up with
      | true =>
        have e : capR x = [.bool true, .int .i64 x.i] := by rw [capR, hu]
        rw [e] at q1
        repeat' (first|refine zA ?_|refine Cd.reg ?_|refine Rg.nil ?_|refine zF ?_|refine zG ?_|refine zH ?_|(refine Rg.p (v:=?_) ?_ ?_;rotate_left;exact zE)|(refine Rg.cmp (p:=?_) rfl rfl ?_ ?_;rotate_left;exact zC;intro cv hv)|(refine Rg.r (v:=?_) rfl rfl ?_ ?_;rotate_left;exact zN)|refine zL fun _=>?_|refine Rg.alloc fun _=>?_|refine Rg.a (Mk.lits rfl) fun _=>?_|refine zO (cs:=?_) (K':=?_) ?_|refine zP (cs:=?_) (K':=?_) ?_|(refine zQ (g:=?_) ?_;intro cv hv)|(refine zR (w:=?_) ?_;intro cv hv)|refine zS (v:=?_) ?_|refine zT (v:=?_) ?_|refine Lp.round ?_|refine Cd.draw ?_|refine Dw.nil ?_|refine Dw.guardY rfl ?_|refine Dw.guardN rfl ?_|refine Dw.guardT rfl ?_|(refine Dw.p (v:=?_) ?_ ?_;rotate_left;exact zE)|(refine Dw.cmp (p:=?_) rfl rfl ?_ ?_;rotate_left;exact zC;intro cv hv)|(refine Dw.r (v:=?_) rfl rfl ?_ ?_ ?_;rotate_left;exact zN;exact zM)|refine Dw.a Mk.alloc fun _=>?_|refine Dw.a (Mk.lits rfl) fun _=>?_|(refine zY (g:=?_) ?_;intro cv hv)|refine zW (v:=?_) ?_|refine Cd.condT rfl ?_|refine Cd.condF rfl ?_|((first|refine Cd.cond rfl ?_ ?_|refine Rg.guardS rfl ?_ ?_|refine Dw.guardS rfl ?_ ?_)<;>(intro e;(try simp only [Bool.not_eq_true',Bool.not_eq_false'] at e);subst e;try contradiction))|refine Cd.skip ?_|refine Cd.blk ?_|refine Cd.ext ?_|refine Cd.ret ?_)
        · exact hret _ _ (bad (by have := hv.1 rfl; simp [capOk, hu]; omega)) rfl
        · exact good _ _ _ (by simp at hv; simp [capOk, hu]; omega) (.cons (.there .here) .nil) rfl rfl rfl rfl
      | false =>
        have e : capR x = [.bool false, .int .i64 x.i] := by rw [capR, hu]
        rw [e] at q1
        repeat' (first|refine zA ?_|refine Cd.reg ?_|refine Rg.nil ?_|refine zF ?_|refine zG ?_|refine zH ?_|(refine Rg.p (v:=?_) ?_ ?_;rotate_left;exact zE)|(refine Rg.cmp (p:=?_) rfl rfl ?_ ?_;rotate_left;exact zC;intro cv hv)|(refine Rg.r (v:=?_) rfl rfl ?_ ?_;rotate_left;exact zN)|refine zL fun _=>?_|refine Rg.alloc fun _=>?_|refine Rg.a (Mk.lits rfl) fun _=>?_|refine zO (cs:=?_) (K':=?_) ?_|refine zP (cs:=?_) (K':=?_) ?_|(refine zQ (g:=?_) ?_;intro cv hv)|(refine zR (w:=?_) ?_;intro cv hv)|refine zS (v:=?_) ?_|refine zT (v:=?_) ?_|refine Lp.round ?_|refine Cd.draw ?_|refine Dw.nil ?_|refine Dw.guardY rfl ?_|refine Dw.guardN rfl ?_|refine Dw.guardT rfl ?_|(refine Dw.p (v:=?_) ?_ ?_;rotate_left;exact zE)|(refine Dw.cmp (p:=?_) rfl rfl ?_ ?_;rotate_left;exact zC;intro cv hv)|(refine Dw.r (v:=?_) rfl rfl ?_ ?_ ?_;rotate_left;exact zN;exact zM)|refine Dw.a Mk.alloc fun _=>?_|refine Dw.a (Mk.lits rfl) fun _=>?_|(refine zY (g:=?_) ?_;intro cv hv)|refine zW (v:=?_) ?_|refine Cd.condT rfl ?_|refine Cd.condF rfl ?_|((first|refine Cd.cond rfl ?_ ?_|refine Rg.guardS rfl ?_ ?_|refine Dw.guardS rfl ?_ ?_)<;>(intro e;(try simp only [Bool.not_eq_true',Bool.not_eq_false'] at e);subst e;try contradiction))|refine Cd.skip ?_|refine Cd.blk ?_|refine Cd.ext ?_|refine Cd.ret ?_)
        · exact hret _ _ (bad (by have := hv.1 rfl; simp [capOk, hu]; omega)) rfl
        · exact good _ _ _ (by simp at hv; simp [capOk, hu]; omega) (.cons (.there .here) .nil) rfl rfl rfl rfl
    · repeat' (first|refine zA ?_|refine Cd.reg ?_|refine Rg.nil ?_|refine zF ?_|refine zG ?_|refine zH ?_|(refine Rg.p (v:=?_) ?_ ?_;rotate_left;exact zE)|(refine Rg.cmp (p:=?_) rfl rfl ?_ ?_;rotate_left;exact zC;intro cv hv)|(refine Rg.r (v:=?_) rfl rfl ?_ ?_;rotate_left;exact zN)|refine zL fun _=>?_|refine Rg.alloc fun _=>?_|refine Rg.a (Mk.lits rfl) fun _=>?_|refine zO (cs:=?_) (K':=?_) ?_|refine zP (cs:=?_) (K':=?_) ?_|(refine zQ (g:=?_) ?_;intro cv hv)|(refine zR (w:=?_) ?_;intro cv hv)|refine zS (v:=?_) ?_|refine zT (v:=?_) ?_|refine Lp.round ?_|refine Cd.draw ?_|refine Dw.nil ?_|refine Dw.guardY rfl ?_|refine Dw.guardN rfl ?_|refine Dw.guardT rfl ?_|(refine Dw.p (v:=?_) ?_ ?_;rotate_left;exact zE)|(refine Dw.cmp (p:=?_) rfl rfl ?_ ?_;rotate_left;exact zC;intro cv hv)|(refine Dw.r (v:=?_) rfl rfl ?_ ?_ ?_;rotate_left;exact zN;exact zM)|refine Dw.a Mk.alloc fun _=>?_|refine Dw.a (Mk.lits rfl) fun _=>?_|(refine zY (g:=?_) ?_;intro cv hv)|refine zW (v:=?_) ?_|refine Cd.condT rfl ?_|refine Cd.condF rfl ?_|((first|refine Cd.cond rfl ?_ ?_|refine Rg.guardS rfl ?_ ?_|refine Dw.guardS rfl ?_ ?_)<;>(intro e;(try simp only [Bool.not_eq_true',Bool.not_eq_false'] at e);subst e;try contradiction))|refine Cd.skip ?_|refine Cd.blk ?_|refine Cd.ext ?_|refine Cd.ret ?_)
      exact hend _ _ (List.all_eq_true.2 fun x hx => h3 x (by rw [List.take_of_length_le (by omega)]; exact hx))
theorem closes28 {u : Unt} {p : Proto} (hu : OkU u) (hp : OkP p) {k : Nat} (hf : u.funs ≤ 9223372036854775807) : PT Try.prog false 28 [.agg (unitR u ++ protoR p), .int .i64 (.ofNat k)] (.bool (closesB u p k)) := by
  refine PT.of (CT.enter mixed comp28 (Nat.le_of_ble_eq_true rfl) ?_)
  obtain ⟨l1, l2⟩ := hu.lens
  by_cases hk : k < u.protos.length
  · obtain ⟨q, hq⟩ : ∃ q, u.protos[k]? = some q := ⟨_, List.getElem?_eq_getElem hk⟩
    have q1 := hu.protos.iadr (i := k) (r := protoR q) (k := .i64) (by rw [List.getElem?_map, hq]; rfl)
    have hq2 := hu.ps q (List.mem_of_getElem? hq)
    obtain ⟨m1, m2, m3⟩ := hq2.lens
    by_cases hfu : Int.ofNat k < u.funs
    · repeat' (first|refine zA ?_|refine Cd.reg ?_|refine Rg.nil ?_|refine zF ?_|refine zG ?_|refine zH ?_|(refine Rg.p (v:=?_) ?_ ?_;rotate_left;exact zE)|(refine Rg.cmp (p:=?_) rfl rfl ?_ ?_;rotate_left;exact zC;intro cv hv)|(refine Rg.r (v:=?_) rfl rfl ?_ ?_;rotate_left;exact zN)|refine zL fun _=>?_|refine Rg.alloc fun _=>?_|refine Rg.a (Mk.lits rfl) fun _=>?_|refine zO (cs:=?_) (K':=?_) ?_|refine zP (cs:=?_) (K':=?_) ?_|(refine zQ (g:=?_) ?_;intro cv hv)|(refine zR (w:=?_) ?_;intro cv hv)|refine zS (v:=?_) ?_|refine zT (v:=?_) ?_|refine Lp.round ?_|refine Cd.draw ?_|refine Dw.nil ?_|refine Dw.guardY rfl ?_|refine Dw.guardN rfl ?_|refine Dw.guardT rfl ?_|(refine Dw.p (v:=?_) ?_ ?_;rotate_left;exact zE)|(refine Dw.cmp (p:=?_) rfl rfl ?_ ?_;rotate_left;exact zC;intro cv hv)|(refine Dw.r (v:=?_) rfl rfl ?_ ?_ ?_;rotate_left;exact zN;exact zM)|refine Dw.a Mk.alloc fun _=>?_|refine Dw.a (Mk.lits rfl) fun _=>?_|(refine zY (g:=?_) ?_;intro cv hv)|refine zW (v:=?_) ?_|refine Cd.condT rfl ?_|refine Cd.condF rfl ?_|((first|refine Cd.cond rfl ?_ ?_|refine Rg.guardS rfl ?_ ?_|refine Dw.guardS rfl ?_ ?_)<;>(intro e;(try simp only [Bool.not_eq_true',Bool.not_eq_false'] at e);subst e;try contradiction))|refine Cd.skip ?_|refine Cd.blk ?_|refine Cd.ext ?_|refine Cd.ret ?_)
      (first|refine ⟨.inr rfl,_,.t rfl .nil,?_⟩|refine ⟨.inr rfl,_,.t rfl (.t rfl .nil),?_⟩|refine ⟨.inr rfl,_,.t rfl (.t rfl (.t rfl .nil)),?_⟩|refine ⟨.inr rfl,_,.nil,?_⟩|refine ⟨.inl rfl,_,.t rfl .nil,?_⟩|refine ⟨.inl rfl,_,.nil,?_⟩|refine ⟨.inr rfl,_,.cn rfl (by exact zN) .nil,?_⟩)
      refine congrArg AV.bool ?_
      simp only [closesB, hq]
      rw [decide_eq_false (by simp at *; omega)]; rfl
    · repeat' (first|refine zA ?_|refine Cd.reg ?_|refine Rg.nil ?_|refine zF ?_|refine zG ?_|refine zH ?_|(refine Rg.p (v:=?_) ?_ ?_;rotate_left;exact zE)|(refine Rg.cmp (p:=?_) rfl rfl ?_ ?_;rotate_left;exact zC;intro cv hv)|(refine Rg.r (v:=?_) rfl rfl ?_ ?_;rotate_left;exact zN)|refine zL fun _=>?_|refine Rg.alloc fun _=>?_|refine Rg.a (Mk.lits rfl) fun _=>?_|refine zO (cs:=?_) (K':=?_) ?_|refine zP (cs:=?_) (K':=?_) ?_|(refine zQ (g:=?_) ?_;intro cv hv)|(refine zR (w:=?_) ?_;intro cv hv)|refine zS (v:=?_) ?_|refine zT (v:=?_) ?_|refine Lp.round ?_|refine Cd.draw ?_|refine Dw.nil ?_|refine Dw.guardY rfl ?_|refine Dw.guardN rfl ?_|refine Dw.guardT rfl ?_|(refine Dw.p (v:=?_) ?_ ?_;rotate_left;exact zE)|(refine Dw.cmp (p:=?_) rfl rfl ?_ ?_;rotate_left;exact zC;intro cv hv)|(refine Dw.r (v:=?_) rfl rfl ?_ ?_ ?_;rotate_left;exact zN;exact zM)|refine Dw.a Mk.alloc fun _=>?_|refine Dw.a (Mk.lits rfl) fun _=>?_|(refine zY (g:=?_) ?_;intro cv hv)|refine zW (v:=?_) ?_|refine Cd.condT rfl ?_|refine Cd.condF rfl ?_|((first|refine Cd.cond rfl ?_ ?_|refine Rg.guardS rfl ?_ ?_|refine Dw.guardS rfl ?_ ?_)<;>(intro e;(try simp only [Bool.not_eq_true',Bool.not_eq_false'] at e);subst e;try contradiction))|refine Cd.skip ?_|refine Cd.blk ?_|refine Cd.ext ?_|refine Cd.ret ?_)
      rename_i b
      refine Cd.weak (l2 := [(2, _), (27, _), (28, _), (29, _)]) ⟨rfl, rfl, rfl, rfl, trivial⟩ ?_
      refine Cd.loop (k := q.caps.length + 1) (closes28_loop (b := b) hp hq2 ?_ ?_ (q.caps.length + 1) 0 (by omega) (by omega) (by intro x hx; simp at hx))
      · intro l' K h1 h2
        exact ⟨.inr rfl, _, .t h2 .nil, by simp only [closesB, hq, h1, Bool.and_false]; rfl⟩
      · intro l' K h1
        show Cd _ _ _ _ _ _
        refine Cd.weak (l2 := []) trivial ?_
        repeat' (first|refine zA ?_|refine Cd.reg ?_|refine Rg.nil ?_|refine zF ?_|refine zG ?_|refine zH ?_|(refine Rg.p (v:=?_) ?_ ?_;rotate_left;exact zE)|(refine Rg.cmp (p:=?_) rfl rfl ?_ ?_;rotate_left;exact zC;intro cv hv)|(refine Rg.r (v:=?_) rfl rfl ?_ ?_;rotate_left;exact zN)|refine zL fun _=>?_|refine Rg.alloc fun _=>?_|refine Rg.a (Mk.lits rfl) fun _=>?_|refine zO (cs:=?_) (K':=?_) ?_|refine zP (cs:=?_) (K':=?_) ?_|(refine zQ (g:=?_) ?_;intro cv hv)|(refine zR (w:=?_) ?_;intro cv hv)|refine zS (v:=?_) ?_|refine zT (v:=?_) ?_|refine Lp.round ?_|refine Cd.draw ?_|refine Dw.nil ?_|refine Dw.guardY rfl ?_|refine Dw.guardN rfl ?_|refine Dw.guardT rfl ?_|(refine Dw.p (v:=?_) ?_ ?_;rotate_left;exact zE)|(refine Dw.cmp (p:=?_) rfl rfl ?_ ?_;rotate_left;exact zC;intro cv hv)|(refine Dw.r (v:=?_) rfl rfl ?_ ?_ ?_;rotate_left;exact zN;exact zM)|refine Dw.a Mk.alloc fun _=>?_|refine Dw.a (Mk.lits rfl) fun _=>?_|(refine zY (g:=?_) ?_;intro cv hv)|refine zW (v:=?_) ?_|refine Cd.condT rfl ?_|refine Cd.condF rfl ?_|((first|refine Cd.cond rfl ?_ ?_|refine Rg.guardS rfl ?_ ?_|refine Dw.guardS rfl ?_ ?_)<;>(intro e;(try simp only [Bool.not_eq_true',Bool.not_eq_false'] at e);subst e;try contradiction))|refine Cd.skip ?_|refine Cd.blk ?_|refine Cd.ext ?_|refine Cd.ret ?_)
        (first|refine ⟨.inr rfl,_,.t rfl .nil,?_⟩|refine ⟨.inr rfl,_,.t rfl (.t rfl .nil),?_⟩|refine ⟨.inr rfl,_,.t rfl (.t rfl (.t rfl .nil)),?_⟩|refine ⟨.inr rfl,_,.nil,?_⟩|refine ⟨.inl rfl,_,.t rfl .nil,?_⟩|refine ⟨.inl rfl,_,.nil,?_⟩|refine ⟨.inr rfl,_,.cn rfl (by exact zN) .nil,?_⟩)
        simp only [closesB, hq, h1, Bool.and_true]
        rw [decide_eq_true (by simp at *; omega)]; rfl
  · have e : closesB u p k = false := by rw [closesB, List.getElem?_eq_none (by omega)]
    rw [e]
    repeat' (first|refine zA ?_|refine Cd.reg ?_|refine Rg.nil ?_|refine zF ?_|refine zG ?_|refine zH ?_|(refine Rg.p (v:=?_) ?_ ?_;rotate_left;exact zE)|(refine Rg.cmp (p:=?_) rfl rfl ?_ ?_;rotate_left;exact zC;intro cv hv)|(refine Rg.r (v:=?_) rfl rfl ?_ ?_;rotate_left;exact zN)|refine zL fun _=>?_|refine Rg.alloc fun _=>?_|refine Rg.a (Mk.lits rfl) fun _=>?_|refine zO (cs:=?_) (K':=?_) ?_|refine zP (cs:=?_) (K':=?_) ?_|(refine zQ (g:=?_) ?_;intro cv hv)|(refine zR (w:=?_) ?_;intro cv hv)|refine zS (v:=?_) ?_|refine zT (v:=?_) ?_|refine Lp.round ?_|refine Cd.draw ?_|refine Dw.nil ?_|refine Dw.guardY rfl ?_|refine Dw.guardN rfl ?_|refine Dw.guardT rfl ?_|(refine Dw.p (v:=?_) ?_ ?_;rotate_left;exact zE)|(refine Dw.cmp (p:=?_) rfl rfl ?_ ?_;rotate_left;exact zC;intro cv hv)|(refine Dw.r (v:=?_) rfl rfl ?_ ?_ ?_;rotate_left;exact zN;exact zM)|refine Dw.a Mk.alloc fun _=>?_|refine Dw.a (Mk.lits rfl) fun _=>?_|(refine zY (g:=?_) ?_;intro cv hv)|refine zW (v:=?_) ?_|refine Cd.condT rfl ?_|refine Cd.condF rfl ?_|((first|refine Cd.cond rfl ?_ ?_|refine Rg.guardS rfl ?_ ?_|refine Dw.guardS rfl ?_ ?_)<;>(intro e;(try simp only [Bool.not_eq_true',Bool.not_eq_false'] at e);subst e;try contradiction))|refine Cd.skip ?_|refine Cd.blk ?_|refine Cd.ext ?_|refine Cd.ret ?_)
    all_goals (first|refine ⟨.inr rfl,_,.t rfl .nil,?_⟩|refine ⟨.inr rfl,_,.t rfl (.t rfl .nil),?_⟩|refine ⟨.inr rfl,_,.t rfl (.t rfl (.t rfl .nil)),?_⟩|refine ⟨.inr rfl,_,.nil,?_⟩|refine ⟨.inl rfl,_,.t rfl .nil,?_⟩|refine ⟨.inl rfl,_,.nil,?_⟩|refine ⟨.inr rfl,_,.cn rfl (by exact zN) .nil,?_⟩)
    all_goals rfl
theorem closes34_loop {p q : Proto} (hp : OkP p) (hq : OkP q) {b : Nat} {Q : AX → SL → Mem → Prop} (hret : ∀ l' K, q.caps.all (capOk p) = false → lkS l' 6 = some (.bool false) → Q .ret l' K) (hend : ∀ l' K, q.caps.all (capOk p) = true → Q (.ext 0) l' K) :
    ∀ (k i : Nat), q.caps.length < i + k → i ≤ q.caps.length → (∀ x, x ∈ q.caps.take i → capOk p x = true) → Lp Try.prog false b34_0 k [(4, .ptr b 0 0 6), (7, q.capsV), (8, .int .i64 (.ofNat i))] [[(b, .cells (protoR p) 0 0 false)]] Q := by
  have hl := hq.lcaps
  obtain ⟨l1, l2, l3⟩ := hp.lens
  obtain ⟨m1, m2, m3⟩ := hq.lens
  intro k
  induction k with
  | zero => intro i h1 h2; omega
  | succ k ih =>
    intro i h1 h2 h3
    refine Lp.round ?_
    by_cases hi : i < q.caps.length
    · obtain ⟨x, hx⟩ : ∃ x, q.caps[i]? = some x := ⟨_, List.getElem?_eq_getElem hi⟩
      have q1 := hq.caps.iadr (i := i) (r := capR x) (k := .i64) (by rw [List.getElem?_map, hx]; rfl)
      have bad : capOk p x = false → q.caps.all (capOk p) = false := fun hb => by
        cases ha : q.caps.all (capOk p) with
        | false => rfl
        | true => rw [List.all_eq_true.1 ha x (List.mem_of_getElem? hx)] at hb; cases hb
      have good : ∀ l' K r, capOk p x = true → Sel K [[(b, .cells (protoR p) 0 0 false)]] r → lkS l' 4 = some (.ptr b 0 0 6) → lkS l' 7 = some q.capsV → lkS l' 8 = some (.int .i64 (.ofNat (i + 1))) → Lp Try.prog false b34_0 k l' K Q := by
        intro l' K r hg hs e1 e2 e4
        refine Lp.drop hs (Lp.weak ?hw (ih (i + 1) (by omega) (by omega) ?_))
        case hw => exact ⟨e1, e2, e4, trivial⟩
        intro y hy
        rw [List.take_add_one, hx] at hy
        rcases List.mem_append.1 hy with hy | hy
        · exact h3 y hy
        · simp at hy; subst hy; exact hg
      cases hu : x.up with
      | true =>
        have e : capR x = [.bool true, .int .i64 x.i] := by rw [capR, hu]
        rw [e] at q1
        repeat' (first|refine zA ?_|refine Cd.reg ?_|refine Rg.nil ?_|refine zF ?_|refine zG ?_|refine zH ?_|(refine Rg.p (v:=?_) ?_ ?_;rotate_left;exact zE)|(refine Rg.cmp (p:=?_) rfl rfl ?_ ?_;rotate_left;exact zC;intro cv hv)|(refine Rg.r (v:=?_) rfl rfl ?_ ?_;rotate_left;exact zN)|refine zL fun _=>?_|refine Rg.alloc fun _=>?_|refine Rg.a (Mk.lits rfl) fun _=>?_|refine zO (cs:=?_) (K':=?_) ?_|refine zP (cs:=?_) (K':=?_) ?_|(refine zQ (g:=?_) ?_;intro cv hv)|(refine zR (w:=?_) ?_;intro cv hv)|refine zS (v:=?_) ?_|refine zT (v:=?_) ?_|refine Lp.round ?_|refine Cd.draw ?_|refine Dw.nil ?_|refine Dw.guardY rfl ?_|refine Dw.guardN rfl ?_|refine Dw.guardT rfl ?_|(refine Dw.p (v:=?_) ?_ ?_;rotate_left;exact zE)|(refine Dw.cmp (p:=?_) rfl rfl ?_ ?_;rotate_left;exact zC;intro cv hv)|(refine Dw.r (v:=?_) rfl rfl ?_ ?_ ?_;rotate_left;exact zN;exact zM)|refine Dw.a Mk.alloc fun _=>?_|refine Dw.a (Mk.lits rfl) fun _=>?_|(refine zY (g:=?_) ?_;intro cv hv)|refine zW (v:=?_) ?_|refine Cd.condT rfl ?_|refine Cd.condF rfl ?_|((first|refine Cd.cond rfl ?_ ?_|refine Rg.guardS rfl ?_ ?_|refine Dw.guardS rfl ?_ ?_)<;>(intro e;(try simp only [Bool.not_eq_true',Bool.not_eq_false'] at e);subst e;try contradiction))|refine Cd.skip ?_|refine Cd.blk ?_|refine Cd.ext ?_|refine Cd.ret ?_)
        · exact hret _ _ (bad (by have := hv.1 rfl; simp [capOk, hu]; omega)) rfl
        · exact good _ _ _ (by simp at hv; simp [capOk, hu]; omega) (.cons .here .nil) rfl rfl rfl
      | false =>
        have e : capR x = [.bool false, .int .i64 x.i] := by rw [capR, hu]
        rw [e] at q1
        repeat' (first|refine zA ?_|refine Cd.reg ?_|refine Rg.nil ?_|refine zF ?_|refine zG ?_|refine zH ?_|(refine Rg.p (v:=?_) ?_ ?_;rotate_left;exact zE)|(refine Rg.cmp (p:=?_) rfl rfl ?_ ?_;rotate_left;exact zC;intro cv hv)|(refine Rg.r (v:=?_) rfl rfl ?_ ?_;rotate_left;exact zN)|refine zL fun _=>?_|refine Rg.alloc fun _=>?_|refine Rg.a (Mk.lits rfl) fun _=>?_|refine zO (cs:=?_) (K':=?_) ?_|refine zP (cs:=?_) (K':=?_) ?_|(refine zQ (g:=?_) ?_;intro cv hv)|(refine zR (w:=?_) ?_;intro cv hv)|refine zS (v:=?_) ?_|refine zT (v:=?_) ?_|refine Lp.round ?_|refine Cd.draw ?_|refine Dw.nil ?_|refine Dw.guardY rfl ?_|refine Dw.guardN rfl ?_|refine Dw.guardT rfl ?_|(refine Dw.p (v:=?_) ?_ ?_;rotate_left;exact zE)|(refine Dw.cmp (p:=?_) rfl rfl ?_ ?_;rotate_left;exact zC;intro cv hv)|(refine Dw.r (v:=?_) rfl rfl ?_ ?_ ?_;rotate_left;exact zN;exact zM)|refine Dw.a Mk.alloc fun _=>?_|refine Dw.a (Mk.lits rfl) fun _=>?_|(refine zY (g:=?_) ?_;intro cv hv)|refine zW (v:=?_) ?_|refine Cd.condT rfl ?_|refine Cd.condF rfl ?_|((first|refine Cd.cond rfl ?_ ?_|refine Rg.guardS rfl ?_ ?_|refine Dw.guardS rfl ?_ ?_)<;>(intro e;(try simp only [Bool.not_eq_true',Bool.not_eq_false'] at e);subst e;try contradiction))|refine Cd.skip ?_|refine Cd.blk ?_|refine Cd.ext ?_|refine Cd.ret ?_)
        · exact hret _ _ (bad (by have := hv.1 rfl; simp [capOk, hu]; omega)) rfl
        · exact good _ _ _ (by simp at hv; simp [capOk, hu]; omega) (.cons .here .nil) rfl rfl rfl
    · repeat' (first|refine zA ?_|refine Cd.reg ?_|refine Rg.nil ?_|refine zF ?_|refine zG ?_|refine zH ?_|(refine Rg.p (v:=?_) ?_ ?_;rotate_left;exact zE)|(refine Rg.cmp (p:=?_) rfl rfl ?_ ?_;rotate_left;exact zC;intro cv hv)|(refine Rg.r (v:=?_) rfl rfl ?_ ?_;rotate_left;exact zN)|refine zL fun _=>?_|refine Rg.alloc fun _=>?_|refine Rg.a (Mk.lits rfl) fun _=>?_|refine zO (cs:=?_) (K':=?_) ?_|refine zP (cs:=?_) (K':=?_) ?_|(refine zQ (g:=?_) ?_;intro cv hv)|(refine zR (w:=?_) ?_;intro cv hv)|refine zS (v:=?_) ?_|refine zT (v:=?_) ?_|refine Lp.round ?_|refine Cd.draw ?_|refine Dw.nil ?_|refine Dw.guardY rfl ?_|refine Dw.guardN rfl ?_|refine Dw.guardT rfl ?_|(refine Dw.p (v:=?_) ?_ ?_;rotate_left;exact zE)|(refine Dw.cmp (p:=?_) rfl rfl ?_ ?_;rotate_left;exact zC;intro cv hv)|(refine Dw.r (v:=?_) rfl rfl ?_ ?_ ?_;rotate_left;exact zN;exact zM)|refine Dw.a Mk.alloc fun _=>?_|refine Dw.a (Mk.lits rfl) fun _=>?_|(refine zY (g:=?_) ?_;intro cv hv)|refine zW (v:=?_) ?_|refine Cd.condT rfl ?_|refine Cd.condF rfl ?_|((first|refine Cd.cond rfl ?_ ?_|refine Rg.guardS rfl ?_ ?_|refine Dw.guardS rfl ?_ ?_)<;>(intro e;(try simp only [Bool.not_eq_true',Bool.not_eq_false'] at e);subst e;try contradiction))|refine Cd.skip ?_|refine Cd.blk ?_|refine Cd.ext ?_|refine Cd.ret ?_)
      exact hend _ _ (List.all_eq_true.2 fun x hx => h3 x (by rw [List.take_of_length_le (by omega)]; exact hx))
theorem closes34 {u : Unt} {p : Proto} (hu : OkU u) (hp : OkP p) {k : Nat} (hf : u.funs ≤ 9223372036854775807) : PT Try.prog false 34 [.agg (unitR u), .agg (protoR p), .int .i64 (.ofNat k)] (.bool (closesB u p k)) := by
  refine PT.of (CT.enter mixed comp34 (Nat.le_of_ble_eq_true rfl) ?_)
  obtain ⟨l1, l2⟩ := hu.lens
  by_cases hk : k < u.protos.length
  · obtain ⟨q, hq⟩ : ∃ q, u.protos[k]? = some q := ⟨_, List.getElem?_eq_getElem hk⟩
    have q1 := hu.protos.iadr (i := k) (r := protoR q) (k := .i64) (by rw [List.getElem?_map, hq]; rfl)
    have hq2 := hu.ps q (List.mem_of_getElem? hq)
    obtain ⟨m1, m2, m3⟩ := hq2.lens
    by_cases hfu : Int.ofNat k < u.funs
    · repeat' (first|refine zA ?_|refine Cd.reg ?_|refine Rg.nil ?_|refine zF ?_|refine zG ?_|refine zH ?_|(refine Rg.p (v:=?_) ?_ ?_;rotate_left;exact zE)|(refine Rg.cmp (p:=?_) rfl rfl ?_ ?_;rotate_left;exact zC;intro cv hv)|(refine Rg.r (v:=?_) rfl rfl ?_ ?_;rotate_left;exact zN)|refine zL fun _=>?_|refine Rg.alloc fun _=>?_|refine Rg.a (Mk.lits rfl) fun _=>?_|refine zO (cs:=?_) (K':=?_) ?_|refine zP (cs:=?_) (K':=?_) ?_|(refine zQ (g:=?_) ?_;intro cv hv)|(refine zR (w:=?_) ?_;intro cv hv)|refine zS (v:=?_) ?_|refine zT (v:=?_) ?_|refine Lp.round ?_|refine Cd.draw ?_|refine Dw.nil ?_|refine Dw.guardY rfl ?_|refine Dw.guardN rfl ?_|refine Dw.guardT rfl ?_|(refine Dw.p (v:=?_) ?_ ?_;rotate_left;exact zE)|(refine Dw.cmp (p:=?_) rfl rfl ?_ ?_;rotate_left;exact zC;intro cv hv)|(refine Dw.r (v:=?_) rfl rfl ?_ ?_ ?_;rotate_left;exact zN;exact zM)|refine Dw.a Mk.alloc fun _=>?_|refine Dw.a (Mk.lits rfl) fun _=>?_|(refine zY (g:=?_) ?_;intro cv hv)|refine zW (v:=?_) ?_|refine Cd.condT rfl ?_|refine Cd.condF rfl ?_|((first|refine Cd.cond rfl ?_ ?_|refine Rg.guardS rfl ?_ ?_|refine Dw.guardS rfl ?_ ?_)<;>(intro e;(try simp only [Bool.not_eq_true',Bool.not_eq_false'] at e);subst e;try contradiction))|refine Cd.skip ?_|refine Cd.blk ?_|refine Cd.ext ?_|refine Cd.ret ?_)
      (first|refine ⟨.inr rfl,_,.t rfl .nil,?_⟩|refine ⟨.inr rfl,_,.t rfl (.t rfl .nil),?_⟩|refine ⟨.inr rfl,_,.t rfl (.t rfl (.t rfl .nil)),?_⟩|refine ⟨.inr rfl,_,.nil,?_⟩|refine ⟨.inl rfl,_,.t rfl .nil,?_⟩|refine ⟨.inl rfl,_,.nil,?_⟩|refine ⟨.inr rfl,_,.cn rfl (by exact zN) .nil,?_⟩)
      refine congrArg AV.bool ?_
      simp only [closesB, hq]
      rw [decide_eq_false (by simp at *; omega)]; rfl
    · repeat' (first|refine zA ?_|refine Cd.reg ?_|refine Rg.nil ?_|refine zF ?_|refine zG ?_|refine zH ?_|(refine Rg.p (v:=?_) ?_ ?_;rotate_left;exact zE)|(refine Rg.cmp (p:=?_) rfl rfl ?_ ?_;rotate_left;exact zC;intro cv hv)|(refine Rg.r (v:=?_) rfl rfl ?_ ?_;rotate_left;exact zN)|refine zL fun _=>?_|refine Rg.alloc fun _=>?_|refine Rg.a (Mk.lits rfl) fun _=>?_|refine zO (cs:=?_) (K':=?_) ?_|refine zP (cs:=?_) (K':=?_) ?_|(refine zQ (g:=?_) ?_;intro cv hv)|(refine zR (w:=?_) ?_;intro cv hv)|refine zS (v:=?_) ?_|refine zT (v:=?_) ?_|refine Lp.round ?_|refine Cd.draw ?_|refine Dw.nil ?_|refine Dw.guardY rfl ?_|refine Dw.guardN rfl ?_|refine Dw.guardT rfl ?_|(refine Dw.p (v:=?_) ?_ ?_;rotate_left;exact zE)|(refine Dw.cmp (p:=?_) rfl rfl ?_ ?_;rotate_left;exact zC;intro cv hv)|(refine Dw.r (v:=?_) rfl rfl ?_ ?_ ?_;rotate_left;exact zN;exact zM)|refine Dw.a Mk.alloc fun _=>?_|refine Dw.a (Mk.lits rfl) fun _=>?_|(refine zY (g:=?_) ?_;intro cv hv)|refine zW (v:=?_) ?_|refine Cd.condT rfl ?_|refine Cd.condF rfl ?_|((first|refine Cd.cond rfl ?_ ?_|refine Rg.guardS rfl ?_ ?_|refine Dw.guardS rfl ?_ ?_)<;>(intro e;(try simp only [Bool.not_eq_true',Bool.not_eq_false'] at e);subst e;try contradiction))|refine Cd.skip ?_|refine Cd.blk ?_|refine Cd.ext ?_|refine Cd.ret ?_)
      rename_i b1 b
      refine Cd.weak (l2 := [(4, _), (7, _), (8, _)]) ⟨rfl, rfl, rfl, trivial⟩ ?_
      refine Cd.drop (m := [[(b, .cells (protoR p) 0 0 false)]]) (.cons .here .nil) (Cd.loop (k := q.caps.length + 1) (closes34_loop (b := b) hp hq2 ?_ ?_ (q.caps.length + 1) 0 (by omega) (by omega) (by intro x hx; simp at hx)))
      · intro l' K h1 h2
        exact ⟨.inr rfl, _, .t h2 .nil, by simp only [closesB, hq, h1, Bool.and_false]; rfl⟩
      · intro l' K h1
        show Cd _ _ _ _ _ _
        refine Cd.weak (l2 := []) trivial ?_
        repeat' (first|refine zA ?_|refine Cd.reg ?_|refine Rg.nil ?_|refine zF ?_|refine zG ?_|refine zH ?_|(refine Rg.p (v:=?_) ?_ ?_;rotate_left;exact zE)|(refine Rg.cmp (p:=?_) rfl rfl ?_ ?_;rotate_left;exact zC;intro cv hv)|(refine Rg.r (v:=?_) rfl rfl ?_ ?_;rotate_left;exact zN)|refine zL fun _=>?_|refine Rg.alloc fun _=>?_|refine Rg.a (Mk.lits rfl) fun _=>?_|refine zO (cs:=?_) (K':=?_) ?_|refine zP (cs:=?_) (K':=?_) ?_|(refine zQ (g:=?_) ?_;intro cv hv)|(refine zR (w:=?_) ?_;intro cv hv)|refine zS (v:=?_) ?_|refine zT (v:=?_) ?_|refine Lp.round ?_|refine Cd.draw ?_|refine Dw.nil ?_|refine Dw.guardY rfl ?_|refine Dw.guardN rfl ?_|refine Dw.guardT rfl ?_|(refine Dw.p (v:=?_) ?_ ?_;rotate_left;exact zE)|(refine Dw.cmp (p:=?_) rfl rfl ?_ ?_;rotate_left;exact zC;intro cv hv)|(refine Dw.r (v:=?_) rfl rfl ?_ ?_ ?_;rotate_left;exact zN;exact zM)|refine Dw.a Mk.alloc fun _=>?_|refine Dw.a (Mk.lits rfl) fun _=>?_|(refine zY (g:=?_) ?_;intro cv hv)|refine zW (v:=?_) ?_|refine Cd.condT rfl ?_|refine Cd.condF rfl ?_|((first|refine Cd.cond rfl ?_ ?_|refine Rg.guardS rfl ?_ ?_|refine Dw.guardS rfl ?_ ?_)<;>(intro e;(try simp only [Bool.not_eq_true',Bool.not_eq_false'] at e);subst e;try contradiction))|refine Cd.skip ?_|refine Cd.blk ?_|refine Cd.ext ?_|refine Cd.ret ?_)
        (first|refine ⟨.inr rfl,_,.t rfl .nil,?_⟩|refine ⟨.inr rfl,_,.t rfl (.t rfl .nil),?_⟩|refine ⟨.inr rfl,_,.t rfl (.t rfl (.t rfl .nil)),?_⟩|refine ⟨.inr rfl,_,.nil,?_⟩|refine ⟨.inl rfl,_,.t rfl .nil,?_⟩|refine ⟨.inl rfl,_,.nil,?_⟩|refine ⟨.inr rfl,_,.cn rfl (by exact zN) .nil,?_⟩)
        simp only [closesB, hq, h1, Bool.and_true]
        rw [decide_eq_true (by simp at *; omega)]; rfl
  · have e : closesB u p k = false := by rw [closesB, List.getElem?_eq_none (by omega)]
    rw [e]
    repeat' (first|refine zA ?_|refine Cd.reg ?_|refine Rg.nil ?_|refine zF ?_|refine zG ?_|refine zH ?_|(refine Rg.p (v:=?_) ?_ ?_;rotate_left;exact zE)|(refine Rg.cmp (p:=?_) rfl rfl ?_ ?_;rotate_left;exact zC;intro cv hv)|(refine Rg.r (v:=?_) rfl rfl ?_ ?_;rotate_left;exact zN)|refine zL fun _=>?_|refine Rg.alloc fun _=>?_|refine Rg.a (Mk.lits rfl) fun _=>?_|refine zO (cs:=?_) (K':=?_) ?_|refine zP (cs:=?_) (K':=?_) ?_|(refine zQ (g:=?_) ?_;intro cv hv)|(refine zR (w:=?_) ?_;intro cv hv)|refine zS (v:=?_) ?_|refine zT (v:=?_) ?_|refine Lp.round ?_|refine Cd.draw ?_|refine Dw.nil ?_|refine Dw.guardY rfl ?_|refine Dw.guardN rfl ?_|refine Dw.guardT rfl ?_|(refine Dw.p (v:=?_) ?_ ?_;rotate_left;exact zE)|(refine Dw.cmp (p:=?_) rfl rfl ?_ ?_;rotate_left;exact zC;intro cv hv)|(refine Dw.r (v:=?_) rfl rfl ?_ ?_ ?_;rotate_left;exact zN;exact zM)|refine Dw.a Mk.alloc fun _=>?_|refine Dw.a (Mk.lits rfl) fun _=>?_|(refine zY (g:=?_) ?_;intro cv hv)|refine zW (v:=?_) ?_|refine Cd.condT rfl ?_|refine Cd.condF rfl ?_|((first|refine Cd.cond rfl ?_ ?_|refine Rg.guardS rfl ?_ ?_|refine Dw.guardS rfl ?_ ?_)<;>(intro e;(try simp only [Bool.not_eq_true',Bool.not_eq_false'] at e);subst e;try contradiction))|refine Cd.skip ?_|refine Cd.blk ?_|refine Cd.ext ?_|refine Cd.ret ?_)
    all_goals (first|refine ⟨.inr rfl,_,.t rfl .nil,?_⟩|refine ⟨.inr rfl,_,.t rfl (.t rfl .nil),?_⟩|refine ⟨.inr rfl,_,.t rfl (.t rfl (.t rfl .nil)),?_⟩|refine ⟨.inr rfl,_,.nil,?_⟩|refine ⟨.inl rfl,_,.t rfl .nil,?_⟩|refine ⟨.inl rfl,_,.nil,?_⟩|refine ⟨.inr rfl,_,.cn rfl (by exact zN) .nil,?_⟩)
    all_goals rfl
end Go.Proofs.Ytmedepnfpiheoaa
