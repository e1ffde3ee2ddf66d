/- Contracts: whether a value may be a key; the table that a value is. -/
import Derived.Test.YtggpnokhhpnnaaaHeapA
set_option autoImplicit false
set_option maxRecDepth 100000
set_option linter.unusedVariables false
namespace Go.Proofs.Ytggpnokhhpnnaaa
open Go Go.Abs
/-- May a value be a key? -/
def isKey (v : Val) : Bool := decide (v.k = 1) || decide (v.k = 2)
/-- The table that a value is. -/
def tabOf (H : HM) (t : Val) : Option Tb := if t.k = 3 then (match t.n with | .ofNat i => H.tabs[i]? | .negSucc _ => none) else none
section
variable {s : St} {lo : Nat} {H : HM}
theorem eqlI (a : Int) (b : Nat) : abin .eql (.int .i64 a) (.int .i64 (.ofNat b)) = some (.bool (decide (a = (b : Int)))) := eql_int a (.ofNat b)
theorem in_ (n : Nat) (v : Val) : ∃ s' w, acall F0 E15 (n + 1) 59 [valA v] s = some (w, s') ∧ Ext s s' ∧ aeq .ifcnil w .nilifc = some (!isKey v) := by
  have : ∃ w s', acall F0 E15 (n + 1) 59 [valA v] s = some (w, s') ∧ (Ext s s' ∧ aeq .ifcnil w .nilifc = some (!isKey v)) := by
    refine acall_of rfl comp59 (Nat.le_of_ble_eq_true rfl) ?_
    (repeat refine WC.seq ?_); refine WC.regX (Ext.refl s) fun s1 hs1 hx1 ho1 hn1 => ?_
    refine WR.box rfl rfl ?_
    repeat (first | refine WR.nil ?_ | refine WR.guardY rfl ?_ | refine WR.guardN rfl ?_ | refine WR.guardT rfl ?_ | refine WR.mov rfl ?_ | refine WR.nilchk rfl ?_ | (refine WR.len (v := ?_) rfl ?_ ?_; rotate_left; first | assumption | exact rfl) | (refine WR.iadr (v := ?_) rfl rfl ?_ ?_; rotate_left; assumption) | (refine WR.fadr (v := ?_) rfl ?_ ?_; rotate_left; first | assumption | exact rfl) | (refine WR.r (v := ?_) rfl rfl (Ld.use (s0 := ?_) ?_ ?_) ?_; rotate_left; rotate_left; assumption; assumption) | (refine WR.r (v := ?_) rfl rfl (Ldn.use (s0 := ?_) ?_ ?_) ?_; rotate_left; rotate_left; assumption; assumption) | (refine WR.bin (v := ?_) rfl rfl ?_ ?_; rotate_left; first | assumption | exact lss_nat _ _ | exact eql_nat _ _ | exact neq_nat _ _ | exact gtr_nat _ _ | exact geq_nat _ _ | exact leq_nat _ _ | exact eql_str _ _ | exact neq_str _ _ | (refine add_nat ?_; omega) | (refine sub_nat ?_ ?_; omega; omega)) | refine WR.pick rfl rfl rfl ?_ | refine WR.un rfl rfl ?_ | refine WR.ext rfl rfl ?_ | refine WR.eq rfl rfl rfl ?_ | refine WR.mkifc rfl ?_)
    have x1 : Ext s (s1.put s.next (.cells (cellsOf (valA v)) 0 0 false)) := hs1.put (Nat.le_refl _) _
    have b1 : (s1.put s.next (.cells (cellsOf (valA v)) 0 0 false)).objs.get s.next = some (.cells (valR v) 0 0 false) := by rw [get_put, if_pos rfl]; rfl
    have n1 : s.next < (s1.put s.next (.cells (cellsOf (valA v)) 0 0 false)).next := by rw [next_put, hn1]; exact Nat.lt_add_of_pos_right (by decide)
    generalize s1.put s.next (.cells (cellsOf (valA v)) 0 0 false) = sa at x1 b1 n1 ⊢
    have lk := objLd b1 n1 (o := 0) (v := .int .i64 v.k) rfl
    have ln := objLd b1 n1 (o := 1) (v := .int .i64 v.n) rfl
    have ls := objLd b1 n1 (o := 2) (v := .str v.s) rfl
    (repeat refine WC.seq ?_); refine WC.regX (Ext.refl sa) fun s2 hs2 hx2 ho2 hn2 => ?_
    repeat (first | refine WR.nil ?_ | refine WR.guardY rfl ?_ | refine WR.guardN rfl ?_ | refine WR.guardT rfl ?_ | refine WR.mov rfl ?_ | refine WR.nilchk rfl ?_ | (refine WR.len (v := ?_) rfl ?_ ?_; rotate_left; first | assumption | exact rfl) | (refine WR.iadr (v := ?_) rfl rfl ?_ ?_; rotate_left; assumption) | (refine WR.fadr (v := ?_) rfl ?_ ?_; rotate_left; first | assumption | exact rfl) | (refine WR.r (v := ?_) rfl rfl (Ld.use (s0 := ?_) ?_ ?_) ?_; rotate_left; rotate_left; assumption; assumption) | (refine WR.r (v := ?_) rfl rfl (Ldn.use (s0 := ?_) ?_ ?_) ?_; rotate_left; rotate_left; assumption; assumption) | (refine WR.bin (v := ?_) rfl rfl ?_ ?_; rotate_left; first | assumption | exact lss_nat _ _ | exact eql_nat _ _ | exact neq_nat _ _ | exact gtr_nat _ _ | exact geq_nat _ _ | exact leq_nat _ _ | exact eql_str _ _ | exact neq_str _ _ | (refine add_nat ?_; omega) | (refine sub_nat ?_ ?_; omega; omega)) | refine WR.pick rfl rfl rfl ?_ | refine WR.un rfl rfl ?_ | refine WR.ext rfl rfl ?_ | refine WR.eq rfl rfl rfl ?_ | refine WR.mkifc rfl ?_)
    (repeat refine WC.seq ?_); refine WC.blk ?_
    have q1 := eqlI v.k 1
    by_cases h1 : v.k = 1
    · rw [decide_eq_true (show v.k = ((1 : Nat) : Int) from h1)] at q1
      (repeat refine WC.seq ?_); refine WC.regX hs2 fun s3 hs3 hx3 ho3 hn3 => ?_
      repeat (first | refine WR.nil ?_ | refine WR.guardY rfl ?_ | refine WR.guardN rfl ?_ | refine WR.guardT rfl ?_ | refine WR.mov rfl ?_ | refine WR.nilchk rfl ?_ | (refine WR.len (v := ?_) rfl ?_ ?_; rotate_left; first | assumption | exact rfl) | (refine WR.iadr (v := ?_) rfl rfl ?_ ?_; rotate_left; assumption) | (refine WR.fadr (v := ?_) rfl ?_ ?_; rotate_left; first | assumption | exact rfl) | (refine WR.r (v := ?_) rfl rfl (Ld.use (s0 := ?_) ?_ ?_) ?_; rotate_left; rotate_left; assumption; assumption) | (refine WR.r (v := ?_) rfl rfl (Ldn.use (s0 := ?_) ?_ ?_) ?_; rotate_left; rotate_left; assumption; assumption) | (refine WR.bin (v := ?_) rfl rfl ?_ ?_; rotate_left; first | assumption | exact lss_nat _ _ | exact eql_nat _ _ | exact neq_nat _ _ | exact gtr_nat _ _ | exact geq_nat _ _ | exact leq_nat _ _ | exact eql_str _ _ | exact neq_str _ _ | (refine add_nat ?_; omega) | (refine sub_nat ?_ ?_; omega; omega)) | refine WR.pick rfl rfl rfl ?_ | refine WR.un rfl rfl ?_ | refine WR.ext rfl rfl ?_ | refine WR.eq rfl rfl rfl ?_ | refine WR.mkifc rfl ?_)
      (repeat refine WC.seq ?_); refine WC.cond rfl ?_ ?_
      · intro _
        (repeat refine WC.seq ?_); refine WC.regX hs3 fun s4 hs4 hx4 ho4 hn4 => ?_
        repeat (first | refine WR.nil ?_ | refine WR.guardY rfl ?_ | refine WR.guardN rfl ?_ | refine WR.guardT rfl ?_ | refine WR.mov rfl ?_ | refine WR.nilchk rfl ?_ | (refine WR.len (v := ?_) rfl ?_ ?_; rotate_left; first | assumption | exact rfl) | (refine WR.iadr (v := ?_) rfl rfl ?_ ?_; rotate_left; assumption) | (refine WR.fadr (v := ?_) rfl ?_ ?_; rotate_left; first | assumption | exact rfl) | (refine WR.r (v := ?_) rfl rfl (Ld.use (s0 := ?_) ?_ ?_) ?_; rotate_left; rotate_left; assumption; assumption) | (refine WR.r (v := ?_) rfl rfl (Ldn.use (s0 := ?_) ?_ ?_) ?_; rotate_left; rotate_left; assumption; assumption) | (refine WR.bin (v := ?_) rfl rfl ?_ ?_; rotate_left; first | assumption | exact lss_nat _ _ | exact eql_nat _ _ | exact neq_nat _ _ | exact gtr_nat _ _ | exact geq_nat _ _ | exact leq_nat _ _ | exact eql_str _ _ | exact neq_str _ _ | (refine add_nat ?_; omega) | (refine sub_nat ?_ ?_; omega; omega)) | refine WR.pick rfl rfl rfl ?_ | refine WR.un rfl rfl ?_ | refine WR.ext rfl rfl ?_ | refine WR.eq rfl rfl rfl ?_ | refine WR.mkifc rfl ?_)
        (repeat refine WC.seq ?_); refine WC.ret ?_
        exact ⟨.inr rfl, _, rfl, x1.trans hs4, by simp [isKey, h1]; rfl⟩
      · intro hh; cases hh
    · rw [decide_eq_false (show ¬ v.k = ((1 : Nat) : Int) from h1)] at q1
      have q2 := eqlI v.k 2
      by_cases h2 : v.k = 2
      · rw [decide_eq_true (show v.k = ((2 : Nat) : Int) from h2)] at q2
        (repeat refine WC.seq ?_); refine WC.regX hs2 fun s3 hs3 hx3 ho3 hn3 => ?_
        repeat (first | refine WR.nil ?_ | refine WR.guardY rfl ?_ | refine WR.guardN rfl ?_ | refine WR.guardT rfl ?_ | refine WR.mov rfl ?_ | refine WR.nilchk rfl ?_ | (refine WR.len (v := ?_) rfl ?_ ?_; rotate_left; first | assumption | exact rfl) | (refine WR.iadr (v := ?_) rfl rfl ?_ ?_; rotate_left; assumption) | (refine WR.fadr (v := ?_) rfl ?_ ?_; rotate_left; first | assumption | exact rfl) | (refine WR.r (v := ?_) rfl rfl (Ld.use (s0 := ?_) ?_ ?_) ?_; rotate_left; rotate_left; assumption; assumption) | (refine WR.r (v := ?_) rfl rfl (Ldn.use (s0 := ?_) ?_ ?_) ?_; rotate_left; rotate_left; assumption; assumption) | (refine WR.bin (v := ?_) rfl rfl ?_ ?_; rotate_left; first | assumption | exact lss_nat _ _ | exact eql_nat _ _ | exact neq_nat _ _ | exact gtr_nat _ _ | exact geq_nat _ _ | exact leq_nat _ _ | exact eql_str _ _ | exact neq_str _ _ | (refine add_nat ?_; omega) | (refine sub_nat ?_ ?_; omega; omega)) | refine WR.pick rfl rfl rfl ?_ | refine WR.un rfl rfl ?_ | refine WR.ext rfl rfl ?_ | refine WR.eq rfl rfl rfl ?_ | refine WR.mkifc rfl ?_)
        (repeat refine WC.seq ?_); refine WC.cond rfl ?_ ?_
        · intro hh; cases hh
        · intro _
          (repeat refine WC.seq ?_); refine WC.regX hs3 fun s4 hs4 hx4 ho4 hn4 => ?_
          repeat (first | refine WR.nil ?_ | refine WR.guardY rfl ?_ | refine WR.guardN rfl ?_ | refine WR.guardT rfl ?_ | refine WR.mov rfl ?_ | refine WR.nilchk rfl ?_ | (refine WR.len (v := ?_) rfl ?_ ?_; rotate_left; first | assumption | exact rfl) | (refine WR.iadr (v := ?_) rfl rfl ?_ ?_; rotate_left; assumption) | (refine WR.fadr (v := ?_) rfl ?_ ?_; rotate_left; first | assumption | exact rfl) | (refine WR.r (v := ?_) rfl rfl (Ld.use (s0 := ?_) ?_ ?_) ?_; rotate_left; rotate_left; assumption; assumption) | (refine WR.r (v := ?_) rfl rfl (Ldn.use (s0 := ?_) ?_ ?_) ?_; rotate_left; rotate_left; assumption; assumption) | (refine WR.bin (v := ?_) rfl rfl ?_ ?_; rotate_left; first | assumption | exact lss_nat _ _ | exact eql_nat _ _ | exact neq_nat _ _ | exact gtr_nat _ _ | exact geq_nat _ _ | exact leq_nat _ _ | exact eql_str _ _ | exact neq_str _ _ | (refine add_nat ?_; omega) | (refine sub_nat ?_ ?_; omega; omega)) | refine WR.pick rfl rfl rfl ?_ | refine WR.un rfl rfl ?_ | refine WR.ext rfl rfl ?_ | refine WR.eq rfl rfl rfl ?_ | refine WR.mkifc rfl ?_)
          (repeat refine WC.seq ?_); refine WC.cond rfl ?_ ?_
          · intro _
            (repeat refine WC.seq ?_); refine WC.regX hs4 fun s5 hs5 hx5 ho5 hn5 => ?_
            repeat (first | refine WR.nil ?_ | refine WR.guardY rfl ?_ | refine WR.guardN rfl ?_ | refine WR.guardT rfl ?_ | refine WR.mov rfl ?_ | refine WR.nilchk rfl ?_ | (refine WR.len (v := ?_) rfl ?_ ?_; rotate_left; first | assumption | exact rfl) | (refine WR.iadr (v := ?_) rfl rfl ?_ ?_; rotate_left; assumption) | (refine WR.fadr (v := ?_) rfl ?_ ?_; rotate_left; first | assumption | exact rfl) | (refine WR.r (v := ?_) rfl rfl (Ld.use (s0 := ?_) ?_ ?_) ?_; rotate_left; rotate_left; assumption; assumption) | (refine WR.r (v := ?_) rfl rfl (Ldn.use (s0 := ?_) ?_ ?_) ?_; rotate_left; rotate_left; assumption; assumption) | (refine WR.bin (v := ?_) rfl rfl ?_ ?_; rotate_left; first | assumption | exact lss_nat _ _ | exact eql_nat _ _ | exact neq_nat _ _ | exact gtr_nat _ _ | exact geq_nat _ _ | exact leq_nat _ _ | exact eql_str _ _ | exact neq_str _ _ | (refine add_nat ?_; omega) | (refine sub_nat ?_ ?_; omega; omega)) | refine WR.pick rfl rfl rfl ?_ | refine WR.un rfl rfl ?_ | refine WR.ext rfl rfl ?_ | refine WR.eq rfl rfl rfl ?_ | refine WR.mkifc rfl ?_)
            (repeat refine WC.seq ?_); refine WC.ret ?_
            exact ⟨.inr rfl, _, rfl, x1.trans hs5, by simp [isKey, h2]; rfl⟩
          · intro hh; cases hh
      · rw [decide_eq_false (show ¬ v.k = ((2 : Nat) : Int) from h2)] at q2
        (repeat refine WC.seq ?_); refine WC.regX hs2 fun s3 hs3 hx3 ho3 hn3 => ?_
        repeat (first | refine WR.nil ?_ | refine WR.guardY rfl ?_ | refine WR.guardN rfl ?_ | refine WR.guardT rfl ?_ | refine WR.mov rfl ?_ | refine WR.nilchk rfl ?_ | (refine WR.len (v := ?_) rfl ?_ ?_; rotate_left; first | assumption | exact rfl) | (refine WR.iadr (v := ?_) rfl rfl ?_ ?_; rotate_left; assumption) | (refine WR.fadr (v := ?_) rfl ?_ ?_; rotate_left; first | assumption | exact rfl) | (refine WR.r (v := ?_) rfl rfl (Ld.use (s0 := ?_) ?_ ?_) ?_; rotate_left; rotate_left; assumption; assumption) | (refine WR.r (v := ?_) rfl rfl (Ldn.use (s0 := ?_) ?_ ?_) ?_; rotate_left; rotate_left; assumption; assumption) | (refine WR.bin (v := ?_) rfl rfl ?_ ?_; rotate_left; first | assumption | exact lss_nat _ _ | exact eql_nat _ _ | exact neq_nat _ _ | exact gtr_nat _ _ | exact geq_nat _ _ | exact leq_nat _ _ | exact eql_str _ _ | exact neq_str _ _ | (refine add_nat ?_; omega) | (refine sub_nat ?_ ?_; omega; omega)) | refine WR.pick rfl rfl rfl ?_ | refine WR.un rfl rfl ?_ | refine WR.ext rfl rfl ?_ | refine WR.eq rfl rfl rfl ?_ | refine WR.mkifc rfl ?_)
        (repeat refine WC.seq ?_); refine WC.cond rfl ?_ ?_
        · intro hh; cases hh
        · intro _
          (repeat refine WC.seq ?_); refine WC.regX hs3 fun s4 hs4 hx4 ho4 hn4 => ?_
          repeat (first | refine WR.nil ?_ | refine WR.guardY rfl ?_ | refine WR.guardN rfl ?_ | refine WR.guardT rfl ?_ | refine WR.mov rfl ?_ | refine WR.nilchk rfl ?_ | (refine WR.len (v := ?_) rfl ?_ ?_; rotate_left; first | assumption | exact rfl) | (refine WR.iadr (v := ?_) rfl rfl ?_ ?_; rotate_left; assumption) | (refine WR.fadr (v := ?_) rfl ?_ ?_; rotate_left; first | assumption | exact rfl) | (refine WR.r (v := ?_) rfl rfl (Ld.use (s0 := ?_) ?_ ?_) ?_; rotate_left; rotate_left; assumption; assumption) | (refine WR.r (v := ?_) rfl rfl (Ldn.use (s0 := ?_) ?_ ?_) ?_; rotate_left; rotate_left; assumption; assumption) | (refine WR.bin (v := ?_) rfl rfl ?_ ?_; rotate_left; first | assumption | exact lss_nat _ _ | exact eql_nat _ _ | exact neq_nat _ _ | exact gtr_nat _ _ | exact geq_nat _ _ | exact leq_nat _ _ | exact eql_str _ _ | exact neq_str _ _ | (refine add_nat ?_; omega) | (refine sub_nat ?_ ?_; omega; omega)) | refine WR.pick rfl rfl rfl ?_ | refine WR.un rfl rfl ?_ | refine WR.ext rfl rfl ?_ | refine WR.eq rfl rfl rfl ?_ | refine WR.mkifc rfl ?_)
          (repeat refine WC.seq ?_); refine WC.cond rfl ?_ ?_
          · intro hh; cases hh
          · intro _
            (repeat refine WC.seq ?_); refine WC.skip ?_
            (repeat refine WC.seq ?_); refine WC.regX hs4 fun s5 hs5 hx5 ho5 hn5 => ?_
            repeat (first | refine WR.nil ?_ | refine WR.guardY rfl ?_ | refine WR.guardN rfl ?_ | refine WR.guardT rfl ?_ | refine WR.mov rfl ?_ | refine WR.nilchk rfl ?_ | (refine WR.len (v := ?_) rfl ?_ ?_; rotate_left; first | assumption | exact rfl) | (refine WR.iadr (v := ?_) rfl rfl ?_ ?_; rotate_left; assumption) | (refine WR.fadr (v := ?_) rfl ?_ ?_; rotate_left; first | assumption | exact rfl) | (refine WR.r (v := ?_) rfl rfl (Ld.use (s0 := ?_) ?_ ?_) ?_; rotate_left; rotate_left; assumption; assumption) | (refine WR.r (v := ?_) rfl rfl (Ldn.use (s0 := ?_) ?_ ?_) ?_; rotate_left; rotate_left; assumption; assumption) | (refine WR.bin (v := ?_) rfl rfl ?_ ?_; rotate_left; first | assumption | exact lss_nat _ _ | exact eql_nat _ _ | exact neq_nat _ _ | exact gtr_nat _ _ | exact geq_nat _ _ | exact leq_nat _ _ | exact eql_str _ _ | exact neq_str _ _ | (refine add_nat ?_; omega) | (refine sub_nat ?_ ?_; omega; omega)) | refine WR.pick rfl rfl rfl ?_ | refine WR.un rfl rfl ?_ | refine WR.ext rfl rfl ?_ | refine WR.eq rfl rfl rfl ?_ | refine WR.mkifc rfl ?_)
            (repeat refine WC.seq ?_); refine WC.ret ?_
            exact ⟨.inr rfl, _, rfl, x1.trans hs5, by simp [isKey, h1, h2]; rfl⟩
  obtain ⟨w, s', e, k1, k2⟩ := this
  exact ⟨s', w, e, k1, k2⟩
theorem key_ (n : Nat) (v : Val) : ∃ s', acall F0 E15 (n + 2) 52 [valA v] s = some (.bool (isKey v), s') ∧ Ext s s' := by
  have : ∃ w s', acall F0 E15 (n + 2) 52 [valA v] s = some (w, s') ∧ (Ext s s' ∧ w = .bool (isKey v)) := by
    refine acall_of rfl comp52 (Nat.le_of_ble_eq_true rfl) ?_
    (repeat refine WC.seq ?_); refine WC.regX (Ext.refl s) fun s1 hs1 hx1 ho1 hn1 => ?_
    refine WR.box rfl rfl ?_
    repeat (first | refine WR.nil ?_ | refine WR.guardY rfl ?_ | refine WR.guardN rfl ?_ | refine WR.guardT rfl ?_ | refine WR.mov rfl ?_ | refine WR.nilchk rfl ?_ | (refine WR.len (v := ?_) rfl ?_ ?_; rotate_left; first | assumption | exact rfl) | (refine WR.iadr (v := ?_) rfl rfl ?_ ?_; rotate_left; assumption) | (refine WR.fadr (v := ?_) rfl ?_ ?_; rotate_left; first | assumption | exact rfl) | (refine WR.r (v := ?_) rfl rfl (Ld.use (s0 := ?_) ?_ ?_) ?_; rotate_left; rotate_left; assumption; assumption) | (refine WR.r (v := ?_) rfl rfl (Ldn.use (s0 := ?_) ?_ ?_) ?_; rotate_left; rotate_left; assumption; assumption) | (refine WR.bin (v := ?_) rfl rfl ?_ ?_; rotate_left; first | assumption | exact lss_nat _ _ | exact eql_nat _ _ | exact neq_nat _ _ | exact gtr_nat _ _ | exact geq_nat _ _ | exact leq_nat _ _ | exact eql_str _ _ | exact neq_str _ _ | (refine add_nat ?_; omega) | (refine sub_nat ?_ ?_; omega; omega)) | refine WR.pick rfl rfl rfl ?_ | refine WR.un rfl rfl ?_ | refine WR.ext rfl rfl ?_ | refine WR.eq rfl rfl rfl ?_ | refine WR.mkifc rfl ?_)
    have x1 : Ext s (s1.put s.next (.cells (cellsOf (valA v)) 0 0 false)) := hs1.put (Nat.le_refl _) _
    have b1 : (s1.put s.next (.cells (cellsOf (valA v)) 0 0 false)).objs.get s.next = some (.cells (valR v) 0 0 false) := by rw [get_put, if_pos rfl]; rfl
    have n1 : s.next < (s1.put s.next (.cells (cellsOf (valA v)) 0 0 false)).next := by rw [next_put, hn1]; exact Nat.lt_add_of_pos_right (by decide)
    generalize s1.put s.next (.cells (cellsOf (valA v)) 0 0 false) = sa at x1 b1 n1 ⊢
    have lk : Ldn sa 3 (.ptr s.next 0 0 3) (valA v) := objLdn b1 n1 (o := 0) (m := 3) (Nat.le_refl _)
    (repeat refine WC.seq ?_); refine WC.regX (Ext.refl sa) fun s2 hs2 hx2 ho2 hn2 => ?_
    repeat (first | refine WR.nil ?_ | refine WR.guardY rfl ?_ | refine WR.guardN rfl ?_ | refine WR.guardT rfl ?_ | refine WR.mov rfl ?_ | refine WR.nilchk rfl ?_ | (refine WR.len (v := ?_) rfl ?_ ?_; rotate_left; first | assumption | exact rfl) | (refine WR.iadr (v := ?_) rfl rfl ?_ ?_; rotate_left; assumption) | (refine WR.fadr (v := ?_) rfl ?_ ?_; rotate_left; first | assumption | exact rfl) | (refine WR.r (v := ?_) rfl rfl (Ld.use (s0 := ?_) ?_ ?_) ?_; rotate_left; rotate_left; assumption; assumption) | (refine WR.r (v := ?_) rfl rfl (Ldn.use (s0 := ?_) ?_ ?_) ?_; rotate_left; rotate_left; assumption; assumption) | (refine WR.bin (v := ?_) rfl rfl ?_ ?_; rotate_left; first | assumption | exact lss_nat _ _ | exact eql_nat _ _ | exact neq_nat _ _ | exact gtr_nat _ _ | exact geq_nat _ _ | exact leq_nat _ _ | exact eql_str _ _ | exact neq_str _ _ | (refine add_nat ?_; omega) | (refine sub_nat ?_ ?_; omega; omega)) | refine WR.pick rfl rfl rfl ?_ | refine WR.un rfl rfl ?_ | refine WR.ext rfl rfl ?_ | refine WR.eq rfl rfl rfl ?_ | refine WR.mkifc rfl ?_)
    obtain ⟨s3, w, e3, k3, q3⟩ := in_ (s := s2) n v
    refine WR.fn rfl e3 ?_
    refine WR.eq rfl rfl q3 ?_
    repeat (first | refine WR.nil ?_ | refine WR.guardY rfl ?_ | refine WR.guardN rfl ?_ | refine WR.guardT rfl ?_ | refine WR.mov rfl ?_ | refine WR.nilchk rfl ?_ | (refine WR.len (v := ?_) rfl ?_ ?_; rotate_left; first | assumption | exact rfl) | (refine WR.iadr (v := ?_) rfl rfl ?_ ?_; rotate_left; assumption) | (refine WR.fadr (v := ?_) rfl ?_ ?_; rotate_left; first | assumption | exact rfl) | (refine WR.r (v := ?_) rfl rfl (Ld.use (s0 := ?_) ?_ ?_) ?_; rotate_left; rotate_left; assumption; assumption) | (refine WR.r (v := ?_) rfl rfl (Ldn.use (s0 := ?_) ?_ ?_) ?_; rotate_left; rotate_left; assumption; assumption) | (refine WR.bin (v := ?_) rfl rfl ?_ ?_; rotate_left; first | assumption | exact lss_nat _ _ | exact eql_nat _ _ | exact neq_nat _ _ | exact gtr_nat _ _ | exact geq_nat _ _ | exact leq_nat _ _ | exact eql_str _ _ | exact neq_str _ _ | (refine add_nat ?_; omega) | (refine sub_nat ?_ ?_; omega; omega)) | refine WR.pick rfl rfl rfl ?_ | refine WR.un rfl rfl ?_ | refine WR.ext rfl rfl ?_ | refine WR.eq rfl rfl rfl ?_ | refine WR.mkifc rfl ?_)
    (repeat refine WC.seq ?_); refine WC.ret ?_
    refine ⟨.inr rfl, _, rfl, x1.trans (hs2.trans k3), ?_⟩
    show AV.bool (!(!isKey v)) = _
    rw [Bool.not_not]
  obtain ⟨_, s', e, k, rfl⟩ := this
  exact ⟨s', e, k⟩
/-- The table that a value is, or that it is none. -/
theorem tab_ (n : Nat) (h : HeapAt s lo H) (ok : HeapOk H) (t : Val) : ∃ s', acall F0 E15 (n + 2) 36 [H.p, valA t] s = some (.tup (match tabOf H t with | some tb => [.map tb.id, .int .i64 (.ofNat 0)] | none => [.nilmap, .int .i64 (.ofNat 1)]), s') ∧ Ext s s' := by
  have hlen := h.tab.slv.len' (m := H.tabs.length) (by simp)
  have hcnt := ok.count
  have hb := ok.big
  have hf := ok.fit
  have : ∃ w s', acall F0 E15 (n + 2) 36 [H.p, valA t] s = some (w, s') ∧ (Ext s s' ∧ w = .tup (match tabOf H t with | some tb => [.map tb.id, .int .i64 (.ofNat 0)] | none => [.nilmap, .int .i64 (.ofNat 1)])) := by
    refine acall_of rfl comp36 (Nat.le_of_ble_eq_true rfl) ?_
    (repeat refine WC.seq ?_); refine WC.regX (Ext.refl s) fun s1 hs1 hx1 ho1 hn1 => ?_
    refine WR.box rfl rfl ?_
    repeat (first | refine WR.nil ?_ | refine WR.guardY rfl ?_ | refine WR.guardN rfl ?_ | refine WR.guardT rfl ?_ | refine WR.mov rfl ?_ | refine WR.nilchk rfl ?_ | (refine WR.len (v := ?_) rfl ?_ ?_; rotate_left; first | assumption | exact rfl) | (refine WR.iadr (v := ?_) rfl rfl ?_ ?_; rotate_left; assumption) | (refine WR.fadr (v := ?_) rfl ?_ ?_; rotate_left; first | assumption | exact rfl) | (refine WR.r (v := ?_) rfl rfl (Ld.use (s0 := ?_) ?_ ?_) ?_; rotate_left; rotate_left; assumption; assumption) | (refine WR.r (v := ?_) rfl rfl (Ldn.use (s0 := ?_) ?_ ?_) ?_; rotate_left; rotate_left; assumption; assumption) | (refine WR.bin (v := ?_) rfl rfl ?_ ?_; rotate_left; first | assumption | exact lss_nat _ _ | exact eql_nat _ _ | exact neq_nat _ _ | exact gtr_nat _ _ | exact geq_nat _ _ | exact leq_nat _ _ | exact eql_str _ _ | exact neq_str _ _ | (refine add_nat ?_; omega) | (refine sub_nat ?_ ?_; omega; omega)) | refine WR.pick rfl rfl rfl ?_ | refine WR.un rfl rfl ?_ | refine WR.ext rfl rfl ?_ | refine WR.eq rfl rfl rfl ?_ | refine WR.mkifc rfl ?_)
    have x1 : Ext s (s1.put s.next (.cells (cellsOf (valA t)) 0 0 false)) := hs1.put (Nat.le_refl _) _
    have b1 : (s1.put s.next (.cells (cellsOf (valA t)) 0 0 false)).objs.get s.next = some (.cells (valR t) 0 0 false) := by rw [get_put, if_pos rfl]; rfl
    have n1 : s.next < (s1.put s.next (.cells (cellsOf (valA t)) 0 0 false)).next := by rw [next_put, hn1]; exact Nat.lt_add_of_pos_right (by decide)
    generalize s1.put s.next (.cells (cellsOf (valA t)) 0 0 false) = sa at x1 b1 n1 ⊢
    have lk := objLd b1 n1 (o := 0) (v := .int .i64 t.k) rfl
    have ln := objLd b1 n1 (o := 1) (v := .int .i64 t.n) rfl
    have l3 := (h.ext x1).ld (k := 3) rfl
    (repeat refine WC.seq ?_); refine WC.blk ?_
    (repeat refine WC.seq ?_); refine WC.regX (Ext.refl sa) fun s2 hs2 hx2 ho2 hn2 => ?_
    repeat (first | refine WR.nil ?_ | refine WR.guardY rfl ?_ | refine WR.guardN rfl ?_ | refine WR.guardT rfl ?_ | refine WR.mov rfl ?_ | refine WR.nilchk rfl ?_ | (refine WR.len (v := ?_) rfl ?_ ?_; rotate_left; first | assumption | exact rfl) | (refine WR.iadr (v := ?_) rfl rfl ?_ ?_; rotate_left; assumption) | (refine WR.fadr (v := ?_) rfl ?_ ?_; rotate_left; first | assumption | exact rfl) | (refine WR.r (v := ?_) rfl rfl (Ld.use (s0 := ?_) ?_ ?_) ?_; rotate_left; rotate_left; assumption; assumption) | (refine WR.r (v := ?_) rfl rfl (Ldn.use (s0 := ?_) ?_ ?_) ?_; rotate_left; rotate_left; assumption; assumption) | (refine WR.bin (v := ?_) rfl rfl ?_ ?_; rotate_left; first | assumption | exact lss_nat _ _ | exact eql_nat _ _ | exact neq_nat _ _ | exact gtr_nat _ _ | exact geq_nat _ _ | exact leq_nat _ _ | exact eql_str _ _ | exact neq_str _ _ | (refine add_nat ?_; omega) | (refine sub_nat ?_ ?_; omega; omega)) | refine WR.pick rfl rfl rfl ?_ | refine WR.un rfl rfl ?_ | refine WR.ext rfl rfl ?_ | refine WR.eq rfl rfl rfl ?_ | refine WR.mkifc rfl ?_)
    obtain ⟨s3, e3, k3⟩ := there_ n (h.ext (x1.trans hs2))
    refine WR.fn rfl e3 ?_
    repeat (first | refine WR.nil ?_ | refine WR.guardY rfl ?_ | refine WR.guardN rfl ?_ | refine WR.guardT rfl ?_ | refine WR.mov rfl ?_ | refine WR.nilchk rfl ?_ | (refine WR.len (v := ?_) rfl ?_ ?_; rotate_left; first | assumption | exact rfl) | (refine WR.iadr (v := ?_) rfl rfl ?_ ?_; rotate_left; assumption) | (refine WR.fadr (v := ?_) rfl ?_ ?_; rotate_left; first | assumption | exact rfl) | (refine WR.r (v := ?_) rfl rfl (Ld.use (s0 := ?_) ?_ ?_) ?_; rotate_left; rotate_left; assumption; assumption) | (refine WR.r (v := ?_) rfl rfl (Ldn.use (s0 := ?_) ?_ ?_) ?_; rotate_left; rotate_left; assumption; assumption) | (refine WR.bin (v := ?_) rfl rfl ?_ ?_; rotate_left; first | assumption | exact lss_nat _ _ | exact eql_nat _ _ | exact neq_nat _ _ | exact gtr_nat _ _ | exact geq_nat _ _ | exact leq_nat _ _ | exact eql_str _ _ | exact neq_str _ _ | (refine add_nat ?_; omega) | (refine sub_nat ?_ ?_; omega; omega)) | refine WR.pick rfl rfl rfl ?_ | refine WR.un rfl rfl ?_ | refine WR.ext rfl rfl ?_ | refine WR.eq rfl rfl rfl ?_ | refine WR.mkifc rfl ?_)
    have hs3 := hs2.trans k3
    have q1 : abin .neq (.int .i64 t.k) (.int .i64 (.ofNat 3)) = _ := neq_int t.k (.ofNat 3)
    have q2 : abin .lss (.int .i64 t.n) (.int .i64 (.ofNat 0)) = _ := lss_int t.n (.ofNat 0)
    have q3 : abin .geq (.int .i64 t.n) (.int .i64 (.ofNat H.tabs.length)) = _ := geq_int t.n (.ofNat H.tabs.length)
    (repeat refine WC.seq ?_); refine WC.cond rfl ?_ ?_
    · intro hh; cases hh
    · intro _
      by_cases h1 : t.k = 3
      · have q1 := q1.trans (by rw [decide_eq_true (show t.k = Int.ofNat 3 from h1)]; exact rfl : _ = some (AV.bool false))
        cases hti : t.n with
        | negSucc i =>
          have hn : tabOf H t = none := by simp [tabOf, hti]
          have q2 := q2.trans (by rw [decide_eq_true (show t.n < Int.ofNat 0 by rw [hti]; exact Int.negSucc_lt_zero i)] : _ = some (AV.bool true))
          rw [hti] at q2 q3 ln
          (repeat refine WC.seq ?_); refine WC.drawX hs3 fun s4 hs4 hx4 ho4 hn4 => ?_
          repeat (first | refine WD.nil ?_ | refine WD.guardY rfl ?_ | refine WD.guardN rfl ?_ | refine WD.guardT rfl ?_ | refine WD.mov rfl ?_ | refine WD.nilchk rfl ?_ | (refine WD.len (v := ?_) rfl ?_ ?_; rotate_left; first | assumption | exact rfl) | (refine WD.iadr (v := ?_) rfl rfl ?_ ?_; rotate_left; assumption) | (refine WD.fadr (v := ?_) rfl ?_ ?_; rotate_left; first | assumption | exact rfl) | (refine WD.r (v := ?_) rfl rfl (Ld.use (s0 := ?_) ?_ ?_) rfl ?_; rotate_left; rotate_left; assumption; assumption) | (refine WD.r (v := ?_) rfl rfl (Ldn.use (s0 := ?_) ?_ ?_) rfl ?_; rotate_left; rotate_left; assumption; assumption) | (refine WD.bin (v := ?_) rfl rfl ?_ ?_; rotate_left; first | assumption | exact lss_nat _ _ | exact eql_nat _ _ | exact neq_nat _ _ | exact gtr_nat _ _ | exact geq_nat _ _ | exact leq_nat _ _ | exact eql_str _ _ | exact neq_str _ _ | (refine add_nat ?_; omega) | (refine sub_nat ?_ ?_; omega; omega)) | refine WD.pick rfl rfl rfl ?_ | refine WD.un rfl rfl ?_)
          (repeat refine WC.seq ?_); refine WC.cond rfl ?_ ?_
          · intro _
            (repeat refine WC.seq ?_); refine WC.regX hs4 fun s5 hs5 hx5 ho5 hn5 => ?_
            repeat (first | refine WR.nil ?_ | refine WR.guardY rfl ?_ | refine WR.guardN rfl ?_ | refine WR.guardT rfl ?_ | refine WR.mov rfl ?_ | refine WR.nilchk rfl ?_ | (refine WR.len (v := ?_) rfl ?_ ?_; rotate_left; first | assumption | exact rfl) | (refine WR.iadr (v := ?_) rfl rfl ?_ ?_; rotate_left; assumption) | (refine WR.fadr (v := ?_) rfl ?_ ?_; rotate_left; first | assumption | exact rfl) | (refine WR.r (v := ?_) rfl rfl (Ld.use (s0 := ?_) ?_ ?_) ?_; rotate_left; rotate_left; assumption; assumption) | (refine WR.r (v := ?_) rfl rfl (Ldn.use (s0 := ?_) ?_ ?_) ?_; rotate_left; rotate_left; assumption; assumption) | (refine WR.bin (v := ?_) rfl rfl ?_ ?_; rotate_left; first | assumption | exact lss_nat _ _ | exact eql_nat _ _ | exact neq_nat _ _ | exact gtr_nat _ _ | exact geq_nat _ _ | exact leq_nat _ _ | exact eql_str _ _ | exact neq_str _ _ | (refine add_nat ?_; omega) | (refine sub_nat ?_ ?_; omega; omega)) | refine WR.pick rfl rfl rfl ?_ | refine WR.un rfl rfl ?_ | refine WR.ext rfl rfl ?_ | refine WR.eq rfl rfl rfl ?_ | refine WR.mkifc rfl ?_)
            (repeat refine WC.seq ?_); refine WC.ret ?_
            exact ⟨.inr rfl, _, rfl, x1.trans hs5, by rw [hn]; rfl⟩
          · intro hh; cases hh
        | ofNat i =>
          have q2 := q2.trans (by rw [decide_eq_false (show ¬ t.n < Int.ofNat 0 by rw [hti]; simp)] : _ = some (AV.bool false))
          rw [hti] at q2 q3 ln
          by_cases hi : i < H.tabs.length
          · have q3 := q3.trans (by rw [decide_eq_false (show ¬ Int.ofNat H.tabs.length ≤ Int.ofNat i by simp; omega)] : _ = some (AV.bool false))
            have hg : tabOf H t = some H.tabs[i] := by simp [tabOf, hti, h1, hi]
            obtain ⟨pp, p1, p2⟩ := (h.ext x1).tab.slv.at1 (i := i) (a := .map H.tabs[i].id) (by simp [hi])
            (repeat refine WC.seq ?_); refine WC.drawX hs3 fun s4 hs4 hx4 ho4 hn4 => ?_
            repeat (first | refine WD.nil ?_ | refine WD.guardY rfl ?_ | refine WD.guardN rfl ?_ | refine WD.guardT rfl ?_ | refine WD.mov rfl ?_ | refine WD.nilchk rfl ?_ | (refine WD.len (v := ?_) rfl ?_ ?_; rotate_left; first | assumption | exact rfl) | (refine WD.iadr (v := ?_) rfl rfl ?_ ?_; rotate_left; assumption) | (refine WD.fadr (v := ?_) rfl ?_ ?_; rotate_left; first | assumption | exact rfl) | (refine WD.r (v := ?_) rfl rfl (Ld.use (s0 := ?_) ?_ ?_) rfl ?_; rotate_left; rotate_left; assumption; assumption) | (refine WD.r (v := ?_) rfl rfl (Ldn.use (s0 := ?_) ?_ ?_) rfl ?_; rotate_left; rotate_left; assumption; assumption) | (refine WD.bin (v := ?_) rfl rfl ?_ ?_; rotate_left; first | assumption | exact lss_nat _ _ | exact eql_nat _ _ | exact neq_nat _ _ | exact gtr_nat _ _ | exact geq_nat _ _ | exact leq_nat _ _ | exact eql_str _ _ | exact neq_str _ _ | (refine add_nat ?_; omega) | (refine sub_nat ?_ ?_; omega; omega)) | refine WD.pick rfl rfl rfl ?_ | refine WD.un rfl rfl ?_)
            (repeat refine WC.seq ?_); refine WC.cond rfl ?_ ?_
            · intro hh; cases hh
            · intro _
              (repeat refine WC.seq ?_); refine WC.skip ?_
              (repeat refine WC.seq ?_); refine WC.drawX hs4 fun s5 hs5 hx5 ho5 hn5 => ?_
              repeat (first | refine WD.nil ?_ | refine WD.guardY rfl ?_ | refine WD.guardN rfl ?_ | refine WD.guardT rfl ?_ | refine WD.mov rfl ?_ | refine WD.nilchk rfl ?_ | (refine WD.len (v := ?_) rfl ?_ ?_; rotate_left; first | assumption | exact rfl) | (refine WD.iadr (v := ?_) rfl rfl ?_ ?_; rotate_left; assumption) | (refine WD.fadr (v := ?_) rfl ?_ ?_; rotate_left; first | assumption | exact rfl) | (refine WD.r (v := ?_) rfl rfl (Ld.use (s0 := ?_) ?_ ?_) rfl ?_; rotate_left; rotate_left; assumption; assumption) | (refine WD.r (v := ?_) rfl rfl (Ldn.use (s0 := ?_) ?_ ?_) rfl ?_; rotate_left; rotate_left; assumption; assumption) | (refine WD.bin (v := ?_) rfl rfl ?_ ?_; rotate_left; first | assumption | exact lss_nat _ _ | exact eql_nat _ _ | exact neq_nat _ _ | exact gtr_nat _ _ | exact geq_nat _ _ | exact leq_nat _ _ | exact eql_str _ _ | exact neq_str _ _ | (refine add_nat ?_; omega) | (refine sub_nat ?_ ?_; omega; omega)) | refine WD.pick rfl rfl rfl ?_ | refine WD.un rfl rfl ?_)
              (repeat refine WC.seq ?_); refine WC.ret ?_
              exact ⟨.inr rfl, _, rfl, x1.trans hs5, by rw [hg]; rfl⟩
          · have q3 := q3.trans (by rw [decide_eq_true (show Int.ofNat H.tabs.length ≤ Int.ofNat i by simp; omega)] : _ = some (AV.bool true))
            have hn : tabOf H t = none := by simp [tabOf, hti]; intro _; omega
            (repeat refine WC.seq ?_); refine WC.drawX hs3 fun s4 hs4 hx4 ho4 hn4 => ?_
            repeat (first | refine WD.nil ?_ | refine WD.guardY rfl ?_ | refine WD.guardN rfl ?_ | refine WD.guardT rfl ?_ | refine WD.mov rfl ?_ | refine WD.nilchk rfl ?_ | (refine WD.len (v := ?_) rfl ?_ ?_; rotate_left; first | assumption | exact rfl) | (refine WD.iadr (v := ?_) rfl rfl ?_ ?_; rotate_left; assumption) | (refine WD.fadr (v := ?_) rfl ?_ ?_; rotate_left; first | assumption | exact rfl) | (refine WD.r (v := ?_) rfl rfl (Ld.use (s0 := ?_) ?_ ?_) rfl ?_; rotate_left; rotate_left; assumption; assumption) | (refine WD.r (v := ?_) rfl rfl (Ldn.use (s0 := ?_) ?_ ?_) rfl ?_; rotate_left; rotate_left; assumption; assumption) | (refine WD.bin (v := ?_) rfl rfl ?_ ?_; rotate_left; first | assumption | exact lss_nat _ _ | exact eql_nat _ _ | exact neq_nat _ _ | exact gtr_nat _ _ | exact geq_nat _ _ | exact leq_nat _ _ | exact eql_str _ _ | exact neq_str _ _ | (refine add_nat ?_; omega) | (refine sub_nat ?_ ?_; omega; omega)) | refine WD.pick rfl rfl rfl ?_ | refine WD.un rfl rfl ?_)
            (repeat refine WC.seq ?_); refine WC.cond rfl ?_ ?_
            · intro _
              (repeat refine WC.seq ?_); refine WC.regX hs4 fun s5 hs5 hx5 ho5 hn5 => ?_
              repeat (first | refine WR.nil ?_ | refine WR.guardY rfl ?_ | refine WR.guardN rfl ?_ | refine WR.guardT rfl ?_ | refine WR.mov rfl ?_ | refine WR.nilchk rfl ?_ | (refine WR.len (v := ?_) rfl ?_ ?_; rotate_left; first | assumption | exact rfl) | (refine WR.iadr (v := ?_) rfl rfl ?_ ?_; rotate_left; assumption) | (refine WR.fadr (v := ?_) rfl ?_ ?_; rotate_left; first | assumption | exact rfl) | (refine WR.r (v := ?_) rfl rfl (Ld.use (s0 := ?_) ?_ ?_) ?_; rotate_left; rotate_left; assumption; assumption) | (refine WR.r (v := ?_) rfl rfl (Ldn.use (s0 := ?_) ?_ ?_) ?_; rotate_left; rotate_left; assumption; assumption) | (refine WR.bin (v := ?_) rfl rfl ?_ ?_; rotate_left; first | assumption | exact lss_nat _ _ | exact eql_nat _ _ | exact neq_nat _ _ | exact gtr_nat _ _ | exact geq_nat _ _ | exact leq_nat _ _ | exact eql_str _ _ | exact neq_str _ _ | (refine add_nat ?_; omega) | (refine sub_nat ?_ ?_; omega; omega)) | refine WR.pick rfl rfl rfl ?_ | refine WR.un rfl rfl ?_ | refine WR.ext rfl rfl ?_ | refine WR.eq rfl rfl rfl ?_ | refine WR.mkifc rfl ?_)
              (repeat refine WC.seq ?_); refine WC.ret ?_
              exact ⟨.inr rfl, _, rfl, x1.trans hs5, by rw [hn]; rfl⟩
            · intro hh; cases hh
      · have q1 := q1.trans (by rw [decide_eq_false (show ¬ t.k = Int.ofNat 3 from h1)]; exact rfl : _ = some (AV.bool true))
        have hn : tabOf H t = none := by simp [tabOf, h1]
        (repeat refine WC.seq ?_); refine WC.drawX hs3 fun s4 hs4 hx4 ho4 hn4 => ?_
        repeat (first | refine WD.nil ?_ | refine WD.guardY rfl ?_ | refine WD.guardN rfl ?_ | refine WD.guardT rfl ?_ | refine WD.mov rfl ?_ | refine WD.nilchk rfl ?_ | (refine WD.len (v := ?_) rfl ?_ ?_; rotate_left; first | assumption | exact rfl) | (refine WD.iadr (v := ?_) rfl rfl ?_ ?_; rotate_left; assumption) | (refine WD.fadr (v := ?_) rfl ?_ ?_; rotate_left; first | assumption | exact rfl) | (refine WD.r (v := ?_) rfl rfl (Ld.use (s0 := ?_) ?_ ?_) rfl ?_; rotate_left; rotate_left; assumption; assumption) | (refine WD.r (v := ?_) rfl rfl (Ldn.use (s0 := ?_) ?_ ?_) rfl ?_; rotate_left; rotate_left; assumption; assumption) | (refine WD.bin (v := ?_) rfl rfl ?_ ?_; rotate_left; first | assumption | exact lss_nat _ _ | exact eql_nat _ _ | exact neq_nat _ _ | exact gtr_nat _ _ | exact geq_nat _ _ | exact leq_nat _ _ | exact eql_str _ _ | exact neq_str _ _ | (refine add_nat ?_; omega) | (refine sub_nat ?_ ?_; omega; omega)) | refine WD.pick rfl rfl rfl ?_ | refine WD.un rfl rfl ?_)
        (repeat refine WC.seq ?_); refine WC.cond rfl ?_ ?_
        · intro _
          (repeat refine WC.seq ?_); refine WC.regX hs4 fun s5 hs5 hx5 ho5 hn5 => ?_
          repeat (first | refine WR.nil ?_ | refine WR.guardY rfl ?_ | refine WR.guardN rfl ?_ | refine WR.guardT rfl ?_ | refine WR.mov rfl ?_ | refine WR.nilchk rfl ?_ | (refine WR.len (v := ?_) rfl ?_ ?_; rotate_left; first | assumption | exact rfl) | (refine WR.iadr (v := ?_) rfl rfl ?_ ?_; rotate_left; assumption) | (refine WR.fadr (v := ?_) rfl ?_ ?_; rotate_left; first | assumption | exact rfl) | (refine WR.r (v := ?_) rfl rfl (Ld.use (s0 := ?_) ?_ ?_) ?_; rotate_left; rotate_left; assumption; assumption) | (refine WR.r (v := ?_) rfl rfl (Ldn.use (s0 := ?_) ?_ ?_) ?_; rotate_left; rotate_left; assumption; assumption) | (refine WR.bin (v := ?_) rfl rfl ?_ ?_; rotate_left; first | assumption | exact lss_nat _ _ | exact eql_nat _ _ | exact neq_nat _ _ | exact gtr_nat _ _ | exact geq_nat _ _ | exact leq_nat _ _ | exact eql_str _ _ | exact neq_str _ _ | (refine add_nat ?_; omega) | (refine sub_nat ?_ ?_; omega; omega)) | refine WR.pick rfl rfl rfl ?_ | refine WR.un rfl rfl ?_ | refine WR.ext rfl rfl ?_ | refine WR.eq rfl rfl rfl ?_ | refine WR.mkifc rfl ?_)
          (repeat refine WC.seq ?_); refine WC.ret ?_
          exact ⟨.inr rfl, _, rfl, x1.trans hs5, by rw [hn]; rfl⟩
        · intro hh; cases hh
  obtain ⟨_, s', e, k, rfl⟩ := this
  exact ⟨s', e, k⟩
end
end Go.Proofs.Ytggpnokhhpnnaaa

namespace Go.Proofs.Ytggpnokhhpnnaaa
open Go Go.Abs
section
variable {s : St} {lo : Nat} {H : HM}
theorem atOk_ (n : Nat) (h : HeapAt s lo H) (ok : HeapOk H) {t k : Val} {tb : Tb} (ht : tabOf H t = some tb) (hk : isKey k = true) :
    ∃ s', acall F0 E15 (n + 3) 34 [H.p, valA t, valA k] s = some (.tup [.map tb.id, .int .i64 (.ofNat 0)], s') ∧ Ext s s' := by
  have : ∃ w s', acall F0 E15 (n + 3) 34 [H.p, valA t, valA k] s = some (w, s') ∧ (Ext s s' ∧ w = .tup [.map tb.id, .int .i64 (.ofNat 0)]) := by
    refine acall_of rfl comp34 (Nat.le_of_ble_eq_true rfl) ?_
    (repeat refine WC.seq ?_); refine WC.regX (Ext.refl s) fun s1 hs1 hx1 ho1 hn1 => ?_
    refine WR.box rfl rfl ?_
    refine WR.box rfl rfl ?_
    repeat (first | refine WR.nil ?_ | refine WR.guardY rfl ?_ | refine WR.guardN rfl ?_ | refine WR.guardT rfl ?_ | refine WR.mov rfl ?_ | refine WR.nilchk rfl ?_ | (refine WR.len (v := ?_) rfl ?_ ?_; rotate_left; first | assumption | exact rfl) | (refine WR.iadr (v := ?_) rfl rfl ?_ ?_; rotate_left; assumption) | (refine WR.fadr (v := ?_) rfl ?_ ?_; rotate_left; first | assumption | exact rfl) | (refine WR.r (v := ?_) rfl rfl (Ld.use (s0 := ?_) ?_ ?_) ?_; rotate_left; rotate_left; assumption; assumption) | (refine WR.r (v := ?_) rfl rfl (Ldn.use (s0 := ?_) ?_ ?_) ?_; rotate_left; rotate_left; assumption; assumption) | (refine WR.bin (v := ?_) rfl rfl ?_ ?_; rotate_left; first | assumption | exact lss_nat _ _ | exact eql_nat _ _ | exact neq_nat _ _ | exact gtr_nat _ _ | exact geq_nat _ _ | exact leq_nat _ _ | exact eql_str _ _ | exact neq_str _ _ | (refine add_nat ?_; omega) | (refine sub_nat ?_ ?_; omega; omega)) | refine WR.pick rfl rfl rfl ?_ | refine WR.un rfl rfl ?_ | refine WR.ext rfl rfl ?_ | refine WR.eq rfl rfl rfl ?_ | refine WR.mkifc rfl ?_)
    have m1 : s1.next = s.next + 4 := hn1
    have x1 := (hs1.put (Nat.le_refl _) (.cells (cellsOf (valA t)) 0 0 false)).put (id := s.next + 1) (by omega) (.cells (cellsOf (valA k)) 0 0 false)
    have b1 : ((s1.put s.next (.cells (cellsOf (valA t)) 0 0 false)).put (s.next + 1) (.cells (cellsOf (valA k)) 0 0 false)).objs.get s.next = some (.cells (valR t) 0 0 false) := by rw [get_put, if_neg (by omega), get_put, if_pos rfl]; rfl
    have g1 : ((s1.put s.next (.cells (cellsOf (valA t)) 0 0 false)).put (s.next + 1) (.cells (cellsOf (valA k)) 0 0 false)).objs.get (s.next + 1) = some (.cells (valR k) 0 0 false) := by rw [get_put, if_pos rfl]; rfl
    have n1 : s.next + 1 < ((s1.put s.next (.cells (cellsOf (valA t)) 0 0 false)).put (s.next + 1) (.cells (cellsOf (valA k)) 0 0 false)).next := by rw [next_put, next_put]; omega
    generalize (s1.put s.next (.cells (cellsOf (valA t)) 0 0 false)).put (s.next + 1) (.cells (cellsOf (valA k)) 0 0 false) = sa at x1 b1 g1 n1 ⊢
    have lt : Ldn sa 3 (.ptr s.next 0 0 3) (valA t) := objLdn b1 (by omega) (o := 0) (m := 3) (Nat.le_refl _)
    have lk : Ldn sa 3 (.ptr (s.next + 1) 0 0 3) (valA k) := objLdn g1 n1 (o := 0) (m := 3) (Nat.le_refl _)
    (repeat refine WC.seq ?_); refine WC.regX (Ext.refl sa) fun s2 hs2 hx2 ho2 hn2 => ?_
    repeat (first | refine WR.nil ?_ | refine WR.guardY rfl ?_ | refine WR.guardN rfl ?_ | refine WR.guardT rfl ?_ | refine WR.mov rfl ?_ | refine WR.nilchk rfl ?_ | (refine WR.len (v := ?_) rfl ?_ ?_; rotate_left; first | assumption | exact rfl) | (refine WR.iadr (v := ?_) rfl rfl ?_ ?_; rotate_left; assumption) | (refine WR.fadr (v := ?_) rfl ?_ ?_; rotate_left; first | assumption | exact rfl) | (refine WR.r (v := ?_) rfl rfl (Ld.use (s0 := ?_) ?_ ?_) ?_; rotate_left; rotate_left; assumption; assumption) | (refine WR.r (v := ?_) rfl rfl (Ldn.use (s0 := ?_) ?_ ?_) ?_; rotate_left; rotate_left; assumption; assumption) | (refine WR.bin (v := ?_) rfl rfl ?_ ?_; rotate_left; first | assumption | exact lss_nat _ _ | exact eql_nat _ _ | exact neq_nat _ _ | exact gtr_nat _ _ | exact geq_nat _ _ | exact leq_nat _ _ | exact eql_str _ _ | exact neq_str _ _ | (refine add_nat ?_; omega) | (refine sub_nat ?_ ?_; omega; omega)) | refine WR.pick rfl rfl rfl ?_ | refine WR.un rfl rfl ?_ | refine WR.ext rfl rfl ?_ | refine WR.eq rfl rfl rfl ?_ | refine WR.mkifc rfl ?_)
    obtain ⟨s3, e3, k3⟩ := tab_ (n) (h.ext (x1.trans hs2)) ok t
    rw [ht] at e3
    refine WR.fn rfl e3 ?_
    have hs3 := hs2.trans k3
    repeat (first | refine WR.nil ?_ | refine WR.guardY rfl ?_ | refine WR.guardN rfl ?_ | refine WR.guardT rfl ?_ | refine WR.mov rfl ?_ | refine WR.nilchk rfl ?_ | (refine WR.len (v := ?_) rfl ?_ ?_; rotate_left; first | assumption | exact rfl) | (refine WR.iadr (v := ?_) rfl rfl ?_ ?_; rotate_left; assumption) | (refine WR.fadr (v := ?_) rfl ?_ ?_; rotate_left; first | assumption | exact rfl) | (refine WR.r (v := ?_) rfl rfl (Ld.use (s0 := ?_) ?_ ?_) ?_; rotate_left; rotate_left; assumption; assumption) | (refine WR.r (v := ?_) rfl rfl (Ldn.use (s0 := ?_) ?_ ?_) ?_; rotate_left; rotate_left; assumption; assumption) | (refine WR.bin (v := ?_) rfl rfl ?_ ?_; rotate_left; first | assumption | exact lss_nat _ _ | exact eql_nat _ _ | exact neq_nat _ _ | exact gtr_nat _ _ | exact geq_nat _ _ | exact leq_nat _ _ | exact eql_str _ _ | exact neq_str _ _ | (refine add_nat ?_; omega) | (refine sub_nat ?_ ?_; omega; omega)) | refine WR.pick rfl rfl rfl ?_ | refine WR.un rfl rfl ?_ | refine WR.ext rfl rfl ?_ | refine WR.eq rfl rfl rfl ?_ | refine WR.mkifc rfl ?_)
    have q := eqlT (a := 0) (b := 0) rfl
    (repeat refine WC.seq ?_); refine WC.regX hs3 fun s4 hs4 hx4 ho4 hn4 => ?_
    repeat (first | refine WR.nil ?_ | refine WR.guardY rfl ?_ | refine WR.guardN rfl ?_ | refine WR.guardT rfl ?_ | refine WR.mov rfl ?_ | refine WR.nilchk rfl ?_ | (refine WR.len (v := ?_) rfl ?_ ?_; rotate_left; first | assumption | exact rfl) | (refine WR.iadr (v := ?_) rfl rfl ?_ ?_; rotate_left; assumption) | (refine WR.fadr (v := ?_) rfl ?_ ?_; rotate_left; first | assumption | exact rfl) | (refine WR.r (v := ?_) rfl rfl (Ld.use (s0 := ?_) ?_ ?_) ?_; rotate_left; rotate_left; assumption; assumption) | (refine WR.r (v := ?_) rfl rfl (Ldn.use (s0 := ?_) ?_ ?_) ?_; rotate_left; rotate_left; assumption; assumption) | (refine WR.bin (v := ?_) rfl rfl ?_ ?_; rotate_left; first | assumption | exact lss_nat _ _ | exact eql_nat _ _ | exact neq_nat _ _ | exact gtr_nat _ _ | exact geq_nat _ _ | exact leq_nat _ _ | exact eql_str _ _ | exact neq_str _ _ | (refine add_nat ?_; omega) | (refine sub_nat ?_ ?_; omega; omega)) | refine WR.pick rfl rfl rfl ?_ | refine WR.un rfl rfl ?_ | refine WR.ext rfl rfl ?_ | refine WR.eq rfl rfl rfl ?_ | refine WR.mkifc rfl ?_)
    obtain ⟨s5, e5, k5⟩ := key_ (s := s4) (n) k
    rw [hk] at e5
    refine WR.fn rfl e5 ?_
    have hs5 := hs4.trans k5
    repeat (first | refine WR.nil ?_ | refine WR.guardY rfl ?_ | refine WR.guardN rfl ?_ | refine WR.guardT rfl ?_ | refine WR.mov rfl ?_ | refine WR.nilchk rfl ?_ | (refine WR.len (v := ?_) rfl ?_ ?_; rotate_left; first | assumption | exact rfl) | (refine WR.iadr (v := ?_) rfl rfl ?_ ?_; rotate_left; assumption) | (refine WR.fadr (v := ?_) rfl ?_ ?_; rotate_left; first | assumption | exact rfl) | (refine WR.r (v := ?_) rfl rfl (Ld.use (s0 := ?_) ?_ ?_) ?_; rotate_left; rotate_left; assumption; assumption) | (refine WR.r (v := ?_) rfl rfl (Ldn.use (s0 := ?_) ?_ ?_) ?_; rotate_left; rotate_left; assumption; assumption) | (refine WR.bin (v := ?_) rfl rfl ?_ ?_; rotate_left; first | assumption | exact lss_nat _ _ | exact eql_nat _ _ | exact neq_nat _ _ | exact gtr_nat _ _ | exact geq_nat _ _ | exact leq_nat _ _ | exact eql_str _ _ | exact neq_str _ _ | (refine add_nat ?_; omega) | (refine sub_nat ?_ ?_; omega; omega)) | refine WR.pick rfl rfl rfl ?_ | refine WR.un rfl rfl ?_ | refine WR.ext rfl rfl ?_ | refine WR.eq rfl rfl rfl ?_ | refine WR.mkifc rfl ?_)
    (repeat refine WC.seq ?_); refine WC.cond rfl ?_ ?_
    · intro hh; cases hh
    · intro _
      (repeat refine WC.seq ?_); refine WC.skip ?_
      (repeat refine WC.seq ?_); refine WC.regX hs5 fun s6 hs6 hx6 ho6 hn6 => ?_
      repeat (first | refine WR.nil ?_ | refine WR.guardY rfl ?_ | refine WR.guardN rfl ?_ | refine WR.guardT rfl ?_ | refine WR.mov rfl ?_ | refine WR.nilchk rfl ?_ | (refine WR.len (v := ?_) rfl ?_ ?_; rotate_left; first | assumption | exact rfl) | (refine WR.iadr (v := ?_) rfl rfl ?_ ?_; rotate_left; assumption) | (refine WR.fadr (v := ?_) rfl ?_ ?_; rotate_left; first | assumption | exact rfl) | (refine WR.r (v := ?_) rfl rfl (Ld.use (s0 := ?_) ?_ ?_) ?_; rotate_left; rotate_left; assumption; assumption) | (refine WR.r (v := ?_) rfl rfl (Ldn.use (s0 := ?_) ?_ ?_) ?_; rotate_left; rotate_left; assumption; assumption) | (refine WR.bin (v := ?_) rfl rfl ?_ ?_; rotate_left; first | assumption | exact lss_nat _ _ | exact eql_nat _ _ | exact neq_nat _ _ | exact gtr_nat _ _ | exact geq_nat _ _ | exact leq_nat _ _ | exact eql_str _ _ | exact neq_str _ _ | (refine add_nat ?_; omega) | (refine sub_nat ?_ ?_; omega; omega)) | refine WR.pick rfl rfl rfl ?_ | refine WR.un rfl rfl ?_ | refine WR.ext rfl rfl ?_ | refine WR.eq rfl rfl rfl ?_ | refine WR.mkifc rfl ?_)
      (repeat refine WC.seq ?_); refine WC.ret ?_
      exact ⟨.inr rfl, _, rfl, x1.trans hs6, rfl⟩
  obtain ⟨_, s', e, k, rfl⟩ := this
  exact ⟨s', e, k⟩
def atBad (H : HM) (t k : Val) : Option Nat := match tabOf H t with
  | none => some 1
  | some _ => if isKey k then none else some 4
theorem atBad_ (n : Nat) (h : HeapAt s lo H) (ok : HeapOk H) {t k : Val} {c : Nat} (hb : atBad H t k = some c) :
    ∃ s' x, acall F0 E15 (n + 3) 34 [H.p, valA t, valA k] s = some (.tup [x, .int .i64 (.ofNat c)], s') ∧ Ext s s' := by
  have : ∃ w s', acall F0 E15 (n + 3) 34 [H.p, valA t, valA k] s = some (w, s') ∧ (Ext s s' ∧ ∃ x, w = .tup [x, .int .i64 (.ofNat c)]) := by
    refine acall_of rfl comp34 (Nat.le_of_ble_eq_true rfl) ?_
    (repeat refine WC.seq ?_); refine WC.regX (Ext.refl s) fun s1 hs1 hx1 ho1 hn1 => ?_
    refine WR.box rfl rfl ?_
    refine WR.box rfl rfl ?_
    repeat (first | refine WR.nil ?_ | refine WR.guardY rfl ?_ | refine WR.guardN rfl ?_ | refine WR.guardT rfl ?_ | refine WR.mov rfl ?_ | refine WR.nilchk rfl ?_ | (refine WR.len (v := ?_) rfl ?_ ?_; rotate_left; first | assumption | exact rfl) | (refine WR.iadr (v := ?_) rfl rfl ?_ ?_; rotate_left; assumption) | (refine WR.fadr (v := ?_) rfl ?_ ?_; rotate_left; first | assumption | exact rfl) | (refine WR.r (v := ?_) rfl rfl (Ld.use (s0 := ?_) ?_ ?_) ?_; rotate_left; rotate_left; assumption; assumption) | (refine WR.r (v := ?_) rfl rfl (Ldn.use (s0 := ?_) ?_ ?_) ?_; rotate_left; rotate_left; assumption; assumption) | (refine WR.bin (v := ?_) rfl rfl ?_ ?_; rotate_left; first | assumption | exact lss_nat _ _ | exact eql_nat _ _ | exact neq_nat _ _ | exact gtr_nat _ _ | exact geq_nat _ _ | exact leq_nat _ _ | exact eql_str _ _ | exact neq_str _ _ | (refine add_nat ?_; omega) | (refine sub_nat ?_ ?_; omega; omega)) | refine WR.pick rfl rfl rfl ?_ | refine WR.un rfl rfl ?_ | refine WR.ext rfl rfl ?_ | refine WR.eq rfl rfl rfl ?_ | refine WR.mkifc rfl ?_)
    have m1 : s1.next = s.next + 4 := hn1
    have x1 := (hs1.put (Nat.le_refl _) (.cells (cellsOf (valA t)) 0 0 false)).put (id := s.next + 1) (by omega) (.cells (cellsOf (valA k)) 0 0 false)
    have b1 : ((s1.put s.next (.cells (cellsOf (valA t)) 0 0 false)).put (s.next + 1) (.cells (cellsOf (valA k)) 0 0 false)).objs.get s.next = some (.cells (valR t) 0 0 false) := by rw [get_put, if_neg (by omega), get_put, if_pos rfl]; rfl
    have g1 : ((s1.put s.next (.cells (cellsOf (valA t)) 0 0 false)).put (s.next + 1) (.cells (cellsOf (valA k)) 0 0 false)).objs.get (s.next + 1) = some (.cells (valR k) 0 0 false) := by rw [get_put, if_pos rfl]; rfl
    have n1 : s.next + 1 < ((s1.put s.next (.cells (cellsOf (valA t)) 0 0 false)).put (s.next + 1) (.cells (cellsOf (valA k)) 0 0 false)).next := by rw [next_put, next_put]; omega
    generalize (s1.put s.next (.cells (cellsOf (valA t)) 0 0 false)).put (s.next + 1) (.cells (cellsOf (valA k)) 0 0 false) = sa at x1 b1 g1 n1 ⊢
    have lt : Ldn sa 3 (.ptr s.next 0 0 3) (valA t) := objLdn b1 (by omega) (o := 0) (m := 3) (Nat.le_refl _)
    have lk : Ldn sa 3 (.ptr (s.next + 1) 0 0 3) (valA k) := objLdn g1 n1 (o := 0) (m := 3) (Nat.le_refl _)
    (repeat refine WC.seq ?_); refine WC.regX (Ext.refl sa) fun s2 hs2 hx2 ho2 hn2 => ?_
    repeat (first | refine WR.nil ?_ | refine WR.guardY rfl ?_ | refine WR.guardN rfl ?_ | refine WR.guardT rfl ?_ | refine WR.mov rfl ?_ | refine WR.nilchk rfl ?_ | (refine WR.len (v := ?_) rfl ?_ ?_; rotate_left; first | assumption | exact rfl) | (refine WR.iadr (v := ?_) rfl rfl ?_ ?_; rotate_left; assumption) | (refine WR.fadr (v := ?_) rfl ?_ ?_; rotate_left; first | assumption | exact rfl) | (refine WR.r (v := ?_) rfl rfl (Ld.use (s0 := ?_) ?_ ?_) ?_; rotate_left; rotate_left; assumption; assumption) | (refine WR.r (v := ?_) rfl rfl (Ldn.use (s0 := ?_) ?_ ?_) ?_; rotate_left; rotate_left; assumption; assumption) | (refine WR.bin (v := ?_) rfl rfl ?_ ?_; rotate_left; first | assumption | exact lss_nat _ _ | exact eql_nat _ _ | exact neq_nat _ _ | exact gtr_nat _ _ | exact geq_nat _ _ | exact leq_nat _ _ | exact eql_str _ _ | exact neq_str _ _ | (refine add_nat ?_; omega) | (refine sub_nat ?_ ?_; omega; omega)) | refine WR.pick rfl rfl rfl ?_ | refine WR.un rfl rfl ?_ | refine WR.ext rfl rfl ?_ | refine WR.eq rfl rfl rfl ?_ | refine WR.mkifc rfl ?_)
    obtain ⟨s3, e3, k3⟩ := tab_ (n) (h.ext (x1.trans hs2)) ok t
    have hs3 := hs2.trans k3
    cases ht : tabOf H t with
    | none =>
      simp only [atBad, ht, Option.some.injEq] at hb
      subst hb
      rw [ht] at e3
      refine WR.fn rfl e3 ?_
      repeat (first | refine WR.nil ?_ | refine WR.guardY rfl ?_ | refine WR.guardN rfl ?_ | refine WR.guardT rfl ?_ | refine WR.mov rfl ?_ | refine WR.nilchk rfl ?_ | (refine WR.len (v := ?_) rfl ?_ ?_; rotate_left; first | assumption | exact rfl) | (refine WR.iadr (v := ?_) rfl rfl ?_ ?_; rotate_left; assumption) | (refine WR.fadr (v := ?_) rfl ?_ ?_; rotate_left; first | assumption | exact rfl) | (refine WR.r (v := ?_) rfl rfl (Ld.use (s0 := ?_) ?_ ?_) ?_; rotate_left; rotate_left; assumption; assumption) | (refine WR.r (v := ?_) rfl rfl (Ldn.use (s0 := ?_) ?_ ?_) ?_; rotate_left; rotate_left; assumption; assumption) | (refine WR.bin (v := ?_) rfl rfl ?_ ?_; rotate_left; first | assumption | exact lss_nat _ _ | exact eql_nat _ _ | exact neq_nat _ _ | exact gtr_nat _ _ | exact geq_nat _ _ | exact leq_nat _ _ | exact eql_str _ _ | exact neq_str _ _ | (refine add_nat ?_; omega) | (refine sub_nat ?_ ?_; omega; omega)) | refine WR.pick rfl rfl rfl ?_ | refine WR.un rfl rfl ?_ | refine WR.ext rfl rfl ?_ | refine WR.eq rfl rfl rfl ?_ | refine WR.mkifc rfl ?_)
      have q := eqlF (a := 1) (b := 0) (by decide)
      (repeat refine WC.seq ?_); refine WC.regX hs3 fun s4 hs4 hx4 ho4 hn4 => ?_
      repeat (first | refine WR.nil ?_ | refine WR.guardY rfl ?_ | refine WR.guardN rfl ?_ | refine WR.guardT rfl ?_ | refine WR.mov rfl ?_ | refine WR.nilchk rfl ?_ | (refine WR.len (v := ?_) rfl ?_ ?_; rotate_left; first | assumption | exact rfl) | (refine WR.iadr (v := ?_) rfl rfl ?_ ?_; rotate_left; assumption) | (refine WR.fadr (v := ?_) rfl ?_ ?_; rotate_left; first | assumption | exact rfl) | (refine WR.r (v := ?_) rfl rfl (Ld.use (s0 := ?_) ?_ ?_) ?_; rotate_left; rotate_left; assumption; assumption) | (refine WR.r (v := ?_) rfl rfl (Ldn.use (s0 := ?_) ?_ ?_) ?_; rotate_left; rotate_left; assumption; assumption) | (refine WR.bin (v := ?_) rfl rfl ?_ ?_; rotate_left; first | assumption | exact lss_nat _ _ | exact eql_nat _ _ | exact neq_nat _ _ | exact gtr_nat _ _ | exact geq_nat _ _ | exact leq_nat _ _ | exact eql_str _ _ | exact neq_str _ _ | (refine add_nat ?_; omega) | (refine sub_nat ?_ ?_; omega; omega)) | refine WR.pick rfl rfl rfl ?_ | refine WR.un rfl rfl ?_ | refine WR.ext rfl rfl ?_ | refine WR.eq rfl rfl rfl ?_ | refine WR.mkifc rfl ?_)
      (repeat refine WC.seq ?_); refine WC.cond rfl ?_ ?_
      · intro hh; cases hh
      · intro _
        (repeat refine WC.seq ?_); refine WC.skip ?_
        (repeat refine WC.seq ?_); refine WC.regX hs4 fun s6 hs6 hx6 ho6 hn6 => ?_
        repeat (first | refine WR.nil ?_ | refine WR.guardY rfl ?_ | refine WR.guardN rfl ?_ | refine WR.guardT rfl ?_ | refine WR.mov rfl ?_ | refine WR.nilchk rfl ?_ | (refine WR.len (v := ?_) rfl ?_ ?_; rotate_left; first | assumption | exact rfl) | (refine WR.iadr (v := ?_) rfl rfl ?_ ?_; rotate_left; assumption) | (refine WR.fadr (v := ?_) rfl ?_ ?_; rotate_left; first | assumption | exact rfl) | (refine WR.r (v := ?_) rfl rfl (Ld.use (s0 := ?_) ?_ ?_) ?_; rotate_left; rotate_left; assumption; assumption) | (refine WR.r (v := ?_) rfl rfl (Ldn.use (s0 := ?_) ?_ ?_) ?_; rotate_left; rotate_left; assumption; assumption) | (refine WR.bin (v := ?_) rfl rfl ?_ ?_; rotate_left; first | assumption | exact lss_nat _ _ | exact eql_nat _ _ | exact neq_nat _ _ | exact gtr_nat _ _ | exact geq_nat _ _ | exact leq_nat _ _ | exact eql_str _ _ | exact neq_str _ _ | (refine add_nat ?_; omega) | (refine sub_nat ?_ ?_; omega; omega)) | refine WR.pick rfl rfl rfl ?_ | refine WR.un rfl rfl ?_ | refine WR.ext rfl rfl ?_ | refine WR.eq rfl rfl rfl ?_ | refine WR.mkifc rfl ?_)
        (repeat refine WC.seq ?_); refine WC.ret ?_
        exact ⟨.inr rfl, _, rfl, x1.trans hs6, _, rfl⟩
    | some tb =>
      have hk : isKey k = false := by
        cases hq : isKey k with
        | false => rfl
        | true => simp [atBad, ht, hq] at hb
      simp [atBad, ht, hk] at hb
      subst hb
      rw [ht] at e3
      refine WR.fn rfl e3 ?_
      repeat (first | refine WR.nil ?_ | refine WR.guardY rfl ?_ | refine WR.guardN rfl ?_ | refine WR.guardT rfl ?_ | refine WR.mov rfl ?_ | refine WR.nilchk rfl ?_ | (refine WR.len (v := ?_) rfl ?_ ?_; rotate_left; first | assumption | exact rfl) | (refine WR.iadr (v := ?_) rfl rfl ?_ ?_; rotate_left; assumption) | (refine WR.fadr (v := ?_) rfl ?_ ?_; rotate_left; first | assumption | exact rfl) | (refine WR.r (v := ?_) rfl rfl (Ld.use (s0 := ?_) ?_ ?_) ?_; rotate_left; rotate_left; assumption; assumption) | (refine WR.r (v := ?_) rfl rfl (Ldn.use (s0 := ?_) ?_ ?_) ?_; rotate_left; rotate_left; assumption; assumption) | (refine WR.bin (v := ?_) rfl rfl ?_ ?_; rotate_left; first | assumption | exact lss_nat _ _ | exact eql_nat _ _ | exact neq_nat _ _ | exact gtr_nat _ _ | exact geq_nat _ _ | exact leq_nat _ _ | exact eql_str _ _ | exact neq_str _ _ | (refine add_nat ?_; omega) | (refine sub_nat ?_ ?_; omega; omega)) | refine WR.pick rfl rfl rfl ?_ | refine WR.un rfl rfl ?_ | refine WR.ext rfl rfl ?_ | refine WR.eq rfl rfl rfl ?_ | refine WR.mkifc rfl ?_)
      have q := eqlT (a := 0) (b := 0) rfl
      (repeat refine WC.seq ?_); refine WC.regX hs3 fun s4 hs4 hx4 ho4 hn4 => ?_
      repeat (first | refine WR.nil ?_ | refine WR.guardY rfl ?_ | refine WR.guardN rfl ?_ | refine WR.guardT rfl ?_ | refine WR.mov rfl ?_ | refine WR.nilchk rfl ?_ | (refine WR.len (v := ?_) rfl ?_ ?_; rotate_left; first | assumption | exact rfl) | (refine WR.iadr (v := ?_) rfl rfl ?_ ?_; rotate_left; assumption) | (refine WR.fadr (v := ?_) rfl ?_ ?_; rotate_left; first | assumption | exact rfl) | (refine WR.r (v := ?_) rfl rfl (Ld.use (s0 := ?_) ?_ ?_) ?_; rotate_left; rotate_left; assumption; assumption) | (refine WR.r (v := ?_) rfl rfl (Ldn.use (s0 := ?_) ?_ ?_) ?_; rotate_left; rotate_left; assumption; assumption) | (refine WR.bin (v := ?_) rfl rfl ?_ ?_; rotate_left; first | assumption | exact lss_nat _ _ | exact eql_nat _ _ | exact neq_nat _ _ | exact gtr_nat _ _ | exact geq_nat _ _ | exact leq_nat _ _ | exact eql_str _ _ | exact neq_str _ _ | (refine add_nat ?_; omega) | (refine sub_nat ?_ ?_; omega; omega)) | refine WR.pick rfl rfl rfl ?_ | refine WR.un rfl rfl ?_ | refine WR.ext rfl rfl ?_ | refine WR.eq rfl rfl rfl ?_ | refine WR.mkifc rfl ?_)
      obtain ⟨s5, e5, k5⟩ := key_ (s := s4) (n) k
      rw [hk] at e5
      refine WR.fn rfl e5 ?_
      have hs5 := hs4.trans k5
      repeat (first | refine WR.nil ?_ | refine WR.guardY rfl ?_ | refine WR.guardN rfl ?_ | refine WR.guardT rfl ?_ | refine WR.mov rfl ?_ | refine WR.nilchk rfl ?_ | (refine WR.len (v := ?_) rfl ?_ ?_; rotate_left; first | assumption | exact rfl) | (refine WR.iadr (v := ?_) rfl rfl ?_ ?_; rotate_left; assumption) | (refine WR.fadr (v := ?_) rfl ?_ ?_; rotate_left; first | assumption | exact rfl) | (refine WR.r (v := ?_) rfl rfl (Ld.use (s0 := ?_) ?_ ?_) ?_; rotate_left; rotate_left; assumption; assumption) | (refine WR.r (v := ?_) rfl rfl (Ldn.use (s0 := ?_) ?_ ?_) ?_; rotate_left; rotate_left; assumption; assumption) | (refine WR.bin (v := ?_) rfl rfl ?_ ?_; rotate_left; first | assumption | exact lss_nat _ _ | exact eql_nat _ _ | exact neq_nat _ _ | exact gtr_nat _ _ | exact geq_nat _ _ | exact leq_nat _ _ | exact eql_str _ _ | exact neq_str _ _ | (refine add_nat ?_; omega) | (refine sub_nat ?_ ?_; omega; omega)) | refine WR.pick rfl rfl rfl ?_ | refine WR.un rfl rfl ?_ | refine WR.ext rfl rfl ?_ | refine WR.eq rfl rfl rfl ?_ | refine WR.mkifc rfl ?_)
      (repeat refine WC.seq ?_); refine WC.cond rfl ?_ ?_
      · intro _
        (repeat refine WC.seq ?_); refine WC.regX hs5 fun s6 hs6 hx6 ho6 hn6 => ?_
        repeat (first | refine WR.nil ?_ | refine WR.guardY rfl ?_ | refine WR.guardN rfl ?_ | refine WR.guardT rfl ?_ | refine WR.mov rfl ?_ | refine WR.nilchk rfl ?_ | (refine WR.len (v := ?_) rfl ?_ ?_; rotate_left; first | assumption | exact rfl) | (refine WR.iadr (v := ?_) rfl rfl ?_ ?_; rotate_left; assumption) | (refine WR.fadr (v := ?_) rfl ?_ ?_; rotate_left; first | assumption | exact rfl) | (refine WR.r (v := ?_) rfl rfl (Ld.use (s0 := ?_) ?_ ?_) ?_; rotate_left; rotate_left; assumption; assumption) | (refine WR.r (v := ?_) rfl rfl (Ldn.use (s0 := ?_) ?_ ?_) ?_; rotate_left; rotate_left; assumption; assumption) | (refine WR.bin (v := ?_) rfl rfl ?_ ?_; rotate_left; first | assumption | exact lss_nat _ _ | exact eql_nat _ _ | exact neq_nat _ _ | exact gtr_nat _ _ | exact geq_nat _ _ | exact leq_nat _ _ | exact eql_str _ _ | exact neq_str _ _ | (refine add_nat ?_; omega) | (refine sub_nat ?_ ?_; omega; omega)) | refine WR.pick rfl rfl rfl ?_ | refine WR.un rfl rfl ?_ | refine WR.ext rfl rfl ?_ | refine WR.eq rfl rfl rfl ?_ | refine WR.mkifc rfl ?_)
        (repeat refine WC.seq ?_); refine WC.regX hs6 fun s7 hs7 hx7 ho7 hn7 => ?_
        repeat (first | refine WR.nil ?_ | refine WR.guardY rfl ?_ | refine WR.guardN rfl ?_ | refine WR.guardT rfl ?_ | refine WR.mov rfl ?_ | refine WR.nilchk rfl ?_ | (refine WR.len (v := ?_) rfl ?_ ?_; rotate_left; first | assumption | exact rfl) | (refine WR.iadr (v := ?_) rfl rfl ?_ ?_; rotate_left; assumption) | (refine WR.fadr (v := ?_) rfl ?_ ?_; rotate_left; first | assumption | exact rfl) | (refine WR.r (v := ?_) rfl rfl (Ld.use (s0 := ?_) ?_ ?_) ?_; rotate_left; rotate_left; assumption; assumption) | (refine WR.r (v := ?_) rfl rfl (Ldn.use (s0 := ?_) ?_ ?_) ?_; rotate_left; rotate_left; assumption; assumption) | (refine WR.bin (v := ?_) rfl rfl ?_ ?_; rotate_left; first | assumption | exact lss_nat _ _ | exact eql_nat _ _ | exact neq_nat _ _ | exact gtr_nat _ _ | exact geq_nat _ _ | exact leq_nat _ _ | exact eql_str _ _ | exact neq_str _ _ | (refine add_nat ?_; omega) | (refine sub_nat ?_ ?_; omega; omega)) | refine WR.pick rfl rfl rfl ?_ | refine WR.un rfl rfl ?_ | refine WR.ext rfl rfl ?_ | refine WR.eq rfl rfl rfl ?_ | refine WR.mkifc rfl ?_)
        (repeat refine WC.seq ?_); refine WC.ret ?_
        exact ⟨.inr rfl, _, rfl, x1.trans hs7, _, rfl⟩
      · intro hh; cases hh
  obtain ⟨_, s', e, k, x, rfl⟩ := this
  exact ⟨s', x, e, k⟩
/-- A table's entries set anew, and the count. -/
theorem sum_set (id : Nat) (es : List Ent) (ck : Nat) {tb : Tb} (hid : tb.id = id) : ∀ l : List Tb, (l.map (·.id)).Nodup → tb ∈ l →
    ((l.map fun t => if t.id = id then (⟨id, es, ck⟩ : Tb) else t).map fun t => t.es.length).sum + tb.es.length = (l.map fun t => t.es.length).sum + es.length
  | [], _, h => by cases h
  | a :: r, hn, h => by
    simp only [List.map_cons, List.nodup_cons] at hn
    obtain ⟨h1, h2⟩ := hn
    rcases List.mem_cons.1 h with rfl | h
    · have e : (r.map fun t => if t.id = id then (⟨id, es, ck⟩ : Tb) else t) = r := by
        conv => rhs; rw [← List.map_id r]
        apply List.map_congr_left
        intro t ht
        rw [if_neg (fun e => h1 (by rw [hid, ← e]; exact List.mem_map.2 ⟨t, ht, rfl⟩))]
        rfl
      simp only [List.map_cons, List.sum_cons, e, if_pos hid]
      omega
    · have hne : a.id ≠ id := fun e => h1 (by rw [e, ← hid]; exact List.mem_map.2 ⟨tb, h, rfl⟩)
      have ih := sum_set id es ck hid r h2 h
      simp only [List.map_cons, List.sum_cons, if_neg hne]
      omega
theorem tabOf_mem {t : Val} {tb : Tb} (h : tabOf H t = some tb) : tb ∈ H.tabs := by
  unfold tabOf at h
  split at h
  · split at h
    · exact List.mem_of_getElem? h
    · cases h
  · cases h
theorem count_set (h : HeapAt s lo H) (ok : HeapOk H) {tb : Tb} (ht : tb ∈ H.tabs) (es : List Ent) (ck : Nat) :
    H.used + es.length = (H.setT tb.id es ck).tabs.length + H.fns.length + ((H.setT tb.id es ck).tabs.map fun t => t.es.length).sum + tb.es.length := by
  have := sum_set tb.id es ck rfl H.tabs h.nodup ht
  have hc := ok.count
  simp only [HM.setT, List.length_map] at this ⊢
  omega
end
end Go.Proofs.Ytggpnokhhpnnaaa

namespace Go.Proofs.Ytggpnokhhpnnaaa
open Go Go.Abs
section
variable {s : St} {lo : Nat} {H : HM} {t k v : Val} {tb : Tb}
theorem putBad_ (n : Nat) (h : HeapAt s lo H) (ok : HeapOk H) {c : Nat} (hb : atBad H t k = some c) (hc : c ≠ 0) :
    ∃ s', acall F0 E15 (n + 4) 14 [H.p, valA t, valA k, valA v] s = some (.int .i64 (.ofNat c), s') ∧ (Ext s s') := by
  have hcnt := ok.count
  have hbg := ok.big
  have hft := ok.fit
  have nf : ∀ id, ¬ id < s.next → ¬ Foot H id := fun id hi hf => hi (h.foot hf).2
  have : ∃ w s', acall F0 E15 (n + 4) 14 [H.p, valA t, valA k, valA v] s = some (w, s') ∧ ((Ext s s') ∧ w = .int .i64 (.ofNat c)) := by
    refine acall_of rfl comp14 (Nat.le_of_ble_eq_true rfl) ?_
    (repeat refine WC.seq ?_); refine WC.regX (Ext.refl s) fun s1 hs1 hx1 ho1 hn1 => ?_
    refine WR.box rfl rfl ?_
    refine WR.box rfl rfl ?_
    refine WR.box rfl rfl ?_
    repeat (first | refine WR.nil ?_ | refine WR.guardY rfl ?_ | refine WR.guardN rfl ?_ | refine WR.guardT rfl ?_ | refine WR.mov rfl ?_ | refine WR.nilchk rfl ?_ | (refine WR.len (v := ?_) rfl ?_ ?_; rotate_left; first | assumption | exact rfl) | (refine WR.iadr (v := ?_) rfl rfl ?_ ?_; rotate_left; assumption) | (refine WR.fadr (v := ?_) rfl ?_ ?_; rotate_left; first | assumption | exact rfl) | (refine WR.r (v := ?_) rfl rfl (Ld.use (s0 := ?_) ?_ ?_) ?_; rotate_left; rotate_left; assumption; assumption) | (refine WR.r (v := ?_) rfl rfl (Ldn.use (s0 := ?_) ?_ ?_) ?_; rotate_left; rotate_left; assumption; assumption) | (refine WR.bin (v := ?_) rfl rfl ?_ ?_; rotate_left; first | assumption | exact lss_nat _ _ | exact eql_nat _ _ | exact neq_nat _ _ | exact gtr_nat _ _ | exact geq_nat _ _ | exact leq_nat _ _ | exact eql_str _ _ | exact neq_str _ _ | (refine add_nat ?_; omega) | (refine sub_nat ?_ ?_; omega; omega)) | refine WR.pick rfl rfl rfl ?_ | refine WR.un rfl rfl ?_ | refine WR.ext rfl rfl ?_ | refine WR.eq rfl rfl rfl ?_ | refine WR.mkifc rfl ?_)
    have m1 : s1.next = s.next + 4 := hn1
    have x1 := ((hs1.put (Nat.le_refl _) (.cells (cellsOf (valA t)) 0 0 false)).put (id := s.next + 1) (by omega) (.cells (cellsOf (valA k)) 0 0 false)).put (id := s.next + 2) (by omega) (.cells (cellsOf (valA v)) 0 0 false)
    have b0 : (((s1.put s.next (.cells (cellsOf (valA t)) 0 0 false)).put (s.next + 1) (.cells (cellsOf (valA k)) 0 0 false)).put (s.next + 2) (.cells (cellsOf (valA v)) 0 0 false)).objs.get s.next = some (.cells (valR t) 0 0 false) := by rw [get_put, if_neg (by omega), get_put, if_neg (by omega), get_put, if_pos rfl]; rfl
    have b1 : (((s1.put s.next (.cells (cellsOf (valA t)) 0 0 false)).put (s.next + 1) (.cells (cellsOf (valA k)) 0 0 false)).put (s.next + 2) (.cells (cellsOf (valA v)) 0 0 false)).objs.get (s.next + 1) = some (.cells (valR k) 0 0 false) := by rw [get_put, if_neg (by omega), get_put, if_pos rfl]; rfl
    have b2 : (((s1.put s.next (.cells (cellsOf (valA t)) 0 0 false)).put (s.next + 1) (.cells (cellsOf (valA k)) 0 0 false)).put (s.next + 2) (.cells (cellsOf (valA v)) 0 0 false)).objs.get (s.next + 2) = some (.cells (valR v) 0 0 false) := by rw [get_put, if_pos rfl]; rfl
    have n1 : s.next + 2 < (((s1.put s.next (.cells (cellsOf (valA t)) 0 0 false)).put (s.next + 1) (.cells (cellsOf (valA k)) 0 0 false)).put (s.next + 2) (.cells (cellsOf (valA v)) 0 0 false)).next := by rw [next_put, next_put, next_put]; omega
    change WC _ _ _ _ (((s1.put s.next (.cells (cellsOf (valA t)) 0 0 false)).put (s.next + 1) (.cells (cellsOf (valA k)) 0 0 false)).put (s.next + 2) (.cells (cellsOf (valA v)) 0 0 false)) _
    generalize ((s1.put s.next (.cells (cellsOf (valA t)) 0 0 false)).put (s.next + 1) (.cells (cellsOf (valA k)) 0 0 false)).put (s.next + 2) (.cells (cellsOf (valA v)) 0 0 false) = sa at x1 b0 b1 b2 n1 ⊢
    have lt : Ldn sa 3 (.ptr s.next 0 0 3) (valA t) := objLdn b0 (by omega) (o := 0) (m := 3) (Nat.le_refl _)
    have lk : Ldn sa 3 (.ptr (s.next + 1) 0 0 3) (valA k) := objLdn b1 (by omega) (o := 0) (m := 3) (Nat.le_refl _)
    have lv : Ldn sa 3 (.ptr (s.next + 1 + 1) 0 0 3) (valA v) := objLdn b2 (by omega) (o := 0) (m := 3) (Nat.le_refl _)
    have lvk : Ld sa (.ptr (s.next + 1 + 1) 0 0 1) (.int .i64 v.k) := objLd b2 (by omega) (o := 0) rfl
    (repeat refine WC.seq ?_); refine WC.regX (Ext.refl sa) fun s2 hs2 hx2 ho2 hn2 => ?_
    repeat (first | refine WR.nil ?_ | refine WR.guardY rfl ?_ | refine WR.guardN rfl ?_ | refine WR.guardT rfl ?_ | refine WR.mov rfl ?_ | refine WR.nilchk rfl ?_ | (refine WR.len (v := ?_) rfl ?_ ?_; rotate_left; first | assumption | exact rfl) | (refine WR.iadr (v := ?_) rfl rfl ?_ ?_; rotate_left; assumption) | (refine WR.fadr (v := ?_) rfl ?_ ?_; rotate_left; first | assumption | exact rfl) | (refine WR.r (v := ?_) rfl rfl (Ld.use (s0 := ?_) ?_ ?_) ?_; rotate_left; rotate_left; assumption; assumption) | (refine WR.r (v := ?_) rfl rfl (Ldn.use (s0 := ?_) ?_ ?_) ?_; rotate_left; rotate_left; assumption; assumption) | (refine WR.bin (v := ?_) rfl rfl ?_ ?_; rotate_left; first | assumption | exact lss_nat _ _ | exact eql_nat _ _ | exact neq_nat _ _ | exact gtr_nat _ _ | exact geq_nat _ _ | exact leq_nat _ _ | exact eql_str _ _ | exact neq_str _ _ | (refine add_nat ?_; omega) | (refine sub_nat ?_ ?_; omega; omega)) | refine WR.pick rfl rfl rfl ?_ | refine WR.un rfl rfl ?_ | refine WR.ext rfl rfl ?_ | refine WR.eq rfl rfl rfl ?_ | refine WR.mkifc rfl ?_)
    obtain ⟨s3, x, e3, k3⟩ := atBad_ n (h.ext (x1.trans hs2)) ok hb
    have hs3 := hs2.trans k3
    refine WR.fn rfl e3 ?_
    repeat (first | refine WR.nil ?_ | refine WR.guardY rfl ?_ | refine WR.guardN rfl ?_ | refine WR.guardT rfl ?_ | refine WR.mov rfl ?_ | refine WR.nilchk rfl ?_ | (refine WR.len (v := ?_) rfl ?_ ?_; rotate_left; first | assumption | exact rfl) | (refine WR.iadr (v := ?_) rfl rfl ?_ ?_; rotate_left; assumption) | (refine WR.fadr (v := ?_) rfl ?_ ?_; rotate_left; first | assumption | exact rfl) | (refine WR.r (v := ?_) rfl rfl (Ld.use (s0 := ?_) ?_ ?_) ?_; rotate_left; rotate_left; assumption; assumption) | (refine WR.r (v := ?_) rfl rfl (Ldn.use (s0 := ?_) ?_ ?_) ?_; rotate_left; rotate_left; assumption; assumption) | (refine WR.bin (v := ?_) rfl rfl ?_ ?_; rotate_left; first | assumption | exact lss_nat _ _ | exact eql_nat _ _ | exact neq_nat _ _ | exact gtr_nat _ _ | exact geq_nat _ _ | exact leq_nat _ _ | exact eql_str _ _ | exact neq_str _ _ | (refine add_nat ?_; omega) | (refine sub_nat ?_ ?_; omega; omega)) | refine WR.pick rfl rfl rfl ?_ | refine WR.un rfl rfl ?_ | refine WR.ext rfl rfl ?_ | refine WR.eq rfl rfl rfl ?_ | refine WR.mkifc rfl ?_)
    have q := neqT (a := c) (b := 0) hc
    (repeat refine WC.seq ?_); refine WC.regX hs3 fun s4 hs4 hx4 ho4 hn4 => ?_
    repeat (first | refine WR.nil ?_ | refine WR.guardY rfl ?_ | refine WR.guardN rfl ?_ | refine WR.guardT rfl ?_ | refine WR.mov rfl ?_ | refine WR.nilchk rfl ?_ | (refine WR.len (v := ?_) rfl ?_ ?_; rotate_left; first | assumption | exact rfl) | (refine WR.iadr (v := ?_) rfl rfl ?_ ?_; rotate_left; assumption) | (refine WR.fadr (v := ?_) rfl ?_ ?_; rotate_left; first | assumption | exact rfl) | (refine WR.r (v := ?_) rfl rfl (Ld.use (s0 := ?_) ?_ ?_) ?_; rotate_left; rotate_left; assumption; assumption) | (refine WR.r (v := ?_) rfl rfl (Ldn.use (s0 := ?_) ?_ ?_) ?_; rotate_left; rotate_left; assumption; assumption) | (refine WR.bin (v := ?_) rfl rfl ?_ ?_; rotate_left; first | assumption | exact lss_nat _ _ | exact eql_nat _ _ | exact neq_nat _ _ | exact gtr_nat _ _ | exact geq_nat _ _ | exact leq_nat _ _ | exact eql_str _ _ | exact neq_str _ _ | (refine add_nat ?_; omega) | (refine sub_nat ?_ ?_; omega; omega)) | refine WR.pick rfl rfl rfl ?_ | refine WR.un rfl rfl ?_ | refine WR.ext rfl rfl ?_ | refine WR.eq rfl rfl rfl ?_ | refine WR.mkifc rfl ?_)
    (repeat refine WC.seq ?_); refine WC.cond rfl ?_ ?_
    · intro _
      (repeat refine WC.seq ?_); refine WC.regX hs4 fun s5 hs5 hx5 ho5 hn5 => ?_
      repeat (first | refine WR.nil ?_ | refine WR.guardY rfl ?_ | refine WR.guardN rfl ?_ | refine WR.guardT rfl ?_ | refine WR.mov rfl ?_ | refine WR.nilchk rfl ?_ | (refine WR.len (v := ?_) rfl ?_ ?_; rotate_left; first | assumption | exact rfl) | (refine WR.iadr (v := ?_) rfl rfl ?_ ?_; rotate_left; assumption) | (refine WR.fadr (v := ?_) rfl ?_ ?_; rotate_left; first | assumption | exact rfl) | (refine WR.r (v := ?_) rfl rfl (Ld.use (s0 := ?_) ?_ ?_) ?_; rotate_left; rotate_left; assumption; assumption) | (refine WR.r (v := ?_) rfl rfl (Ldn.use (s0 := ?_) ?_ ?_) ?_; rotate_left; rotate_left; assumption; assumption) | (refine WR.bin (v := ?_) rfl rfl ?_ ?_; rotate_left; first | assumption | exact lss_nat _ _ | exact eql_nat _ _ | exact neq_nat _ _ | exact gtr_nat _ _ | exact geq_nat _ _ | exact leq_nat _ _ | exact eql_str _ _ | exact neq_str _ _ | (refine add_nat ?_; omega) | (refine sub_nat ?_ ?_; omega; omega)) | refine WR.pick rfl rfl rfl ?_ | refine WR.un rfl rfl ?_ | refine WR.ext rfl rfl ?_ | refine WR.eq rfl rfl rfl ?_ | refine WR.mkifc rfl ?_)
      (repeat refine WC.seq ?_); refine WC.ret ?_
      exact ⟨.inr rfl, _, rfl, x1.trans hs5, rfl⟩
    · intro hh; cases hh
  obtain ⟨_, s', e, k, rfl⟩ := this
  exact ⟨s', e, k⟩
theorem putDel_ (n : Nat) (h : HeapAt s lo H) (ok : HeapOk H) (ht : tabOf H t = some tb) (hk : isKey k = true) {w : Val} {j : Nat} (hu : under k tb.es = some (w, j)) (hv : v.k = 0) :
    ∃ s', acall F0 E15 (n + 4) 14 [H.p, valA t, valA k, valA v] s = some (.int .i64 (.ofNat 0), s') ∧ (HeapAt s' lo { (H.setT tb.id (delE k tb.es) tb.ck) with used := H.used - 1 } ∧ HFr H { (H.setT tb.id (delE k tb.es) tb.ck) with used := H.used - 1 } s s') := by
  have hcnt := ok.count
  have hbg := ok.big
  have hft := ok.fit
  have nf : ∀ id, ¬ id < s.next → ¬ Foot H id := fun id hi hf => hi (h.foot hf).2
  have : ∃ w s', acall F0 E15 (n + 4) 14 [H.p, valA t, valA k, valA v] s = some (w, s') ∧ ((HeapAt s' lo { (H.setT tb.id (delE k tb.es) tb.ck) with used := H.used - 1 } ∧ HFr H { (H.setT tb.id (delE k tb.es) tb.ck) with used := H.used - 1 } s s') ∧ w = .int .i64 (.ofNat 0)) := by
    refine acall_of rfl comp14 (Nat.le_of_ble_eq_true rfl) ?_
    (repeat refine WC.seq ?_); refine WC.regX (Ext.refl s) fun s1 hs1 hx1 ho1 hn1 => ?_
    refine WR.box rfl rfl ?_
    refine WR.box rfl rfl ?_
    refine WR.box rfl rfl ?_
    repeat (first | refine WR.nil ?_ | refine WR.guardY rfl ?_ | refine WR.guardN rfl ?_ | refine WR.guardT rfl ?_ | refine WR.mov rfl ?_ | refine WR.nilchk rfl ?_ | (refine WR.len (v := ?_) rfl ?_ ?_; rotate_left; first | assumption | exact rfl) | (refine WR.iadr (v := ?_) rfl rfl ?_ ?_; rotate_left; assumption) | (refine WR.fadr (v := ?_) rfl ?_ ?_; rotate_left; first | assumption | exact rfl) | (refine WR.r (v := ?_) rfl rfl (Ld.use (s0 := ?_) ?_ ?_) ?_; rotate_left; rotate_left; assumption; assumption) | (refine WR.r (v := ?_) rfl rfl (Ldn.use (s0 := ?_) ?_ ?_) ?_; rotate_left; rotate_left; assumption; assumption) | (refine WR.bin (v := ?_) rfl rfl ?_ ?_; rotate_left; first | assumption | exact lss_nat _ _ | exact eql_nat _ _ | exact neq_nat _ _ | exact gtr_nat _ _ | exact geq_nat _ _ | exact leq_nat _ _ | exact eql_str _ _ | exact neq_str _ _ | (refine add_nat ?_; omega) | (refine sub_nat ?_ ?_; omega; omega)) | refine WR.pick rfl rfl rfl ?_ | refine WR.un rfl rfl ?_ | refine WR.ext rfl rfl ?_ | refine WR.eq rfl rfl rfl ?_ | refine WR.mkifc rfl ?_)
    have m1 : s1.next = s.next + 4 := hn1
    have x1 := ((hs1.put (Nat.le_refl _) (.cells (cellsOf (valA t)) 0 0 false)).put (id := s.next + 1) (by omega) (.cells (cellsOf (valA k)) 0 0 false)).put (id := s.next + 2) (by omega) (.cells (cellsOf (valA v)) 0 0 false)
    have b0 : (((s1.put s.next (.cells (cellsOf (valA t)) 0 0 false)).put (s.next + 1) (.cells (cellsOf (valA k)) 0 0 false)).put (s.next + 2) (.cells (cellsOf (valA v)) 0 0 false)).objs.get s.next = some (.cells (valR t) 0 0 false) := by rw [get_put, if_neg (by omega), get_put, if_neg (by omega), get_put, if_pos rfl]; rfl
    have b1 : (((s1.put s.next (.cells (cellsOf (valA t)) 0 0 false)).put (s.next + 1) (.cells (cellsOf (valA k)) 0 0 false)).put (s.next + 2) (.cells (cellsOf (valA v)) 0 0 false)).objs.get (s.next + 1) = some (.cells (valR k) 0 0 false) := by rw [get_put, if_neg (by omega), get_put, if_pos rfl]; rfl
    have b2 : (((s1.put s.next (.cells (cellsOf (valA t)) 0 0 false)).put (s.next + 1) (.cells (cellsOf (valA k)) 0 0 false)).put (s.next + 2) (.cells (cellsOf (valA v)) 0 0 false)).objs.get (s.next + 2) = some (.cells (valR v) 0 0 false) := by rw [get_put, if_pos rfl]; rfl
    have n1 : s.next + 2 < (((s1.put s.next (.cells (cellsOf (valA t)) 0 0 false)).put (s.next + 1) (.cells (cellsOf (valA k)) 0 0 false)).put (s.next + 2) (.cells (cellsOf (valA v)) 0 0 false)).next := by rw [next_put, next_put, next_put]; omega
    change WC _ _ _ _ (((s1.put s.next (.cells (cellsOf (valA t)) 0 0 false)).put (s.next + 1) (.cells (cellsOf (valA k)) 0 0 false)).put (s.next + 2) (.cells (cellsOf (valA v)) 0 0 false)) _
    generalize ((s1.put s.next (.cells (cellsOf (valA t)) 0 0 false)).put (s.next + 1) (.cells (cellsOf (valA k)) 0 0 false)).put (s.next + 2) (.cells (cellsOf (valA v)) 0 0 false) = sa at x1 b0 b1 b2 n1 ⊢
    have lt : Ldn sa 3 (.ptr s.next 0 0 3) (valA t) := objLdn b0 (by omega) (o := 0) (m := 3) (Nat.le_refl _)
    have lk : Ldn sa 3 (.ptr (s.next + 1) 0 0 3) (valA k) := objLdn b1 (by omega) (o := 0) (m := 3) (Nat.le_refl _)
    have lv : Ldn sa 3 (.ptr (s.next + 1 + 1) 0 0 3) (valA v) := objLdn b2 (by omega) (o := 0) (m := 3) (Nat.le_refl _)
    have lvk : Ld sa (.ptr (s.next + 1 + 1) 0 0 1) (.int .i64 v.k) := objLd b2 (by omega) (o := 0) rfl
    (repeat refine WC.seq ?_); refine WC.regX (Ext.refl sa) fun s2 hs2 hx2 ho2 hn2 => ?_
    repeat (first | refine WR.nil ?_ | refine WR.guardY rfl ?_ | refine WR.guardN rfl ?_ | refine WR.guardT rfl ?_ | refine WR.mov rfl ?_ | refine WR.nilchk rfl ?_ | (refine WR.len (v := ?_) rfl ?_ ?_; rotate_left; first | assumption | exact rfl) | (refine WR.iadr (v := ?_) rfl rfl ?_ ?_; rotate_left; assumption) | (refine WR.fadr (v := ?_) rfl ?_ ?_; rotate_left; first | assumption | exact rfl) | (refine WR.r (v := ?_) rfl rfl (Ld.use (s0 := ?_) ?_ ?_) ?_; rotate_left; rotate_left; assumption; assumption) | (refine WR.r (v := ?_) rfl rfl (Ldn.use (s0 := ?_) ?_ ?_) ?_; rotate_left; rotate_left; assumption; assumption) | (refine WR.bin (v := ?_) rfl rfl ?_ ?_; rotate_left; first | assumption | exact lss_nat _ _ | exact eql_nat _ _ | exact neq_nat _ _ | exact gtr_nat _ _ | exact geq_nat _ _ | exact leq_nat _ _ | exact eql_str _ _ | exact neq_str _ _ | (refine add_nat ?_; omega) | (refine sub_nat ?_ ?_; omega; omega)) | refine WR.pick rfl rfl rfl ?_ | refine WR.un rfl rfl ?_ | refine WR.ext rfl rfl ?_ | refine WR.eq rfl rfl rfl ?_ | refine WR.mkifc rfl ?_)
    obtain ⟨s3, e3, k3⟩ := atOk_ n (h.ext (x1.trans hs2)) ok ht hk
    have hs3 := hs2.trans k3
    refine WR.fn rfl e3 ?_
    repeat (first | refine WR.nil ?_ | refine WR.guardY rfl ?_ | refine WR.guardN rfl ?_ | refine WR.guardT rfl ?_ | refine WR.mov rfl ?_ | refine WR.nilchk rfl ?_ | (refine WR.len (v := ?_) rfl ?_ ?_; rotate_left; first | assumption | exact rfl) | (refine WR.iadr (v := ?_) rfl rfl ?_ ?_; rotate_left; assumption) | (refine WR.fadr (v := ?_) rfl ?_ ?_; rotate_left; first | assumption | exact rfl) | (refine WR.r (v := ?_) rfl rfl (Ld.use (s0 := ?_) ?_ ?_) ?_; rotate_left; rotate_left; assumption; assumption) | (refine WR.r (v := ?_) rfl rfl (Ldn.use (s0 := ?_) ?_ ?_) ?_; rotate_left; rotate_left; assumption; assumption) | (refine WR.bin (v := ?_) rfl rfl ?_ ?_; rotate_left; first | assumption | exact lss_nat _ _ | exact eql_nat _ _ | exact neq_nat _ _ | exact gtr_nat _ _ | exact geq_nat _ _ | exact leq_nat _ _ | exact eql_str _ _ | exact neq_str _ _ | (refine add_nat ?_; omega) | (refine sub_nat ?_ ?_; omega; omega)) | refine WR.pick rfl rfl rfl ?_ | refine WR.un rfl rfl ?_ | refine WR.ext rfl rfl ?_ | refine WR.eq rfl rfl rfl ?_ | refine WR.mkifc rfl ?_)
    have q := neqF (a := 0) (b := 0) rfl
    (repeat refine WC.seq ?_); refine WC.regX hs3 fun s4 hs4 hx4 ho4 hn4 => ?_
    repeat (first | refine WR.nil ?_ | refine WR.guardY rfl ?_ | refine WR.guardN rfl ?_ | refine WR.guardT rfl ?_ | refine WR.mov rfl ?_ | refine WR.nilchk rfl ?_ | (refine WR.len (v := ?_) rfl ?_ ?_; rotate_left; first | assumption | exact rfl) | (refine WR.iadr (v := ?_) rfl rfl ?_ ?_; rotate_left; assumption) | (refine WR.fadr (v := ?_) rfl ?_ ?_; rotate_left; first | assumption | exact rfl) | (refine WR.r (v := ?_) rfl rfl (Ld.use (s0 := ?_) ?_ ?_) ?_; rotate_left; rotate_left; assumption; assumption) | (refine WR.r (v := ?_) rfl rfl (Ldn.use (s0 := ?_) ?_ ?_) ?_; rotate_left; rotate_left; assumption; assumption) | (refine WR.bin (v := ?_) rfl rfl ?_ ?_; rotate_left; first | assumption | exact lss_nat _ _ | exact eql_nat _ _ | exact neq_nat _ _ | exact gtr_nat _ _ | exact geq_nat _ _ | exact leq_nat _ _ | exact eql_str _ _ | exact neq_str _ _ | (refine add_nat ?_; omega) | (refine sub_nat ?_ ?_; omega; omega)) | refine WR.pick rfl rfl rfl ?_ | refine WR.un rfl rfl ?_ | refine WR.ext rfl rfl ?_ | refine WR.eq rfl rfl rfl ?_ | refine WR.mkifc rfl ?_)
    (repeat refine WC.seq ?_); refine WC.cond rfl ?_ ?_
    · intro hh; cases hh
    intro _
    (repeat refine WC.seq ?_); refine WC.skip ?_
    have hm := tabOf_mem ht
    (repeat refine WC.seq ?_); refine WC.regX hs4 fun s6 hs6 hx6 ho6 hn6 => ?_
    repeat (first | refine WR.nil ?_ | refine WR.guardY rfl ?_ | refine WR.guardN rfl ?_ | refine WR.guardT rfl ?_ | refine WR.mov rfl ?_ | refine WR.nilchk rfl ?_ | (refine WR.len (v := ?_) rfl ?_ ?_; rotate_left; first | assumption | exact rfl) | (refine WR.iadr (v := ?_) rfl rfl ?_ ?_; rotate_left; assumption) | (refine WR.fadr (v := ?_) rfl ?_ ?_; rotate_left; first | assumption | exact rfl) | (refine WR.r (v := ?_) rfl rfl (Ld.use (s0 := ?_) ?_ ?_) ?_; rotate_left; rotate_left; assumption; assumption) | (refine WR.r (v := ?_) rfl rfl (Ldn.use (s0 := ?_) ?_ ?_) ?_; rotate_left; rotate_left; assumption; assumption) | (refine WR.bin (v := ?_) rfl rfl ?_ ?_; rotate_left; first | assumption | exact lss_nat _ _ | exact eql_nat _ _ | exact neq_nat _ _ | exact gtr_nat _ _ | exact geq_nat _ _ | exact leq_nat _ _ | exact eql_str _ _ | exact neq_str _ _ | (refine add_nat ?_; omega) | (refine sub_nat ?_ ?_; omega; omega)) | refine WR.pick rfl rfl rfl ?_ | refine WR.un rfl rfl ?_ | refine WR.ext rfl rfl ?_ | refine WR.eq rfl rfl rfl ?_ | refine WR.mkifc rfl ?_)
    refine WR.lookS (z := vA 0 0) rfl rfl ((h.ext (x1.trans hs6)).maps _ hm).2.2 hu ?_
    repeat (first | refine WR.nil ?_ | refine WR.guardY rfl ?_ | refine WR.guardN rfl ?_ | refine WR.guardT rfl ?_ | refine WR.mov rfl ?_ | refine WR.nilchk rfl ?_ | (refine WR.len (v := ?_) rfl ?_ ?_; rotate_left; first | assumption | exact rfl) | (refine WR.iadr (v := ?_) rfl rfl ?_ ?_; rotate_left; assumption) | (refine WR.fadr (v := ?_) rfl ?_ ?_; rotate_left; first | assumption | exact rfl) | (refine WR.r (v := ?_) rfl rfl (Ld.use (s0 := ?_) ?_ ?_) ?_; rotate_left; rotate_left; assumption; assumption) | (refine WR.r (v := ?_) rfl rfl (Ldn.use (s0 := ?_) ?_ ?_) ?_; rotate_left; rotate_left; assumption; assumption) | (refine WR.bin (v := ?_) rfl rfl ?_ ?_; rotate_left; first | assumption | exact lss_nat _ _ | exact eql_nat _ _ | exact neq_nat _ _ | exact gtr_nat _ _ | exact geq_nat _ _ | exact leq_nat _ _ | exact eql_str _ _ | exact neq_str _ _ | (refine add_nat ?_; omega) | (refine sub_nat ?_ ?_; omega; omega)) | refine WR.pick rfl rfl rfl ?_ | refine WR.un rfl rfl ?_ | refine WR.ext rfl rfl ?_ | refine WR.eq rfl rfl rfl ?_ | refine WR.mkifc rfl ?_)
    have xA := (hs6.put (id := s4.next + 1 + 1 + 1 + 1 + 1 + 1) (by have := hs4.next; omega) (.cells [.int .i64 (.ofNat 0), .int .i64 (.ofNat 0), .str []] 0 0 false)).put (id := s4.next + 1 + 1 + 1 + 1 + 1 + 1) (by have := hs4.next; omega) (.cells (valR w) 0 0 false)
    refine WR.alloc ?_
    refine WR.store rfl rfl rfl rfl (Nat.le_refl _) (wr_some (gr := false) (g := 0) (w := 0) (by rw [get_put, if_pos rfl]) (Nat.le_refl _)) ?_
    repeat (first | refine WR.nil ?_ | refine WR.guardY rfl ?_ | refine WR.guardN rfl ?_ | refine WR.guardT rfl ?_ | refine WR.mov rfl ?_ | refine WR.nilchk rfl ?_ | (refine WR.len (v := ?_) rfl ?_ ?_; rotate_left; first | assumption | exact rfl) | (refine WR.iadr (v := ?_) rfl rfl ?_ ?_; rotate_left; assumption) | (refine WR.fadr (v := ?_) rfl ?_ ?_; rotate_left; first | assumption | exact rfl) | (refine WR.r (v := ?_) rfl rfl (Ld.use (s0 := ?_) ?_ ?_) ?_; rotate_left; rotate_left; assumption; assumption) | (refine WR.r (v := ?_) rfl rfl (Ldn.use (s0 := ?_) ?_ ?_) ?_; rotate_left; rotate_left; assumption; assumption) | (refine WR.bin (v := ?_) rfl rfl ?_ ?_; rotate_left; first | assumption | exact lss_nat _ _ | exact eql_nat _ _ | exact neq_nat _ _ | exact gtr_nat _ _ | exact geq_nat _ _ | exact leq_nat _ _ | exact eql_str _ _ | exact neq_str _ _ | (refine add_nat ?_; omega) | (refine sub_nat ?_ ?_; omega; omega)) | refine WR.pick rfl rfl rfl ?_ | refine WR.un rfl rfl ?_ | refine WR.ext rfl rfl ?_ | refine WR.eq rfl rfl rfl ?_ | refine WR.mkifc rfl ?_)
    change WC _ _ _ _ ((s6.put (s4.next + 1 + 1 + 1 + 1 + 1 + 1) (.cells [.int .i64 (.ofNat 0), .int .i64 (.ofNat 0), .str []] 0 0 false)).put (s4.next + 1 + 1 + 1 + 1 + 1 + 1) (.cells (valR w) 0 0 false)) _
    generalize (s6.put (s4.next + 1 + 1 + 1 + 1 + 1 + 1) (.cells [.int .i64 (.ofNat 0), .int .i64 (.ofNat 0), .str []] 0 0 false)).put (s4.next + 1 + 1 + 1 + 1 + 1 + 1) (.cells (valR w) 0 0 false) = sb at xA ⊢
    have q0 : abin .eql (.int .i64 v.k) (.int .i64 (.ofNat 0)) = _ := eqlI v.k 0
    rw [decide_eq_true (show v.k = ((0 : Nat) : Int) from hv)] at q0
    (repeat refine WC.seq ?_); refine WC.blk ?_
    (repeat refine WC.seq ?_); refine WC.regX xA fun s7 hs7 hx7 ho7 hn7 => ?_
    repeat (first | refine WR.nil ?_ | refine WR.guardY rfl ?_ | refine WR.guardN rfl ?_ | refine WR.guardT rfl ?_ | refine WR.mov rfl ?_ | refine WR.nilchk rfl ?_ | (refine WR.len (v := ?_) rfl ?_ ?_; rotate_left; first | assumption | exact rfl) | (refine WR.iadr (v := ?_) rfl rfl ?_ ?_; rotate_left; assumption) | (refine WR.fadr (v := ?_) rfl ?_ ?_; rotate_left; first | assumption | exact rfl) | (refine WR.r (v := ?_) rfl rfl (Ld.use (s0 := ?_) ?_ ?_) ?_; rotate_left; rotate_left; assumption; assumption) | (refine WR.r (v := ?_) rfl rfl (Ldn.use (s0 := ?_) ?_ ?_) ?_; rotate_left; rotate_left; assumption; assumption) | (refine WR.bin (v := ?_) rfl rfl ?_ ?_; rotate_left; first | assumption | exact lss_nat _ _ | exact eql_nat _ _ | exact neq_nat _ _ | exact gtr_nat _ _ | exact geq_nat _ _ | exact leq_nat _ _ | exact eql_str _ _ | exact neq_str _ _ | (refine add_nat ?_; omega) | (refine sub_nat ?_ ?_; omega; omega)) | refine WR.pick rfl rfl rfl ?_ | refine WR.un rfl rfl ?_ | refine WR.ext rfl rfl ?_ | refine WR.eq rfl rfl rfl ?_ | refine WR.mkifc rfl ?_)
    (repeat refine WC.seq ?_); refine WC.cond rfl ?_ ?_
    rotate_left
    · intro hh; cases hh
    intro _
    (repeat refine WC.seq ?_); refine WC.regX hs7 fun s8 hs8 hx8 ho8 hn8 => ?_
    repeat (first | refine WR.nil ?_ | refine WR.guardY rfl ?_ | refine WR.guardN rfl ?_ | refine WR.guardT rfl ?_ | refine WR.mov rfl ?_ | refine WR.nilchk rfl ?_ | (refine WR.len (v := ?_) rfl ?_ ?_; rotate_left; first | assumption | exact rfl) | (refine WR.iadr (v := ?_) rfl rfl ?_ ?_; rotate_left; assumption) | (refine WR.fadr (v := ?_) rfl ?_ ?_; rotate_left; first | assumption | exact rfl) | (refine WR.r (v := ?_) rfl rfl (Ld.use (s0 := ?_) ?_ ?_) ?_; rotate_left; rotate_left; assumption; assumption) | (refine WR.r (v := ?_) rfl rfl (Ldn.use (s0 := ?_) ?_ ?_) ?_; rotate_left; rotate_left; assumption; assumption) | (refine WR.bin (v := ?_) rfl rfl ?_ ?_; rotate_left; first | assumption | exact lss_nat _ _ | exact eql_nat _ _ | exact neq_nat _ _ | exact gtr_nat _ _ | exact geq_nat _ _ | exact leq_nat _ _ | exact eql_str _ _ | exact neq_str _ _ | (refine add_nat ?_; omega) | (refine sub_nat ?_ ?_; omega; omega)) | refine WR.pick rfl rfl rfl ?_ | refine WR.un rfl rfl ?_ | refine WR.ext rfl rfl ?_ | refine WR.eq rfl rfl rfl ?_ | refine WR.mkifc rfl ?_)
    (repeat refine WC.seq ?_); refine WC.cond rfl ?_ ?_
    rotate_left
    · intro hh; cases hh
    intro _
    (repeat refine WC.seq ?_); refine WC.regX hs8 fun s9 hs9 hx9 ho9 hn9 => ?_
    repeat (first | refine WR.nil ?_ | refine WR.guardY rfl ?_ | refine WR.guardN rfl ?_ | refine WR.guardT rfl ?_ | refine WR.mov rfl ?_ | refine WR.nilchk rfl ?_ | (refine WR.len (v := ?_) rfl ?_ ?_; rotate_left; first | assumption | exact rfl) | (refine WR.iadr (v := ?_) rfl rfl ?_ ?_; rotate_left; assumption) | (refine WR.fadr (v := ?_) rfl ?_ ?_; rotate_left; first | assumption | exact rfl) | (refine WR.r (v := ?_) rfl rfl (Ld.use (s0 := ?_) ?_ ?_) ?_; rotate_left; rotate_left; assumption; assumption) | (refine WR.r (v := ?_) rfl rfl (Ldn.use (s0 := ?_) ?_ ?_) ?_; rotate_left; rotate_left; assumption; assumption) | (refine WR.bin (v := ?_) rfl rfl ?_ ?_; rotate_left; first | assumption | exact lss_nat _ _ | exact eql_nat _ _ | exact neq_nat _ _ | exact gtr_nat _ _ | exact geq_nat _ _ | exact leq_nat _ _ | exact eql_str _ _ | exact neq_str _ _ | (refine add_nat ?_; omega) | (refine sub_nat ?_ ?_; omega; omega)) | refine WR.pick rfl rfl rfl ?_ | refine WR.un rfl rfl ?_ | refine WR.ext rfl rfl ?_ | refine WR.eq rfl rfl rfl ?_ | refine WR.mkifc rfl ?_)
    have h9 := h.ext (x1.trans hs9)
    refine WR.mdel rfl rfl (h9.maps _ hm).2.2 ?_
    refine WR.nil ?_
    obtain ⟨h10, f10⟩ := h9.setTab hm (delE k tb.es) tb.ck
    have f010 := (HFr.ext (H := H) (x1.trans hs9)).trans f10
    have hpos : 1 ≤ H.used := by
      have h1 := delE_len k tb.es
      have h2 := count_set h ok hm (delE k tb.es) tb.ck
      rw [hu] at h1
      simp at h1
      omega
    generalize s9.put tb.id (.map (entsA (delE k tb.es)) tb.ck) = s10 at h10 f10 f010 ⊢
    have l2 := h10.ld (k := 2) rfl
    have hsub := sub_nat (a := H.used) (b := 1) hpos (by omega)
    (repeat refine WC.seq ?_); refine WC.regX (Ext.refl s10) fun s11 hs11 hx11 ho11 hn11 => ?_
    repeat (first | refine WR.nil ?_ | refine WR.guardY rfl ?_ | refine WR.guardN rfl ?_ | refine WR.guardT rfl ?_ | refine WR.mov rfl ?_ | refine WR.nilchk rfl ?_ | (refine WR.len (v := ?_) rfl ?_ ?_; rotate_left; first | assumption | exact rfl) | (refine WR.iadr (v := ?_) rfl rfl ?_ ?_; rotate_left; assumption) | (refine WR.fadr (v := ?_) rfl ?_ ?_; rotate_left; first | assumption | exact rfl) | (refine WR.r (v := ?_) rfl rfl (Ld.use (s0 := ?_) ?_ ?_) ?_; rotate_left; rotate_left; assumption; assumption) | (refine WR.r (v := ?_) rfl rfl (Ldn.use (s0 := ?_) ?_ ?_) ?_; rotate_left; rotate_left; assumption; assumption) | (refine WR.bin (v := ?_) rfl rfl ?_ ?_; rotate_left; first | assumption | exact lss_nat _ _ | exact eql_nat _ _ | exact neq_nat _ _ | exact gtr_nat _ _ | exact geq_nat _ _ | exact leq_nat _ _ | exact eql_str _ _ | exact neq_str _ _ | (refine add_nat ?_; omega) | (refine sub_nat ?_ ?_; omega; omega)) | refine WR.pick rfl rfl rfl ?_ | refine WR.un rfl rfl ?_ | refine WR.ext rfl rfl ?_ | refine WR.eq rfl rfl rfl ?_ | refine WR.mkifc rfl ?_)
    refine WR.store rfl rfl rfl rfl (Nat.le_refl _) (wr_some (h10.ext hs11).obj (Nat.le_of_ble_eq_true rfl)) ?_
    refine WR.nil ?_
    have h12 := (h10.ext hs11).putUsed (H.used - 1)
    have f12 := (f010.trans (HFr.ext hs11)).trans (HFr.putUsed (H.used - 1) (.cells { (H.setT tb.id (delE k tb.es) tb.ck) with used := H.used - 1 }.row 0 0 false))
    (repeat refine WC.seq ?_); refine WC.regX (Ext.refl _) fun s13 hs13 hx13 ho13 hn13 => ?_
    repeat (first | refine WR.nil ?_ | refine WR.guardY rfl ?_ | refine WR.guardN rfl ?_ | refine WR.guardT rfl ?_ | refine WR.mov rfl ?_ | refine WR.nilchk rfl ?_ | (refine WR.len (v := ?_) rfl ?_ ?_; rotate_left; first | assumption | exact rfl) | (refine WR.iadr (v := ?_) rfl rfl ?_ ?_; rotate_left; assumption) | (refine WR.fadr (v := ?_) rfl ?_ ?_; rotate_left; first | assumption | exact rfl) | (refine WR.r (v := ?_) rfl rfl (Ld.use (s0 := ?_) ?_ ?_) ?_; rotate_left; rotate_left; assumption; assumption) | (refine WR.r (v := ?_) rfl rfl (Ldn.use (s0 := ?_) ?_ ?_) ?_; rotate_left; rotate_left; assumption; assumption) | (refine WR.bin (v := ?_) rfl rfl ?_ ?_; rotate_left; first | assumption | exact lss_nat _ _ | exact eql_nat _ _ | exact neq_nat _ _ | exact gtr_nat _ _ | exact geq_nat _ _ | exact leq_nat _ _ | exact eql_str _ _ | exact neq_str _ _ | (refine add_nat ?_; omega) | (refine sub_nat ?_ ?_; omega; omega)) | refine WR.pick rfl rfl rfl ?_ | refine WR.un rfl rfl ?_ | refine WR.ext rfl rfl ?_ | refine WR.eq rfl rfl rfl ?_ | refine WR.mkifc rfl ?_)
    (repeat refine WC.seq ?_); refine WC.ret ?_
    exact ⟨.inr rfl, _, rfl, ⟨h12.ext hs13, f12.trans (HFr.ext hs13)⟩, rfl⟩
  obtain ⟨_, s', e, k, rfl⟩ := this
  exact ⟨s', e, k⟩
theorem putNil_ (n : Nat) (h : HeapAt s lo H) (ok : HeapOk H) (ht : tabOf H t = some tb) (hk : isKey k = true) (hu : under k tb.es = none) (hv : v.k = 0) :
    ∃ s', acall F0 E15 (n + 4) 14 [H.p, valA t, valA k, valA v] s = some (.int .i64 (.ofNat 0), s') ∧ (Ext s s') := by
  have hcnt := ok.count
  have hbg := ok.big
  have hft := ok.fit
  have nf : ∀ id, ¬ id < s.next → ¬ Foot H id := fun id hi hf => hi (h.foot hf).2
  have : ∃ w s', acall F0 E15 (n + 4) 14 [H.p, valA t, valA k, valA v] s = some (w, s') ∧ ((Ext s s') ∧ w = .int .i64 (.ofNat 0)) := by
    refine acall_of rfl comp14 (Nat.le_of_ble_eq_true rfl) ?_
    (repeat refine WC.seq ?_); refine WC.regX (Ext.refl s) fun s1 hs1 hx1 ho1 hn1 => ?_
    refine WR.box rfl rfl ?_
    refine WR.box rfl rfl ?_
    refine WR.box rfl rfl ?_
    repeat (first | refine WR.nil ?_ | refine WR.guardY rfl ?_ | refine WR.guardN rfl ?_ | refine WR.guardT rfl ?_ | refine WR.mov rfl ?_ | refine WR.nilchk rfl ?_ | (refine WR.len (v := ?_) rfl ?_ ?_; rotate_left; first | assumption | exact rfl) | (refine WR.iadr (v := ?_) rfl rfl ?_ ?_; rotate_left; assumption) | (refine WR.fadr (v := ?_) rfl ?_ ?_; rotate_left; first | assumption | exact rfl) | (refine WR.r (v := ?_) rfl rfl (Ld.use (s0 := ?_) ?_ ?_) ?_; rotate_left; rotate_left; assumption; assumption) | (refine WR.r (v := ?_) rfl rfl (Ldn.use (s0 := ?_) ?_ ?_) ?_; rotate_left; rotate_left; assumption; assumption) | (refine WR.bin (v := ?_) rfl rfl ?_ ?_; rotate_left; first | assumption | exact lss_nat _ _ | exact eql_nat _ _ | exact neq_nat _ _ | exact gtr_nat _ _ | exact geq_nat _ _ | exact leq_nat _ _ | exact eql_str _ _ | exact neq_str _ _ | (refine add_nat ?_; omega) | (refine sub_nat ?_ ?_; omega; omega)) | refine WR.pick rfl rfl rfl ?_ | refine WR.un rfl rfl ?_ | refine WR.ext rfl rfl ?_ | refine WR.eq rfl rfl rfl ?_ | refine WR.mkifc rfl ?_)
    have m1 : s1.next = s.next + 4 := hn1
    have x1 := ((hs1.put (Nat.le_refl _) (.cells (cellsOf (valA t)) 0 0 false)).put (id := s.next + 1) (by omega) (.cells (cellsOf (valA k)) 0 0 false)).put (id := s.next + 2) (by omega) (.cells (cellsOf (valA v)) 0 0 false)
    have b0 : (((s1.put s.next (.cells (cellsOf (valA t)) 0 0 false)).put (s.next + 1) (.cells (cellsOf (valA k)) 0 0 false)).put (s.next + 2) (.cells (cellsOf (valA v)) 0 0 false)).objs.get s.next = some (.cells (valR t) 0 0 false) := by rw [get_put, if_neg (by omega), get_put, if_neg (by omega), get_put, if_pos rfl]; rfl
    have b1 : (((s1.put s.next (.cells (cellsOf (valA t)) 0 0 false)).put (s.next + 1) (.cells (cellsOf (valA k)) 0 0 false)).put (s.next + 2) (.cells (cellsOf (valA v)) 0 0 false)).objs.get (s.next + 1) = some (.cells (valR k) 0 0 false) := by rw [get_put, if_neg (by omega), get_put, if_pos rfl]; rfl
    have b2 : (((s1.put s.next (.cells (cellsOf (valA t)) 0 0 false)).put (s.next + 1) (.cells (cellsOf (valA k)) 0 0 false)).put (s.next + 2) (.cells (cellsOf (valA v)) 0 0 false)).objs.get (s.next + 2) = some (.cells (valR v) 0 0 false) := by rw [get_put, if_pos rfl]; rfl
    have n1 : s.next + 2 < (((s1.put s.next (.cells (cellsOf (valA t)) 0 0 false)).put (s.next + 1) (.cells (cellsOf (valA k)) 0 0 false)).put (s.next + 2) (.cells (cellsOf (valA v)) 0 0 false)).next := by rw [next_put, next_put, next_put]; omega
    change WC _ _ _ _ (((s1.put s.next (.cells (cellsOf (valA t)) 0 0 false)).put (s.next + 1) (.cells (cellsOf (valA k)) 0 0 false)).put (s.next + 2) (.cells (cellsOf (valA v)) 0 0 false)) _
    generalize ((s1.put s.next (.cells (cellsOf (valA t)) 0 0 false)).put (s.next + 1) (.cells (cellsOf (valA k)) 0 0 false)).put (s.next + 2) (.cells (cellsOf (valA v)) 0 0 false) = sa at x1 b0 b1 b2 n1 ⊢
    have lt : Ldn sa 3 (.ptr s.next 0 0 3) (valA t) := objLdn b0 (by omega) (o := 0) (m := 3) (Nat.le_refl _)
    have lk : Ldn sa 3 (.ptr (s.next + 1) 0 0 3) (valA k) := objLdn b1 (by omega) (o := 0) (m := 3) (Nat.le_refl _)
    have lv : Ldn sa 3 (.ptr (s.next + 1 + 1) 0 0 3) (valA v) := objLdn b2 (by omega) (o := 0) (m := 3) (Nat.le_refl _)
    have lvk : Ld sa (.ptr (s.next + 1 + 1) 0 0 1) (.int .i64 v.k) := objLd b2 (by omega) (o := 0) rfl
    (repeat refine WC.seq ?_); refine WC.regX (Ext.refl sa) fun s2 hs2 hx2 ho2 hn2 => ?_
    repeat (first | refine WR.nil ?_ | refine WR.guardY rfl ?_ | refine WR.guardN rfl ?_ | refine WR.guardT rfl ?_ | refine WR.mov rfl ?_ | refine WR.nilchk rfl ?_ | (refine WR.len (v := ?_) rfl ?_ ?_; rotate_left; first | assumption | exact rfl) | (refine WR.iadr (v := ?_) rfl rfl ?_ ?_; rotate_left; assumption) | (refine WR.fadr (v := ?_) rfl ?_ ?_; rotate_left; first | assumption | exact rfl) | (refine WR.r (v := ?_) rfl rfl (Ld.use (s0 := ?_) ?_ ?_) ?_; rotate_left; rotate_left; assumption; assumption) | (refine WR.r (v := ?_) rfl rfl (Ldn.use (s0 := ?_) ?_ ?_) ?_; rotate_left; rotate_left; assumption; assumption) | (refine WR.bin (v := ?_) rfl rfl ?_ ?_; rotate_left; first | assumption | exact lss_nat _ _ | exact eql_nat _ _ | exact neq_nat _ _ | exact gtr_nat _ _ | exact geq_nat _ _ | exact leq_nat _ _ | exact eql_str _ _ | exact neq_str _ _ | (refine add_nat ?_; omega) | (refine sub_nat ?_ ?_; omega; omega)) | refine WR.pick rfl rfl rfl ?_ | refine WR.un rfl rfl ?_ | refine WR.ext rfl rfl ?_ | refine WR.eq rfl rfl rfl ?_ | refine WR.mkifc rfl ?_)
    obtain ⟨s3, e3, k3⟩ := atOk_ n (h.ext (x1.trans hs2)) ok ht hk
    have hs3 := hs2.trans k3
    refine WR.fn rfl e3 ?_
    repeat (first | refine WR.nil ?_ | refine WR.guardY rfl ?_ | refine WR.guardN rfl ?_ | refine WR.guardT rfl ?_ | refine WR.mov rfl ?_ | refine WR.nilchk rfl ?_ | (refine WR.len (v := ?_) rfl ?_ ?_; rotate_left; first | assumption | exact rfl) | (refine WR.iadr (v := ?_) rfl rfl ?_ ?_; rotate_left; assumption) | (refine WR.fadr (v := ?_) rfl ?_ ?_; rotate_left; first | assumption | exact rfl) | (refine WR.r (v := ?_) rfl rfl (Ld.use (s0 := ?_) ?_ ?_) ?_; rotate_left; rotate_left; assumption; assumption) | (refine WR.r (v := ?_) rfl rfl (Ldn.use (s0 := ?_) ?_ ?_) ?_; rotate_left; rotate_left; assumption; assumption) | (refine WR.bin (v := ?_) rfl rfl ?_ ?_; rotate_left; first | assumption | exact lss_nat _ _ | exact eql_nat _ _ | exact neq_nat _ _ | exact gtr_nat _ _ | exact geq_nat _ _ | exact leq_nat _ _ | exact eql_str _ _ | exact neq_str _ _ | (refine add_nat ?_; omega) | (refine sub_nat ?_ ?_; omega; omega)) | refine WR.pick rfl rfl rfl ?_ | refine WR.un rfl rfl ?_ | refine WR.ext rfl rfl ?_ | refine WR.eq rfl rfl rfl ?_ | refine WR.mkifc rfl ?_)
    have q := neqF (a := 0) (b := 0) rfl
    (repeat refine WC.seq ?_); refine WC.regX hs3 fun s4 hs4 hx4 ho4 hn4 => ?_
    repeat (first | refine WR.nil ?_ | refine WR.guardY rfl ?_ | refine WR.guardN rfl ?_ | refine WR.guardT rfl ?_ | refine WR.mov rfl ?_ | refine WR.nilchk rfl ?_ | (refine WR.len (v := ?_) rfl ?_ ?_; rotate_left; first | assumption | exact rfl) | (refine WR.iadr (v := ?_) rfl rfl ?_ ?_; rotate_left; assumption) | (refine WR.fadr (v := ?_) rfl ?_ ?_; rotate_left; first | assumption | exact rfl) | (refine WR.r (v := ?_) rfl rfl (Ld.use (s0 := ?_) ?_ ?_) ?_; rotate_left; rotate_left; assumption; assumption) | (refine WR.r (v := ?_) rfl rfl (Ldn.use (s0 := ?_) ?_ ?_) ?_; rotate_left; rotate_left; assumption; assumption) | (refine WR.bin (v := ?_) rfl rfl ?_ ?_; rotate_left; first | assumption | exact lss_nat _ _ | exact eql_nat _ _ | exact neq_nat _ _ | exact gtr_nat _ _ | exact geq_nat _ _ | exact leq_nat _ _ | exact eql_str _ _ | exact neq_str _ _ | (refine add_nat ?_; omega) | (refine sub_nat ?_ ?_; omega; omega)) | refine WR.pick rfl rfl rfl ?_ | refine WR.un rfl rfl ?_ | refine WR.ext rfl rfl ?_ | refine WR.eq rfl rfl rfl ?_ | refine WR.mkifc rfl ?_)
    (repeat refine WC.seq ?_); refine WC.cond rfl ?_ ?_
    · intro hh; cases hh
    intro _
    (repeat refine WC.seq ?_); refine WC.skip ?_
    have hm := tabOf_mem ht
    (repeat refine WC.seq ?_); refine WC.regX hs4 fun s6 hs6 hx6 ho6 hn6 => ?_
    repeat (first | refine WR.nil ?_ | refine WR.guardY rfl ?_ | refine WR.guardN rfl ?_ | refine WR.guardT rfl ?_ | refine WR.mov rfl ?_ | refine WR.nilchk rfl ?_ | (refine WR.len (v := ?_) rfl ?_ ?_; rotate_left; first | assumption | exact rfl) | (refine WR.iadr (v := ?_) rfl rfl ?_ ?_; rotate_left; assumption) | (refine WR.fadr (v := ?_) rfl ?_ ?_; rotate_left; first | assumption | exact rfl) | (refine WR.r (v := ?_) rfl rfl (Ld.use (s0 := ?_) ?_ ?_) ?_; rotate_left; rotate_left; assumption; assumption) | (refine WR.r (v := ?_) rfl rfl (Ldn.use (s0 := ?_) ?_ ?_) ?_; rotate_left; rotate_left; assumption; assumption) | (refine WR.bin (v := ?_) rfl rfl ?_ ?_; rotate_left; first | assumption | exact lss_nat _ _ | exact eql_nat _ _ | exact neq_nat _ _ | exact gtr_nat _ _ | exact geq_nat _ _ | exact leq_nat _ _ | exact eql_str _ _ | exact neq_str _ _ | (refine add_nat ?_; omega) | (refine sub_nat ?_ ?_; omega; omega)) | refine WR.pick rfl rfl rfl ?_ | refine WR.un rfl rfl ?_ | refine WR.ext rfl rfl ?_ | refine WR.eq rfl rfl rfl ?_ | refine WR.mkifc rfl ?_)
    refine WR.lookN (z := vA 0 0) rfl rfl ((h.ext (x1.trans hs6)).maps _ hm).2.2 hu ?_
    repeat (first | refine WR.nil ?_ | refine WR.guardY rfl ?_ | refine WR.guardN rfl ?_ | refine WR.guardT rfl ?_ | refine WR.mov rfl ?_ | refine WR.nilchk rfl ?_ | (refine WR.len (v := ?_) rfl ?_ ?_; rotate_left; first | assumption | exact rfl) | (refine WR.iadr (v := ?_) rfl rfl ?_ ?_; rotate_left; assumption) | (refine WR.fadr (v := ?_) rfl ?_ ?_; rotate_left; first | assumption | exact rfl) | (refine WR.r (v := ?_) rfl rfl (Ld.use (s0 := ?_) ?_ ?_) ?_; rotate_left; rotate_left; assumption; assumption) | (refine WR.r (v := ?_) rfl rfl (Ldn.use (s0 := ?_) ?_ ?_) ?_; rotate_left; rotate_left; assumption; assumption) | (refine WR.bin (v := ?_) rfl rfl ?_ ?_; rotate_left; first | assumption | exact lss_nat _ _ | exact eql_nat _ _ | exact neq_nat _ _ | exact gtr_nat _ _ | exact geq_nat _ _ | exact leq_nat _ _ | exact eql_str _ _ | exact neq_str _ _ | (refine add_nat ?_; omega) | (refine sub_nat ?_ ?_; omega; omega)) | refine WR.pick rfl rfl rfl ?_ | refine WR.un rfl rfl ?_ | refine WR.ext rfl rfl ?_ | refine WR.eq rfl rfl rfl ?_ | refine WR.mkifc rfl ?_)
    have xA := (hs6.put (id := s4.next + 1 + 1 + 1 + 1 + 1 + 1) (by have := hs4.next; omega) (.cells [.int .i64 (.ofNat 0), .int .i64 (.ofNat 0), .str []] 0 0 false)).put (id := s4.next + 1 + 1 + 1 + 1 + 1 + 1) (by have := hs4.next; omega) (.cells (valR (vA 0 0)) 0 0 false)
    refine WR.alloc ?_
    refine WR.store rfl rfl rfl rfl (Nat.le_refl _) (wr_some (gr := false) (g := 0) (w := 0) (by rw [get_put, if_pos rfl]) (Nat.le_refl _)) ?_
    repeat (first | refine WR.nil ?_ | refine WR.guardY rfl ?_ | refine WR.guardN rfl ?_ | refine WR.guardT rfl ?_ | refine WR.mov rfl ?_ | refine WR.nilchk rfl ?_ | (refine WR.len (v := ?_) rfl ?_ ?_; rotate_left; first | assumption | exact rfl) | (refine WR.iadr (v := ?_) rfl rfl ?_ ?_; rotate_left; assumption) | (refine WR.fadr (v := ?_) rfl ?_ ?_; rotate_left; first | assumption | exact rfl) | (refine WR.r (v := ?_) rfl rfl (Ld.use (s0 := ?_) ?_ ?_) ?_; rotate_left; rotate_left; assumption; assumption) | (refine WR.r (v := ?_) rfl rfl (Ldn.use (s0 := ?_) ?_ ?_) ?_; rotate_left; rotate_left; assumption; assumption) | (refine WR.bin (v := ?_) rfl rfl ?_ ?_; rotate_left; first | assumption | exact lss_nat _ _ | exact eql_nat _ _ | exact neq_nat _ _ | exact gtr_nat _ _ | exact geq_nat _ _ | exact leq_nat _ _ | exact eql_str _ _ | exact neq_str _ _ | (refine add_nat ?_; omega) | (refine sub_nat ?_ ?_; omega; omega)) | refine WR.pick rfl rfl rfl ?_ | refine WR.un rfl rfl ?_ | refine WR.ext rfl rfl ?_ | refine WR.eq rfl rfl rfl ?_ | refine WR.mkifc rfl ?_)
    change WC _ _ _ _ ((s6.put (s4.next + 1 + 1 + 1 + 1 + 1 + 1) (.cells [.int .i64 (.ofNat 0), .int .i64 (.ofNat 0), .str []] 0 0 false)).put (s4.next + 1 + 1 + 1 + 1 + 1 + 1) (.cells (valR (vA 0 0)) 0 0 false)) _
    generalize (s6.put (s4.next + 1 + 1 + 1 + 1 + 1 + 1) (.cells [.int .i64 (.ofNat 0), .int .i64 (.ofNat 0), .str []] 0 0 false)).put (s4.next + 1 + 1 + 1 + 1 + 1 + 1) (.cells (valR (vA 0 0)) 0 0 false) = sb at xA ⊢
    have q0 : abin .eql (.int .i64 v.k) (.int .i64 (.ofNat 0)) = _ := eqlI v.k 0
    rw [decide_eq_true (show v.k = ((0 : Nat) : Int) from hv)] at q0
    (repeat refine WC.seq ?_); refine WC.blk ?_
    (repeat refine WC.seq ?_); refine WC.regX xA fun s7 hs7 hx7 ho7 hn7 => ?_
    repeat (first | refine WR.nil ?_ | refine WR.guardY rfl ?_ | refine WR.guardN rfl ?_ | refine WR.guardT rfl ?_ | refine WR.mov rfl ?_ | refine WR.nilchk rfl ?_ | (refine WR.len (v := ?_) rfl ?_ ?_; rotate_left; first | assumption | exact rfl) | (refine WR.iadr (v := ?_) rfl rfl ?_ ?_; rotate_left; assumption) | (refine WR.fadr (v := ?_) rfl ?_ ?_; rotate_left; first | assumption | exact rfl) | (refine WR.r (v := ?_) rfl rfl (Ld.use (s0 := ?_) ?_ ?_) ?_; rotate_left; rotate_left; assumption; assumption) | (refine WR.r (v := ?_) rfl rfl (Ldn.use (s0 := ?_) ?_ ?_) ?_; rotate_left; rotate_left; assumption; assumption) | (refine WR.bin (v := ?_) rfl rfl ?_ ?_; rotate_left; first | assumption | exact lss_nat _ _ | exact eql_nat _ _ | exact neq_nat _ _ | exact gtr_nat _ _ | exact geq_nat _ _ | exact leq_nat _ _ | exact eql_str _ _ | exact neq_str _ _ | (refine add_nat ?_; omega) | (refine sub_nat ?_ ?_; omega; omega)) | refine WR.pick rfl rfl rfl ?_ | refine WR.un rfl rfl ?_ | refine WR.ext rfl rfl ?_ | refine WR.eq rfl rfl rfl ?_ | refine WR.mkifc rfl ?_)
    (repeat refine WC.seq ?_); refine WC.cond rfl ?_ ?_
    rotate_left
    · intro hh; cases hh
    intro _
    (repeat refine WC.seq ?_); refine WC.regX hs7 fun s8 hs8 hx8 ho8 hn8 => ?_
    repeat (first | refine WR.nil ?_ | refine WR.guardY rfl ?_ | refine WR.guardN rfl ?_ | refine WR.guardT rfl ?_ | refine WR.mov rfl ?_ | refine WR.nilchk rfl ?_ | (refine WR.len (v := ?_) rfl ?_ ?_; rotate_left; first | assumption | exact rfl) | (refine WR.iadr (v := ?_) rfl rfl ?_ ?_; rotate_left; assumption) | (refine WR.fadr (v := ?_) rfl ?_ ?_; rotate_left; first | assumption | exact rfl) | (refine WR.r (v := ?_) rfl rfl (Ld.use (s0 := ?_) ?_ ?_) ?_; rotate_left; rotate_left; assumption; assumption) | (refine WR.r (v := ?_) rfl rfl (Ldn.use (s0 := ?_) ?_ ?_) ?_; rotate_left; rotate_left; assumption; assumption) | (refine WR.bin (v := ?_) rfl rfl ?_ ?_; rotate_left; first | assumption | exact lss_nat _ _ | exact eql_nat _ _ | exact neq_nat _ _ | exact gtr_nat _ _ | exact geq_nat _ _ | exact leq_nat _ _ | exact eql_str _ _ | exact neq_str _ _ | (refine add_nat ?_; omega) | (refine sub_nat ?_ ?_; omega; omega)) | refine WR.pick rfl rfl rfl ?_ | refine WR.un rfl rfl ?_ | refine WR.ext rfl rfl ?_ | refine WR.eq rfl rfl rfl ?_ | refine WR.mkifc rfl ?_)
    (repeat refine WC.seq ?_); refine WC.cond rfl ?_ ?_
    · intro hh; cases hh
    intro _
    (repeat refine WC.seq ?_); refine WC.skip ?_
    (repeat refine WC.seq ?_); refine WC.regX hs8 fun s9 hs9 hx9 ho9 hn9 => ?_
    repeat (first | refine WR.nil ?_ | refine WR.guardY rfl ?_ | refine WR.guardN rfl ?_ | refine WR.guardT rfl ?_ | refine WR.mov rfl ?_ | refine WR.nilchk rfl ?_ | (refine WR.len (v := ?_) rfl ?_ ?_; rotate_left; first | assumption | exact rfl) | (refine WR.iadr (v := ?_) rfl rfl ?_ ?_; rotate_left; assumption) | (refine WR.fadr (v := ?_) rfl ?_ ?_; rotate_left; first | assumption | exact rfl) | (refine WR.r (v := ?_) rfl rfl (Ld.use (s0 := ?_) ?_ ?_) ?_; rotate_left; rotate_left; assumption; assumption) | (refine WR.r (v := ?_) rfl rfl (Ldn.use (s0 := ?_) ?_ ?_) ?_; rotate_left; rotate_left; assumption; assumption) | (refine WR.bin (v := ?_) rfl rfl ?_ ?_; rotate_left; first | assumption | exact lss_nat _ _ | exact eql_nat _ _ | exact neq_nat _ _ | exact gtr_nat _ _ | exact geq_nat _ _ | exact leq_nat _ _ | exact eql_str _ _ | exact neq_str _ _ | (refine add_nat ?_; omega) | (refine sub_nat ?_ ?_; omega; omega)) | refine WR.pick rfl rfl rfl ?_ | refine WR.un rfl rfl ?_ | refine WR.ext rfl rfl ?_ | refine WR.eq rfl rfl rfl ?_ | refine WR.mkifc rfl ?_)
    (repeat refine WC.seq ?_); refine WC.ret ?_
    exact ⟨.inr rfl, _, rfl, x1.trans hs9, rfl⟩
  obtain ⟨_, s', e, k, rfl⟩ := this
  exact ⟨s', e, k⟩
theorem putOver_ (n : Nat) (h : HeapAt s lo H) (ok : HeapOk H) (ht : tabOf H t = some tb) (hk : isKey k = true) {w : Val} {j : Nat} (hu : under k tb.es = some (w, j)) (hv : v.k ≠ 0) :
    ∃ s', acall F0 E15 (n + 4) 14 [H.p, valA t, valA k, valA v] s = some (.int .i64 (.ofNat 0), s') ∧ (HeapAt s' lo (H.setT tb.id (putE k v tb.ck tb.es) (putC k tb.ck tb.es)) ∧ HFr H (H.setT tb.id (putE k v tb.ck tb.es) (putC k tb.ck tb.es)) s s') := by
  have hcnt := ok.count
  have hbg := ok.big
  have hft := ok.fit
  have nf : ∀ id, ¬ id < s.next → ¬ Foot H id := fun id hi hf => hi (h.foot hf).2
  have : ∃ w s', acall F0 E15 (n + 4) 14 [H.p, valA t, valA k, valA v] s = some (w, s') ∧ ((HeapAt s' lo (H.setT tb.id (putE k v tb.ck tb.es) (putC k tb.ck tb.es)) ∧ HFr H (H.setT tb.id (putE k v tb.ck tb.es) (putC k tb.ck tb.es)) s s') ∧ w = .int .i64 (.ofNat 0)) := by
    refine acall_of rfl comp14 (Nat.le_of_ble_eq_true rfl) ?_
    (repeat refine WC.seq ?_); refine WC.regX (Ext.refl s) fun s1 hs1 hx1 ho1 hn1 => ?_
    refine WR.box rfl rfl ?_
    refine WR.box rfl rfl ?_
    refine WR.box rfl rfl ?_
    repeat (first | refine WR.nil ?_ | refine WR.guardY rfl ?_ | refine WR.guardN rfl ?_ | refine WR.guardT rfl ?_ | refine WR.mov rfl ?_ | refine WR.nilchk rfl ?_ | (refine WR.len (v := ?_) rfl ?_ ?_; rotate_left; first | assumption | exact rfl) | (refine WR.iadr (v := ?_) rfl rfl ?_ ?_; rotate_left; assumption) | (refine WR.fadr (v := ?_) rfl ?_ ?_; rotate_left; first | assumption | exact rfl) | (refine WR.r (v := ?_) rfl rfl (Ld.use (s0 := ?_) ?_ ?_) ?_; rotate_left; rotate_left; assumption; assumption) | (refine WR.r (v := ?_) rfl rfl (Ldn.use (s0 := ?_) ?_ ?_) ?_; rotate_left; rotate_left; assumption; assumption) | (refine WR.bin (v := ?_) rfl rfl ?_ ?_; rotate_left; first | assumption | exact lss_nat _ _ | exact eql_nat _ _ | exact neq_nat _ _ | exact gtr_nat _ _ | exact geq_nat _ _ | exact leq_nat _ _ | exact eql_str _ _ | exact neq_str _ _ | (refine add_nat ?_; omega) | (refine sub_nat ?_ ?_; omega; omega)) | refine WR.pick rfl rfl rfl ?_ | refine WR.un rfl rfl ?_ | refine WR.ext rfl rfl ?_ | refine WR.eq rfl rfl rfl ?_ | refine WR.mkifc rfl ?_)
    have m1 : s1.next = s.next + 4 := hn1
    have x1 := ((hs1.put (Nat.le_refl _) (.cells (cellsOf (valA t)) 0 0 false)).put (id := s.next + 1) (by omega) (.cells (cellsOf (valA k)) 0 0 false)).put (id := s.next + 2) (by omega) (.cells (cellsOf (valA v)) 0 0 false)
    have b0 : (((s1.put s.next (.cells (cellsOf (valA t)) 0 0 false)).put (s.next + 1) (.cells (cellsOf (valA k)) 0 0 false)).put (s.next + 2) (.cells (cellsOf (valA v)) 0 0 false)).objs.get s.next = some (.cells (valR t) 0 0 false) := by rw [get_put, if_neg (by omega), get_put, if_neg (by omega), get_put, if_pos rfl]; rfl
    have b1 : (((s1.put s.next (.cells (cellsOf (valA t)) 0 0 false)).put (s.next + 1) (.cells (cellsOf (valA k)) 0 0 false)).put (s.next + 2) (.cells (cellsOf (valA v)) 0 0 false)).objs.get (s.next + 1) = some (.cells (valR k) 0 0 false) := by rw [get_put, if_neg (by omega), get_put, if_pos rfl]; rfl
    have b2 : (((s1.put s.next (.cells (cellsOf (valA t)) 0 0 false)).put (s.next + 1) (.cells (cellsOf (valA k)) 0 0 false)).put (s.next + 2) (.cells (cellsOf (valA v)) 0 0 false)).objs.get (s.next + 2) = some (.cells (valR v) 0 0 false) := by rw [get_put, if_pos rfl]; rfl
    have n1 : s.next + 2 < (((s1.put s.next (.cells (cellsOf (valA t)) 0 0 false)).put (s.next + 1) (.cells (cellsOf (valA k)) 0 0 false)).put (s.next + 2) (.cells (cellsOf (valA v)) 0 0 false)).next := by rw [next_put, next_put, next_put]; omega
    change WC _ _ _ _ (((s1.put s.next (.cells (cellsOf (valA t)) 0 0 false)).put (s.next + 1) (.cells (cellsOf (valA k)) 0 0 false)).put (s.next + 2) (.cells (cellsOf (valA v)) 0 0 false)) _
    generalize ((s1.put s.next (.cells (cellsOf (valA t)) 0 0 false)).put (s.next + 1) (.cells (cellsOf (valA k)) 0 0 false)).put (s.next + 2) (.cells (cellsOf (valA v)) 0 0 false) = sa at x1 b0 b1 b2 n1 ⊢
    have lt : Ldn sa 3 (.ptr s.next 0 0 3) (valA t) := objLdn b0 (by omega) (o := 0) (m := 3) (Nat.le_refl _)
    have lk : Ldn sa 3 (.ptr (s.next + 1) 0 0 3) (valA k) := objLdn b1 (by omega) (o := 0) (m := 3) (Nat.le_refl _)
    have lv : Ldn sa 3 (.ptr (s.next + 1 + 1) 0 0 3) (valA v) := objLdn b2 (by omega) (o := 0) (m := 3) (Nat.le_refl _)
    have lvk : Ld sa (.ptr (s.next + 1 + 1) 0 0 1) (.int .i64 v.k) := objLd b2 (by omega) (o := 0) rfl
    (repeat refine WC.seq ?_); refine WC.regX (Ext.refl sa) fun s2 hs2 hx2 ho2 hn2 => ?_
    repeat (first | refine WR.nil ?_ | refine WR.guardY rfl ?_ | refine WR.guardN rfl ?_ | refine WR.guardT rfl ?_ | refine WR.mov rfl ?_ | refine WR.nilchk rfl ?_ | (refine WR.len (v := ?_) rfl ?_ ?_; rotate_left; first | assumption | exact rfl) | (refine WR.iadr (v := ?_) rfl rfl ?_ ?_; rotate_left; assumption) | (refine WR.fadr (v := ?_) rfl ?_ ?_; rotate_left; first | assumption | exact rfl) | (refine WR.r (v := ?_) rfl rfl (Ld.use (s0 := ?_) ?_ ?_) ?_; rotate_left; rotate_left; assumption; assumption) | (refine WR.r (v := ?_) rfl rfl (Ldn.use (s0 := ?_) ?_ ?_) ?_; rotate_left; rotate_left; assumption; assumption) | (refine WR.bin (v := ?_) rfl rfl ?_ ?_; rotate_left; first | assumption | exact lss_nat _ _ | exact eql_nat _ _ | exact neq_nat _ _ | exact gtr_nat _ _ | exact geq_nat _ _ | exact leq_nat _ _ | exact eql_str _ _ | exact neq_str _ _ | (refine add_nat ?_; omega) | (refine sub_nat ?_ ?_; omega; omega)) | refine WR.pick rfl rfl rfl ?_ | refine WR.un rfl rfl ?_ | refine WR.ext rfl rfl ?_ | refine WR.eq rfl rfl rfl ?_ | refine WR.mkifc rfl ?_)
    obtain ⟨s3, e3, k3⟩ := atOk_ n (h.ext (x1.trans hs2)) ok ht hk
    have hs3 := hs2.trans k3
    refine WR.fn rfl e3 ?_
    repeat (first | refine WR.nil ?_ | refine WR.guardY rfl ?_ | refine WR.guardN rfl ?_ | refine WR.guardT rfl ?_ | refine WR.mov rfl ?_ | refine WR.nilchk rfl ?_ | (refine WR.len (v := ?_) rfl ?_ ?_; rotate_left; first | assumption | exact rfl) | (refine WR.iadr (v := ?_) rfl rfl ?_ ?_; rotate_left; assumption) | (refine WR.fadr (v := ?_) rfl ?_ ?_; rotate_left; first | assumption | exact rfl) | (refine WR.r (v := ?_) rfl rfl (Ld.use (s0 := ?_) ?_ ?_) ?_; rotate_left; rotate_left; assumption; assumption) | (refine WR.r (v := ?_) rfl rfl (Ldn.use (s0 := ?_) ?_ ?_) ?_; rotate_left; rotate_left; assumption; assumption) | (refine WR.bin (v := ?_) rfl rfl ?_ ?_; rotate_left; first | assumption | exact lss_nat _ _ | exact eql_nat _ _ | exact neq_nat _ _ | exact gtr_nat _ _ | exact geq_nat _ _ | exact leq_nat _ _ | exact eql_str _ _ | exact neq_str _ _ | (refine add_nat ?_; omega) | (refine sub_nat ?_ ?_; omega; omega)) | refine WR.pick rfl rfl rfl ?_ | refine WR.un rfl rfl ?_ | refine WR.ext rfl rfl ?_ | refine WR.eq rfl rfl rfl ?_ | refine WR.mkifc rfl ?_)
    have q := neqF (a := 0) (b := 0) rfl
    (repeat refine WC.seq ?_); refine WC.regX hs3 fun s4 hs4 hx4 ho4 hn4 => ?_
    repeat (first | refine WR.nil ?_ | refine WR.guardY rfl ?_ | refine WR.guardN rfl ?_ | refine WR.guardT rfl ?_ | refine WR.mov rfl ?_ | refine WR.nilchk rfl ?_ | (refine WR.len (v := ?_) rfl ?_ ?_; rotate_left; first | assumption | exact rfl) | (refine WR.iadr (v := ?_) rfl rfl ?_ ?_; rotate_left; assumption) | (refine WR.fadr (v := ?_) rfl ?_ ?_; rotate_left; first | assumption | exact rfl) | (refine WR.r (v := ?_) rfl rfl (Ld.use (s0 := ?_) ?_ ?_) ?_; rotate_left; rotate_left; assumption; assumption) | (refine WR.r (v := ?_) rfl rfl (Ldn.use (s0 := ?_) ?_ ?_) ?_; rotate_left; rotate_left; assumption; assumption) | (refine WR.bin (v := ?_) rfl rfl ?_ ?_; rotate_left; first | assumption | exact lss_nat _ _ | exact eql_nat _ _ | exact neq_nat _ _ | exact gtr_nat _ _ | exact geq_nat _ _ | exact leq_nat _ _ | exact eql_str _ _ | exact neq_str _ _ | (refine add_nat ?_; omega) | (refine sub_nat ?_ ?_; omega; omega)) | refine WR.pick rfl rfl rfl ?_ | refine WR.un rfl rfl ?_ | refine WR.ext rfl rfl ?_ | refine WR.eq rfl rfl rfl ?_ | refine WR.mkifc rfl ?_)
    (repeat refine WC.seq ?_); refine WC.cond rfl ?_ ?_
    · intro hh; cases hh
    intro _
    (repeat refine WC.seq ?_); refine WC.skip ?_
    have hm := tabOf_mem ht
    (repeat refine WC.seq ?_); refine WC.regX hs4 fun s6 hs6 hx6 ho6 hn6 => ?_
    repeat (first | refine WR.nil ?_ | refine WR.guardY rfl ?_ | refine WR.guardN rfl ?_ | refine WR.guardT rfl ?_ | refine WR.mov rfl ?_ | refine WR.nilchk rfl ?_ | (refine WR.len (v := ?_) rfl ?_ ?_; rotate_left; first | assumption | exact rfl) | (refine WR.iadr (v := ?_) rfl rfl ?_ ?_; rotate_left; assumption) | (refine WR.fadr (v := ?_) rfl ?_ ?_; rotate_left; first | assumption | exact rfl) | (refine WR.r (v := ?_) rfl rfl (Ld.use (s0 := ?_) ?_ ?_) ?_; rotate_left; rotate_left; assumption; assumption) | (refine WR.r (v := ?_) rfl rfl (Ldn.use (s0 := ?_) ?_ ?_) ?_; rotate_left; rotate_left; assumption; assumption) | (refine WR.bin (v := ?_) rfl rfl ?_ ?_; rotate_left; first | assumption | exact lss_nat _ _ | exact eql_nat _ _ | exact neq_nat _ _ | exact gtr_nat _ _ | exact geq_nat _ _ | exact leq_nat _ _ | exact eql_str _ _ | exact neq_str _ _ | (refine add_nat ?_; omega) | (refine sub_nat ?_ ?_; omega; omega)) | refine WR.pick rfl rfl rfl ?_ | refine WR.un rfl rfl ?_ | refine WR.ext rfl rfl ?_ | refine WR.eq rfl rfl rfl ?_ | refine WR.mkifc rfl ?_)
    refine WR.lookS (z := vA 0 0) rfl rfl ((h.ext (x1.trans hs6)).maps _ hm).2.2 hu ?_
    repeat (first | refine WR.nil ?_ | refine WR.guardY rfl ?_ | refine WR.guardN rfl ?_ | refine WR.guardT rfl ?_ | refine WR.mov rfl ?_ | refine WR.nilchk rfl ?_ | (refine WR.len (v := ?_) rfl ?_ ?_; rotate_left; first | assumption | exact rfl) | (refine WR.iadr (v := ?_) rfl rfl ?_ ?_; rotate_left; assumption) | (refine WR.fadr (v := ?_) rfl ?_ ?_; rotate_left; first | assumption | exact rfl) | (refine WR.r (v := ?_) rfl rfl (Ld.use (s0 := ?_) ?_ ?_) ?_; rotate_left; rotate_left; assumption; assumption) | (refine WR.r (v := ?_) rfl rfl (Ldn.use (s0 := ?_) ?_ ?_) ?_; rotate_left; rotate_left; assumption; assumption) | (refine WR.bin (v := ?_) rfl rfl ?_ ?_; rotate_left; first | assumption | exact lss_nat _ _ | exact eql_nat _ _ | exact neq_nat _ _ | exact gtr_nat _ _ | exact geq_nat _ _ | exact leq_nat _ _ | exact eql_str _ _ | exact neq_str _ _ | (refine add_nat ?_; omega) | (refine sub_nat ?_ ?_; omega; omega)) | refine WR.pick rfl rfl rfl ?_ | refine WR.un rfl rfl ?_ | refine WR.ext rfl rfl ?_ | refine WR.eq rfl rfl rfl ?_ | refine WR.mkifc rfl ?_)
    have xA := (hs6.put (id := s4.next + 1 + 1 + 1 + 1 + 1 + 1) (by have := hs4.next; omega) (.cells [.int .i64 (.ofNat 0), .int .i64 (.ofNat 0), .str []] 0 0 false)).put (id := s4.next + 1 + 1 + 1 + 1 + 1 + 1) (by have := hs4.next; omega) (.cells (valR w) 0 0 false)
    refine WR.alloc ?_
    refine WR.store rfl rfl rfl rfl (Nat.le_refl _) (wr_some (gr := false) (g := 0) (w := 0) (by rw [get_put, if_pos rfl]) (Nat.le_refl _)) ?_
    repeat (first | refine WR.nil ?_ | refine WR.guardY rfl ?_ | refine WR.guardN rfl ?_ | refine WR.guardT rfl ?_ | refine WR.mov rfl ?_ | refine WR.nilchk rfl ?_ | (refine WR.len (v := ?_) rfl ?_ ?_; rotate_left; first | assumption | exact rfl) | (refine WR.iadr (v := ?_) rfl rfl ?_ ?_; rotate_left; assumption) | (refine WR.fadr (v := ?_) rfl ?_ ?_; rotate_left; first | assumption | exact rfl) | (refine WR.r (v := ?_) rfl rfl (Ld.use (s0 := ?_) ?_ ?_) ?_; rotate_left; rotate_left; assumption; assumption) | (refine WR.r (v := ?_) rfl rfl (Ldn.use (s0 := ?_) ?_ ?_) ?_; rotate_left; rotate_left; assumption; assumption) | (refine WR.bin (v := ?_) rfl rfl ?_ ?_; rotate_left; first | assumption | exact lss_nat _ _ | exact eql_nat _ _ | exact neq_nat _ _ | exact gtr_nat _ _ | exact geq_nat _ _ | exact leq_nat _ _ | exact eql_str _ _ | exact neq_str _ _ | (refine add_nat ?_; omega) | (refine sub_nat ?_ ?_; omega; omega)) | refine WR.pick rfl rfl rfl ?_ | refine WR.un rfl rfl ?_ | refine WR.ext rfl rfl ?_ | refine WR.eq rfl rfl rfl ?_ | refine WR.mkifc rfl ?_)
    change WC _ _ _ _ ((s6.put (s4.next + 1 + 1 + 1 + 1 + 1 + 1) (.cells [.int .i64 (.ofNat 0), .int .i64 (.ofNat 0), .str []] 0 0 false)).put (s4.next + 1 + 1 + 1 + 1 + 1 + 1) (.cells (valR w) 0 0 false)) _
    generalize (s6.put (s4.next + 1 + 1 + 1 + 1 + 1 + 1) (.cells [.int .i64 (.ofNat 0), .int .i64 (.ofNat 0), .str []] 0 0 false)).put (s4.next + 1 + 1 + 1 + 1 + 1 + 1) (.cells (valR w) 0 0 false) = sb at xA ⊢
    have q0 : abin .eql (.int .i64 v.k) (.int .i64 (.ofNat 0)) = _ := eqlI v.k 0
    rw [decide_eq_false (show ¬ v.k = ((0 : Nat) : Int) from hv)] at q0
    (repeat refine WC.seq ?_); refine WC.blk ?_
    (repeat refine WC.seq ?_); refine WC.regX xA fun s7 hs7 hx7 ho7 hn7 => ?_
    repeat (first | refine WR.nil ?_ | refine WR.guardY rfl ?_ | refine WR.guardN rfl ?_ | refine WR.guardT rfl ?_ | refine WR.mov rfl ?_ | refine WR.nilchk rfl ?_ | (refine WR.len (v := ?_) rfl ?_ ?_; rotate_left; first | assumption | exact rfl) | (refine WR.iadr (v := ?_) rfl rfl ?_ ?_; rotate_left; assumption) | (refine WR.fadr (v := ?_) rfl ?_ ?_; rotate_left; first | assumption | exact rfl) | (refine WR.r (v := ?_) rfl rfl (Ld.use (s0 := ?_) ?_ ?_) ?_; rotate_left; rotate_left; assumption; assumption) | (refine WR.r (v := ?_) rfl rfl (Ldn.use (s0 := ?_) ?_ ?_) ?_; rotate_left; rotate_left; assumption; assumption) | (refine WR.bin (v := ?_) rfl rfl ?_ ?_; rotate_left; first | assumption | exact lss_nat _ _ | exact eql_nat _ _ | exact neq_nat _ _ | exact gtr_nat _ _ | exact geq_nat _ _ | exact leq_nat _ _ | exact eql_str _ _ | exact neq_str _ _ | (refine add_nat ?_; omega) | (refine sub_nat ?_ ?_; omega; omega)) | refine WR.pick rfl rfl rfl ?_ | refine WR.un rfl rfl ?_ | refine WR.ext rfl rfl ?_ | refine WR.eq rfl rfl rfl ?_ | refine WR.mkifc rfl ?_)
    (repeat refine WC.seq ?_); refine WC.cond rfl ?_ ?_
    · intro hh; cases hh
    intro _
    (repeat refine WC.seq ?_); refine WC.regX hs7 fun s8 hs8 hx8 ho8 hn8 => ?_
    repeat (first | refine WR.nil ?_ | refine WR.guardY rfl ?_ | refine WR.guardN rfl ?_ | refine WR.guardT rfl ?_ | refine WR.mov rfl ?_ | refine WR.nilchk rfl ?_ | (refine WR.len (v := ?_) rfl ?_ ?_; rotate_left; first | assumption | exact rfl) | (refine WR.iadr (v := ?_) rfl rfl ?_ ?_; rotate_left; assumption) | (refine WR.fadr (v := ?_) rfl ?_ ?_; rotate_left; first | assumption | exact rfl) | (refine WR.r (v := ?_) rfl rfl (Ld.use (s0 := ?_) ?_ ?_) ?_; rotate_left; rotate_left; assumption; assumption) | (refine WR.r (v := ?_) rfl rfl (Ldn.use (s0 := ?_) ?_ ?_) ?_; rotate_left; rotate_left; assumption; assumption) | (refine WR.bin (v := ?_) rfl rfl ?_ ?_; rotate_left; first | assumption | exact lss_nat _ _ | exact eql_nat _ _ | exact neq_nat _ _ | exact gtr_nat _ _ | exact geq_nat _ _ | exact leq_nat _ _ | exact eql_str _ _ | exact neq_str _ _ | (refine add_nat ?_; omega) | (refine sub_nat ?_ ?_; omega; omega)) | refine WR.pick rfl rfl rfl ?_ | refine WR.un rfl rfl ?_ | refine WR.ext rfl rfl ?_ | refine WR.eq rfl rfl rfl ?_ | refine WR.mkifc rfl ?_)
    (repeat refine WC.seq ?_); refine WC.cond rfl ?_ ?_
    · intro hh; cases hh
    intro _
    (repeat refine WC.seq ?_); refine WC.skip ?_
    (repeat refine WC.seq ?_); refine WC.regX hs8 fun s9 hs9 hx9 ho9 hn9 => ?_
    repeat (first | refine WR.nil ?_ | refine WR.guardY rfl ?_ | refine WR.guardN rfl ?_ | refine WR.guardT rfl ?_ | refine WR.mov rfl ?_ | refine WR.nilchk rfl ?_ | (refine WR.len (v := ?_) rfl ?_ ?_; rotate_left; first | assumption | exact rfl) | (refine WR.iadr (v := ?_) rfl rfl ?_ ?_; rotate_left; assumption) | (refine WR.fadr (v := ?_) rfl ?_ ?_; rotate_left; first | assumption | exact rfl) | (refine WR.r (v := ?_) rfl rfl (Ld.use (s0 := ?_) ?_ ?_) ?_; rotate_left; rotate_left; assumption; assumption) | (refine WR.r (v := ?_) rfl rfl (Ldn.use (s0 := ?_) ?_ ?_) ?_; rotate_left; rotate_left; assumption; assumption) | (refine WR.bin (v := ?_) rfl rfl ?_ ?_; rotate_left; first | assumption | exact lss_nat _ _ | exact eql_nat _ _ | exact neq_nat _ _ | exact gtr_nat _ _ | exact geq_nat _ _ | exact leq_nat _ _ | exact eql_str _ _ | exact neq_str _ _ | (refine add_nat ?_; omega) | (refine sub_nat ?_ ?_; omega; omega)) | refine WR.pick rfl rfl rfl ?_ | refine WR.un rfl rfl ?_ | refine WR.ext rfl rfl ?_ | refine WR.eq rfl rfl rfl ?_ | refine WR.mkifc rfl ?_)
    have h9 := h.ext (x1.trans hs9)
    refine WR.mupd rfl rfl rfl (h9.maps _ hm).2.2 ?_
    refine WR.nil ?_
    obtain ⟨h10, f10⟩ := h9.setTab hm (putE k v tb.ck tb.es) (putC k tb.ck tb.es)
    have f010 := (HFr.ext (H := H) (x1.trans hs9)).trans f10
    (repeat refine WC.seq ?_); refine WC.regX (Ext.refl _) fun s13 hs13 hx13 ho13 hn13 => ?_
    repeat (first | refine WR.nil ?_ | refine WR.guardY rfl ?_ | refine WR.guardN rfl ?_ | refine WR.guardT rfl ?_ | refine WR.mov rfl ?_ | refine WR.nilchk rfl ?_ | (refine WR.len (v := ?_) rfl ?_ ?_; rotate_left; first | assumption | exact rfl) | (refine WR.iadr (v := ?_) rfl rfl ?_ ?_; rotate_left; assumption) | (refine WR.fadr (v := ?_) rfl ?_ ?_; rotate_left; first | assumption | exact rfl) | (refine WR.r (v := ?_) rfl rfl (Ld.use (s0 := ?_) ?_ ?_) ?_; rotate_left; rotate_left; assumption; assumption) | (refine WR.r (v := ?_) rfl rfl (Ldn.use (s0 := ?_) ?_ ?_) ?_; rotate_left; rotate_left; assumption; assumption) | (refine WR.bin (v := ?_) rfl rfl ?_ ?_; rotate_left; first | assumption | exact lss_nat _ _ | exact eql_nat _ _ | exact neq_nat _ _ | exact gtr_nat _ _ | exact geq_nat _ _ | exact leq_nat _ _ | exact eql_str _ _ | exact neq_str _ _ | (refine add_nat ?_; omega) | (refine sub_nat ?_ ?_; omega; omega)) | refine WR.pick rfl rfl rfl ?_ | refine WR.un rfl rfl ?_ | refine WR.ext rfl rfl ?_ | refine WR.eq rfl rfl rfl ?_ | refine WR.mkifc rfl ?_)
    (repeat refine WC.seq ?_); refine WC.ret ?_
    exact ⟨.inr rfl, _, rfl, ⟨h10.ext hs13, f010.trans (HFr.ext hs13)⟩, rfl⟩
  obtain ⟨_, s', e, k, rfl⟩ := this
  exact ⟨s', e, k⟩
theorem putFull_ (n : Nat) (h : HeapAt s lo H) (ok : HeapOk H) (ht : tabOf H t = some tb) (hk : isKey k = true) (hu : under k tb.es = none) (hv : v.k ≠ 0) (hr : H.used = H.room) :
    ∃ s', acall F0 E15 (n + 4) 14 [H.p, valA t, valA k, valA v] s = some (.int .i64 (.ofNat 8), s') ∧ (Ext s s') := by
  have hcnt := ok.count
  have hbg := ok.big
  have hft := ok.fit
  have nf : ∀ id, ¬ id < s.next → ¬ Foot H id := fun id hi hf => hi (h.foot hf).2
  have : ∃ w s', acall F0 E15 (n + 4) 14 [H.p, valA t, valA k, valA v] s = some (w, s') ∧ ((Ext s s') ∧ w = .int .i64 (.ofNat 8)) := by
    refine acall_of rfl comp14 (Nat.le_of_ble_eq_true rfl) ?_
    (repeat refine WC.seq ?_); refine WC.regX (Ext.refl s) fun s1 hs1 hx1 ho1 hn1 => ?_
    refine WR.box rfl rfl ?_
    refine WR.box rfl rfl ?_
    refine WR.box rfl rfl ?_
    repeat (first | refine WR.nil ?_ | refine WR.guardY rfl ?_ | refine WR.guardN rfl ?_ | refine WR.guardT rfl ?_ | refine WR.mov rfl ?_ | refine WR.nilchk rfl ?_ | (refine WR.len (v := ?_) rfl ?_ ?_; rotate_left; first | assumption | exact rfl) | (refine WR.iadr (v := ?_) rfl rfl ?_ ?_; rotate_left; assumption) | (refine WR.fadr (v := ?_) rfl ?_ ?_; rotate_left; first | assumption | exact rfl) | (refine WR.r (v := ?_) rfl rfl (Ld.use (s0 := ?_) ?_ ?_) ?_; rotate_left; rotate_left; assumption; assumption) | (refine WR.r (v := ?_) rfl rfl (Ldn.use (s0 := ?_) ?_ ?_) ?_; rotate_left; rotate_left; assumption; assumption) | (refine WR.bin (v := ?_) rfl rfl ?_ ?_; rotate_left; first | assumption | exact lss_nat _ _ | exact eql_nat _ _ | exact neq_nat _ _ | exact gtr_nat _ _ | exact geq_nat _ _ | exact leq_nat _ _ | exact eql_str _ _ | exact neq_str _ _ | (refine add_nat ?_; omega) | (refine sub_nat ?_ ?_; omega; omega)) | refine WR.pick rfl rfl rfl ?_ | refine WR.un rfl rfl ?_ | refine WR.ext rfl rfl ?_ | refine WR.eq rfl rfl rfl ?_ | refine WR.mkifc rfl ?_)
    have m1 : s1.next = s.next + 4 := hn1
    have x1 := ((hs1.put (Nat.le_refl _) (.cells (cellsOf (valA t)) 0 0 false)).put (id := s.next + 1) (by omega) (.cells (cellsOf (valA k)) 0 0 false)).put (id := s.next + 2) (by omega) (.cells (cellsOf (valA v)) 0 0 false)
    have b0 : (((s1.put s.next (.cells (cellsOf (valA t)) 0 0 false)).put (s.next + 1) (.cells (cellsOf (valA k)) 0 0 false)).put (s.next + 2) (.cells (cellsOf (valA v)) 0 0 false)).objs.get s.next = some (.cells (valR t) 0 0 false) := by rw [get_put, if_neg (by omega), get_put, if_neg (by omega), get_put, if_pos rfl]; rfl
    have b1 : (((s1.put s.next (.cells (cellsOf (valA t)) 0 0 false)).put (s.next + 1) (.cells (cellsOf (valA k)) 0 0 false)).put (s.next + 2) (.cells (cellsOf (valA v)) 0 0 false)).objs.get (s.next + 1) = some (.cells (valR k) 0 0 false) := by rw [get_put, if_neg (by omega), get_put, if_pos rfl]; rfl
    have b2 : (((s1.put s.next (.cells (cellsOf (valA t)) 0 0 false)).put (s.next + 1) (.cells (cellsOf (valA k)) 0 0 false)).put (s.next + 2) (.cells (cellsOf (valA v)) 0 0 false)).objs.get (s.next + 2) = some (.cells (valR v) 0 0 false) := by rw [get_put, if_pos rfl]; rfl
    have n1 : s.next + 2 < (((s1.put s.next (.cells (cellsOf (valA t)) 0 0 false)).put (s.next + 1) (.cells (cellsOf (valA k)) 0 0 false)).put (s.next + 2) (.cells (cellsOf (valA v)) 0 0 false)).next := by rw [next_put, next_put, next_put]; omega
    change WC _ _ _ _ (((s1.put s.next (.cells (cellsOf (valA t)) 0 0 false)).put (s.next + 1) (.cells (cellsOf (valA k)) 0 0 false)).put (s.next + 2) (.cells (cellsOf (valA v)) 0 0 false)) _
    generalize ((s1.put s.next (.cells (cellsOf (valA t)) 0 0 false)).put (s.next + 1) (.cells (cellsOf (valA k)) 0 0 false)).put (s.next + 2) (.cells (cellsOf (valA v)) 0 0 false) = sa at x1 b0 b1 b2 n1 ⊢
    have lt : Ldn sa 3 (.ptr s.next 0 0 3) (valA t) := objLdn b0 (by omega) (o := 0) (m := 3) (Nat.le_refl _)
    have lk : Ldn sa 3 (.ptr (s.next + 1) 0 0 3) (valA k) := objLdn b1 (by omega) (o := 0) (m := 3) (Nat.le_refl _)
    have lv : Ldn sa 3 (.ptr (s.next + 1 + 1) 0 0 3) (valA v) := objLdn b2 (by omega) (o := 0) (m := 3) (Nat.le_refl _)
    have lvk : Ld sa (.ptr (s.next + 1 + 1) 0 0 1) (.int .i64 v.k) := objLd b2 (by omega) (o := 0) rfl
    (repeat refine WC.seq ?_); refine WC.regX (Ext.refl sa) fun s2 hs2 hx2 ho2 hn2 => ?_
    repeat (first | refine WR.nil ?_ | refine WR.guardY rfl ?_ | refine WR.guardN rfl ?_ | refine WR.guardT rfl ?_ | refine WR.mov rfl ?_ | refine WR.nilchk rfl ?_ | (refine WR.len (v := ?_) rfl ?_ ?_; rotate_left; first | assumption | exact rfl) | (refine WR.iadr (v := ?_) rfl rfl ?_ ?_; rotate_left; assumption) | (refine WR.fadr (v := ?_) rfl ?_ ?_; rotate_left; first | assumption | exact rfl) | (refine WR.r (v := ?_) rfl rfl (Ld.use (s0 := ?_) ?_ ?_) ?_; rotate_left; rotate_left; assumption; assumption) | (refine WR.r (v := ?_) rfl rfl (Ldn.use (s0 := ?_) ?_ ?_) ?_; rotate_left; rotate_left; assumption; assumption) | (refine WR.bin (v := ?_) rfl rfl ?_ ?_; rotate_left; first | assumption | exact lss_nat _ _ | exact eql_nat _ _ | exact neq_nat _ _ | exact gtr_nat _ _ | exact geq_nat _ _ | exact leq_nat _ _ | exact eql_str _ _ | exact neq_str _ _ | (refine add_nat ?_; omega) | (refine sub_nat ?_ ?_; omega; omega)) | refine WR.pick rfl rfl rfl ?_ | refine WR.un rfl rfl ?_ | refine WR.ext rfl rfl ?_ | refine WR.eq rfl rfl rfl ?_ | refine WR.mkifc rfl ?_)
    obtain ⟨s3, e3, k3⟩ := atOk_ n (h.ext (x1.trans hs2)) ok ht hk
    have hs3 := hs2.trans k3
    refine WR.fn rfl e3 ?_
    repeat (first | refine WR.nil ?_ | refine WR.guardY rfl ?_ | refine WR.guardN rfl ?_ | refine WR.guardT rfl ?_ | refine WR.mov rfl ?_ | refine WR.nilchk rfl ?_ | (refine WR.len (v := ?_) rfl ?_ ?_; rotate_left; first | assumption | exact rfl) | (refine WR.iadr (v := ?_) rfl rfl ?_ ?_; rotate_left; assumption) | (refine WR.fadr (v := ?_) rfl ?_ ?_; rotate_left; first | assumption | exact rfl) | (refine WR.r (v := ?_) rfl rfl (Ld.use (s0 := ?_) ?_ ?_) ?_; rotate_left; rotate_left; assumption; assumption) | (refine WR.r (v := ?_) rfl rfl (Ldn.use (s0 := ?_) ?_ ?_) ?_; rotate_left; rotate_left; assumption; assumption) | (refine WR.bin (v := ?_) rfl rfl ?_ ?_; rotate_left; first | assumption | exact lss_nat _ _ | exact eql_nat _ _ | exact neq_nat _ _ | exact gtr_nat _ _ | exact geq_nat _ _ | exact leq_nat _ _ | exact eql_str _ _ | exact neq_str _ _ | (refine add_nat ?_; omega) | (refine sub_nat ?_ ?_; omega; omega)) | refine WR.pick rfl rfl rfl ?_ | refine WR.un rfl rfl ?_ | refine WR.ext rfl rfl ?_ | refine WR.eq rfl rfl rfl ?_ | refine WR.mkifc rfl ?_)
    have q := neqF (a := 0) (b := 0) rfl
    (repeat refine WC.seq ?_); refine WC.regX hs3 fun s4 hs4 hx4 ho4 hn4 => ?_
    repeat (first | refine WR.nil ?_ | refine WR.guardY rfl ?_ | refine WR.guardN rfl ?_ | refine WR.guardT rfl ?_ | refine WR.mov rfl ?_ | refine WR.nilchk rfl ?_ | (refine WR.len (v := ?_) rfl ?_ ?_; rotate_left; first | assumption | exact rfl) | (refine WR.iadr (v := ?_) rfl rfl ?_ ?_; rotate_left; assumption) | (refine WR.fadr (v := ?_) rfl ?_ ?_; rotate_left; first | assumption | exact rfl) | (refine WR.r (v := ?_) rfl rfl (Ld.use (s0 := ?_) ?_ ?_) ?_; rotate_left; rotate_left; assumption; assumption) | (refine WR.r (v := ?_) rfl rfl (Ldn.use (s0 := ?_) ?_ ?_) ?_; rotate_left; rotate_left; assumption; assumption) | (refine WR.bin (v := ?_) rfl rfl ?_ ?_; rotate_left; first | assumption | exact lss_nat _ _ | exact eql_nat _ _ | exact neq_nat _ _ | exact gtr_nat _ _ | exact geq_nat _ _ | exact leq_nat _ _ | exact eql_str _ _ | exact neq_str _ _ | (refine add_nat ?_; omega) | (refine sub_nat ?_ ?_; omega; omega)) | refine WR.pick rfl rfl rfl ?_ | refine WR.un rfl rfl ?_ | refine WR.ext rfl rfl ?_ | refine WR.eq rfl rfl rfl ?_ | refine WR.mkifc rfl ?_)
    (repeat refine WC.seq ?_); refine WC.cond rfl ?_ ?_
    · intro hh; cases hh
    intro _
    (repeat refine WC.seq ?_); refine WC.skip ?_
    have hm := tabOf_mem ht
    (repeat refine WC.seq ?_); refine WC.regX hs4 fun s6 hs6 hx6 ho6 hn6 => ?_
    repeat (first | refine WR.nil ?_ | refine WR.guardY rfl ?_ | refine WR.guardN rfl ?_ | refine WR.guardT rfl ?_ | refine WR.mov rfl ?_ | refine WR.nilchk rfl ?_ | (refine WR.len (v := ?_) rfl ?_ ?_; rotate_left; first | assumption | exact rfl) | (refine WR.iadr (v := ?_) rfl rfl ?_ ?_; rotate_left; assumption) | (refine WR.fadr (v := ?_) rfl ?_ ?_; rotate_left; first | assumption | exact rfl) | (refine WR.r (v := ?_) rfl rfl (Ld.use (s0 := ?_) ?_ ?_) ?_; rotate_left; rotate_left; assumption; assumption) | (refine WR.r (v := ?_) rfl rfl (Ldn.use (s0 := ?_) ?_ ?_) ?_; rotate_left; rotate_left; assumption; assumption) | (refine WR.bin (v := ?_) rfl rfl ?_ ?_; rotate_left; first | assumption | exact lss_nat _ _ | exact eql_nat _ _ | exact neq_nat _ _ | exact gtr_nat _ _ | exact geq_nat _ _ | exact leq_nat _ _ | exact eql_str _ _ | exact neq_str _ _ | (refine add_nat ?_; omega) | (refine sub_nat ?_ ?_; omega; omega)) | refine WR.pick rfl rfl rfl ?_ | refine WR.un rfl rfl ?_ | refine WR.ext rfl rfl ?_ | refine WR.eq rfl rfl rfl ?_ | refine WR.mkifc rfl ?_)
    refine WR.lookN (z := vA 0 0) rfl rfl ((h.ext (x1.trans hs6)).maps _ hm).2.2 hu ?_
    repeat (first | refine WR.nil ?_ | refine WR.guardY rfl ?_ | refine WR.guardN rfl ?_ | refine WR.guardT rfl ?_ | refine WR.mov rfl ?_ | refine WR.nilchk rfl ?_ | (refine WR.len (v := ?_) rfl ?_ ?_; rotate_left; first | assumption | exact rfl) | (refine WR.iadr (v := ?_) rfl rfl ?_ ?_; rotate_left; assumption) | (refine WR.fadr (v := ?_) rfl ?_ ?_; rotate_left; first | assumption | exact rfl) | (refine WR.r (v := ?_) rfl rfl (Ld.use (s0 := ?_) ?_ ?_) ?_; rotate_left; rotate_left; assumption; assumption) | (refine WR.r (v := ?_) rfl rfl (Ldn.use (s0 := ?_) ?_ ?_) ?_; rotate_left; rotate_left; assumption; assumption) | (refine WR.bin (v := ?_) rfl rfl ?_ ?_; rotate_left; first | assumption | exact lss_nat _ _ | exact eql_nat _ _ | exact neq_nat _ _ | exact gtr_nat _ _ | exact geq_nat _ _ | exact leq_nat _ _ | exact eql_str _ _ | exact neq_str _ _ | (refine add_nat ?_; omega) | (refine sub_nat ?_ ?_; omega; omega)) | refine WR.pick rfl rfl rfl ?_ | refine WR.un rfl rfl ?_ | refine WR.ext rfl rfl ?_ | refine WR.eq rfl rfl rfl ?_ | refine WR.mkifc rfl ?_)
    have xA := (hs6.put (id := s4.next + 1 + 1 + 1 + 1 + 1 + 1) (by have := hs4.next; omega) (.cells [.int .i64 (.ofNat 0), .int .i64 (.ofNat 0), .str []] 0 0 false)).put (id := s4.next + 1 + 1 + 1 + 1 + 1 + 1) (by have := hs4.next; omega) (.cells (valR (vA 0 0)) 0 0 false)
    refine WR.alloc ?_
    refine WR.store rfl rfl rfl rfl (Nat.le_refl _) (wr_some (gr := false) (g := 0) (w := 0) (by rw [get_put, if_pos rfl]) (Nat.le_refl _)) ?_
    repeat (first | refine WR.nil ?_ | refine WR.guardY rfl ?_ | refine WR.guardN rfl ?_ | refine WR.guardT rfl ?_ | refine WR.mov rfl ?_ | refine WR.nilchk rfl ?_ | (refine WR.len (v := ?_) rfl ?_ ?_; rotate_left; first | assumption | exact rfl) | (refine WR.iadr (v := ?_) rfl rfl ?_ ?_; rotate_left; assumption) | (refine WR.fadr (v := ?_) rfl ?_ ?_; rotate_left; first | assumption | exact rfl) | (refine WR.r (v := ?_) rfl rfl (Ld.use (s0 := ?_) ?_ ?_) ?_; rotate_left; rotate_left; assumption; assumption) | (refine WR.r (v := ?_) rfl rfl (Ldn.use (s0 := ?_) ?_ ?_) ?_; rotate_left; rotate_left; assumption; assumption) | (refine WR.bin (v := ?_) rfl rfl ?_ ?_; rotate_left; first | assumption | exact lss_nat _ _ | exact eql_nat _ _ | exact neq_nat _ _ | exact gtr_nat _ _ | exact geq_nat _ _ | exact leq_nat _ _ | exact eql_str _ _ | exact neq_str _ _ | (refine add_nat ?_; omega) | (refine sub_nat ?_ ?_; omega; omega)) | refine WR.pick rfl rfl rfl ?_ | refine WR.un rfl rfl ?_ | refine WR.ext rfl rfl ?_ | refine WR.eq rfl rfl rfl ?_ | refine WR.mkifc rfl ?_)
    change WC _ _ _ _ ((s6.put (s4.next + 1 + 1 + 1 + 1 + 1 + 1) (.cells [.int .i64 (.ofNat 0), .int .i64 (.ofNat 0), .str []] 0 0 false)).put (s4.next + 1 + 1 + 1 + 1 + 1 + 1) (.cells (valR (vA 0 0)) 0 0 false)) _
    generalize (s6.put (s4.next + 1 + 1 + 1 + 1 + 1 + 1) (.cells [.int .i64 (.ofNat 0), .int .i64 (.ofNat 0), .str []] 0 0 false)).put (s4.next + 1 + 1 + 1 + 1 + 1 + 1) (.cells (valR (vA 0 0)) 0 0 false) = sb at xA ⊢
    have q0 : abin .eql (.int .i64 v.k) (.int .i64 (.ofNat 0)) = _ := eqlI v.k 0
    rw [decide_eq_false (show ¬ v.k = ((0 : Nat) : Int) from hv)] at q0
    (repeat refine WC.seq ?_); refine WC.blk ?_
    (repeat refine WC.seq ?_); refine WC.regX xA fun s7 hs7 hx7 ho7 hn7 => ?_
    repeat (first | refine WR.nil ?_ | refine WR.guardY rfl ?_ | refine WR.guardN rfl ?_ | refine WR.guardT rfl ?_ | refine WR.mov rfl ?_ | refine WR.nilchk rfl ?_ | (refine WR.len (v := ?_) rfl ?_ ?_; rotate_left; first | assumption | exact rfl) | (refine WR.iadr (v := ?_) rfl rfl ?_ ?_; rotate_left; assumption) | (refine WR.fadr (v := ?_) rfl ?_ ?_; rotate_left; first | assumption | exact rfl) | (refine WR.r (v := ?_) rfl rfl (Ld.use (s0 := ?_) ?_ ?_) ?_; rotate_left; rotate_left; assumption; assumption) | (refine WR.r (v := ?_) rfl rfl (Ldn.use (s0 := ?_) ?_ ?_) ?_; rotate_left; rotate_left; assumption; assumption) | (refine WR.bin (v := ?_) rfl rfl ?_ ?_; rotate_left; first | assumption | exact lss_nat _ _ | exact eql_nat _ _ | exact neq_nat _ _ | exact gtr_nat _ _ | exact geq_nat _ _ | exact leq_nat _ _ | exact eql_str _ _ | exact neq_str _ _ | (refine add_nat ?_; omega) | (refine sub_nat ?_ ?_; omega; omega)) | refine WR.pick rfl rfl rfl ?_ | refine WR.un rfl rfl ?_ | refine WR.ext rfl rfl ?_ | refine WR.eq rfl rfl rfl ?_ | refine WR.mkifc rfl ?_)
    (repeat refine WC.seq ?_); refine WC.cond rfl ?_ ?_
    · intro hh; cases hh
    intro _
    (repeat refine WC.seq ?_); refine WC.regX hs7 fun s8 hs8 hx8 ho8 hn8 => ?_
    repeat (first | refine WR.nil ?_ | refine WR.guardY rfl ?_ | refine WR.guardN rfl ?_ | refine WR.guardT rfl ?_ | refine WR.mov rfl ?_ | refine WR.nilchk rfl ?_ | (refine WR.len (v := ?_) rfl ?_ ?_; rotate_left; first | assumption | exact rfl) | (refine WR.iadr (v := ?_) rfl rfl ?_ ?_; rotate_left; assumption) | (refine WR.fadr (v := ?_) rfl ?_ ?_; rotate_left; first | assumption | exact rfl) | (refine WR.r (v := ?_) rfl rfl (Ld.use (s0 := ?_) ?_ ?_) ?_; rotate_left; rotate_left; assumption; assumption) | (refine WR.r (v := ?_) rfl rfl (Ldn.use (s0 := ?_) ?_ ?_) ?_; rotate_left; rotate_left; assumption; assumption) | (refine WR.bin (v := ?_) rfl rfl ?_ ?_; rotate_left; first | assumption | exact lss_nat _ _ | exact eql_nat _ _ | exact neq_nat _ _ | exact gtr_nat _ _ | exact geq_nat _ _ | exact leq_nat _ _ | exact eql_str _ _ | exact neq_str _ _ | (refine add_nat ?_; omega) | (refine sub_nat ?_ ?_; omega; omega)) | refine WR.pick rfl rfl rfl ?_ | refine WR.un rfl rfl ?_ | refine WR.ext rfl rfl ?_ | refine WR.eq rfl rfl rfl ?_ | refine WR.mkifc rfl ?_)
    (repeat refine WC.seq ?_); refine WC.cond rfl ?_ ?_
    rotate_left
    · intro hh; cases hh
    intro _
    (repeat refine WC.seq ?_); refine WC.regX hs8 fun s9 hs9 hx9 ho9 hn9 => ?_
    repeat (first | refine WR.nil ?_ | refine WR.guardY rfl ?_ | refine WR.guardN rfl ?_ | refine WR.guardT rfl ?_ | refine WR.mov rfl ?_ | refine WR.nilchk rfl ?_ | (refine WR.len (v := ?_) rfl ?_ ?_; rotate_left; first | assumption | exact rfl) | (refine WR.iadr (v := ?_) rfl rfl ?_ ?_; rotate_left; assumption) | (refine WR.fadr (v := ?_) rfl ?_ ?_; rotate_left; first | assumption | exact rfl) | (refine WR.r (v := ?_) rfl rfl (Ld.use (s0 := ?_) ?_ ?_) ?_; rotate_left; rotate_left; assumption; assumption) | (refine WR.r (v := ?_) rfl rfl (Ldn.use (s0 := ?_) ?_ ?_) ?_; rotate_left; rotate_left; assumption; assumption) | (refine WR.bin (v := ?_) rfl rfl ?_ ?_; rotate_left; first | assumption | exact lss_nat _ _ | exact eql_nat _ _ | exact neq_nat _ _ | exact gtr_nat _ _ | exact geq_nat _ _ | exact leq_nat _ _ | exact eql_str _ _ | exact neq_str _ _ | (refine add_nat ?_; omega) | (refine sub_nat ?_ ?_; omega; omega)) | refine WR.pick rfl rfl rfl ?_ | refine WR.un rfl rfl ?_ | refine WR.ext rfl rfl ?_ | refine WR.eq rfl rfl rfl ?_ | refine WR.mkifc rfl ?_)
    obtain ⟨s10, e10, k10⟩ := (take_ (n + 1) (h.ext (x1.trans hs9)) ok).1 hr
    have hs10 := hs9.trans k10
    refine WR.fn rfl e10 ?_
    repeat (first | refine WR.nil ?_ | refine WR.guardY rfl ?_ | refine WR.guardN rfl ?_ | refine WR.guardT rfl ?_ | refine WR.mov rfl ?_ | refine WR.nilchk rfl ?_ | (refine WR.len (v := ?_) rfl ?_ ?_; rotate_left; first | assumption | exact rfl) | (refine WR.iadr (v := ?_) rfl rfl ?_ ?_; rotate_left; assumption) | (refine WR.fadr (v := ?_) rfl ?_ ?_; rotate_left; first | assumption | exact rfl) | (refine WR.r (v := ?_) rfl rfl (Ld.use (s0 := ?_) ?_ ?_) ?_; rotate_left; rotate_left; assumption; assumption) | (refine WR.r (v := ?_) rfl rfl (Ldn.use (s0 := ?_) ?_ ?_) ?_; rotate_left; rotate_left; assumption; assumption) | (refine WR.bin (v := ?_) rfl rfl ?_ ?_; rotate_left; first | assumption | exact lss_nat _ _ | exact eql_nat _ _ | exact neq_nat _ _ | exact gtr_nat _ _ | exact geq_nat _ _ | exact leq_nat _ _ | exact eql_str _ _ | exact neq_str _ _ | (refine add_nat ?_; omega) | (refine sub_nat ?_ ?_; omega; omega)) | refine WR.pick rfl rfl rfl ?_ | refine WR.un rfl rfl ?_ | refine WR.ext rfl rfl ?_ | refine WR.eq rfl rfl rfl ?_ | refine WR.mkifc rfl ?_)
    have q2 := neqT (a := 8) (b := 0) (by decide)
    (repeat refine WC.seq ?_); refine WC.regX hs10 fun s11 hs11 hx11 ho11 hn11 => ?_
    repeat (first | refine WR.nil ?_ | refine WR.guardY rfl ?_ | refine WR.guardN rfl ?_ | refine WR.guardT rfl ?_ | refine WR.mov rfl ?_ | refine WR.nilchk rfl ?_ | (refine WR.len (v := ?_) rfl ?_ ?_; rotate_left; first | assumption | exact rfl) | (refine WR.iadr (v := ?_) rfl rfl ?_ ?_; rotate_left; assumption) | (refine WR.fadr (v := ?_) rfl ?_ ?_; rotate_left; first | assumption | exact rfl) | (refine WR.r (v := ?_) rfl rfl (Ld.use (s0 := ?_) ?_ ?_) ?_; rotate_left; rotate_left; assumption; assumption) | (refine WR.r (v := ?_) rfl rfl (Ldn.use (s0 := ?_) ?_ ?_) ?_; rotate_left; rotate_left; assumption; assumption) | (refine WR.bin (v := ?_) rfl rfl ?_ ?_; rotate_left; first | assumption | exact lss_nat _ _ | exact eql_nat _ _ | exact neq_nat _ _ | exact gtr_nat _ _ | exact geq_nat _ _ | exact leq_nat _ _ | exact eql_str _ _ | exact neq_str _ _ | (refine add_nat ?_; omega) | (refine sub_nat ?_ ?_; omega; omega)) | refine WR.pick rfl rfl rfl ?_ | refine WR.un rfl rfl ?_ | refine WR.ext rfl rfl ?_ | refine WR.eq rfl rfl rfl ?_ | refine WR.mkifc rfl ?_)
    (repeat refine WC.seq ?_); refine WC.cond rfl ?_ ?_
    rotate_left
    · intro hh; cases hh
    intro _
    (repeat refine WC.seq ?_); refine WC.regX hs11 fun s12 hs12 hx12 ho12 hn12 => ?_
    repeat (first | refine WR.nil ?_ | refine WR.guardY rfl ?_ | refine WR.guardN rfl ?_ | refine WR.guardT rfl ?_ | refine WR.mov rfl ?_ | refine WR.nilchk rfl ?_ | (refine WR.len (v := ?_) rfl ?_ ?_; rotate_left; first | assumption | exact rfl) | (refine WR.iadr (v := ?_) rfl rfl ?_ ?_; rotate_left; assumption) | (refine WR.fadr (v := ?_) rfl ?_ ?_; rotate_left; first | assumption | exact rfl) | (refine WR.r (v := ?_) rfl rfl (Ld.use (s0 := ?_) ?_ ?_) ?_; rotate_left; rotate_left; assumption; assumption) | (refine WR.r (v := ?_) rfl rfl (Ldn.use (s0 := ?_) ?_ ?_) ?_; rotate_left; rotate_left; assumption; assumption) | (refine WR.bin (v := ?_) rfl rfl ?_ ?_; rotate_left; first | assumption | exact lss_nat _ _ | exact eql_nat _ _ | exact neq_nat _ _ | exact gtr_nat _ _ | exact geq_nat _ _ | exact leq_nat _ _ | exact eql_str _ _ | exact neq_str _ _ | (refine add_nat ?_; omega) | (refine sub_nat ?_ ?_; omega; omega)) | refine WR.pick rfl rfl rfl ?_ | refine WR.un rfl rfl ?_ | refine WR.ext rfl rfl ?_ | refine WR.eq rfl rfl rfl ?_ | refine WR.mkifc rfl ?_)
    (repeat refine WC.seq ?_); refine WC.ret ?_
    exact ⟨.inr rfl, _, rfl, x1.trans hs12, rfl⟩
  obtain ⟨_, s', e, k, rfl⟩ := this
  exact ⟨s', e, k⟩
theorem putNew_ (n : Nat) (h : HeapAt s lo H) (ok : HeapOk H) (ht : tabOf H t = some tb) (hk : isKey k = true) (hu : under k tb.es = none) (hv : v.k ≠ 0) (hr : H.used < H.room) :
    ∃ s', acall F0 E15 (n + 4) 14 [H.p, valA t, valA k, valA v] s = some (.int .i64 (.ofNat 0), s') ∧ (HeapAt s' lo (HM.setT { H with used := H.used + 1 } tb.id (putE k v tb.ck tb.es) (putC k tb.ck tb.es)) ∧ HFr H (HM.setT { H with used := H.used + 1 } tb.id (putE k v tb.ck tb.es) (putC k tb.ck tb.es)) s s') := by
  have hcnt := ok.count
  have hbg := ok.big
  have hft := ok.fit
  have nf : ∀ id, ¬ id < s.next → ¬ Foot H id := fun id hi hf => hi (h.foot hf).2
  have : ∃ w s', acall F0 E15 (n + 4) 14 [H.p, valA t, valA k, valA v] s = some (w, s') ∧ ((HeapAt s' lo (HM.setT { H with used := H.used + 1 } tb.id (putE k v tb.ck tb.es) (putC k tb.ck tb.es)) ∧ HFr H (HM.setT { H with used := H.used + 1 } tb.id (putE k v tb.ck tb.es) (putC k tb.ck tb.es)) s s') ∧ w = .int .i64 (.ofNat 0)) := by
    refine acall_of rfl comp14 (Nat.le_of_ble_eq_true rfl) ?_
    (repeat refine WC.seq ?_); refine WC.regX (Ext.refl s) fun s1 hs1 hx1 ho1 hn1 => ?_
    refine WR.box rfl rfl ?_
    refine WR.box rfl rfl ?_
    refine WR.box rfl rfl ?_
    repeat (first | refine WR.nil ?_ | refine WR.guardY rfl ?_ | refine WR.guardN rfl ?_ | refine WR.guardT rfl ?_ | refine WR.mov rfl ?_ | refine WR.nilchk rfl ?_ | (refine WR.len (v := ?_) rfl ?_ ?_; rotate_left; first | assumption | exact rfl) | (refine WR.iadr (v := ?_) rfl rfl ?_ ?_; rotate_left; assumption) | (refine WR.fadr (v := ?_) rfl ?_ ?_; rotate_left; first | assumption | exact rfl) | (refine WR.r (v := ?_) rfl rfl (Ld.use (s0 := ?_) ?_ ?_) ?_; rotate_left; rotate_left; assumption; assumption) | (refine WR.r (v := ?_) rfl rfl (Ldn.use (s0 := ?_) ?_ ?_) ?_; rotate_left; rotate_left; assumption; assumption) | (refine WR.bin (v := ?_) rfl rfl ?_ ?_; rotate_left; first | assumption | exact lss_nat _ _ | exact eql_nat _ _ | exact neq_nat _ _ | exact gtr_nat _ _ | exact geq_nat _ _ | exact leq_nat _ _ | exact eql_str _ _ | exact neq_str _ _ | (refine add_nat ?_; omega) | (refine sub_nat ?_ ?_; omega; omega)) | refine WR.pick rfl rfl rfl ?_ | refine WR.un rfl rfl ?_ | refine WR.ext rfl rfl ?_ | refine WR.eq rfl rfl rfl ?_ | refine WR.mkifc rfl ?_)
    have m1 : s1.next = s.next + 4 := hn1
    have x1 := ((hs1.put (Nat.le_refl _) (.cells (cellsOf (valA t)) 0 0 false)).put (id := s.next + 1) (by omega) (.cells (cellsOf (valA k)) 0 0 false)).put (id := s.next + 2) (by omega) (.cells (cellsOf (valA v)) 0 0 false)
    have b0 : (((s1.put s.next (.cells (cellsOf (valA t)) 0 0 false)).put (s.next + 1) (.cells (cellsOf (valA k)) 0 0 false)).put (s.next + 2) (.cells (cellsOf (valA v)) 0 0 false)).objs.get s.next = some (.cells (valR t) 0 0 false) := by rw [get_put, if_neg (by omega), get_put, if_neg (by omega), get_put, if_pos rfl]; rfl
    have b1 : (((s1.put s.next (.cells (cellsOf (valA t)) 0 0 false)).put (s.next + 1) (.cells (cellsOf (valA k)) 0 0 false)).put (s.next + 2) (.cells (cellsOf (valA v)) 0 0 false)).objs.get (s.next + 1) = some (.cells (valR k) 0 0 false) := by rw [get_put, if_neg (by omega), get_put, if_pos rfl]; rfl
    have b2 : (((s1.put s.next (.cells (cellsOf (valA t)) 0 0 false)).put (s.next + 1) (.cells (cellsOf (valA k)) 0 0 false)).put (s.next + 2) (.cells (cellsOf (valA v)) 0 0 false)).objs.get (s.next + 2) = some (.cells (valR v) 0 0 false) := by rw [get_put, if_pos rfl]; rfl
    have n1 : s.next + 2 < (((s1.put s.next (.cells (cellsOf (valA t)) 0 0 false)).put (s.next + 1) (.cells (cellsOf (valA k)) 0 0 false)).put (s.next + 2) (.cells (cellsOf (valA v)) 0 0 false)).next := by rw [next_put, next_put, next_put]; omega
    change WC _ _ _ _ (((s1.put s.next (.cells (cellsOf (valA t)) 0 0 false)).put (s.next + 1) (.cells (cellsOf (valA k)) 0 0 false)).put (s.next + 2) (.cells (cellsOf (valA v)) 0 0 false)) _
    generalize ((s1.put s.next (.cells (cellsOf (valA t)) 0 0 false)).put (s.next + 1) (.cells (cellsOf (valA k)) 0 0 false)).put (s.next + 2) (.cells (cellsOf (valA v)) 0 0 false) = sa at x1 b0 b1 b2 n1 ⊢
    have lt : Ldn sa 3 (.ptr s.next 0 0 3) (valA t) := objLdn b0 (by omega) (o := 0) (m := 3) (Nat.le_refl _)
    have lk : Ldn sa 3 (.ptr (s.next + 1) 0 0 3) (valA k) := objLdn b1 (by omega) (o := 0) (m := 3) (Nat.le_refl _)
    have lv : Ldn sa 3 (.ptr (s.next + 1 + 1) 0 0 3) (valA v) := objLdn b2 (by omega) (o := 0) (m := 3) (Nat.le_refl _)
    have lvk : Ld sa (.ptr (s.next + 1 + 1) 0 0 1) (.int .i64 v.k) := objLd b2 (by omega) (o := 0) rfl
    (repeat refine WC.seq ?_); refine WC.regX (Ext.refl sa) fun s2 hs2 hx2 ho2 hn2 => ?_
    repeat (first | refine WR.nil ?_ | refine WR.guardY rfl ?_ | refine WR.guardN rfl ?_ | refine WR.guardT rfl ?_ | refine WR.mov rfl ?_ | refine WR.nilchk rfl ?_ | (refine WR.len (v := ?_) rfl ?_ ?_; rotate_left; first | assumption | exact rfl) | (refine WR.iadr (v := ?_) rfl rfl ?_ ?_; rotate_left; assumption) | (refine WR.fadr (v := ?_) rfl ?_ ?_; rotate_left; first | assumption | exact rfl) | (refine WR.r (v := ?_) rfl rfl (Ld.use (s0 := ?_) ?_ ?_) ?_; rotate_left; rotate_left; assumption; assumption) | (refine WR.r (v := ?_) rfl rfl (Ldn.use (s0 := ?_) ?_ ?_) ?_; rotate_left; rotate_left; assumption; assumption) | (refine WR.bin (v := ?_) rfl rfl ?_ ?_; rotate_left; first | assumption | exact lss_nat _ _ | exact eql_nat _ _ | exact neq_nat _ _ | exact gtr_nat _ _ | exact geq_nat _ _ | exact leq_nat _ _ | exact eql_str _ _ | exact neq_str _ _ | (refine add_nat ?_; omega) | (refine sub_nat ?_ ?_; omega; omega)) | refine WR.pick rfl rfl rfl ?_ | refine WR.un rfl rfl ?_ | refine WR.ext rfl rfl ?_ | refine WR.eq rfl rfl rfl ?_ | refine WR.mkifc rfl ?_)
    obtain ⟨s3, e3, k3⟩ := atOk_ n (h.ext (x1.trans hs2)) ok ht hk
    have hs3 := hs2.trans k3
    refine WR.fn rfl e3 ?_
    repeat (first | refine WR.nil ?_ | refine WR.guardY rfl ?_ | refine WR.guardN rfl ?_ | refine WR.guardT rfl ?_ | refine WR.mov rfl ?_ | refine WR.nilchk rfl ?_ | (refine WR.len (v := ?_) rfl ?_ ?_; rotate_left; first | assumption | exact rfl) | (refine WR.iadr (v := ?_) rfl rfl ?_ ?_; rotate_left; assumption) | (refine WR.fadr (v := ?_) rfl ?_ ?_; rotate_left; first | assumption | exact rfl) | (refine WR.r (v := ?_) rfl rfl (Ld.use (s0 := ?_) ?_ ?_) ?_; rotate_left; rotate_left; assumption; assumption) | (refine WR.r (v := ?_) rfl rfl (Ldn.use (s0 := ?_) ?_ ?_) ?_; rotate_left; rotate_left; assumption; assumption) | (refine WR.bin (v := ?_) rfl rfl ?_ ?_; rotate_left; first | assumption | exact lss_nat _ _ | exact eql_nat _ _ | exact neq_nat _ _ | exact gtr_nat _ _ | exact geq_nat _ _ | exact leq_nat _ _ | exact eql_str _ _ | exact neq_str _ _ | (refine add_nat ?_; omega) | (refine sub_nat ?_ ?_; omega; omega)) | refine WR.pick rfl rfl rfl ?_ | refine WR.un rfl rfl ?_ | refine WR.ext rfl rfl ?_ | refine WR.eq rfl rfl rfl ?_ | refine WR.mkifc rfl ?_)
    have q := neqF (a := 0) (b := 0) rfl
    (repeat refine WC.seq ?_); refine WC.regX hs3 fun s4 hs4 hx4 ho4 hn4 => ?_
    repeat (first | refine WR.nil ?_ | refine WR.guardY rfl ?_ | refine WR.guardN rfl ?_ | refine WR.guardT rfl ?_ | refine WR.mov rfl ?_ | refine WR.nilchk rfl ?_ | (refine WR.len (v := ?_) rfl ?_ ?_; rotate_left; first | assumption | exact rfl) | (refine WR.iadr (v := ?_) rfl rfl ?_ ?_; rotate_left; assumption) | (refine WR.fadr (v := ?_) rfl ?_ ?_; rotate_left; first | assumption | exact rfl) | (refine WR.r (v := ?_) rfl rfl (Ld.use (s0 := ?_) ?_ ?_) ?_; rotate_left; rotate_left; assumption; assumption) | (refine WR.r (v := ?_) rfl rfl (Ldn.use (s0 := ?_) ?_ ?_) ?_; rotate_left; rotate_left; assumption; assumption) | (refine WR.bin (v := ?_) rfl rfl ?_ ?_; rotate_left; first | assumption | exact lss_nat _ _ | exact eql_nat _ _ | exact neq_nat _ _ | exact gtr_nat _ _ | exact geq_nat _ _ | exact leq_nat _ _ | exact eql_str _ _ | exact neq_str _ _ | (refine add_nat ?_; omega) | (refine sub_nat ?_ ?_; omega; omega)) | refine WR.pick rfl rfl rfl ?_ | refine WR.un rfl rfl ?_ | refine WR.ext rfl rfl ?_ | refine WR.eq rfl rfl rfl ?_ | refine WR.mkifc rfl ?_)
    (repeat refine WC.seq ?_); refine WC.cond rfl ?_ ?_
    · intro hh; cases hh
    intro _
    (repeat refine WC.seq ?_); refine WC.skip ?_
    have hm := tabOf_mem ht
    (repeat refine WC.seq ?_); refine WC.regX hs4 fun s6 hs6 hx6 ho6 hn6 => ?_
    repeat (first | refine WR.nil ?_ | refine WR.guardY rfl ?_ | refine WR.guardN rfl ?_ | refine WR.guardT rfl ?_ | refine WR.mov rfl ?_ | refine WR.nilchk rfl ?_ | (refine WR.len (v := ?_) rfl ?_ ?_; rotate_left; first | assumption | exact rfl) | (refine WR.iadr (v := ?_) rfl rfl ?_ ?_; rotate_left; assumption) | (refine WR.fadr (v := ?_) rfl ?_ ?_; rotate_left; first | assumption | exact rfl) | (refine WR.r (v := ?_) rfl rfl (Ld.use (s0 := ?_) ?_ ?_) ?_; rotate_left; rotate_left; assumption; assumption) | (refine WR.r (v := ?_) rfl rfl (Ldn.use (s0 := ?_) ?_ ?_) ?_; rotate_left; rotate_left; assumption; assumption) | (refine WR.bin (v := ?_) rfl rfl ?_ ?_; rotate_left; first | assumption | exact lss_nat _ _ | exact eql_nat _ _ | exact neq_nat _ _ | exact gtr_nat _ _ | exact geq_nat _ _ | exact leq_nat _ _ | exact eql_str _ _ | exact neq_str _ _ | (refine add_nat ?_; omega) | (refine sub_nat ?_ ?_; omega; omega)) | refine WR.pick rfl rfl rfl ?_ | refine WR.un rfl rfl ?_ | refine WR.ext rfl rfl ?_ | refine WR.eq rfl rfl rfl ?_ | refine WR.mkifc rfl ?_)
    refine WR.lookN (z := vA 0 0) rfl rfl ((h.ext (x1.trans hs6)).maps _ hm).2.2 hu ?_
    repeat (first | refine WR.nil ?_ | refine WR.guardY rfl ?_ | refine WR.guardN rfl ?_ | refine WR.guardT rfl ?_ | refine WR.mov rfl ?_ | refine WR.nilchk rfl ?_ | (refine WR.len (v := ?_) rfl ?_ ?_; rotate_left; first | assumption | exact rfl) | (refine WR.iadr (v := ?_) rfl rfl ?_ ?_; rotate_left; assumption) | (refine WR.fadr (v := ?_) rfl ?_ ?_; rotate_left; first | assumption | exact rfl) | (refine WR.r (v := ?_) rfl rfl (Ld.use (s0 := ?_) ?_ ?_) ?_; rotate_left; rotate_left; assumption; assumption) | (refine WR.r (v := ?_) rfl rfl (Ldn.use (s0 := ?_) ?_ ?_) ?_; rotate_left; rotate_left; assumption; assumption) | (refine WR.bin (v := ?_) rfl rfl ?_ ?_; rotate_left; first | assumption | exact lss_nat _ _ | exact eql_nat _ _ | exact neq_nat _ _ | exact gtr_nat _ _ | exact geq_nat _ _ | exact leq_nat _ _ | exact eql_str _ _ | exact neq_str _ _ | (refine add_nat ?_; omega) | (refine sub_nat ?_ ?_; omega; omega)) | refine WR.pick rfl rfl rfl ?_ | refine WR.un rfl rfl ?_ | refine WR.ext rfl rfl ?_ | refine WR.eq rfl rfl rfl ?_ | refine WR.mkifc rfl ?_)
    have xA := (hs6.put (id := s4.next + 1 + 1 + 1 + 1 + 1 + 1) (by have := hs4.next; omega) (.cells [.int .i64 (.ofNat 0), .int .i64 (.ofNat 0), .str []] 0 0 false)).put (id := s4.next + 1 + 1 + 1 + 1 + 1 + 1) (by have := hs4.next; omega) (.cells (valR (vA 0 0)) 0 0 false)
    refine WR.alloc ?_
    refine WR.store rfl rfl rfl rfl (Nat.le_refl _) (wr_some (gr := false) (g := 0) (w := 0) (by rw [get_put, if_pos rfl]) (Nat.le_refl _)) ?_
    repeat (first | refine WR.nil ?_ | refine WR.guardY rfl ?_ | refine WR.guardN rfl ?_ | refine WR.guardT rfl ?_ | refine WR.mov rfl ?_ | refine WR.nilchk rfl ?_ | (refine WR.len (v := ?_) rfl ?_ ?_; rotate_left; first | assumption | exact rfl) | (refine WR.iadr (v := ?_) rfl rfl ?_ ?_; rotate_left; assumption) | (refine WR.fadr (v := ?_) rfl ?_ ?_; rotate_left; first | assumption | exact rfl) | (refine WR.r (v := ?_) rfl rfl (Ld.use (s0 := ?_) ?_ ?_) ?_; rotate_left; rotate_left; assumption; assumption) | (refine WR.r (v := ?_) rfl rfl (Ldn.use (s0 := ?_) ?_ ?_) ?_; rotate_left; rotate_left; assumption; assumption) | (refine WR.bin (v := ?_) rfl rfl ?_ ?_; rotate_left; first | assumption | exact lss_nat _ _ | exact eql_nat _ _ | exact neq_nat _ _ | exact gtr_nat _ _ | exact geq_nat _ _ | exact leq_nat _ _ | exact eql_str _ _ | exact neq_str _ _ | (refine add_nat ?_; omega) | (refine sub_nat ?_ ?_; omega; omega)) | refine WR.pick rfl rfl rfl ?_ | refine WR.un rfl rfl ?_ | refine WR.ext rfl rfl ?_ | refine WR.eq rfl rfl rfl ?_ | refine WR.mkifc rfl ?_)
    change WC _ _ _ _ ((s6.put (s4.next + 1 + 1 + 1 + 1 + 1 + 1) (.cells [.int .i64 (.ofNat 0), .int .i64 (.ofNat 0), .str []] 0 0 false)).put (s4.next + 1 + 1 + 1 + 1 + 1 + 1) (.cells (valR (vA 0 0)) 0 0 false)) _
    generalize (s6.put (s4.next + 1 + 1 + 1 + 1 + 1 + 1) (.cells [.int .i64 (.ofNat 0), .int .i64 (.ofNat 0), .str []] 0 0 false)).put (s4.next + 1 + 1 + 1 + 1 + 1 + 1) (.cells (valR (vA 0 0)) 0 0 false) = sb at xA ⊢
    have q0 : abin .eql (.int .i64 v.k) (.int .i64 (.ofNat 0)) = _ := eqlI v.k 0
    rw [decide_eq_false (show ¬ v.k = ((0 : Nat) : Int) from hv)] at q0
    (repeat refine WC.seq ?_); refine WC.blk ?_
    (repeat refine WC.seq ?_); refine WC.regX xA fun s7 hs7 hx7 ho7 hn7 => ?_
    repeat (first | refine WR.nil ?_ | refine WR.guardY rfl ?_ | refine WR.guardN rfl ?_ | refine WR.guardT rfl ?_ | refine WR.mov rfl ?_ | refine WR.nilchk rfl ?_ | (refine WR.len (v := ?_) rfl ?_ ?_; rotate_left; first | assumption | exact rfl) | (refine WR.iadr (v := ?_) rfl rfl ?_ ?_; rotate_left; assumption) | (refine WR.fadr (v := ?_) rfl ?_ ?_; rotate_left; first | assumption | exact rfl) | (refine WR.r (v := ?_) rfl rfl (Ld.use (s0 := ?_) ?_ ?_) ?_; rotate_left; rotate_left; assumption; assumption) | (refine WR.r (v := ?_) rfl rfl (Ldn.use (s0 := ?_) ?_ ?_) ?_; rotate_left; rotate_left; assumption; assumption) | (refine WR.bin (v := ?_) rfl rfl ?_ ?_; rotate_left; first | assumption | exact lss_nat _ _ | exact eql_nat _ _ | exact neq_nat _ _ | exact gtr_nat _ _ | exact geq_nat _ _ | exact leq_nat _ _ | exact eql_str _ _ | exact neq_str _ _ | (refine add_nat ?_; omega) | (refine sub_nat ?_ ?_; omega; omega)) | refine WR.pick rfl rfl rfl ?_ | refine WR.un rfl rfl ?_ | refine WR.ext rfl rfl ?_ | refine WR.eq rfl rfl rfl ?_ | refine WR.mkifc rfl ?_)
    (repeat refine WC.seq ?_); refine WC.cond rfl ?_ ?_
    · intro hh; cases hh
    intro _
    (repeat refine WC.seq ?_); refine WC.regX hs7 fun s8 hs8 hx8 ho8 hn8 => ?_
    repeat (first | refine WR.nil ?_ | refine WR.guardY rfl ?_ | refine WR.guardN rfl ?_ | refine WR.guardT rfl ?_ | refine WR.mov rfl ?_ | refine WR.nilchk rfl ?_ | (refine WR.len (v := ?_) rfl ?_ ?_; rotate_left; first | assumption | exact rfl) | (refine WR.iadr (v := ?_) rfl rfl ?_ ?_; rotate_left; assumption) | (refine WR.fadr (v := ?_) rfl ?_ ?_; rotate_left; first | assumption | exact rfl) | (refine WR.r (v := ?_) rfl rfl (Ld.use (s0 := ?_) ?_ ?_) ?_; rotate_left; rotate_left; assumption; assumption) | (refine WR.r (v := ?_) rfl rfl (Ldn.use (s0 := ?_) ?_ ?_) ?_; rotate_left; rotate_left; assumption; assumption) | (refine WR.bin (v := ?_) rfl rfl ?_ ?_; rotate_left; first | assumption | exact lss_nat _ _ | exact eql_nat _ _ | exact neq_nat _ _ | exact gtr_nat _ _ | exact geq_nat _ _ | exact leq_nat _ _ | exact eql_str _ _ | exact neq_str _ _ | (refine add_nat ?_; omega) | (refine sub_nat ?_ ?_; omega; omega)) | refine WR.pick rfl rfl rfl ?_ | refine WR.un rfl rfl ?_ | refine WR.ext rfl rfl ?_ | refine WR.eq rfl rfl rfl ?_ | refine WR.mkifc rfl ?_)
    (repeat refine WC.seq ?_); refine WC.cond rfl ?_ ?_
    rotate_left
    · intro hh; cases hh
    intro _
    (repeat refine WC.seq ?_); refine WC.regX hs8 fun s9 hs9 hx9 ho9 hn9 => ?_
    repeat (first | refine WR.nil ?_ | refine WR.guardY rfl ?_ | refine WR.guardN rfl ?_ | refine WR.guardT rfl ?_ | refine WR.mov rfl ?_ | refine WR.nilchk rfl ?_ | (refine WR.len (v := ?_) rfl ?_ ?_; rotate_left; first | assumption | exact rfl) | (refine WR.iadr (v := ?_) rfl rfl ?_ ?_; rotate_left; assumption) | (refine WR.fadr (v := ?_) rfl ?_ ?_; rotate_left; first | assumption | exact rfl) | (refine WR.r (v := ?_) rfl rfl (Ld.use (s0 := ?_) ?_ ?_) ?_; rotate_left; rotate_left; assumption; assumption) | (refine WR.r (v := ?_) rfl rfl (Ldn.use (s0 := ?_) ?_ ?_) ?_; rotate_left; rotate_left; assumption; assumption) | (refine WR.bin (v := ?_) rfl rfl ?_ ?_; rotate_left; first | assumption | exact lss_nat _ _ | exact eql_nat _ _ | exact neq_nat _ _ | exact gtr_nat _ _ | exact geq_nat _ _ | exact leq_nat _ _ | exact eql_str _ _ | exact neq_str _ _ | (refine add_nat ?_; omega) | (refine sub_nat ?_ ?_; omega; omega)) | refine WR.pick rfl rfl rfl ?_ | refine WR.un rfl rfl ?_ | refine WR.ext rfl rfl ?_ | refine WR.eq rfl rfl rfl ?_ | refine WR.mkifc rfl ?_)
    obtain ⟨s10, e10, h10, f10⟩ := (take_ (n + 1) (h.ext (x1.trans hs9)) ok).2 hr
    have n9 : s.next + 2 < s9.next := Nat.lt_of_lt_of_le n1 hs9.next
    have d1 : s10.objs.get (s.next + 1) = some (.cells (valR k) 0 0 false) := by rw [f10.old _ (by omega) (nf _ (by omega)), hs9.old _ (by omega)]; exact b1
    have d2 : s10.objs.get (s.next + 2) = some (.cells (valR v) 0 0 false) := by rw [f10.old _ (by omega) (nf _ (by omega)), hs9.old _ (by omega)]; exact b2
    have n10 : s.next + 2 < s10.next := Nat.lt_of_lt_of_le n9 f10.next
    have lk2 : Ldn s10 3 (.ptr (s.next + 1) 0 0 3) (valA k) := objLdn d1 (by omega) (o := 0) (m := 3) (Nat.le_refl _)
    have lv2 : Ldn s10 3 (.ptr (s.next + 1 + 1) 0 0 3) (valA v) := objLdn d2 (by omega) (o := 0) (m := 3) (Nat.le_refl _)
    refine WR.fn rfl e10 ?_
    repeat (first | refine WR.nil ?_ | refine WR.guardY rfl ?_ | refine WR.guardN rfl ?_ | refine WR.guardT rfl ?_ | refine WR.mov rfl ?_ | refine WR.nilchk rfl ?_ | (refine WR.len (v := ?_) rfl ?_ ?_; rotate_left; first | assumption | exact rfl) | (refine WR.iadr (v := ?_) rfl rfl ?_ ?_; rotate_left; assumption) | (refine WR.fadr (v := ?_) rfl ?_ ?_; rotate_left; first | assumption | exact rfl) | (refine WR.r (v := ?_) rfl rfl (Ld.use (s0 := ?_) ?_ ?_) ?_; rotate_left; rotate_left; assumption; assumption) | (refine WR.r (v := ?_) rfl rfl (Ldn.use (s0 := ?_) ?_ ?_) ?_; rotate_left; rotate_left; assumption; assumption) | (refine WR.bin (v := ?_) rfl rfl ?_ ?_; rotate_left; first | assumption | exact lss_nat _ _ | exact eql_nat _ _ | exact neq_nat _ _ | exact gtr_nat _ _ | exact geq_nat _ _ | exact leq_nat _ _ | exact eql_str _ _ | exact neq_str _ _ | (refine add_nat ?_; omega) | (refine sub_nat ?_ ?_; omega; omega)) | refine WR.pick rfl rfl rfl ?_ | refine WR.un rfl rfl ?_ | refine WR.ext rfl rfl ?_ | refine WR.eq rfl rfl rfl ?_ | refine WR.mkifc rfl ?_)
    have q2 := neqF (a := 0) (b := 0) rfl
    (repeat refine WC.seq ?_); refine WC.regX (Ext.refl s10) fun s11 hs11 hx11 ho11 hn11 => ?_
    repeat (first | refine WR.nil ?_ | refine WR.guardY rfl ?_ | refine WR.guardN rfl ?_ | refine WR.guardT rfl ?_ | refine WR.mov rfl ?_ | refine WR.nilchk rfl ?_ | (refine WR.len (v := ?_) rfl ?_ ?_; rotate_left; first | assumption | exact rfl) | (refine WR.iadr (v := ?_) rfl rfl ?_ ?_; rotate_left; assumption) | (refine WR.fadr (v := ?_) rfl ?_ ?_; rotate_left; first | assumption | exact rfl) | (refine WR.r (v := ?_) rfl rfl (Ld.use (s0 := ?_) ?_ ?_) ?_; rotate_left; rotate_left; assumption; assumption) | (refine WR.r (v := ?_) rfl rfl (Ldn.use (s0 := ?_) ?_ ?_) ?_; rotate_left; rotate_left; assumption; assumption) | (refine WR.bin (v := ?_) rfl rfl ?_ ?_; rotate_left; first | assumption | exact lss_nat _ _ | exact eql_nat _ _ | exact neq_nat _ _ | exact gtr_nat _ _ | exact geq_nat _ _ | exact leq_nat _ _ | exact eql_str _ _ | exact neq_str _ _ | (refine add_nat ?_; omega) | (refine sub_nat ?_ ?_; omega; omega)) | refine WR.pick rfl rfl rfl ?_ | refine WR.un rfl rfl ?_ | refine WR.ext rfl rfl ?_ | refine WR.eq rfl rfl rfl ?_ | refine WR.mkifc rfl ?_)
    (repeat refine WC.seq ?_); refine WC.cond rfl ?_ ?_
    · intro hh; cases hh
    intro _
    (repeat refine WC.seq ?_); refine WC.skip ?_
    (repeat refine WC.seq ?_); refine WC.regX hs11 fun s12 hs12 hx12 ho12 hn12 => ?_
    repeat (first | refine WR.nil ?_ | refine WR.guardY rfl ?_ | refine WR.guardN rfl ?_ | refine WR.guardT rfl ?_ | refine WR.mov rfl ?_ | refine WR.nilchk rfl ?_ | (refine WR.len (v := ?_) rfl ?_ ?_; rotate_left; first | assumption | exact rfl) | (refine WR.iadr (v := ?_) rfl rfl ?_ ?_; rotate_left; assumption) | (refine WR.fadr (v := ?_) rfl ?_ ?_; rotate_left; first | assumption | exact rfl) | (refine WR.r (v := ?_) rfl rfl (Ld.use (s0 := ?_) ?_ ?_) ?_; rotate_left; rotate_left; assumption; assumption) | (refine WR.r (v := ?_) rfl rfl (Ldn.use (s0 := ?_) ?_ ?_) ?_; rotate_left; rotate_left; assumption; assumption) | (refine WR.bin (v := ?_) rfl rfl ?_ ?_; rotate_left; first | assumption | exact lss_nat _ _ | exact eql_nat _ _ | exact neq_nat _ _ | exact gtr_nat _ _ | exact geq_nat _ _ | exact leq_nat _ _ | exact eql_str _ _ | exact neq_str _ _ | (refine add_nat ?_; omega) | (refine sub_nat ?_ ?_; omega; omega)) | refine WR.pick rfl rfl rfl ?_ | refine WR.un rfl rfl ?_ | refine WR.ext rfl rfl ?_ | refine WR.eq rfl rfl rfl ?_ | refine WR.mkifc rfl ?_)
    have h12 := h10.ext hs12
    refine WR.mupd rfl rfl rfl (h12.maps _ hm).2.2 ?_
    refine WR.nil ?_
    obtain ⟨h13, f13⟩ := h12.setTab hm (putE k v tb.ck tb.es) (putC k tb.ck tb.es)
    have f013 := ((HFr.ext (H := H) (x1.trans hs9)).trans (f10.trans (HFr.ext hs12))).trans f13
    (repeat refine WC.seq ?_); refine WC.regX (Ext.refl _) fun s14 hs14 hx14 ho14 hn14 => ?_
    repeat (first | refine WR.nil ?_ | refine WR.guardY rfl ?_ | refine WR.guardN rfl ?_ | refine WR.guardT rfl ?_ | refine WR.mov rfl ?_ | refine WR.nilchk rfl ?_ | (refine WR.len (v := ?_) rfl ?_ ?_; rotate_left; first | assumption | exact rfl) | (refine WR.iadr (v := ?_) rfl rfl ?_ ?_; rotate_left; assumption) | (refine WR.fadr (v := ?_) rfl ?_ ?_; rotate_left; first | assumption | exact rfl) | (refine WR.r (v := ?_) rfl rfl (Ld.use (s0 := ?_) ?_ ?_) ?_; rotate_left; rotate_left; assumption; assumption) | (refine WR.r (v := ?_) rfl rfl (Ldn.use (s0 := ?_) ?_ ?_) ?_; rotate_left; rotate_left; assumption; assumption) | (refine WR.bin (v := ?_) rfl rfl ?_ ?_; rotate_left; first | assumption | exact lss_nat _ _ | exact eql_nat _ _ | exact neq_nat _ _ | exact gtr_nat _ _ | exact geq_nat _ _ | exact leq_nat _ _ | exact eql_str _ _ | exact neq_str _ _ | (refine add_nat ?_; omega) | (refine sub_nat ?_ ?_; omega; omega)) | refine WR.pick rfl rfl rfl ?_ | refine WR.un rfl rfl ?_ | refine WR.ext rfl rfl ?_ | refine WR.eq rfl rfl rfl ?_ | refine WR.mkifc rfl ?_)
    (repeat refine WC.seq ?_); refine WC.ret ?_
    exact ⟨.inr rfl, _, rfl, ⟨h13.ext hs14, f013.trans (HFr.ext hs14)⟩, rfl⟩
  obtain ⟨_, s', e, k, rfl⟩ := this
  exact ⟨s', e, k⟩
end
end Go.Proofs.Ytggpnokhhpnnaaa

namespace Go.Proofs.Ytggpnokhhpnnaaa
open Go Go.Abs
/-- A step that tells a code. -/
structure Step (s : St) (lo : Nat) (H : HM) (s' : St) (c : Nat) (H' : HM) : Prop where
  at_ : HeapAt s' lo H'
  ok : HeapOk H'
  fr : HFr H H' s s'
  hid : H'.hid = H.hid
  room : H'.room = H.room
  same : c ≠ 0 → H'.used = H.used
  full : c = 8 → H.used = H.room
section
variable {s : St} {lo : Nat} {H : HM} {t k v : Val} {tb : Tb}
theorem Step.id {s' : St} {c : Nat} (h : HeapAt s lo H) (ok : HeapOk H) (x : Ext s s') (hc : c = 8 → H.used = H.room) : Step s lo H s' c H := ⟨h.ext x, ok, HFr.ext x, rfl, rfl, fun _ => rfl, hc⟩
theorem tableS (n : Nat) (h : HeapAt s lo H) (ok : HeapOk H) : ∃ s' c H' r, acall F0 E15 (n + 3) 12 [H.p] s = some (.tup [valA r, .int .i64 (.ofNat c)], s') ∧ Step s lo H s' c H' := by
  have hcnt := ok.count
  by_cases he : H.used = H.room
  · obtain ⟨s', e, x⟩ := (table_ n h ok).1 he
    exact ⟨s', _, H, _, e, Step.id h ok x fun _ => he⟩
  · obtain ⟨s', w, M, e, h1, f1⟩ := (table_ n h ok).2 (by have := ok.fit; omega)
    refine ⟨s', _, _, _, e, h1, ⟨?_, by have := ok.fit; simp only; omega, ok.big⟩, f1, rfl, rfl, fun hh => absurd rfl hh, fun hh => by cases hh⟩
    simp only [List.length_append, List.length_singleton, List.map_append, List.map_cons, List.map_nil, List.sum_append, List.sum_cons, List.sum_nil, List.length_nil]
    omega
theorem fnS (n : Nat) (h : HeapAt s lo H) (ok : HeapOk H) {u p : Int} {cv : AV} {crows : List (List AV)} (hc : Slv s 1 cv crows) (hcd : ∀ id, ¬ offId cv id → ¬ Foot H id) (hcl : crows.length ≤ 1000) :
    ∃ s' c H' r, acall F0 E15 (n + 3) 13 [H.p, .agg [.int .i64 u, .int .i64 p, cv]] s = some (.tup [valA r, .int .i64 (.ofNat c)], s') ∧ Step s lo H s' c H' := by
  have hcnt := ok.count
  by_cases he : H.used = H.room
  · obtain ⟨s', e, x⟩ := (fn_ n h ok hc hcd hcl).1 he
    exact ⟨s', _, H, _, e, Step.id h ok x fun _ => he⟩
  · obtain ⟨s', w, c, e, h1, f1, _⟩ := (fn_ n h ok hc hcd hcl).2 (by have := ok.fit; omega)
    refine ⟨s', _, _, _, e, h1, ⟨?_, by have := ok.fit; simp only; omega, ok.big⟩, f1, rfl, rfl, fun hh => absurd rfl hh, fun hh => by cases hh⟩
    simp only [List.length_append, List.length_singleton]
    omega
theorem putS (n : Nat) (h : HeapAt s lo H) (ok : HeapOk H) (t k v : Val) : ∃ s' c H', acall F0 E15 (n + 4) 14 [H.p, valA t, valA k, valA v] s = some (.int .i64 (.ofNat c), s') ∧ Step s lo H s' c H' := by
  have hcnt := ok.count
  have hfit := ok.fit
  have hbig := ok.big
  cases hb : atBad H t k with
  | some c =>
    have hc : c ≠ 0 ∧ c ≠ 8 := by
      unfold atBad at hb
      split at hb
      · simp at hb; omega
      · split at hb
        · cases hb
        · simp at hb; omega
    obtain ⟨s', e, x⟩ := putBad_ (v := v) n h ok hb hc.1
    exact ⟨s', c, H, e, Step.id h ok x fun hh => absurd hh hc.2⟩
  | none =>
    obtain ⟨tb, ht, hk⟩ : ∃ tb, tabOf H t = some tb ∧ isKey k = true := by
      unfold atBad at hb
      split at hb
      · cases hb
      · rename_i tb ht
        refine ⟨tb, ht, ?_⟩
        cases hq : isKey k with
        | true => rfl
        | false => rw [hq] at hb; cases hb
    have hm := tabOf_mem ht
    cases hu : under k tb.es with
    | some p =>
      obtain ⟨w, j⟩ := p
      by_cases hv : v.k = 0
      · obtain ⟨s', e, h1, f1⟩ := putDel_ n h ok ht hk hu hv
        have c1 := count_set h ok hm (delE k tb.es) tb.ck
        have c2 := delE_len k tb.es
        rw [hu] at c2
        simp at c2
        refine ⟨s', 0, _, e, h1, ⟨?_, ?_, hbig⟩, f1, rfl, rfl, fun hh => absurd rfl hh, fun hh => by cases hh⟩
        · simp only; have : (HM.setT H tb.id (delE k tb.es) tb.ck).fns = H.fns := rfl
          rw [this]; omega
        · show H.used - 1 ≤ H.room
          omega
      · obtain ⟨s', e, h1, f1⟩ := putOver_ n h ok ht hk hu hv
        have c1 := count_set h ok hm (putE k v tb.ck tb.es) (putC k tb.ck tb.es)
        have c2 := putE_len k v tb.ck tb.es
        rw [hu] at c2
        simp at c2
        refine ⟨s', 0, _, e, h1, ⟨?_, hfit, hbig⟩, f1, rfl, rfl, fun hh => absurd rfl hh, fun hh => by cases hh⟩
        show H.used = (HM.setT H tb.id (putE k v tb.ck tb.es) (putC k tb.ck tb.es)).tabs.length + H.fns.length + _
        omega
    | none =>
      by_cases hv : v.k = 0
      · obtain ⟨s', e, x⟩ := putNil_ n h ok ht hk hu hv
        exact ⟨s', 0, H, e, Step.id h ok x fun hh => by cases hh⟩
      · by_cases hr : H.used = H.room
        · obtain ⟨s', e, x⟩ := putFull_ n h ok ht hk hu hv hr
          exact ⟨s', 8, H, e, Step.id h ok x fun _ => hr⟩
        · obtain ⟨s', e, h1, f1⟩ := putNew_ n h ok ht hk hu hv (by omega)
          have c1 := count_set h ok hm (putE k v tb.ck tb.es) (putC k tb.ck tb.es)
          have c2 := putE_len k v tb.ck tb.es
          rw [hu] at c2
          simp at c2
          refine ⟨s', 0, _, e, h1, ⟨?_, ?_, hbig⟩, f1, rfl, rfl, fun hh => absurd rfl hh, fun hh => by cases hh⟩
          · show H.used + 1 = (HM.setT H tb.id (putE k v tb.ck tb.es) (putC k tb.ck tb.es)).tabs.length + H.fns.length + ((HM.setT H tb.id (putE k v tb.ck tb.es) (putC k tb.ck tb.es)).tabs.map fun t => t.es.length).sum
            omega
          · show H.used + 1 ≤ H.room
            omega
/-- A new heap. -/
theorem new_ (n : Nat) {m : Nat} (hm : m ≤ 1000000) (hlo : lo ≤ s.next) : ∃ s' hid, acall F0 E15 (n + 1) 9 [.int .i64 (.ofNat m)] s = some (.tup [.ptr hid 0 0 6, .int .i64 (.ofNat 0)], s') ∧ Ext s s' ∧ s.next ≤ hid ∧
    HeapAt s' lo ⟨hid, m, 0, .nilslc, .nilslc, .nilslc, [], [], []⟩ ∧ HeapOk ⟨hid, m, 0, .nilslc, .nilslc, .nilslc, [], [], []⟩ := by
  have : ∃ w s', acall F0 E15 (n + 1) 9 [.int .i64 (.ofNat m)] s = some (w, s') ∧ ∃ hid, (Ext s s' ∧ s.next ≤ hid ∧ HeapAt s' lo ⟨hid, m, 0, .nilslc, .nilslc, .nilslc, [], [], []⟩) ∧ w = .tup [.ptr hid 0 0 6, .int .i64 (.ofNat 0)] := by
    refine acall_of rfl comp9 (Nat.le_of_ble_eq_true rfl) ?_
    have q1 := lssF (a := m) (b := 0) (by omega)
    have q2 := gtrF (a := m) (b := 1000000) (by omega)
    (repeat refine WC.seq ?_); refine WC.regX (Ext.refl s) fun s1 hs1 hx1 ho1 hn1 => ?_
    repeat (first | refine WR.nil ?_ | refine WR.guardY rfl ?_ | refine WR.guardN rfl ?_ | refine WR.guardT rfl ?_ | refine WR.mov rfl ?_ | refine WR.nilchk rfl ?_ | (refine WR.len (v := ?_) rfl ?_ ?_; rotate_left; first | assumption | exact rfl) | (refine WR.iadr (v := ?_) rfl rfl ?_ ?_; rotate_left; assumption) | (refine WR.fadr (v := ?_) rfl ?_ ?_; rotate_left; first | assumption | exact rfl) | (refine WR.r (v := ?_) rfl rfl (Ld.use (s0 := ?_) ?_ ?_) ?_; rotate_left; rotate_left; assumption; assumption) | (refine WR.r (v := ?_) rfl rfl (Ldn.use (s0 := ?_) ?_ ?_) ?_; rotate_left; rotate_left; assumption; assumption) | (refine WR.bin (v := ?_) rfl rfl ?_ ?_; rotate_left; first | assumption | exact lss_nat _ _ | exact eql_nat _ _ | exact neq_nat _ _ | exact gtr_nat _ _ | exact geq_nat _ _ | exact leq_nat _ _ | exact eql_str _ _ | exact neq_str _ _ | (refine add_nat ?_; omega) | (refine sub_nat ?_ ?_; omega; omega)) | refine WR.pick rfl rfl rfl ?_ | refine WR.un rfl rfl ?_ | refine WR.ext rfl rfl ?_ | refine WR.eq rfl rfl rfl ?_ | refine WR.mkifc rfl ?_)
    (repeat refine WC.seq ?_); refine WC.regX hs1 fun s2 hs2 hx2 ho2 hn2 => ?_
    repeat (first | refine WR.nil ?_ | refine WR.guardY rfl ?_ | refine WR.guardN rfl ?_ | refine WR.guardT rfl ?_ | refine WR.mov rfl ?_ | refine WR.nilchk rfl ?_ | (refine WR.len (v := ?_) rfl ?_ ?_; rotate_left; first | assumption | exact rfl) | (refine WR.iadr (v := ?_) rfl rfl ?_ ?_; rotate_left; assumption) | (refine WR.fadr (v := ?_) rfl ?_ ?_; rotate_left; first | assumption | exact rfl) | (refine WR.r (v := ?_) rfl rfl (Ld.use (s0 := ?_) ?_ ?_) ?_; rotate_left; rotate_left; assumption; assumption) | (refine WR.r (v := ?_) rfl rfl (Ldn.use (s0 := ?_) ?_ ?_) ?_; rotate_left; rotate_left; assumption; assumption) | (refine WR.bin (v := ?_) rfl rfl ?_ ?_; rotate_left; first | assumption | exact lss_nat _ _ | exact eql_nat _ _ | exact neq_nat _ _ | exact gtr_nat _ _ | exact geq_nat _ _ | exact leq_nat _ _ | exact eql_str _ _ | exact neq_str _ _ | (refine add_nat ?_; omega) | (refine sub_nat ?_ ?_; omega; omega)) | refine WR.pick rfl rfl rfl ?_ | refine WR.un rfl rfl ?_ | refine WR.ext rfl rfl ?_ | refine WR.eq rfl rfl rfl ?_ | refine WR.mkifc rfl ?_)
    (repeat refine WC.seq ?_); refine WC.cond rfl ?_ ?_
    · intro hh; cases hh
    · intro _
      (repeat refine WC.seq ?_); refine WC.skip ?_
      (repeat refine WC.seq ?_); refine WC.regX hs2 fun s3 hs3 hx3 ho3 hn3 => ?_
      repeat (first | refine WR.nil ?_ | refine WR.guardY rfl ?_ | refine WR.guardN rfl ?_ | refine WR.guardT rfl ?_ | refine WR.mov rfl ?_ | refine WR.nilchk rfl ?_ | (refine WR.len (v := ?_) rfl ?_ ?_; rotate_left; first | assumption | exact rfl) | (refine WR.iadr (v := ?_) rfl rfl ?_ ?_; rotate_left; assumption) | (refine WR.fadr (v := ?_) rfl ?_ ?_; rotate_left; first | assumption | exact rfl) | (refine WR.r (v := ?_) rfl rfl (Ld.use (s0 := ?_) ?_ ?_) ?_; rotate_left; rotate_left; assumption; assumption) | (refine WR.r (v := ?_) rfl rfl (Ldn.use (s0 := ?_) ?_ ?_) ?_; rotate_left; rotate_left; assumption; assumption) | (refine WR.bin (v := ?_) rfl rfl ?_ ?_; rotate_left; first | assumption | exact lss_nat _ _ | exact eql_nat _ _ | exact neq_nat _ _ | exact gtr_nat _ _ | exact geq_nat _ _ | exact leq_nat _ _ | exact eql_str _ _ | exact neq_str _ _ | (refine add_nat ?_; omega) | (refine sub_nat ?_ ?_; omega; omega)) | refine WR.pick rfl rfl rfl ?_ | refine WR.un rfl rfl ?_ | refine WR.ext rfl rfl ?_ | refine WR.eq rfl rfl rfl ?_ | refine WR.mkifc rfl ?_)
      refine WR.build (cs := [.bool true, .int .i64 (.ofNat m), .int .i64 (.ofNat 0), .nilslc, .nilslc, .nilslc]) rfl ?_
      refine WR.box rfl rfl ?_
      repeat (first | refine WR.nil ?_ | refine WR.guardY rfl ?_ | refine WR.guardN rfl ?_ | refine WR.guardT rfl ?_ | refine WR.mov rfl ?_ | refine WR.nilchk rfl ?_ | (refine WR.len (v := ?_) rfl ?_ ?_; rotate_left; first | assumption | exact rfl) | (refine WR.iadr (v := ?_) rfl rfl ?_ ?_; rotate_left; assumption) | (refine WR.fadr (v := ?_) rfl ?_ ?_; rotate_left; first | assumption | exact rfl) | (refine WR.r (v := ?_) rfl rfl (Ld.use (s0 := ?_) ?_ ?_) ?_; rotate_left; rotate_left; assumption; assumption) | (refine WR.r (v := ?_) rfl rfl (Ldn.use (s0 := ?_) ?_ ?_) ?_; rotate_left; rotate_left; assumption; assumption) | (refine WR.bin (v := ?_) rfl rfl ?_ ?_; rotate_left; first | assumption | exact lss_nat _ _ | exact eql_nat _ _ | exact neq_nat _ _ | exact gtr_nat _ _ | exact geq_nat _ _ | exact leq_nat _ _ | exact eql_str _ _ | exact neq_str _ _ | (refine add_nat ?_; omega) | (refine sub_nat ?_ ?_; omega; omega)) | refine WR.pick rfl rfl rfl ?_ | refine WR.un rfl rfl ?_ | refine WR.ext rfl rfl ?_ | refine WR.eq rfl rfl rfl ?_ | refine WR.mkifc rfl ?_)
      (repeat refine WC.seq ?_); refine WC.ret ?_
      have hle := hs2.next
      have m3 : s3.next = s2.next + 5 := hn3
      refine ⟨.inr rfl, _, rfl, s2.next + 1 + 1, ⟨hs3.put (by omega) _, by omega, ?_⟩, rfl⟩
      refine ⟨by rw [get_put, if_pos rfl]; rfl, ?_, ?_, Own.nil ?_, Own.nil ?_, Own.nil ?_, by simp, by simp, fun _ => .inl trivial, fun _ => .inl trivial, fun _ => .inl trivial, trivial, trivial, trivial⟩
      · show s2.next + 1 + 1 < s3.next; omega
      · show lo ≤ s2.next + 1 + 1; omega
      all_goals (show lo ≤ s3.next; omega)
  obtain ⟨_, s', e, hid, ⟨k1, k2, k3⟩, rfl⟩ := this
  exact ⟨s', hid, e, k1, k2, k3, ⟨rfl, Nat.zero_le _, hm⟩⟩
theorem awrap64 {x : Int} (h1 : -9223372036854775808 ≤ x) (h2 : x ≤ 9223372036854775807) : awrap .i64 x = x := by
  cases x with
  | ofNat a =>
    have : a ≤ 9223372036854775807 := by simp at h2; omega
    simp only [awrap, top]
    rw [Nat.ble_eq_true_of_le this]; rfl
  | negSucc a =>
    have : a ≤ 9223372036854775807 := by rw [Int.negSucc_eq] at h1; omega
    simp only [awrap]
    rw [Nat.ble_eq_true_of_le this]; rfl
/-- A small number of any number. -/
theorem count_ (n : Nat) {x : Int} (h1 : -9223372036854775808 ≤ x) (h2 : x ≤ 9223372036854775807) : ∃ s' m, acall F0 E15 (n + 1) 8 [.int .i64 x, .int .i64 (.ofNat 20)] s = some (.int .i64 (.ofNat m), s') ∧ Ext s s' ∧ m < 20 := by
  have key : ∀ y : Int, 0 ≤ y → ∃ m : Nat, m < 20 ∧ abin .rem (.int .i64 y) (.int .i64 (.ofNat 20)) = some (.int .i64 (.ofNat m)) := by
    intro y hy
    obtain ⟨a, rfl⟩ := Int.eq_ofNat_of_zero_le hy
    refine ⟨a % 20, Nat.mod_lt _ (by decide), ?_⟩
    rw [rem_int _ (by decide)]
    rfl
  have : ∃ w s', acall F0 E15 (n + 1) 8 [.int .i64 x, .int .i64 (.ofNat 20)] s = some (w, s') ∧ (∃ m, (Ext s s' ∧ m < 20) ∧ w = .int .i64 (.ofNat m)) := by
    refine acall_of rfl comp8 (Nat.le_of_ble_eq_true rfl) ?_
    have q : abin .lss (.int .i64 x) (.int .i64 (.ofNat 0)) = _ := lss_int x (.ofNat 0)
    by_cases hx : x < 0
    · rw [decide_eq_true (show x < Int.ofNat 0 from hx)] at q
      have a1 : abin .add (.int .i64 x) (.int .i64 (.ofNat 1)) = some (.int .i64 (x + 1)) := by
        show some (AV.int .i64 (awrap .i64 (x + Int.ofNat 1))) = _
        rw [awrap64 (by simp; omega) (by simp; omega)]; rfl
      have a2 : apure .e (.un .neg (.c (.int .i64 (x + 1)))) = some (.int .i64 (0 - (x + 1))) := by
        show some (AV.int .i64 (awrap .i64 (0 - (x + 1)))) = _
        rw [awrap64 (by omega) (by omega)]
      obtain ⟨m, m1, m2⟩ := key (0 - (x + 1)) (by omega)
      (repeat refine WC.seq ?_); refine WC.regX (Ext.refl s) fun s1 hs1 hx1 ho1 hn1 => ?_
      repeat (first | refine WR.nil ?_ | refine WR.guardY rfl ?_ | refine WR.guardN rfl ?_ | refine WR.guardT rfl ?_ | refine WR.mov rfl ?_ | refine WR.nilchk rfl ?_ | (refine WR.len (v := ?_) rfl ?_ ?_; rotate_left; first | assumption | exact rfl) | (refine WR.iadr (v := ?_) rfl rfl ?_ ?_; rotate_left; assumption) | (refine WR.fadr (v := ?_) rfl ?_ ?_; rotate_left; first | assumption | exact rfl) | (refine WR.r (v := ?_) rfl rfl (Ld.use (s0 := ?_) ?_ ?_) ?_; rotate_left; rotate_left; assumption; assumption) | (refine WR.r (v := ?_) rfl rfl (Ldn.use (s0 := ?_) ?_ ?_) ?_; rotate_left; rotate_left; assumption; assumption) | (refine WR.bin (v := ?_) rfl rfl ?_ ?_; rotate_left; first | assumption | exact lss_nat _ _ | exact eql_nat _ _ | exact neq_nat _ _ | exact gtr_nat _ _ | exact geq_nat _ _ | exact leq_nat _ _ | exact eql_str _ _ | exact neq_str _ _ | (refine add_nat ?_; omega) | (refine sub_nat ?_ ?_; omega; omega)) | refine WR.pick rfl rfl rfl ?_ | refine WR.un rfl rfl ?_ | refine WR.ext rfl rfl ?_ | refine WR.eq rfl rfl rfl ?_ | refine WR.mkifc rfl ?_)
      (repeat refine WC.seq ?_); refine WC.regX hs1 fun s2 hs2 hx2 ho2 hn2 => ?_
      repeat (first | refine WR.nil ?_ | refine WR.guardY rfl ?_ | refine WR.guardN rfl ?_ | refine WR.guardT rfl ?_ | refine WR.mov rfl ?_ | refine WR.nilchk rfl ?_ | (refine WR.len (v := ?_) rfl ?_ ?_; rotate_left; first | assumption | exact rfl) | (refine WR.iadr (v := ?_) rfl rfl ?_ ?_; rotate_left; assumption) | (refine WR.fadr (v := ?_) rfl ?_ ?_; rotate_left; first | assumption | exact rfl) | (refine WR.r (v := ?_) rfl rfl (Ld.use (s0 := ?_) ?_ ?_) ?_; rotate_left; rotate_left; assumption; assumption) | (refine WR.r (v := ?_) rfl rfl (Ldn.use (s0 := ?_) ?_ ?_) ?_; rotate_left; rotate_left; assumption; assumption) | (refine WR.bin (v := ?_) rfl rfl ?_ ?_; rotate_left; first | assumption | exact lss_nat _ _ | exact eql_nat _ _ | exact neq_nat _ _ | exact gtr_nat _ _ | exact geq_nat _ _ | exact leq_nat _ _ | exact eql_str _ _ | exact neq_str _ _ | (refine add_nat ?_; omega) | (refine sub_nat ?_ ?_; omega; omega)) | refine WR.pick rfl rfl rfl ?_ | refine WR.un rfl rfl ?_ | refine WR.ext rfl rfl ?_ | refine WR.eq rfl rfl rfl ?_ | refine WR.mkifc rfl ?_)
      (repeat refine WC.seq ?_); refine WC.cond rfl ?_ ?_
      · intro _
        (repeat refine WC.seq ?_); refine WC.regX hs2 fun s3 hs3 hx3 ho3 hn3 => ?_
        refine WR.mov rfl ?_
        refine WR.bin rfl rfl a1 ?_
        refine WR.un rfl a2 ?_
        repeat (first | refine WR.nil ?_ | refine WR.guardY rfl ?_ | refine WR.guardN rfl ?_ | refine WR.guardT rfl ?_ | refine WR.mov rfl ?_ | refine WR.nilchk rfl ?_ | (refine WR.len (v := ?_) rfl ?_ ?_; rotate_left; first | assumption | exact rfl) | (refine WR.iadr (v := ?_) rfl rfl ?_ ?_; rotate_left; assumption) | (refine WR.fadr (v := ?_) rfl ?_ ?_; rotate_left; first | assumption | exact rfl) | (refine WR.r (v := ?_) rfl rfl (Ld.use (s0 := ?_) ?_ ?_) ?_; rotate_left; rotate_left; assumption; assumption) | (refine WR.r (v := ?_) rfl rfl (Ldn.use (s0 := ?_) ?_ ?_) ?_; rotate_left; rotate_left; assumption; assumption) | (refine WR.bin (v := ?_) rfl rfl ?_ ?_; rotate_left; first | assumption | exact lss_nat _ _ | exact eql_nat _ _ | exact neq_nat _ _ | exact gtr_nat _ _ | exact geq_nat _ _ | exact leq_nat _ _ | exact eql_str _ _ | exact neq_str _ _ | (refine add_nat ?_; omega) | (refine sub_nat ?_ ?_; omega; omega)) | refine WR.pick rfl rfl rfl ?_ | refine WR.un rfl rfl ?_ | refine WR.ext rfl rfl ?_ | refine WR.eq rfl rfl rfl ?_ | refine WR.mkifc rfl ?_)
        (repeat refine WC.seq ?_); refine WC.regX hs3 fun s4 hs4 hx4 ho4 hn4 => ?_
        repeat (first | refine WR.nil ?_ | refine WR.guardY rfl ?_ | refine WR.guardN rfl ?_ | refine WR.guardT rfl ?_ | refine WR.mov rfl ?_ | refine WR.nilchk rfl ?_ | (refine WR.len (v := ?_) rfl ?_ ?_; rotate_left; first | assumption | exact rfl) | (refine WR.iadr (v := ?_) rfl rfl ?_ ?_; rotate_left; assumption) | (refine WR.fadr (v := ?_) rfl ?_ ?_; rotate_left; first | assumption | exact rfl) | (refine WR.r (v := ?_) rfl rfl (Ld.use (s0 := ?_) ?_ ?_) ?_; rotate_left; rotate_left; assumption; assumption) | (refine WR.r (v := ?_) rfl rfl (Ldn.use (s0 := ?_) ?_ ?_) ?_; rotate_left; rotate_left; assumption; assumption) | (refine WR.bin (v := ?_) rfl rfl ?_ ?_; rotate_left; first | assumption | exact lss_nat _ _ | exact eql_nat _ _ | exact neq_nat _ _ | exact gtr_nat _ _ | exact geq_nat _ _ | exact leq_nat _ _ | exact eql_str _ _ | exact neq_str _ _ | (refine add_nat ?_; omega) | (refine sub_nat ?_ ?_; omega; omega)) | refine WR.pick rfl rfl rfl ?_ | refine WR.un rfl rfl ?_ | refine WR.ext rfl rfl ?_ | refine WR.eq rfl rfl rfl ?_ | refine WR.mkifc rfl ?_)
        (repeat refine WC.seq ?_); refine WC.ret ?_
        exact ⟨.inr rfl, _, rfl, m, ⟨hs4, m1⟩, rfl⟩
      · intro hh; cases hh
    · rw [decide_eq_false (show ¬ x < Int.ofNat 0 from hx)] at q
      obtain ⟨m, m1, m2⟩ := key x (by omega)
      (repeat refine WC.seq ?_); refine WC.regX (Ext.refl s) fun s1 hs1 hx1 ho1 hn1 => ?_
      repeat (first | refine WR.nil ?_ | refine WR.guardY rfl ?_ | refine WR.guardN rfl ?_ | refine WR.guardT rfl ?_ | refine WR.mov rfl ?_ | refine WR.nilchk rfl ?_ | (refine WR.len (v := ?_) rfl ?_ ?_; rotate_left; first | assumption | exact rfl) | (refine WR.iadr (v := ?_) rfl rfl ?_ ?_; rotate_left; assumption) | (refine WR.fadr (v := ?_) rfl ?_ ?_; rotate_left; first | assumption | exact rfl) | (refine WR.r (v := ?_) rfl rfl (Ld.use (s0 := ?_) ?_ ?_) ?_; rotate_left; rotate_left; assumption; assumption) | (refine WR.r (v := ?_) rfl rfl (Ldn.use (s0 := ?_) ?_ ?_) ?_; rotate_left; rotate_left; assumption; assumption) | (refine WR.bin (v := ?_) rfl rfl ?_ ?_; rotate_left; first | assumption | exact lss_nat _ _ | exact eql_nat _ _ | exact neq_nat _ _ | exact gtr_nat _ _ | exact geq_nat _ _ | exact leq_nat _ _ | exact eql_str _ _ | exact neq_str _ _ | (refine add_nat ?_; omega) | (refine sub_nat ?_ ?_; omega; omega)) | refine WR.pick rfl rfl rfl ?_ | refine WR.un rfl rfl ?_ | refine WR.ext rfl rfl ?_ | refine WR.eq rfl rfl rfl ?_ | refine WR.mkifc rfl ?_)
      (repeat refine WC.seq ?_); refine WC.regX hs1 fun s2 hs2 hx2 ho2 hn2 => ?_
      repeat (first | refine WR.nil ?_ | refine WR.guardY rfl ?_ | refine WR.guardN rfl ?_ | refine WR.guardT rfl ?_ | refine WR.mov rfl ?_ | refine WR.nilchk rfl ?_ | (refine WR.len (v := ?_) rfl ?_ ?_; rotate_left; first | assumption | exact rfl) | (refine WR.iadr (v := ?_) rfl rfl ?_ ?_; rotate_left; assumption) | (refine WR.fadr (v := ?_) rfl ?_ ?_; rotate_left; first | assumption | exact rfl) | (refine WR.r (v := ?_) rfl rfl (Ld.use (s0 := ?_) ?_ ?_) ?_; rotate_left; rotate_left; assumption; assumption) | (refine WR.r (v := ?_) rfl rfl (Ldn.use (s0 := ?_) ?_ ?_) ?_; rotate_left; rotate_left; assumption; assumption) | (refine WR.bin (v := ?_) rfl rfl ?_ ?_; rotate_left; first | assumption | exact lss_nat _ _ | exact eql_nat _ _ | exact neq_nat _ _ | exact gtr_nat _ _ | exact geq_nat _ _ | exact leq_nat _ _ | exact eql_str _ _ | exact neq_str _ _ | (refine add_nat ?_; omega) | (refine sub_nat ?_ ?_; omega; omega)) | refine WR.pick rfl rfl rfl ?_ | refine WR.un rfl rfl ?_ | refine WR.ext rfl rfl ?_ | refine WR.eq rfl rfl rfl ?_ | refine WR.mkifc rfl ?_)
      (repeat refine WC.seq ?_); refine WC.cond rfl ?_ ?_
      · intro hh; cases hh
      · intro _
        (repeat refine WC.seq ?_); refine WC.skip ?_
        (repeat refine WC.seq ?_); refine WC.regX hs2 fun s4 hs4 hx4 ho4 hn4 => ?_
        repeat (first | refine WR.nil ?_ | refine WR.guardY rfl ?_ | refine WR.guardN rfl ?_ | refine WR.guardT rfl ?_ | refine WR.mov rfl ?_ | refine WR.nilchk rfl ?_ | (refine WR.len (v := ?_) rfl ?_ ?_; rotate_left; first | assumption | exact rfl) | (refine WR.iadr (v := ?_) rfl rfl ?_ ?_; rotate_left; assumption) | (refine WR.fadr (v := ?_) rfl ?_ ?_; rotate_left; first | assumption | exact rfl) | (refine WR.r (v := ?_) rfl rfl (Ld.use (s0 := ?_) ?_ ?_) ?_; rotate_left; rotate_left; assumption; assumption) | (refine WR.r (v := ?_) rfl rfl (Ldn.use (s0 := ?_) ?_ ?_) ?_; rotate_left; rotate_left; assumption; assumption) | (refine WR.bin (v := ?_) rfl rfl ?_ ?_; rotate_left; first | assumption | exact lss_nat _ _ | exact eql_nat _ _ | exact neq_nat _ _ | exact gtr_nat _ _ | exact geq_nat _ _ | exact leq_nat _ _ | exact eql_str _ _ | exact neq_str _ _ | (refine add_nat ?_; omega) | (refine sub_nat ?_ ?_; omega; omega)) | refine WR.pick rfl rfl rfl ?_ | refine WR.un rfl rfl ?_ | refine WR.ext rfl rfl ?_ | refine WR.eq rfl rfl rfl ?_ | refine WR.mkifc rfl ?_)
        (repeat refine WC.seq ?_); refine WC.ret ?_
        exact ⟨.inr rfl, _, rfl, m, ⟨hs4, m1⟩, rfl⟩
  obtain ⟨_, s', e, m, ⟨k1, k2⟩, rfl⟩ := this
  exact ⟨s', m, e, k1, k2⟩
end
end Go.Proofs.Ytggpnokhhpnnaaa
