/- Contracts: whether a value is right, may be a key, and whether an op's parts are small: some answer. -/
import Derived.Test.YtggpnokhhpnnaaaHeapB
set_option autoImplicit false
set_option maxRecDepth 100000
set_option linter.unusedVariables false
namespace Go.Proofs.Ytggpnokhhpnnaaa
open Go Go.Abs
section
variable {s : St}
theorem is_ (n : Nat) (v : Val) : ∃ s' b, acall F0 E15 (n + 1) 21 [valA v] s = some (.bool b, s') ∧ Ext s s' := by
  have : ∃ w s', acall F0 E15 (n + 1) 21 [valA v] s = some (w, s') ∧ (∃ b, Ext s s' ∧ w = .bool b) := by
    refine acall_of rfl comp21 (Nat.le_of_ble_eq_true rfl) ?_
    (repeat refine WC.seq ?_); refine WC.regX (Ext.refl s) fun s1 hs1 hx1 ho1 hn1 => ?_
    refine WR.box rfl rfl ?_
    repeat (first | refine WR.nil ?_ | refine WR.guardY rfl ?_ | refine WR.guardN rfl ?_ | refine WR.guardT rfl ?_ | refine WR.mov rfl ?_ | refine WR.nilchk rfl ?_ | (refine WR.len (v := ?_) rfl ?_ ?_; rotate_left; first | assumption | exact rfl) | (refine WR.iadr (v := ?_) rfl rfl ?_ ?_; rotate_left; assumption) | (refine WR.fadr (v := ?_) rfl ?_ ?_; rotate_left; first | assumption | exact rfl) | (refine WR.r (v := ?_) rfl rfl (Ld.use (s0 := ?_) ?_ ?_) ?_; rotate_left; rotate_left; assumption; assumption) | (refine WR.r (v := ?_) rfl rfl (Ldn.use (s0 := ?_) ?_ ?_) ?_; rotate_left; rotate_left; assumption; assumption) | (refine WR.bin (v := ?_) rfl rfl ?_ ?_; rotate_left; first | assumption | exact lss_nat _ _ | exact eql_nat _ _ | exact neq_nat _ _ | exact gtr_nat _ _ | exact geq_nat _ _ | exact leq_nat _ _ | exact eql_str _ _ | exact neq_str _ _ | (refine add_nat ?_; omega) | (refine sub_nat ?_ ?_; omega; omega)) | refine WR.pick rfl rfl rfl ?_ | refine WR.un rfl rfl ?_ | refine WR.ext rfl rfl ?_ | refine WR.eq rfl rfl rfl ?_ | refine WR.mkifc rfl ?_)
    have x1 : Ext s (s1.put s.next (.cells (cellsOf (valA v)) 0 0 false)) := hs1.put (Nat.le_refl _) _
    have b1 : (s1.put s.next (.cells (cellsOf (valA v)) 0 0 false)).objs.get s.next = some (.cells (valR v) 0 0 false) := by rw [get_put, if_pos rfl]; rfl
    have n1 : s.next < (s1.put s.next (.cells (cellsOf (valA v)) 0 0 false)).next := by rw [next_put, hn1]; exact Nat.lt_add_of_pos_right (by decide)
    generalize s1.put s.next (.cells (cellsOf (valA v)) 0 0 false) = sa at x1 b1 n1 ⊢
    have lk := objLd b1 n1 (o := 0) (v := .int .i64 v.k) rfl
    have ln := objLd b1 n1 (o := 1) (v := .int .i64 v.n) rfl
    have ls := objLd b1 n1 (o := 2) (v := .str v.s) rfl
    obtain ⟨r0, q0⟩ := eql_some v.k (.ofNat 0)
    obtain ⟨r2, q2⟩ := eql_some v.k (.ofNat 2)
    obtain ⟨rn, qn⟩ := eql_some v.n (.ofNat 0)
    obtain ⟨rs, qs⟩ := eqs_some v.s []
    obtain ⟨rl, ql⟩ : ∃ r, abin .leq (.int .i64 (.ofNat v.s.length)) (.int .i64 (.ofNat 1024)) = some (.bool r) := ⟨_, leq_nat _ _⟩
    obtain ⟨rg, qg⟩ := geq_some v.k (.ofNat 0)
    obtain ⟨r5, q5⟩ := leq_some v.k (.ofNat 5)
    have hl : apure .e (.len true (.c (.str v.s))) = some (.int .i64 (.ofNat v.s.length)) := rfl
    (repeat refine WC.seq ?_); refine WC.regX (Ext.refl sa) fun s2 hs2 hx2 ho2 hn2 => ?_
    repeat (first | refine WR.nil ?_ | refine WR.guardY rfl ?_ | refine WR.guardN rfl ?_ | refine WR.guardT rfl ?_ | refine WR.mov rfl ?_ | refine WR.nilchk rfl ?_ | (refine WR.len (v := ?_) rfl ?_ ?_; rotate_left; first | assumption | exact rfl) | (refine WR.iadr (v := ?_) rfl rfl ?_ ?_; rotate_left; assumption) | (refine WR.fadr (v := ?_) rfl ?_ ?_; rotate_left; first | assumption | exact rfl) | (refine WR.r (v := ?_) rfl rfl (Ld.use (s0 := ?_) ?_ ?_) ?_; rotate_left; rotate_left; assumption; assumption) | (refine WR.r (v := ?_) rfl rfl (Ldn.use (s0 := ?_) ?_ ?_) ?_; rotate_left; rotate_left; assumption; assumption) | (refine WR.bin (v := ?_) rfl rfl ?_ ?_; rotate_left; first | assumption | exact lss_nat _ _ | exact eql_nat _ _ | exact neq_nat _ _ | exact gtr_nat _ _ | exact geq_nat _ _ | exact leq_nat _ _ | exact eql_str _ _ | exact neq_str _ _ | (refine add_nat ?_; omega) | (refine sub_nat ?_ ?_; omega; omega)) | refine WR.pick rfl rfl rfl ?_ | refine WR.un rfl rfl ?_ | refine WR.ext rfl rfl ?_ | refine WR.eq rfl rfl rfl ?_ | refine WR.mkifc rfl ?_)
    (repeat refine WC.seq ?_); refine WC.blk ?_
    cases r0 with
    | true =>
      (repeat refine WC.seq ?_); refine WC.regX hs2 fun s3 hs3 hx3 ho3 hn3 => ?_
      repeat (first | refine WR.nil ?_ | refine WR.guardY rfl ?_ | refine WR.guardN rfl ?_ | refine WR.guardT rfl ?_ | refine WR.mov rfl ?_ | refine WR.nilchk rfl ?_ | (refine WR.len (v := ?_) rfl ?_ ?_; rotate_left; first | assumption | exact rfl) | (refine WR.iadr (v := ?_) rfl rfl ?_ ?_; rotate_left; assumption) | (refine WR.fadr (v := ?_) rfl ?_ ?_; rotate_left; first | assumption | exact rfl) | (refine WR.r (v := ?_) rfl rfl (Ld.use (s0 := ?_) ?_ ?_) ?_; rotate_left; rotate_left; assumption; assumption) | (refine WR.r (v := ?_) rfl rfl (Ldn.use (s0 := ?_) ?_ ?_) ?_; rotate_left; rotate_left; assumption; assumption) | (refine WR.bin (v := ?_) rfl rfl ?_ ?_; rotate_left; first | assumption | exact lss_nat _ _ | exact eql_nat _ _ | exact neq_nat _ _ | exact gtr_nat _ _ | exact geq_nat _ _ | exact leq_nat _ _ | exact eql_str _ _ | exact neq_str _ _ | (refine add_nat ?_; omega) | (refine sub_nat ?_ ?_; omega; omega)) | refine WR.pick rfl rfl rfl ?_ | refine WR.un rfl rfl ?_ | refine WR.ext rfl rfl ?_ | refine WR.eq rfl rfl rfl ?_ | refine WR.mkifc rfl ?_)
      (repeat refine WC.seq ?_); refine WC.cond rfl ?_ ?_
      · intro _
        cases rn <;>
        · (repeat refine WC.seq ?_); refine WC.regX hs3 fun s4 hs4 hx4 ho4 hn4 => ?_
          repeat (first | refine WR.nil ?_ | refine WR.guardY rfl ?_ | refine WR.guardN rfl ?_ | refine WR.guardT rfl ?_ | refine WR.mov rfl ?_ | refine WR.nilchk rfl ?_ | (refine WR.len (v := ?_) rfl ?_ ?_; rotate_left; first | assumption | exact rfl) | (refine WR.iadr (v := ?_) rfl rfl ?_ ?_; rotate_left; assumption) | (refine WR.fadr (v := ?_) rfl ?_ ?_; rotate_left; first | assumption | exact rfl) | (refine WR.r (v := ?_) rfl rfl (Ld.use (s0 := ?_) ?_ ?_) ?_; rotate_left; rotate_left; assumption; assumption) | (refine WR.r (v := ?_) rfl rfl (Ldn.use (s0 := ?_) ?_ ?_) ?_; rotate_left; rotate_left; assumption; assumption) | (refine WR.bin (v := ?_) rfl rfl ?_ ?_; rotate_left; first | assumption | exact lss_nat _ _ | exact eql_nat _ _ | exact neq_nat _ _ | exact gtr_nat _ _ | exact geq_nat _ _ | exact leq_nat _ _ | exact eql_str _ _ | exact neq_str _ _ | (refine add_nat ?_; omega) | (refine sub_nat ?_ ?_; omega; omega)) | refine WR.pick rfl rfl rfl ?_ | refine WR.un rfl rfl ?_ | refine WR.ext rfl rfl ?_ | refine WR.eq rfl rfl rfl ?_ | refine WR.mkifc rfl ?_)
          (repeat refine WC.seq ?_); refine WC.ret ?_
          exact ⟨.inr rfl, _, rfl, _, x1.trans hs4, rfl⟩
      · intro hh; cases hh
    | false =>
      (repeat refine WC.seq ?_); refine WC.regX hs2 fun s3 hs3 hx3 ho3 hn3 => ?_
      repeat (first | refine WR.nil ?_ | refine WR.guardY rfl ?_ | refine WR.guardN rfl ?_ | refine WR.guardT rfl ?_ | refine WR.mov rfl ?_ | refine WR.nilchk rfl ?_ | (refine WR.len (v := ?_) rfl ?_ ?_; rotate_left; first | assumption | exact rfl) | (refine WR.iadr (v := ?_) rfl rfl ?_ ?_; rotate_left; assumption) | (refine WR.fadr (v := ?_) rfl ?_ ?_; rotate_left; first | assumption | exact rfl) | (refine WR.r (v := ?_) rfl rfl (Ld.use (s0 := ?_) ?_ ?_) ?_; rotate_left; rotate_left; assumption; assumption) | (refine WR.r (v := ?_) rfl rfl (Ldn.use (s0 := ?_) ?_ ?_) ?_; rotate_left; rotate_left; assumption; assumption) | (refine WR.bin (v := ?_) rfl rfl ?_ ?_; rotate_left; first | assumption | exact lss_nat _ _ | exact eql_nat _ _ | exact neq_nat _ _ | exact gtr_nat _ _ | exact geq_nat _ _ | exact leq_nat _ _ | exact eql_str _ _ | exact neq_str _ _ | (refine add_nat ?_; omega) | (refine sub_nat ?_ ?_; omega; omega)) | refine WR.pick rfl rfl rfl ?_ | refine WR.un rfl rfl ?_ | refine WR.ext rfl rfl ?_ | refine WR.eq rfl rfl rfl ?_ | refine WR.mkifc rfl ?_)
      (repeat refine WC.seq ?_); refine WC.cond rfl ?_ ?_
      · intro hh; cases hh
      · intro _
        cases r2 with
        | true =>
          (repeat refine WC.seq ?_); refine WC.regX hs3 fun s4 hs4 hx4 ho4 hn4 => ?_
          repeat (first | refine WR.nil ?_ | refine WR.guardY rfl ?_ | refine WR.guardN rfl ?_ | refine WR.guardT rfl ?_ | refine WR.mov rfl ?_ | refine WR.nilchk rfl ?_ | (refine WR.len (v := ?_) rfl ?_ ?_; rotate_left; first | assumption | exact rfl) | (refine WR.iadr (v := ?_) rfl rfl ?_ ?_; rotate_left; assumption) | (refine WR.fadr (v := ?_) rfl ?_ ?_; rotate_left; first | assumption | exact rfl) | (refine WR.r (v := ?_) rfl rfl (Ld.use (s0 := ?_) ?_ ?_) ?_; rotate_left; rotate_left; assumption; assumption) | (refine WR.r (v := ?_) rfl rfl (Ldn.use (s0 := ?_) ?_ ?_) ?_; rotate_left; rotate_left; assumption; assumption) | (refine WR.bin (v := ?_) rfl rfl ?_ ?_; rotate_left; first | assumption | exact lss_nat _ _ | exact eql_nat _ _ | exact neq_nat _ _ | exact gtr_nat _ _ | exact geq_nat _ _ | exact leq_nat _ _ | exact eql_str _ _ | exact neq_str _ _ | (refine add_nat ?_; omega) | (refine sub_nat ?_ ?_; omega; omega)) | refine WR.pick rfl rfl rfl ?_ | refine WR.un rfl rfl ?_ | refine WR.ext rfl rfl ?_ | refine WR.eq rfl rfl rfl ?_ | refine WR.mkifc rfl ?_)
          (repeat refine WC.seq ?_); refine WC.cond rfl ?_ ?_
          · intro _
            cases rn <;>
            · (repeat refine WC.seq ?_); refine WC.regX hs4 fun s5 hs5 hx5 ho5 hn5 => ?_
              repeat (first | refine WR.nil ?_ | refine WR.guardY rfl ?_ | refine WR.guardN rfl ?_ | refine WR.guardT rfl ?_ | refine WR.mov rfl ?_ | refine WR.nilchk rfl ?_ | (refine WR.len (v := ?_) rfl ?_ ?_; rotate_left; first | assumption | exact rfl) | (refine WR.iadr (v := ?_) rfl rfl ?_ ?_; rotate_left; assumption) | (refine WR.fadr (v := ?_) rfl ?_ ?_; rotate_left; first | assumption | exact rfl) | (refine WR.r (v := ?_) rfl rfl (Ld.use (s0 := ?_) ?_ ?_) ?_; rotate_left; rotate_left; assumption; assumption) | (refine WR.r (v := ?_) rfl rfl (Ldn.use (s0 := ?_) ?_ ?_) ?_; rotate_left; rotate_left; assumption; assumption) | (refine WR.bin (v := ?_) rfl rfl ?_ ?_; rotate_left; first | assumption | exact lss_nat _ _ | exact eql_nat _ _ | exact neq_nat _ _ | exact gtr_nat _ _ | exact geq_nat _ _ | exact leq_nat _ _ | exact eql_str _ _ | exact neq_str _ _ | (refine add_nat ?_; omega) | (refine sub_nat ?_ ?_; omega; omega)) | refine WR.pick rfl rfl rfl ?_ | refine WR.un rfl rfl ?_ | refine WR.ext rfl rfl ?_ | refine WR.eq rfl rfl rfl ?_ | refine WR.mkifc rfl ?_)
              (repeat refine WC.seq ?_); refine WC.ret ?_
              exact ⟨.inr rfl, _, rfl, _, x1.trans hs5, rfl⟩
          · intro hh; cases hh
        | false =>
          (repeat refine WC.seq ?_); refine WC.regX hs3 fun s4 hs4 hx4 ho4 hn4 => ?_
          repeat (first | refine WR.nil ?_ | refine WR.guardY rfl ?_ | refine WR.guardN rfl ?_ | refine WR.guardT rfl ?_ | refine WR.mov rfl ?_ | refine WR.nilchk rfl ?_ | (refine WR.len (v := ?_) rfl ?_ ?_; rotate_left; first | assumption | exact rfl) | (refine WR.iadr (v := ?_) rfl rfl ?_ ?_; rotate_left; assumption) | (refine WR.fadr (v := ?_) rfl ?_ ?_; rotate_left; first | assumption | exact rfl) | (refine WR.r (v := ?_) rfl rfl (Ld.use (s0 := ?_) ?_ ?_) ?_; rotate_left; rotate_left; assumption; assumption) | (refine WR.r (v := ?_) rfl rfl (Ldn.use (s0 := ?_) ?_ ?_) ?_; rotate_left; rotate_left; assumption; assumption) | (refine WR.bin (v := ?_) rfl rfl ?_ ?_; rotate_left; first | assumption | exact lss_nat _ _ | exact eql_nat _ _ | exact neq_nat _ _ | exact gtr_nat _ _ | exact geq_nat _ _ | exact leq_nat _ _ | exact eql_str _ _ | exact neq_str _ _ | (refine add_nat ?_; omega) | (refine sub_nat ?_ ?_; omega; omega)) | refine WR.pick rfl rfl rfl ?_ | refine WR.un rfl rfl ?_ | refine WR.ext rfl rfl ?_ | refine WR.eq rfl rfl rfl ?_ | refine WR.mkifc rfl ?_)
          (repeat refine WC.seq ?_); refine WC.cond rfl ?_ ?_
          · intro hh; cases hh
          · intro _
            (repeat refine WC.seq ?_); refine WC.skip ?_
            cases rg with
            | false =>
              (repeat refine WC.seq ?_); refine WC.regX hs4 fun s5 hs5 hx5 ho5 hn5 => ?_
              repeat (first | refine WR.nil ?_ | refine WR.guardY rfl ?_ | refine WR.guardN rfl ?_ | refine WR.guardT rfl ?_ | refine WR.mov rfl ?_ | refine WR.nilchk rfl ?_ | (refine WR.len (v := ?_) rfl ?_ ?_; rotate_left; first | assumption | exact rfl) | (refine WR.iadr (v := ?_) rfl rfl ?_ ?_; rotate_left; assumption) | (refine WR.fadr (v := ?_) rfl ?_ ?_; rotate_left; first | assumption | exact rfl) | (refine WR.r (v := ?_) rfl rfl (Ld.use (s0 := ?_) ?_ ?_) ?_; rotate_left; rotate_left; assumption; assumption) | (refine WR.r (v := ?_) rfl rfl (Ldn.use (s0 := ?_) ?_ ?_) ?_; rotate_left; rotate_left; assumption; assumption) | (refine WR.bin (v := ?_) rfl rfl ?_ ?_; rotate_left; first | assumption | exact lss_nat _ _ | exact eql_nat _ _ | exact neq_nat _ _ | exact gtr_nat _ _ | exact geq_nat _ _ | exact leq_nat _ _ | exact eql_str _ _ | exact neq_str _ _ | (refine add_nat ?_; omega) | (refine sub_nat ?_ ?_; omega; omega)) | refine WR.pick rfl rfl rfl ?_ | refine WR.un rfl rfl ?_ | refine WR.ext rfl rfl ?_ | refine WR.eq rfl rfl rfl ?_ | refine WR.mkifc rfl ?_)
              (repeat refine WC.seq ?_); refine WC.ret ?_
              exact ⟨.inr rfl, _, rfl, _, x1.trans hs5, rfl⟩
            | true =>
              cases r5 <;>
              · (repeat refine WC.seq ?_); refine WC.regX hs4 fun s5 hs5 hx5 ho5 hn5 => ?_
                repeat (first | refine WR.nil ?_ | refine WR.guardY rfl ?_ | refine WR.guardN rfl ?_ | refine WR.guardT rfl ?_ | refine WR.mov rfl ?_ | refine WR.nilchk rfl ?_ | (refine WR.len (v := ?_) rfl ?_ ?_; rotate_left; first | assumption | exact rfl) | (refine WR.iadr (v := ?_) rfl rfl ?_ ?_; rotate_left; assumption) | (refine WR.fadr (v := ?_) rfl ?_ ?_; rotate_left; first | assumption | exact rfl) | (refine WR.r (v := ?_) rfl rfl (Ld.use (s0 := ?_) ?_ ?_) ?_; rotate_left; rotate_left; assumption; assumption) | (refine WR.r (v := ?_) rfl rfl (Ldn.use (s0 := ?_) ?_ ?_) ?_; rotate_left; rotate_left; assumption; assumption) | (refine WR.bin (v := ?_) rfl rfl ?_ ?_; rotate_left; first | assumption | exact lss_nat _ _ | exact eql_nat _ _ | exact neq_nat _ _ | exact gtr_nat _ _ | exact geq_nat _ _ | exact leq_nat _ _ | exact eql_str _ _ | exact neq_str _ _ | (refine add_nat ?_; omega) | (refine sub_nat ?_ ?_; omega; omega)) | refine WR.pick rfl rfl rfl ?_ | refine WR.un rfl rfl ?_ | refine WR.ext rfl rfl ?_ | refine WR.eq rfl rfl rfl ?_ | refine WR.mkifc rfl ?_)
                (repeat refine WC.seq ?_); refine WC.ret ?_
                exact ⟨.inr rfl, _, rfl, _, x1.trans hs5, rfl⟩
  obtain ⟨_, s', e, b, k, rfl⟩ := this
  exact ⟨s', b, e, k⟩
theorem key17_ (n : Nat) (v : Val) : ∃ s' b, acall F0 E15 (n + 1) 16 [valA v] s = some (.bool b, s') ∧ Ext s s' := by
  have : ∃ w s', acall F0 E15 (n + 1) 16 [valA v] s = some (w, s') ∧ (∃ b, Ext s s' ∧ w = .bool b) := by
    refine acall_of rfl comp16 (Nat.le_of_ble_eq_true rfl) ?_
    (repeat refine WC.seq ?_); refine WC.regX (Ext.refl s) fun s1 hs1 hx1 ho1 hn1 => ?_
    refine WR.box rfl rfl ?_
    repeat (first | refine WR.nil ?_ | refine WR.guardY rfl ?_ | refine WR.guardN rfl ?_ | refine WR.guardT rfl ?_ | refine WR.mov rfl ?_ | refine WR.nilchk rfl ?_ | (refine WR.len (v := ?_) rfl ?_ ?_; rotate_left; first | assumption | exact rfl) | (refine WR.iadr (v := ?_) rfl rfl ?_ ?_; rotate_left; assumption) | (refine WR.fadr (v := ?_) rfl ?_ ?_; rotate_left; first | assumption | exact rfl) | (refine WR.r (v := ?_) rfl rfl (Ld.use (s0 := ?_) ?_ ?_) ?_; rotate_left; rotate_left; assumption; assumption) | (refine WR.r (v := ?_) rfl rfl (Ldn.use (s0 := ?_) ?_ ?_) ?_; rotate_left; rotate_left; assumption; assumption) | (refine WR.bin (v := ?_) rfl rfl ?_ ?_; rotate_left; first | assumption | exact lss_nat _ _ | exact eql_nat _ _ | exact neq_nat _ _ | exact gtr_nat _ _ | exact geq_nat _ _ | exact leq_nat _ _ | exact eql_str _ _ | exact neq_str _ _ | (refine add_nat ?_; omega) | (refine sub_nat ?_ ?_; omega; omega)) | refine WR.pick rfl rfl rfl ?_ | refine WR.un rfl rfl ?_ | refine WR.ext rfl rfl ?_ | refine WR.eq rfl rfl rfl ?_ | refine WR.mkifc rfl ?_)
    have x1 : Ext s (s1.put s.next (.cells (cellsOf (valA v)) 0 0 false)) := hs1.put (Nat.le_refl _) _
    have b1 : (s1.put s.next (.cells (cellsOf (valA v)) 0 0 false)).objs.get s.next = some (.cells (valR v) 0 0 false) := by rw [get_put, if_pos rfl]; rfl
    have n1 : s.next < (s1.put s.next (.cells (cellsOf (valA v)) 0 0 false)).next := by rw [next_put, hn1]; exact Nat.lt_add_of_pos_right (by decide)
    generalize s1.put s.next (.cells (cellsOf (valA v)) 0 0 false) = sa at x1 b1 n1 ⊢
    have lk := objLd b1 n1 (o := 0) (v := .int .i64 v.k) rfl
    obtain ⟨r1, q1⟩ := eql_some v.k (.ofNat 1)
    obtain ⟨r2, q2⟩ := eql_some v.k (.ofNat 2)
    cases r1 <;>
    · (repeat refine WC.seq ?_); refine WC.regX (Ext.refl sa) fun s2 hs2 hx2 ho2 hn2 => ?_
      repeat (first | refine WR.nil ?_ | refine WR.guardY rfl ?_ | refine WR.guardN rfl ?_ | refine WR.guardT rfl ?_ | refine WR.mov rfl ?_ | refine WR.nilchk rfl ?_ | (refine WR.len (v := ?_) rfl ?_ ?_; rotate_left; first | assumption | exact rfl) | (refine WR.iadr (v := ?_) rfl rfl ?_ ?_; rotate_left; assumption) | (refine WR.fadr (v := ?_) rfl ?_ ?_; rotate_left; first | assumption | exact rfl) | (refine WR.r (v := ?_) rfl rfl (Ld.use (s0 := ?_) ?_ ?_) ?_; rotate_left; rotate_left; assumption; assumption) | (refine WR.r (v := ?_) rfl rfl (Ldn.use (s0 := ?_) ?_ ?_) ?_; rotate_left; rotate_left; assumption; assumption) | (refine WR.bin (v := ?_) rfl rfl ?_ ?_; rotate_left; first | assumption | exact lss_nat _ _ | exact eql_nat _ _ | exact neq_nat _ _ | exact gtr_nat _ _ | exact geq_nat _ _ | exact leq_nat _ _ | exact eql_str _ _ | exact neq_str _ _ | (refine add_nat ?_; omega) | (refine sub_nat ?_ ?_; omega; omega)) | refine WR.pick rfl rfl rfl ?_ | refine WR.un rfl rfl ?_ | refine WR.ext rfl rfl ?_ | refine WR.eq rfl rfl rfl ?_ | refine WR.mkifc rfl ?_)
      (repeat refine WC.seq ?_); refine WC.ret ?_
      exact ⟨.inr rfl, _, rfl, _, x1.trans hs2, rfl⟩
  obtain ⟨_, s', e, b, k, rfl⟩ := this
  exact ⟨s', b, e, k⟩
/-- Something that is done: a kind, three values, a closure, a number. -/
structure OpV where
  k : Int
  t : Val
  key : Val
  v : Val
  u : Int
  p : Int
  c : AV
  cl : Nat
  n : Int
def opR (o : OpV) : List AV := [.int .i64 o.k, .int .i64 o.t.k, .int .i64 o.t.n, .str o.t.s, .int .i64 o.key.k, .int .i64 o.key.n, .str o.key.s, .int .i64 o.v.k, .int .i64 o.v.n, .str o.v.s, .int .i64 o.u, .int .i64 o.p, o.c, .int .i64 o.n]
theorem small_ (n : Nat) (o : OpV) (hc : apure .e (.len false (.c o.c)) = some (.int .i64 (.ofNat o.cl))) (h1 : OneC o.c) : ∃ s' b, acall F0 E15 (n + 2) 10 [.agg (opR o)] s = some (.bool b, s') ∧ Ext s s' := by
  have : ∃ w s', acall F0 E15 (n + 2) 10 [.agg (opR o)] s = some (w, s') ∧ (∃ b, Ext s s' ∧ w = .bool b) := by
    refine acall_of rfl comp10 (Nat.le_of_ble_eq_true rfl) ?_
    (repeat refine WC.seq ?_); refine WC.regX (Ext.refl s) fun s1 hs1 hx1 ho1 hn1 => ?_
    refine WR.box rfl rfl ?_
    repeat (first | refine WR.nil ?_ | refine WR.guardY rfl ?_ | refine WR.guardN rfl ?_ | refine WR.guardT rfl ?_ | refine WR.mov rfl ?_ | refine WR.nilchk rfl ?_ | (refine WR.len (v := ?_) rfl ?_ ?_; rotate_left; first | assumption | exact rfl) | (refine WR.iadr (v := ?_) rfl rfl ?_ ?_; rotate_left; assumption) | (refine WR.fadr (v := ?_) rfl ?_ ?_; rotate_left; first | assumption | exact rfl) | (refine WR.r (v := ?_) rfl rfl (Ld.use (s0 := ?_) ?_ ?_) ?_; rotate_left; rotate_left; assumption; assumption) | (refine WR.r (v := ?_) rfl rfl (Ldn.use (s0 := ?_) ?_ ?_) ?_; rotate_left; rotate_left; assumption; assumption) | (refine WR.bin (v := ?_) rfl rfl ?_ ?_; rotate_left; first | assumption | exact lss_nat _ _ | exact eql_nat _ _ | exact neq_nat _ _ | exact gtr_nat _ _ | exact geq_nat _ _ | exact leq_nat _ _ | exact eql_str _ _ | exact neq_str _ _ | (refine add_nat ?_; omega) | (refine sub_nat ?_ ?_; omega; omega)) | refine WR.pick rfl rfl rfl ?_ | refine WR.un rfl rfl ?_ | refine WR.ext rfl rfl ?_ | refine WR.eq rfl rfl rfl ?_ | refine WR.mkifc rfl ?_)
    have x1 : Ext s (s1.put s.next (.cells (cellsOf (.agg (opR o))) 0 0 false)) := hs1.put (Nat.le_refl _) _
    have b1 : (s1.put s.next (.cells (cellsOf (.agg (opR o))) 0 0 false)).objs.get s.next = some (.cells (opR o) 0 0 false) := by rw [get_put, if_pos rfl]; rfl
    have n1 : s.next < (s1.put s.next (.cells (cellsOf (.agg (opR o))) 0 0 false)).next := by rw [next_put, hn1]; exact Nat.lt_add_of_pos_right (by decide)
    change WC _ _ _ _ (s1.put s.next (.cells (cellsOf (.agg (opR o))) 0 0 false)) _
    generalize s1.put s.next (.cells (cellsOf (.agg (opR o))) 0 0 false) = sa at x1 b1 n1 ⊢
    have l3 := objLd b1 n1 (o := 3) (v := .str o.t.s) rfl
    have l6 := objLd b1 n1 (o := 6) (v := .str o.key.s) rfl
    have l12 := objLd b1 n1 (o := 12) (v := o.c) rfl
    have lv : Ldn sa 3 (.ptr s.next 0 7 3) (valA o.v) := objLdn b1 n1 (o := 7) (m := 3) (Nat.le_of_ble_eq_true rfl)
    have lk : Ldn sa 3 (.ptr s.next 0 4 3) (valA o.key) := objLdn b1 n1 (o := 4) (m := 3) (Nat.le_of_ble_eq_true rfl)
    have ht : apure .e (.len true (.c (.str o.t.s))) = some (.int .i64 (.ofNat o.t.s.length)) := rfl
    have hk : apure .e (.len true (.c (.str o.key.s))) = some (.int .i64 (.ofNat o.key.s.length)) := rfl
    obtain ⟨r1, q1⟩ : ∃ r, abin .lss (.int .i64 (.ofNat o.t.s.length)) (.int .i64 (.ofNat 2000)) = some (.bool r) := ⟨_, lss_nat _ _⟩
    obtain ⟨r2, q2⟩ : ∃ r, abin .lss (.int .i64 (.ofNat o.key.s.length)) (.int .i64 (.ofNat 2000)) = some (.bool r) := ⟨_, lss_nat _ _⟩
    obtain ⟨r3, q3⟩ : ∃ r, abin .lss (.int .i64 (.ofNat o.cl)) (.int .i64 (.ofNat 100)) = some (.bool r) := ⟨_, lss_nat _ _⟩
    cases r1 with
    | false =>
      (repeat refine WC.seq ?_); refine WC.regX (Ext.refl sa) fun s2 hs2 hx2 ho2 hn2 => ?_
      repeat (first | refine WR.nil ?_ | refine WR.guardY rfl ?_ | refine WR.guardN rfl ?_ | refine WR.guardT rfl ?_ | refine WR.mov rfl ?_ | refine WR.nilchk rfl ?_ | (refine WR.len (v := ?_) rfl ?_ ?_; rotate_left; first | assumption | exact rfl) | (refine WR.iadr (v := ?_) rfl rfl ?_ ?_; rotate_left; assumption) | (refine WR.fadr (v := ?_) rfl ?_ ?_; rotate_left; first | assumption | exact rfl) | (refine WR.r (v := ?_) rfl rfl (Ld.use (s0 := ?_) ?_ ?_) ?_; rotate_left; rotate_left; assumption; assumption) | (refine WR.r (v := ?_) rfl rfl (Ldn.use (s0 := ?_) ?_ ?_) ?_; rotate_left; rotate_left; assumption; assumption) | (refine WR.bin (v := ?_) rfl rfl ?_ ?_; rotate_left; first | assumption | exact lss_nat _ _ | exact eql_nat _ _ | exact neq_nat _ _ | exact gtr_nat _ _ | exact geq_nat _ _ | exact leq_nat _ _ | exact eql_str _ _ | exact neq_str _ _ | (refine add_nat ?_; omega) | (refine sub_nat ?_ ?_; omega; omega)) | refine WR.pick rfl rfl rfl ?_ | refine WR.un rfl rfl ?_ | refine WR.ext rfl rfl ?_ | refine WR.eq rfl rfl rfl ?_ | refine WR.mkifc rfl ?_)
      (repeat refine WC.seq ?_); refine WC.ret ?_
      exact ⟨.inr rfl, _, rfl, _, x1.trans hs2, rfl⟩
    | true =>
    cases r2 with
    | false =>
      (repeat refine WC.seq ?_); refine WC.regX (Ext.refl sa) fun s2 hs2 hx2 ho2 hn2 => ?_
      repeat (first | refine WR.nil ?_ | refine WR.guardY rfl ?_ | refine WR.guardN rfl ?_ | refine WR.guardT rfl ?_ | refine WR.mov rfl ?_ | refine WR.nilchk rfl ?_ | (refine WR.len (v := ?_) rfl ?_ ?_; rotate_left; first | assumption | exact rfl) | (refine WR.iadr (v := ?_) rfl rfl ?_ ?_; rotate_left; assumption) | (refine WR.fadr (v := ?_) rfl ?_ ?_; rotate_left; first | assumption | exact rfl) | (refine WR.r (v := ?_) rfl rfl (Ld.use (s0 := ?_) ?_ ?_) ?_; rotate_left; rotate_left; assumption; assumption) | (refine WR.r (v := ?_) rfl rfl (Ldn.use (s0 := ?_) ?_ ?_) ?_; rotate_left; rotate_left; assumption; assumption) | (refine WR.bin (v := ?_) rfl rfl ?_ ?_; rotate_left; first | assumption | exact lss_nat _ _ | exact eql_nat _ _ | exact neq_nat _ _ | exact gtr_nat _ _ | exact geq_nat _ _ | exact leq_nat _ _ | exact eql_str _ _ | exact neq_str _ _ | (refine add_nat ?_; omega) | (refine sub_nat ?_ ?_; omega; omega)) | refine WR.pick rfl rfl rfl ?_ | refine WR.un rfl rfl ?_ | refine WR.ext rfl rfl ?_ | refine WR.eq rfl rfl rfl ?_ | refine WR.mkifc rfl ?_)
      (repeat refine WC.seq ?_); refine WC.ret ?_
      exact ⟨.inr rfl, _, rfl, _, x1.trans hs2, rfl⟩
    | true =>
    (repeat refine WC.seq ?_); refine WC.regX (Ext.refl sa) fun s2 hs2 hx2 ho2 hn2 => ?_
    repeat (first | refine WR.nil ?_ | refine WR.guardY rfl ?_ | refine WR.guardN rfl ?_ | refine WR.guardT rfl ?_ | refine WR.mov rfl ?_ | refine WR.nilchk rfl ?_ | (refine WR.len (v := ?_) rfl ?_ ?_; rotate_left; first | assumption | exact rfl) | (refine WR.iadr (v := ?_) rfl rfl ?_ ?_; rotate_left; assumption) | (refine WR.fadr (v := ?_) rfl ?_ ?_; rotate_left; first | assumption | exact rfl) | (refine WR.r (v := ?_) rfl rfl (Ld.use (s0 := ?_) ?_ ?_) ?_; rotate_left; rotate_left; assumption; assumption) | (refine WR.r (v := ?_) rfl rfl (Ldn.use (s0 := ?_) ?_ ?_) ?_; rotate_left; rotate_left; assumption; assumption) | (refine WR.bin (v := ?_) rfl rfl ?_ ?_; rotate_left; first | assumption | exact lss_nat _ _ | exact eql_nat _ _ | exact neq_nat _ _ | exact gtr_nat _ _ | exact geq_nat _ _ | exact leq_nat _ _ | exact eql_str _ _ | exact neq_str _ _ | (refine add_nat ?_; omega) | (refine sub_nat ?_ ?_; omega; omega)) | refine WR.pick rfl rfl rfl ?_ | refine WR.un rfl rfl ?_ | refine WR.ext rfl rfl ?_ | refine WR.eq rfl rfl rfl ?_ | refine WR.mkifc rfl ?_)
    obtain ⟨s3, b3, e3, k3⟩ := is_ (s := s2) n o.v
    have hs3 := hs2.trans k3
    refine WR.fn rfl e3 ?_
    cases b3 with
    | false =>
      repeat (first | refine WR.nil ?_ | refine WR.guardY rfl ?_ | refine WR.guardN rfl ?_ | refine WR.guardT rfl ?_ | refine WR.mov rfl ?_ | refine WR.nilchk rfl ?_ | (refine WR.len (v := ?_) rfl ?_ ?_; rotate_left; first | assumption | exact rfl) | (refine WR.iadr (v := ?_) rfl rfl ?_ ?_; rotate_left; assumption) | (refine WR.fadr (v := ?_) rfl ?_ ?_; rotate_left; first | assumption | exact rfl) | (refine WR.r (v := ?_) rfl rfl (Ld.use (s0 := ?_) ?_ ?_) ?_; rotate_left; rotate_left; assumption; assumption) | (refine WR.r (v := ?_) rfl rfl (Ldn.use (s0 := ?_) ?_ ?_) ?_; rotate_left; rotate_left; assumption; assumption) | (refine WR.bin (v := ?_) rfl rfl ?_ ?_; rotate_left; first | assumption | exact lss_nat _ _ | exact eql_nat _ _ | exact neq_nat _ _ | exact gtr_nat _ _ | exact geq_nat _ _ | exact leq_nat _ _ | exact eql_str _ _ | exact neq_str _ _ | (refine add_nat ?_; omega) | (refine sub_nat ?_ ?_; omega; omega)) | refine WR.pick rfl rfl rfl ?_ | refine WR.un rfl rfl ?_ | refine WR.ext rfl rfl ?_ | refine WR.eq rfl rfl rfl ?_ | refine WR.mkifc rfl ?_)
      (repeat refine WC.seq ?_); refine WC.ret ?_
      exact ⟨.inr rfl, _, rfl, _, x1.trans hs3, rfl⟩
    | true =>
    cases r3 with
    | false =>
      repeat (first | refine WR.nil ?_ | refine WR.guardY rfl ?_ | refine WR.guardN rfl ?_ | refine WR.guardT rfl ?_ | refine WR.mov rfl ?_ | refine WR.nilchk rfl ?_ | (refine WR.len (v := ?_) rfl ?_ ?_; rotate_left; first | assumption | exact rfl) | (refine WR.iadr (v := ?_) rfl rfl ?_ ?_; rotate_left; assumption) | (refine WR.fadr (v := ?_) rfl ?_ ?_; rotate_left; first | assumption | exact rfl) | (refine WR.r (v := ?_) rfl rfl (Ld.use (s0 := ?_) ?_ ?_) ?_; rotate_left; rotate_left; assumption; assumption) | (refine WR.r (v := ?_) rfl rfl (Ldn.use (s0 := ?_) ?_ ?_) ?_; rotate_left; rotate_left; assumption; assumption) | (refine WR.bin (v := ?_) rfl rfl ?_ ?_; rotate_left; first | assumption | exact lss_nat _ _ | exact eql_nat _ _ | exact neq_nat _ _ | exact gtr_nat _ _ | exact geq_nat _ _ | exact leq_nat _ _ | exact eql_str _ _ | exact neq_str _ _ | (refine add_nat ?_; omega) | (refine sub_nat ?_ ?_; omega; omega)) | refine WR.pick rfl rfl rfl ?_ | refine WR.un rfl rfl ?_ | refine WR.ext rfl rfl ?_ | refine WR.eq rfl rfl rfl ?_ | refine WR.mkifc rfl ?_)
      (repeat refine WC.seq ?_); refine WC.ret ?_
      exact ⟨.inr rfl, _, rfl, _, x1.trans hs3, rfl⟩
    | true =>
    repeat (first | refine WR.nil ?_ | refine WR.guardY rfl ?_ | refine WR.guardN rfl ?_ | refine WR.guardT rfl ?_ | refine WR.mov rfl ?_ | refine WR.nilchk rfl ?_ | (refine WR.len (v := ?_) rfl ?_ ?_; rotate_left; first | assumption | exact rfl) | (refine WR.iadr (v := ?_) rfl rfl ?_ ?_; rotate_left; assumption) | (refine WR.fadr (v := ?_) rfl ?_ ?_; rotate_left; first | assumption | exact rfl) | (refine WR.r (v := ?_) rfl rfl (Ld.use (s0 := ?_) ?_ ?_) ?_; rotate_left; rotate_left; assumption; assumption) | (refine WR.r (v := ?_) rfl rfl (Ldn.use (s0 := ?_) ?_ ?_) ?_; rotate_left; rotate_left; assumption; assumption) | (refine WR.bin (v := ?_) rfl rfl ?_ ?_; rotate_left; first | assumption | exact lss_nat _ _ | exact eql_nat _ _ | exact neq_nat _ _ | exact gtr_nat _ _ | exact geq_nat _ _ | exact leq_nat _ _ | exact eql_str _ _ | exact neq_str _ _ | (refine add_nat ?_; omega) | (refine sub_nat ?_ ?_; omega; omega)) | refine WR.pick rfl rfl rfl ?_ | refine WR.un rfl rfl ?_ | refine WR.ext rfl rfl ?_ | refine WR.eq rfl rfl rfl ?_ | refine WR.mkifc rfl ?_)
    obtain ⟨s4, b4, e4, k4⟩ := key17_ (s := s3) n o.key
    have hs4 := hs3.trans k4
    refine WR.fn rfl e4 ?_
    cases b4 with
    | false =>
      repeat (first | refine WR.nil ?_ | refine WR.guardY rfl ?_ | refine WR.guardN rfl ?_ | refine WR.guardT rfl ?_ | refine WR.mov rfl ?_ | refine WR.nilchk rfl ?_ | (refine WR.len (v := ?_) rfl ?_ ?_; rotate_left; first | assumption | exact rfl) | (refine WR.iadr (v := ?_) rfl rfl ?_ ?_; rotate_left; assumption) | (refine WR.fadr (v := ?_) rfl ?_ ?_; rotate_left; first | assumption | exact rfl) | (refine WR.r (v := ?_) rfl rfl (Ld.use (s0 := ?_) ?_ ?_) ?_; rotate_left; rotate_left; assumption; assumption) | (refine WR.r (v := ?_) rfl rfl (Ldn.use (s0 := ?_) ?_ ?_) ?_; rotate_left; rotate_left; assumption; assumption) | (refine WR.bin (v := ?_) rfl rfl ?_ ?_; rotate_left; first | assumption | exact lss_nat _ _ | exact eql_nat _ _ | exact neq_nat _ _ | exact gtr_nat _ _ | exact geq_nat _ _ | exact leq_nat _ _ | exact eql_str _ _ | exact neq_str _ _ | (refine add_nat ?_; omega) | (refine sub_nat ?_ ?_; omega; omega)) | refine WR.pick rfl rfl rfl ?_ | refine WR.un rfl rfl ?_ | refine WR.ext rfl rfl ?_ | refine WR.eq rfl rfl rfl ?_ | refine WR.mkifc rfl ?_)
      (repeat refine WC.seq ?_); refine WC.ret ?_
      exact ⟨.inr rfl, _, rfl, _, x1.trans hs4, rfl⟩
    | true =>
    repeat (first | refine WR.nil ?_ | refine WR.guardY rfl ?_ | refine WR.guardN rfl ?_ | refine WR.guardT rfl ?_ | refine WR.mov rfl ?_ | refine WR.nilchk rfl ?_ | (refine WR.len (v := ?_) rfl ?_ ?_; rotate_left; first | assumption | exact rfl) | (refine WR.iadr (v := ?_) rfl rfl ?_ ?_; rotate_left; assumption) | (refine WR.fadr (v := ?_) rfl ?_ ?_; rotate_left; first | assumption | exact rfl) | (refine WR.r (v := ?_) rfl rfl (Ld.use (s0 := ?_) ?_ ?_) ?_; rotate_left; rotate_left; assumption; assumption) | (refine WR.r (v := ?_) rfl rfl (Ldn.use (s0 := ?_) ?_ ?_) ?_; rotate_left; rotate_left; assumption; assumption) | (refine WR.bin (v := ?_) rfl rfl ?_ ?_; rotate_left; first | assumption | exact lss_nat _ _ | exact eql_nat _ _ | exact neq_nat _ _ | exact gtr_nat _ _ | exact geq_nat _ _ | exact leq_nat _ _ | exact eql_str _ _ | exact neq_str _ _ | (refine add_nat ?_; omega) | (refine sub_nat ?_ ?_; omega; omega)) | refine WR.pick rfl rfl rfl ?_ | refine WR.un rfl rfl ?_ | refine WR.ext rfl rfl ?_ | refine WR.eq rfl rfl rfl ?_ | refine WR.mkifc rfl ?_)
    obtain ⟨s5, b5, e5, k5⟩ := is_ (s := s4) n o.key
    have hs5 := hs4.trans k5
    refine WR.fn rfl e5 ?_
    repeat (first | refine WR.nil ?_ | refine WR.guardY rfl ?_ | refine WR.guardN rfl ?_ | refine WR.guardT rfl ?_ | refine WR.mov rfl ?_ | refine WR.nilchk rfl ?_ | (refine WR.len (v := ?_) rfl ?_ ?_; rotate_left; first | assumption | exact rfl) | (refine WR.iadr (v := ?_) rfl rfl ?_ ?_; rotate_left; assumption) | (refine WR.fadr (v := ?_) rfl ?_ ?_; rotate_left; first | assumption | exact rfl) | (refine WR.r (v := ?_) rfl rfl (Ld.use (s0 := ?_) ?_ ?_) ?_; rotate_left; rotate_left; assumption; assumption) | (refine WR.r (v := ?_) rfl rfl (Ldn.use (s0 := ?_) ?_ ?_) ?_; rotate_left; rotate_left; assumption; assumption) | (refine WR.bin (v := ?_) rfl rfl ?_ ?_; rotate_left; first | assumption | exact lss_nat _ _ | exact eql_nat _ _ | exact neq_nat _ _ | exact gtr_nat _ _ | exact geq_nat _ _ | exact leq_nat _ _ | exact eql_str _ _ | exact neq_str _ _ | (refine add_nat ?_; omega) | (refine sub_nat ?_ ?_; omega; omega)) | refine WR.pick rfl rfl rfl ?_ | refine WR.un rfl rfl ?_ | refine WR.ext rfl rfl ?_ | refine WR.eq rfl rfl rfl ?_ | refine WR.mkifc rfl ?_)
    (repeat refine WC.seq ?_); refine WC.ret ?_
    exact ⟨.inr rfl, _, rfl, _, x1.trans hs5, rfl⟩
  obtain ⟨_, s', e, b, k, rfl⟩ := this
  exact ⟨s', b, e, k⟩
end
end Go.Proofs.Ytggpnokhhpnnaaa

namespace Go.Proofs.Ytggpnokhhpnnaaa
open Go Go.Abs
/-- Ops in a store. -/
structure OpsV (s : St) (v : AV) (os : List OpV) : Prop where
  slv : Slv s 14 v (os.map opR)
  len : ∀ o, o ∈ os → apure .e (.len false (.c o.c)) = some (.int .i64 (.ofNat o.cl)) ∧ OneC o.c
theorem known15 (m : Nat) (s : St) : acall F0 E15 (m + 1) 15 [] s = some (.bool true, s) := rfl
section
variable {s s0 : St} {lo : Nat} {H : HM} {lv : AV} {os : List OpV}
theorem check3 {n m was c i : Nat} {Q : AX → SL → St → Prop} (h : HeapAt s lo H) (hm : H.used ≤ m) (hs : c ≠ 0 → H.used = was) (hf : c = 8 → was = m)
    (hQ : ∀ l s5, Ext s s5 → Sub2 [(1, lv), (5, .int .i64 (.ofNat m)), (6, H.p), (8, .int .i64 (.ofNat i))] l → Q .nrm l s5) :
    WC (acall F0 E15 (n + 2)) (n + 2) (.seq (.reg r3_19) (.cond (.t 102) (.seq (.reg r3_20) .ret) .skip)) [(1, lv), (5, .int .i64 (.ofNat m)), (6, H.p), (8, .int .i64 (.ofNat i)), (10, .int .i64 (.ofNat was)), (11, .int .i64 (.ofNat c))] s Q := by
  have q1 := gtrF (a := H.used) (b := m) (by omega)
  have q2 := lssF (a := H.used) (b := 0) (by omega)
  by_cases hc : c = 0
  · subst hc
    have q3 := neqF (a := 0) (b := 0) rfl
    have q4 := eqlF (a := 0) (b := 8) (by decide)
    (repeat refine WC.seq ?_); refine WC.regX (Ext.refl s) fun s1 hs1 hx1 ho1 hn1 => ?_
    repeat (first | refine WR.nil ?_ | refine WR.guardY rfl ?_ | refine WR.guardN rfl ?_ | refine WR.guardT rfl ?_ | refine WR.mov rfl ?_ | refine WR.nilchk rfl ?_ | (refine WR.len (v := ?_) rfl ?_ ?_; rotate_left; first | assumption | exact rfl) | (refine WR.iadr (v := ?_) rfl rfl ?_ ?_; rotate_left; assumption) | (refine WR.fadr (v := ?_) rfl ?_ ?_; rotate_left; first | assumption | exact rfl) | (refine WR.r (v := ?_) rfl rfl (Ld.use (s0 := ?_) ?_ ?_) ?_; rotate_left; rotate_left; assumption; assumption) | (refine WR.r (v := ?_) rfl rfl (Ldn.use (s0 := ?_) ?_ ?_) ?_; rotate_left; rotate_left; assumption; assumption) | (refine WR.bin (v := ?_) rfl rfl ?_ ?_; rotate_left; first | assumption | exact lss_nat _ _ | exact eql_nat _ _ | exact neq_nat _ _ | exact gtr_nat _ _ | exact geq_nat _ _ | exact leq_nat _ _ | exact eql_str _ _ | exact neq_str _ _ | (refine add_nat ?_; omega) | (refine sub_nat ?_ ?_; omega; omega)) | refine WR.pick rfl rfl rfl ?_ | refine WR.un rfl rfl ?_ | refine WR.ext rfl rfl ?_ | refine WR.eq rfl rfl rfl ?_ | refine WR.mkifc rfl ?_)
    obtain ⟨s2, e2, k2⟩ := used_ n (h.ext hs1)
    refine WR.fn rfl e2 ?_
    repeat (first | refine WR.nil ?_ | refine WR.guardY rfl ?_ | refine WR.guardN rfl ?_ | refine WR.guardT rfl ?_ | refine WR.mov rfl ?_ | refine WR.nilchk rfl ?_ | (refine WR.len (v := ?_) rfl ?_ ?_; rotate_left; first | assumption | exact rfl) | (refine WR.iadr (v := ?_) rfl rfl ?_ ?_; rotate_left; assumption) | (refine WR.fadr (v := ?_) rfl ?_ ?_; rotate_left; first | assumption | exact rfl) | (refine WR.r (v := ?_) rfl rfl (Ld.use (s0 := ?_) ?_ ?_) ?_; rotate_left; rotate_left; assumption; assumption) | (refine WR.r (v := ?_) rfl rfl (Ldn.use (s0 := ?_) ?_ ?_) ?_; rotate_left; rotate_left; assumption; assumption) | (refine WR.bin (v := ?_) rfl rfl ?_ ?_; rotate_left; first | assumption | exact lss_nat _ _ | exact eql_nat _ _ | exact neq_nat _ _ | exact gtr_nat _ _ | exact geq_nat _ _ | exact leq_nat _ _ | exact eql_str _ _ | exact neq_str _ _ | (refine add_nat ?_; omega) | (refine sub_nat ?_ ?_; omega; omega)) | refine WR.pick rfl rfl rfl ?_ | refine WR.un rfl rfl ?_ | refine WR.ext rfl rfl ?_ | refine WR.eq rfl rfl rfl ?_ | refine WR.mkifc rfl ?_)
    obtain ⟨s3, e3, k3⟩ := used_ n ((h.ext hs1).ext k2)
    refine WR.fn rfl e3 ?_
    repeat (first | refine WR.nil ?_ | refine WR.guardY rfl ?_ | refine WR.guardN rfl ?_ | refine WR.guardT rfl ?_ | refine WR.mov rfl ?_ | refine WR.nilchk rfl ?_ | (refine WR.len (v := ?_) rfl ?_ ?_; rotate_left; first | assumption | exact rfl) | (refine WR.iadr (v := ?_) rfl rfl ?_ ?_; rotate_left; assumption) | (refine WR.fadr (v := ?_) rfl ?_ ?_; rotate_left; first | assumption | exact rfl) | (refine WR.r (v := ?_) rfl rfl (Ld.use (s0 := ?_) ?_ ?_) ?_; rotate_left; rotate_left; assumption; assumption) | (refine WR.r (v := ?_) rfl rfl (Ldn.use (s0 := ?_) ?_ ?_) ?_; rotate_left; rotate_left; assumption; assumption) | (refine WR.bin (v := ?_) rfl rfl ?_ ?_; rotate_left; first | assumption | exact lss_nat _ _ | exact eql_nat _ _ | exact neq_nat _ _ | exact gtr_nat _ _ | exact geq_nat _ _ | exact leq_nat _ _ | exact eql_str _ _ | exact neq_str _ _ | (refine add_nat ?_; omega) | (refine sub_nat ?_ ?_; omega; omega)) | refine WR.pick rfl rfl rfl ?_ | refine WR.un rfl rfl ?_ | refine WR.ext rfl rfl ?_ | refine WR.eq rfl rfl rfl ?_ | refine WR.mkifc rfl ?_)
    (repeat refine WC.seq ?_); refine WC.cond rfl ?_ ?_
    · intro hh; cases hh
    · intro _
      (repeat refine WC.seq ?_); refine WC.skip ?_
      exact hQ _ _ ((hs1.trans k2).trans k3) ⟨rfl, rfl, rfl, rfl, trivial⟩
  · have q3 := neqT (a := c) (b := 0) hc
    have hsame := hs hc
    have q5 := neqF (a := H.used) (b := was) hsame
    by_cases h8 : c = 8
    · have q4 := eqlT (a := c) (b := 8) h8
      have q6 := neqF (a := was) (b := m) (hf h8)
      (repeat refine WC.seq ?_); refine WC.regX (Ext.refl s) fun s1 hs1 hx1 ho1 hn1 => ?_
      repeat (first | refine WR.nil ?_ | refine WR.guardY rfl ?_ | refine WR.guardN rfl ?_ | refine WR.guardT rfl ?_ | refine WR.mov rfl ?_ | refine WR.nilchk rfl ?_ | (refine WR.len (v := ?_) rfl ?_ ?_; rotate_left; first | assumption | exact rfl) | (refine WR.iadr (v := ?_) rfl rfl ?_ ?_; rotate_left; assumption) | (refine WR.fadr (v := ?_) rfl ?_ ?_; rotate_left; first | assumption | exact rfl) | (refine WR.r (v := ?_) rfl rfl (Ld.use (s0 := ?_) ?_ ?_) ?_; rotate_left; rotate_left; assumption; assumption) | (refine WR.r (v := ?_) rfl rfl (Ldn.use (s0 := ?_) ?_ ?_) ?_; rotate_left; rotate_left; assumption; assumption) | (refine WR.bin (v := ?_) rfl rfl ?_ ?_; rotate_left; first | assumption | exact lss_nat _ _ | exact eql_nat _ _ | exact neq_nat _ _ | exact gtr_nat _ _ | exact geq_nat _ _ | exact leq_nat _ _ | exact eql_str _ _ | exact neq_str _ _ | (refine add_nat ?_; omega) | (refine sub_nat ?_ ?_; omega; omega)) | refine WR.pick rfl rfl rfl ?_ | refine WR.un rfl rfl ?_ | refine WR.ext rfl rfl ?_ | refine WR.eq rfl rfl rfl ?_ | refine WR.mkifc rfl ?_)
      obtain ⟨s2, e2, k2⟩ := used_ n (h.ext hs1)
      refine WR.fn rfl e2 ?_
      repeat (first | refine WR.nil ?_ | refine WR.guardY rfl ?_ | refine WR.guardN rfl ?_ | refine WR.guardT rfl ?_ | refine WR.mov rfl ?_ | refine WR.nilchk rfl ?_ | (refine WR.len (v := ?_) rfl ?_ ?_; rotate_left; first | assumption | exact rfl) | (refine WR.iadr (v := ?_) rfl rfl ?_ ?_; rotate_left; assumption) | (refine WR.fadr (v := ?_) rfl ?_ ?_; rotate_left; first | assumption | exact rfl) | (refine WR.r (v := ?_) rfl rfl (Ld.use (s0 := ?_) ?_ ?_) ?_; rotate_left; rotate_left; assumption; assumption) | (refine WR.r (v := ?_) rfl rfl (Ldn.use (s0 := ?_) ?_ ?_) ?_; rotate_left; rotate_left; assumption; assumption) | (refine WR.bin (v := ?_) rfl rfl ?_ ?_; rotate_left; first | assumption | exact lss_nat _ _ | exact eql_nat _ _ | exact neq_nat _ _ | exact gtr_nat _ _ | exact geq_nat _ _ | exact leq_nat _ _ | exact eql_str _ _ | exact neq_str _ _ | (refine add_nat ?_; omega) | (refine sub_nat ?_ ?_; omega; omega)) | refine WR.pick rfl rfl rfl ?_ | refine WR.un rfl rfl ?_ | refine WR.ext rfl rfl ?_ | refine WR.eq rfl rfl rfl ?_ | refine WR.mkifc rfl ?_)
      obtain ⟨s3, e3, k3⟩ := used_ n ((h.ext hs1).ext k2)
      refine WR.fn rfl e3 ?_
      repeat (first | refine WR.nil ?_ | refine WR.guardY rfl ?_ | refine WR.guardN rfl ?_ | refine WR.guardT rfl ?_ | refine WR.mov rfl ?_ | refine WR.nilchk rfl ?_ | (refine WR.len (v := ?_) rfl ?_ ?_; rotate_left; first | assumption | exact rfl) | (refine WR.iadr (v := ?_) rfl rfl ?_ ?_; rotate_left; assumption) | (refine WR.fadr (v := ?_) rfl ?_ ?_; rotate_left; first | assumption | exact rfl) | (refine WR.r (v := ?_) rfl rfl (Ld.use (s0 := ?_) ?_ ?_) ?_; rotate_left; rotate_left; assumption; assumption) | (refine WR.r (v := ?_) rfl rfl (Ldn.use (s0 := ?_) ?_ ?_) ?_; rotate_left; rotate_left; assumption; assumption) | (refine WR.bin (v := ?_) rfl rfl ?_ ?_; rotate_left; first | assumption | exact lss_nat _ _ | exact eql_nat _ _ | exact neq_nat _ _ | exact gtr_nat _ _ | exact geq_nat _ _ | exact leq_nat _ _ | exact eql_str _ _ | exact neq_str _ _ | (refine add_nat ?_; omega) | (refine sub_nat ?_ ?_; omega; omega)) | refine WR.pick rfl rfl rfl ?_ | refine WR.un rfl rfl ?_ | refine WR.ext rfl rfl ?_ | refine WR.eq rfl rfl rfl ?_ | refine WR.mkifc rfl ?_)
      obtain ⟨s4, e4, k4⟩ := used_ n (((h.ext hs1).ext k2).ext k3)
      refine WR.fn rfl e4 ?_
      repeat (first | refine WR.nil ?_ | refine WR.guardY rfl ?_ | refine WR.guardN rfl ?_ | refine WR.guardT rfl ?_ | refine WR.mov rfl ?_ | refine WR.nilchk rfl ?_ | (refine WR.len (v := ?_) rfl ?_ ?_; rotate_left; first | assumption | exact rfl) | (refine WR.iadr (v := ?_) rfl rfl ?_ ?_; rotate_left; assumption) | (refine WR.fadr (v := ?_) rfl ?_ ?_; rotate_left; first | assumption | exact rfl) | (refine WR.r (v := ?_) rfl rfl (Ld.use (s0 := ?_) ?_ ?_) ?_; rotate_left; rotate_left; assumption; assumption) | (refine WR.r (v := ?_) rfl rfl (Ldn.use (s0 := ?_) ?_ ?_) ?_; rotate_left; rotate_left; assumption; assumption) | (refine WR.bin (v := ?_) rfl rfl ?_ ?_; rotate_left; first | assumption | exact lss_nat _ _ | exact eql_nat _ _ | exact neq_nat _ _ | exact gtr_nat _ _ | exact geq_nat _ _ | exact leq_nat _ _ | exact eql_str _ _ | exact neq_str _ _ | (refine add_nat ?_; omega) | (refine sub_nat ?_ ?_; omega; omega)) | refine WR.pick rfl rfl rfl ?_ | refine WR.un rfl rfl ?_ | refine WR.ext rfl rfl ?_ | refine WR.eq rfl rfl rfl ?_ | refine WR.mkifc rfl ?_)
      (repeat refine WC.seq ?_); refine WC.cond rfl ?_ ?_
      · intro hh; cases hh
      · intro _
        (repeat refine WC.seq ?_); refine WC.skip ?_
        exact hQ _ _ (((hs1.trans k2).trans k3).trans k4) ⟨rfl, rfl, rfl, rfl, trivial⟩
    · have q4 := eqlF (a := c) (b := 8) h8
      (repeat refine WC.seq ?_); refine WC.regX (Ext.refl s) fun s1 hs1 hx1 ho1 hn1 => ?_
      repeat (first | refine WR.nil ?_ | refine WR.guardY rfl ?_ | refine WR.guardN rfl ?_ | refine WR.guardT rfl ?_ | refine WR.mov rfl ?_ | refine WR.nilchk rfl ?_ | (refine WR.len (v := ?_) rfl ?_ ?_; rotate_left; first | assumption | exact rfl) | (refine WR.iadr (v := ?_) rfl rfl ?_ ?_; rotate_left; assumption) | (refine WR.fadr (v := ?_) rfl ?_ ?_; rotate_left; first | assumption | exact rfl) | (refine WR.r (v := ?_) rfl rfl (Ld.use (s0 := ?_) ?_ ?_) ?_; rotate_left; rotate_left; assumption; assumption) | (refine WR.r (v := ?_) rfl rfl (Ldn.use (s0 := ?_) ?_ ?_) ?_; rotate_left; rotate_left; assumption; assumption) | (refine WR.bin (v := ?_) rfl rfl ?_ ?_; rotate_left; first | assumption | exact lss_nat _ _ | exact eql_nat _ _ | exact neq_nat _ _ | exact gtr_nat _ _ | exact geq_nat _ _ | exact leq_nat _ _ | exact eql_str _ _ | exact neq_str _ _ | (refine add_nat ?_; omega) | (refine sub_nat ?_ ?_; omega; omega)) | refine WR.pick rfl rfl rfl ?_ | refine WR.un rfl rfl ?_ | refine WR.ext rfl rfl ?_ | refine WR.eq rfl rfl rfl ?_ | refine WR.mkifc rfl ?_)
      obtain ⟨s2, e2, k2⟩ := used_ n (h.ext hs1)
      refine WR.fn rfl e2 ?_
      repeat (first | refine WR.nil ?_ | refine WR.guardY rfl ?_ | refine WR.guardN rfl ?_ | refine WR.guardT rfl ?_ | refine WR.mov rfl ?_ | refine WR.nilchk rfl ?_ | (refine WR.len (v := ?_) rfl ?_ ?_; rotate_left; first | assumption | exact rfl) | (refine WR.iadr (v := ?_) rfl rfl ?_ ?_; rotate_left; assumption) | (refine WR.fadr (v := ?_) rfl ?_ ?_; rotate_left; first | assumption | exact rfl) | (refine WR.r (v := ?_) rfl rfl (Ld.use (s0 := ?_) ?_ ?_) ?_; rotate_left; rotate_left; assumption; assumption) | (refine WR.r (v := ?_) rfl rfl (Ldn.use (s0 := ?_) ?_ ?_) ?_; rotate_left; rotate_left; assumption; assumption) | (refine WR.bin (v := ?_) rfl rfl ?_ ?_; rotate_left; first | assumption | exact lss_nat _ _ | exact eql_nat _ _ | exact neq_nat _ _ | exact gtr_nat _ _ | exact geq_nat _ _ | exact leq_nat _ _ | exact eql_str _ _ | exact neq_str _ _ | (refine add_nat ?_; omega) | (refine sub_nat ?_ ?_; omega; omega)) | refine WR.pick rfl rfl rfl ?_ | refine WR.un rfl rfl ?_ | refine WR.ext rfl rfl ?_ | refine WR.eq rfl rfl rfl ?_ | refine WR.mkifc rfl ?_)
      obtain ⟨s3, e3, k3⟩ := used_ n ((h.ext hs1).ext k2)
      refine WR.fn rfl e3 ?_
      repeat (first | refine WR.nil ?_ | refine WR.guardY rfl ?_ | refine WR.guardN rfl ?_ | refine WR.guardT rfl ?_ | refine WR.mov rfl ?_ | refine WR.nilchk rfl ?_ | (refine WR.len (v := ?_) rfl ?_ ?_; rotate_left; first | assumption | exact rfl) | (refine WR.iadr (v := ?_) rfl rfl ?_ ?_; rotate_left; assumption) | (refine WR.fadr (v := ?_) rfl ?_ ?_; rotate_left; first | assumption | exact rfl) | (refine WR.r (v := ?_) rfl rfl (Ld.use (s0 := ?_) ?_ ?_) ?_; rotate_left; rotate_left; assumption; assumption) | (refine WR.r (v := ?_) rfl rfl (Ldn.use (s0 := ?_) ?_ ?_) ?_; rotate_left; rotate_left; assumption; assumption) | (refine WR.bin (v := ?_) rfl rfl ?_ ?_; rotate_left; first | assumption | exact lss_nat _ _ | exact eql_nat _ _ | exact neq_nat _ _ | exact gtr_nat _ _ | exact geq_nat _ _ | exact leq_nat _ _ | exact eql_str _ _ | exact neq_str _ _ | (refine add_nat ?_; omega) | (refine sub_nat ?_ ?_; omega; omega)) | refine WR.pick rfl rfl rfl ?_ | refine WR.un rfl rfl ?_ | refine WR.ext rfl rfl ?_ | refine WR.eq rfl rfl rfl ?_ | refine WR.mkifc rfl ?_)
      obtain ⟨s4, e4, k4⟩ := used_ n (((h.ext hs1).ext k2).ext k3)
      refine WR.fn rfl e4 ?_
      repeat (first | refine WR.nil ?_ | refine WR.guardY rfl ?_ | refine WR.guardN rfl ?_ | refine WR.guardT rfl ?_ | refine WR.mov rfl ?_ | refine WR.nilchk rfl ?_ | (refine WR.len (v := ?_) rfl ?_ ?_; rotate_left; first | assumption | exact rfl) | (refine WR.iadr (v := ?_) rfl rfl ?_ ?_; rotate_left; assumption) | (refine WR.fadr (v := ?_) rfl ?_ ?_; rotate_left; first | assumption | exact rfl) | (refine WR.r (v := ?_) rfl rfl (Ld.use (s0 := ?_) ?_ ?_) ?_; rotate_left; rotate_left; assumption; assumption) | (refine WR.r (v := ?_) rfl rfl (Ldn.use (s0 := ?_) ?_ ?_) ?_; rotate_left; rotate_left; assumption; assumption) | (refine WR.bin (v := ?_) rfl rfl ?_ ?_; rotate_left; first | assumption | exact lss_nat _ _ | exact eql_nat _ _ | exact neq_nat _ _ | exact gtr_nat _ _ | exact geq_nat _ _ | exact leq_nat _ _ | exact eql_str _ _ | exact neq_str _ _ | (refine add_nat ?_; omega) | (refine sub_nat ?_ ?_; omega; omega)) | refine WR.pick rfl rfl rfl ?_ | refine WR.un rfl rfl ?_ | refine WR.ext rfl rfl ?_ | refine WR.eq rfl rfl rfl ?_ | refine WR.mkifc rfl ?_)
      (repeat refine WC.seq ?_); refine WC.cond rfl ?_ ?_
      · intro hh; cases hh
      · intro _
        (repeat refine WC.seq ?_); refine WC.skip ?_
        exact hQ _ _ (((hs1.trans k2).trans k3).trans k4) ⟨rfl, rfl, rfl, rfl, trivial⟩
theorem loop3 {hid m n : Nat} (hO : OpsV s0 lv os) (hlo : s0.next ≤ lo) :
    ∀ (j i : Nat) (s : St) (f : Nat) (H : HM), i + j = 60 → j < f → HeapAt s lo H → HeapOk H → H.hid = hid → H.room = m → Ext s0 s →
      WL (acall F0 E15 (n + 4)) (n + 4) b3_0 f [(1, lv), (5, .int .i64 (.ofNat m)), (6, .ptr hid 0 0 6), (8, .int .i64 (.ofNat i))] s (fun x l s => x = .ext 0) := by
  have h0 := hO.slv.len' (m := os.length) (by simp)
  intro j
  induction j with
  | zero =>
    intro i s f H hi hf h ok hh1 hh2 hs
    obtain ⟨f, rfl⟩ : ∃ g, f = g + 1 := ⟨f - 1, by omega⟩
    have q2 := lssF (a := i) (b := 60) (by omega)
    obtain ⟨r, q1⟩ : ∃ r, abin .lss (.int .i64 (.ofNat i)) (.int .i64 (.ofNat os.length)) = some (.bool r) := ⟨_, lss_nat _ _⟩
    refine WL.round ?_
    cases r <;>
    · (repeat refine WC.seq ?_); refine WC.regX hs fun s1 hs1 hx1 ho1 hn1 => ?_
      repeat (first | refine WR.nil ?_ | refine WR.guardY rfl ?_ | refine WR.guardN rfl ?_ | refine WR.guardT rfl ?_ | refine WR.mov rfl ?_ | refine WR.nilchk rfl ?_ | (refine WR.len (v := ?_) rfl ?_ ?_; rotate_left; first | assumption | exact rfl) | (refine WR.iadr (v := ?_) rfl rfl ?_ ?_; rotate_left; assumption) | (refine WR.fadr (v := ?_) rfl ?_ ?_; rotate_left; first | assumption | exact rfl) | (refine WR.r (v := ?_) rfl rfl (Ld.use (s0 := ?_) ?_ ?_) ?_; rotate_left; rotate_left; assumption; assumption) | (refine WR.r (v := ?_) rfl rfl (Ldn.use (s0 := ?_) ?_ ?_) ?_; rotate_left; rotate_left; assumption; assumption) | (refine WR.bin (v := ?_) rfl rfl ?_ ?_; rotate_left; first | assumption | exact lss_nat _ _ | exact eql_nat _ _ | exact neq_nat _ _ | exact gtr_nat _ _ | exact geq_nat _ _ | exact leq_nat _ _ | exact eql_str _ _ | exact neq_str _ _ | (refine add_nat ?_; omega) | (refine sub_nat ?_ ?_; omega; omega)) | refine WR.pick rfl rfl rfl ?_ | refine WR.un rfl rfl ?_ | refine WR.ext rfl rfl ?_ | refine WR.eq rfl rfl rfl ?_ | refine WR.mkifc rfl ?_)
      (repeat refine WC.seq ?_); refine WC.cond rfl ?_ ?_
      · intro hh; cases hh
      · intro _
        exact WC.ext rfl
  | succ j ih =>
    intro i s f H hi hf h ok hh1 hh2 hs
    obtain ⟨f, rfl⟩ : ∃ g, f = g + 1 := ⟨f - 1, by omega⟩
    by_cases hlt : i < os.length
    rotate_left
    · have q1 := lssF (a := i) (b := os.length) hlt
      refine WL.round ?_
      (repeat refine WC.seq ?_); refine WC.regX hs fun s1 hs1 hx1 ho1 hn1 => ?_
      repeat (first | refine WR.nil ?_ | refine WR.guardY rfl ?_ | refine WR.guardN rfl ?_ | refine WR.guardT rfl ?_ | refine WR.mov rfl ?_ | refine WR.nilchk rfl ?_ | (refine WR.len (v := ?_) rfl ?_ ?_; rotate_left; first | assumption | exact rfl) | (refine WR.iadr (v := ?_) rfl rfl ?_ ?_; rotate_left; assumption) | (refine WR.fadr (v := ?_) rfl ?_ ?_; rotate_left; first | assumption | exact rfl) | (refine WR.r (v := ?_) rfl rfl (Ld.use (s0 := ?_) ?_ ?_) ?_; rotate_left; rotate_left; assumption; assumption) | (refine WR.r (v := ?_) rfl rfl (Ldn.use (s0 := ?_) ?_ ?_) ?_; rotate_left; rotate_left; assumption; assumption) | (refine WR.bin (v := ?_) rfl rfl ?_ ?_; rotate_left; first | assumption | exact lss_nat _ _ | exact eql_nat _ _ | exact neq_nat _ _ | exact gtr_nat _ _ | exact geq_nat _ _ | exact leq_nat _ _ | exact eql_str _ _ | exact neq_str _ _ | (refine add_nat ?_; omega) | (refine sub_nat ?_ ?_; omega; omega)) | refine WR.pick rfl rfl rfl ?_ | refine WR.un rfl rfl ?_ | refine WR.ext rfl rfl ?_ | refine WR.eq rfl rfl rfl ?_ | refine WR.mkifc rfl ?_)
      (repeat refine WC.seq ?_); refine WC.cond rfl ?_ ?_
      · intro hh; cases hh
      · intro _
        exact WC.ext rfl
    have q1 := lssT (a := i) (b := os.length) hlt
    have q2 := lssT (a := i) (b := 60) (by omega)
    have cont : ∀ (l : SL) (s5 : St) (H5 : HM), HeapAt s5 lo H5 → HeapOk H5 → H5.hid = hid → H5.room = m → Ext s0 s5 → Sub2 [(1, lv), (5, .int .i64 (.ofNat m)), (6, .ptr hid 0 0 6), (8, .int .i64 (.ofNat i))] l →
        WC (acall F0 E15 (n + 4)) (n + 4) (.reg r3_21) l s5 (fun x l s => thenW x (WL (acall F0 E15 (n + 4)) (n + 4) b3_0 f l s (fun x l s => x = .ext 0)) (x = .ext 0)) := by
      intro l s5 H5 h5 ok5 e1 e2 hs5 hsub
      refine WC.weak hsub ?_
      (repeat refine WC.seq ?_); refine WC.regX hs5 fun s6 hs6 hx6 ho6 hn6 => ?_
      repeat (first | refine WR.nil ?_ | refine WR.guardY rfl ?_ | refine WR.guardN rfl ?_ | refine WR.guardT rfl ?_ | refine WR.mov rfl ?_ | refine WR.nilchk rfl ?_ | (refine WR.len (v := ?_) rfl ?_ ?_; rotate_left; first | assumption | exact rfl) | (refine WR.iadr (v := ?_) rfl rfl ?_ ?_; rotate_left; assumption) | (refine WR.fadr (v := ?_) rfl ?_ ?_; rotate_left; first | assumption | exact rfl) | (refine WR.r (v := ?_) rfl rfl (Ld.use (s0 := ?_) ?_ ?_) ?_; rotate_left; rotate_left; assumption; assumption) | (refine WR.r (v := ?_) rfl rfl (Ldn.use (s0 := ?_) ?_ ?_) ?_; rotate_left; rotate_left; assumption; assumption) | (refine WR.bin (v := ?_) rfl rfl ?_ ?_; rotate_left; first | assumption | exact lss_nat _ _ | exact eql_nat _ _ | exact neq_nat _ _ | exact gtr_nat _ _ | exact geq_nat _ _ | exact leq_nat _ _ | exact eql_str _ _ | exact neq_str _ _ | (refine add_nat ?_; omega) | (refine sub_nat ?_ ?_; omega; omega)) | refine WR.pick rfl rfl rfl ?_ | refine WR.un rfl rfl ?_ | refine WR.ext rfl rfl ?_ | refine WR.eq rfl rfl rfl ?_ | refine WR.mkifc rfl ?_)
      refine WL.weak ?hw (ih (i + 1) _ f H5 (by omega) (by omega) (h5.ext hx6) ok5 e1 e2 hs6)
      case hw => exact ⟨rfl, rfl, rfl, rfl, trivial⟩
    have hp : H.p = .ptr hid 0 0 6 := by rw [HM.p, hh1]
    have ho : (os.map opR)[i]? = some (opR os[i]) := by simp [hlt]
    obtain ⟨hc1, hc2⟩ := hO.len os[i] (List.getElem_mem hlt)
    obtain ⟨pp, p1, p2⟩ := hO.slv.iadr ho .i64
    have pl := p2.ldn (n := 14) rfl
    generalize os[i] = o at ho hc1 hc2 p1 p2 pl
    refine WL.round ?_
    (repeat refine WC.seq ?_); refine WC.regX hs fun s1 hs1 hx1 ho1 hn1 => ?_
    repeat (first | refine WR.nil ?_ | refine WR.guardY rfl ?_ | refine WR.guardN rfl ?_ | refine WR.guardT rfl ?_ | refine WR.mov rfl ?_ | refine WR.nilchk rfl ?_ | (refine WR.len (v := ?_) rfl ?_ ?_; rotate_left; first | assumption | exact rfl) | (refine WR.iadr (v := ?_) rfl rfl ?_ ?_; rotate_left; assumption) | (refine WR.fadr (v := ?_) rfl ?_ ?_; rotate_left; first | assumption | exact rfl) | (refine WR.r (v := ?_) rfl rfl (Ld.use (s0 := ?_) ?_ ?_) ?_; rotate_left; rotate_left; assumption; assumption) | (refine WR.r (v := ?_) rfl rfl (Ldn.use (s0 := ?_) ?_ ?_) ?_; rotate_left; rotate_left; assumption; assumption) | (refine WR.bin (v := ?_) rfl rfl ?_ ?_; rotate_left; first | assumption | exact lss_nat _ _ | exact eql_nat _ _ | exact neq_nat _ _ | exact gtr_nat _ _ | exact geq_nat _ _ | exact leq_nat _ _ | exact eql_str _ _ | exact neq_str _ _ | (refine add_nat ?_; omega) | (refine sub_nat ?_ ?_; omega; omega)) | refine WR.pick rfl rfl rfl ?_ | refine WR.un rfl rfl ?_ | refine WR.ext rfl rfl ?_ | refine WR.eq rfl rfl rfl ?_ | refine WR.mkifc rfl ?_)
    (repeat refine WC.seq ?_); refine WC.cond rfl ?_ ?_
    rotate_left
    · intro hh; cases hh
    intro _
    (repeat refine WC.seq ?_); refine WC.skip ?_
    (repeat refine WC.seq ?_); refine WC.blk ?_
    (repeat refine WC.seq ?_); refine WC.regX hs1 fun s2 hs2 hx2 ho2 hn2 => ?_
    repeat (first | refine WR.nil ?_ | refine WR.guardY rfl ?_ | refine WR.guardN rfl ?_ | refine WR.guardT rfl ?_ | refine WR.mov rfl ?_ | refine WR.nilchk rfl ?_ | (refine WR.len (v := ?_) rfl ?_ ?_; rotate_left; first | assumption | exact rfl) | (refine WR.iadr (v := ?_) rfl rfl ?_ ?_; rotate_left; assumption) | (refine WR.fadr (v := ?_) rfl ?_ ?_; rotate_left; first | assumption | exact rfl) | (refine WR.r (v := ?_) rfl rfl (Ld.use (s0 := ?_) ?_ ?_) ?_; rotate_left; rotate_left; assumption; assumption) | (refine WR.r (v := ?_) rfl rfl (Ldn.use (s0 := ?_) ?_ ?_) ?_; rotate_left; rotate_left; assumption; assumption) | (refine WR.bin (v := ?_) rfl rfl ?_ ?_; rotate_left; first | assumption | exact lss_nat _ _ | exact eql_nat _ _ | exact neq_nat _ _ | exact gtr_nat _ _ | exact geq_nat _ _ | exact leq_nat _ _ | exact eql_str _ _ | exact neq_str _ _ | (refine add_nat ?_; omega) | (refine sub_nat ?_ ?_; omega; omega)) | refine WR.pick rfl rfl rfl ?_ | refine WR.un rfl rfl ?_ | refine WR.ext rfl rfl ?_ | refine WR.eq rfl rfl rfl ?_ | refine WR.mkifc rfl ?_)
    refine WR.alloc ?_
    refine WR.store rfl rfl rfl rfl (Nat.le_refl _) (wr_some (gr := false) (g := 0) (w := 0) (by rw [get_put, if_pos rfl]) (Nat.le_refl _)) ?_
    refine WR.nil ?_
    have m2 : s2.next = s1.next + 6 := hn2
    have xs : Ext s s1 := hx1
    have xA := ((xs.trans hx2).put (id := s1.next + 1 + 1 + 1 + 1) (by have := xs.next; omega) (.cells [.int .i64 (.ofNat 0), .int .i64 (.ofNat 0), .int .i64 (.ofNat 0), .str [], .int .i64 (.ofNat 0), .int .i64 (.ofNat 0), .str [], .int .i64 (.ofNat 0), .int .i64 (.ofNat 0), .str [], .int .i64 (.ofNat 0), .int .i64 (.ofNat 0), .nilslc, .int .i64 (.ofNat 0)] 0 0 false)).put (id := s1.next + 1 + 1 + 1 + 1) (by have := xs.next; omega) (.cells (opR o) 0 0 false)
    change WC _ _ _ _ ((s2.put (s1.next + 1 + 1 + 1 + 1) (.cells [.int .i64 (.ofNat 0), .int .i64 (.ofNat 0), .int .i64 (.ofNat 0), .str [], .int .i64 (.ofNat 0), .int .i64 (.ofNat 0), .str [], .int .i64 (.ofNat 0), .int .i64 (.ofNat 0), .str [], .int .i64 (.ofNat 0), .int .i64 (.ofNat 0), .nilslc, .int .i64 (.ofNat 0)] 0 0 false)).put (s1.next + 1 + 1 + 1 + 1) (.cells (opR o) 0 0 false)) _
    have gA : ((s2.put (s1.next + 1 + 1 + 1 + 1) (.cells [.int .i64 (.ofNat 0), .int .i64 (.ofNat 0), .int .i64 (.ofNat 0), .str [], .int .i64 (.ofNat 0), .int .i64 (.ofNat 0), .str [], .int .i64 (.ofNat 0), .int .i64 (.ofNat 0), .str [], .int .i64 (.ofNat 0), .int .i64 (.ofNat 0), .nilslc, .int .i64 (.ofNat 0)] 0 0 false)).put (s1.next + 1 + 1 + 1 + 1) (.cells (opR o) 0 0 false)).objs.get (s1.next + 1 + 1 + 1 + 1) = some (.cells (opR o) 0 0 false) := by rw [get_put, if_pos rfl]
    have nA : s1.next + 1 + 1 + 1 + 1 < ((s2.put (s1.next + 1 + 1 + 1 + 1) (.cells [.int .i64 (.ofNat 0), .int .i64 (.ofNat 0), .int .i64 (.ofNat 0), .str [], .int .i64 (.ofNat 0), .int .i64 (.ofNat 0), .str [], .int .i64 (.ofNat 0), .int .i64 (.ofNat 0), .str [], .int .i64 (.ofNat 0), .int .i64 (.ofNat 0), .nilslc, .int .i64 (.ofNat 0)] 0 0 false)).put (s1.next + 1 + 1 + 1 + 1) (.cells (opR o) 0 0 false)).next := by rw [next_put, next_put]; omega
    generalize (s2.put (s1.next + 1 + 1 + 1 + 1) (.cells [.int .i64 (.ofNat 0), .int .i64 (.ofNat 0), .int .i64 (.ofNat 0), .str [], .int .i64 (.ofNat 0), .int .i64 (.ofNat 0), .str [], .int .i64 (.ofNat 0), .int .i64 (.ofNat 0), .str [], .int .i64 (.ofNat 0), .int .i64 (.ofNat 0), .nilslc, .int .i64 (.ofNat 0)] 0 0 false)).put (s1.next + 1 + 1 + 1 + 1) (.cells (opR o) 0 0 false) = sb at xA gA nA ⊢
    generalize s1.next + 1 + 1 + 1 + 1 = A at gA nA ⊢
    have la : Ldn sb 14 (.ptr A 0 0 14) (.agg (opR o)) := objLdn gA nA (o := 0) (m := 14) (Nat.le_refl _)
    have l0 := objLd gA nA (o := 0) (v := .int .i64 o.k) rfl
    have lk : Ldn sb 3 (.ptr A 0 4 3) (valA o.key) := objLdn gA nA (o := 4) (m := 3) (Nat.le_of_ble_eq_true rfl)
    have lv2 : Ldn sb 3 (.ptr A 0 7 3) (valA o.v) := objLdn gA nA (o := 7) (m := 3) (Nat.le_of_ble_eq_true rfl)
    have hb := h.ext xA
    have x0b : Ext s0 sb := hs.trans xA
    (repeat refine WC.seq ?_); refine WC.regX (Ext.refl sb) fun s3 hs3 hx3 ho3 hn3 => ?_
    repeat (first | refine WR.nil ?_ | refine WR.guardY rfl ?_ | refine WR.guardN rfl ?_ | refine WR.guardT rfl ?_ | refine WR.mov rfl ?_ | refine WR.nilchk rfl ?_ | (refine WR.len (v := ?_) rfl ?_ ?_; rotate_left; first | assumption | exact rfl) | (refine WR.iadr (v := ?_) rfl rfl ?_ ?_; rotate_left; assumption) | (refine WR.fadr (v := ?_) rfl ?_ ?_; rotate_left; first | assumption | exact rfl) | (refine WR.r (v := ?_) rfl rfl (Ld.use (s0 := ?_) ?_ ?_) ?_; rotate_left; rotate_left; assumption; assumption) | (refine WR.r (v := ?_) rfl rfl (Ldn.use (s0 := ?_) ?_ ?_) ?_; rotate_left; rotate_left; assumption; assumption) | (refine WR.bin (v := ?_) rfl rfl ?_ ?_; rotate_left; first | assumption | exact lss_nat _ _ | exact eql_nat _ _ | exact neq_nat _ _ | exact gtr_nat _ _ | exact geq_nat _ _ | exact leq_nat _ _ | exact eql_str _ _ | exact neq_str _ _ | (refine add_nat ?_; omega) | (refine sub_nat ?_ ?_; omega; omega)) | refine WR.pick rfl rfl rfl ?_ | refine WR.un rfl rfl ?_ | refine WR.ext rfl rfl ?_ | refine WR.eq rfl rfl rfl ?_ | refine WR.mkifc rfl ?_)
    obtain ⟨s4, b4, e4, k4⟩ := small_ (s := s3) (n + 2) o hc1 hc2
    have hs4 := hs3.trans k4
    refine WR.fn rfl e4 ?_
    cases b4 with
    | false =>
      repeat (first | refine WR.nil ?_ | refine WR.guardY rfl ?_ | refine WR.guardN rfl ?_ | refine WR.guardT rfl ?_ | refine WR.mov rfl ?_ | refine WR.nilchk rfl ?_ | (refine WR.len (v := ?_) rfl ?_ ?_; rotate_left; first | assumption | exact rfl) | (refine WR.iadr (v := ?_) rfl rfl ?_ ?_; rotate_left; assumption) | (refine WR.fadr (v := ?_) rfl ?_ ?_; rotate_left; first | assumption | exact rfl) | (refine WR.r (v := ?_) rfl rfl (Ld.use (s0 := ?_) ?_ ?_) ?_; rotate_left; rotate_left; assumption; assumption) | (refine WR.r (v := ?_) rfl rfl (Ldn.use (s0 := ?_) ?_ ?_) ?_; rotate_left; rotate_left; assumption; assumption) | (refine WR.bin (v := ?_) rfl rfl ?_ ?_; rotate_left; first | assumption | exact lss_nat _ _ | exact eql_nat _ _ | exact neq_nat _ _ | exact gtr_nat _ _ | exact geq_nat _ _ | exact leq_nat _ _ | exact eql_str _ _ | exact neq_str _ _ | (refine add_nat ?_; omega) | (refine sub_nat ?_ ?_; omega; omega)) | refine WR.pick rfl rfl rfl ?_ | refine WR.un rfl rfl ?_ | refine WR.ext rfl rfl ?_ | refine WR.eq rfl rfl rfl ?_ | refine WR.mkifc rfl ?_)
      (repeat refine WC.seq ?_); refine WC.cond rfl ?_ ?_
      · intro _
        refine WC.ext ?_
        exact cont _ _ H (hb.ext hs4) ok hh1 hh2 (x0b.trans hs4) ⟨rfl, rfl, rfl, rfl, trivial⟩
      · intro hh; cases hh
    | true =>
    repeat (first | refine WR.nil ?_ | refine WR.guardY rfl ?_ | refine WR.guardN rfl ?_ | refine WR.guardT rfl ?_ | refine WR.mov rfl ?_ | refine WR.nilchk rfl ?_ | (refine WR.len (v := ?_) rfl ?_ ?_; rotate_left; first | assumption | exact rfl) | (refine WR.iadr (v := ?_) rfl rfl ?_ ?_; rotate_left; assumption) | (refine WR.fadr (v := ?_) rfl ?_ ?_; rotate_left; first | assumption | exact rfl) | (refine WR.r (v := ?_) rfl rfl (Ld.use (s0 := ?_) ?_ ?_) ?_; rotate_left; rotate_left; assumption; assumption) | (refine WR.r (v := ?_) rfl rfl (Ldn.use (s0 := ?_) ?_ ?_) ?_; rotate_left; rotate_left; assumption; assumption) | (refine WR.bin (v := ?_) rfl rfl ?_ ?_; rotate_left; first | assumption | exact lss_nat _ _ | exact eql_nat _ _ | exact neq_nat _ _ | exact gtr_nat _ _ | exact geq_nat _ _ | exact leq_nat _ _ | exact eql_str _ _ | exact neq_str _ _ | (refine add_nat ?_; omega) | (refine sub_nat ?_ ?_; omega; omega)) | refine WR.pick rfl rfl rfl ?_ | refine WR.un rfl rfl ?_ | refine WR.ext rfl rfl ?_ | refine WR.eq rfl rfl rfl ?_ | refine WR.mkifc rfl ?_)
    (repeat refine WC.seq ?_); refine WC.cond rfl ?_ ?_
    · intro hh; cases hh
    intro _
    (repeat refine WC.seq ?_); refine WC.skip ?_
    (repeat refine WC.seq ?_); refine WC.regX hs4 fun s5 hs5 hx5 ho5 hn5 => ?_
    repeat (first | refine WR.nil ?_ | refine WR.guardY rfl ?_ | refine WR.guardN rfl ?_ | refine WR.guardT rfl ?_ | refine WR.mov rfl ?_ | refine WR.nilchk rfl ?_ | (refine WR.len (v := ?_) rfl ?_ ?_; rotate_left; first | assumption | exact rfl) | (refine WR.iadr (v := ?_) rfl rfl ?_ ?_; rotate_left; assumption) | (refine WR.fadr (v := ?_) rfl ?_ ?_; rotate_left; first | assumption | exact rfl) | (refine WR.r (v := ?_) rfl rfl (Ld.use (s0 := ?_) ?_ ?_) ?_; rotate_left; rotate_left; assumption; assumption) | (refine WR.r (v := ?_) rfl rfl (Ldn.use (s0 := ?_) ?_ ?_) ?_; rotate_left; rotate_left; assumption; assumption) | (refine WR.bin (v := ?_) rfl rfl ?_ ?_; rotate_left; first | assumption | exact lss_nat _ _ | exact eql_nat _ _ | exact neq_nat _ _ | exact gtr_nat _ _ | exact geq_nat _ _ | exact leq_nat _ _ | exact eql_str _ _ | exact neq_str _ _ | (refine add_nat ?_; omega) | (refine sub_nat ?_ ?_; omega; omega)) | refine WR.pick rfl rfl rfl ?_ | refine WR.un rfl rfl ?_ | refine WR.ext rfl rfl ?_ | refine WR.eq rfl rfl rfl ?_ | refine WR.mkifc rfl ?_)
    obtain ⟨s6, e6, k6⟩ := used_ (n + 2) (hb.ext hs5)
    rw [hp] at e6
    refine WR.fn rfl e6 ?_
    have hs6 := hs5.trans k6
    repeat (first | refine WR.nil ?_ | refine WR.guardY rfl ?_ | refine WR.guardN rfl ?_ | refine WR.guardT rfl ?_ | refine WR.mov rfl ?_ | refine WR.nilchk rfl ?_ | (refine WR.len (v := ?_) rfl ?_ ?_; rotate_left; first | assumption | exact rfl) | (refine WR.iadr (v := ?_) rfl rfl ?_ ?_; rotate_left; assumption) | (refine WR.fadr (v := ?_) rfl ?_ ?_; rotate_left; first | assumption | exact rfl) | (refine WR.r (v := ?_) rfl rfl (Ld.use (s0 := ?_) ?_ ?_) ?_; rotate_left; rotate_left; assumption; assumption) | (refine WR.r (v := ?_) rfl rfl (Ldn.use (s0 := ?_) ?_ ?_) ?_; rotate_left; rotate_left; assumption; assumption) | (refine WR.bin (v := ?_) rfl rfl ?_ ?_; rotate_left; first | assumption | exact lss_nat _ _ | exact eql_nat _ _ | exact neq_nat _ _ | exact gtr_nat _ _ | exact geq_nat _ _ | exact leq_nat _ _ | exact eql_str _ _ | exact neq_str _ _ | (refine add_nat ?_; omega) | (refine sub_nat ?_ ?_; omega; omega)) | refine WR.pick rfl rfl rfl ?_ | refine WR.un rfl rfl ?_ | refine WR.ext rfl rfl ?_ | refine WR.eq rfl rfl rfl ?_ | refine WR.mkifc rfl ?_)
    (repeat refine WC.seq ?_); refine WC.regX hs6 fun s7 hs7 hx7 ho7 hn7 => ?_
    repeat (first | refine WR.nil ?_ | refine WR.guardY rfl ?_ | refine WR.guardN rfl ?_ | refine WR.guardT rfl ?_ | refine WR.mov rfl ?_ | refine WR.nilchk rfl ?_ | (refine WR.len (v := ?_) rfl ?_ ?_; rotate_left; first | assumption | exact rfl) | (refine WR.iadr (v := ?_) rfl rfl ?_ ?_; rotate_left; assumption) | (refine WR.fadr (v := ?_) rfl ?_ ?_; rotate_left; first | assumption | exact rfl) | (refine WR.r (v := ?_) rfl rfl (Ld.use (s0 := ?_) ?_ ?_) ?_; rotate_left; rotate_left; assumption; assumption) | (refine WR.r (v := ?_) rfl rfl (Ldn.use (s0 := ?_) ?_ ?_) ?_; rotate_left; rotate_left; assumption; assumption) | (refine WR.bin (v := ?_) rfl rfl ?_ ?_; rotate_left; first | assumption | exact lss_nat _ _ | exact eql_nat _ _ | exact neq_nat _ _ | exact gtr_nat _ _ | exact geq_nat _ _ | exact leq_nat _ _ | exact eql_str _ _ | exact neq_str _ _ | (refine add_nat ?_; omega) | (refine sub_nat ?_ ?_; omega; omega)) | refine WR.pick rfl rfl rfl ?_ | refine WR.un rfl rfl ?_ | refine WR.ext rfl rfl ?_ | refine WR.eq rfl rfl rfl ?_ | refine WR.mkifc rfl ?_)
    have hr : abin .rem (.int .i64 o.k) (.int .i64 (.ofNat 3)) = some (.int .i64 (o.k.tmod (.ofNat 3))) := rem_int _ (by decide)
    generalize o.k.tmod (.ofNat 3) = y at hr
    (repeat refine WC.seq ?_); refine WC.regX hs7 fun s8 hs8 hx8 ho8 hn8 => ?_
    repeat (first | refine WR.nil ?_ | refine WR.guardY rfl ?_ | refine WR.guardN rfl ?_ | refine WR.guardT rfl ?_ | refine WR.mov rfl ?_ | refine WR.nilchk rfl ?_ | (refine WR.len (v := ?_) rfl ?_ ?_; rotate_left; first | assumption | exact rfl) | (refine WR.iadr (v := ?_) rfl rfl ?_ ?_; rotate_left; assumption) | (refine WR.fadr (v := ?_) rfl ?_ ?_; rotate_left; first | assumption | exact rfl) | (refine WR.r (v := ?_) rfl rfl (Ld.use (s0 := ?_) ?_ ?_) ?_; rotate_left; rotate_left; assumption; assumption) | (refine WR.r (v := ?_) rfl rfl (Ldn.use (s0 := ?_) ?_ ?_) ?_; rotate_left; rotate_left; assumption; assumption) | (refine WR.bin (v := ?_) rfl rfl ?_ ?_; rotate_left; first | assumption | exact lss_nat _ _ | exact eql_nat _ _ | exact neq_nat _ _ | exact gtr_nat _ _ | exact geq_nat _ _ | exact leq_nat _ _ | exact eql_str _ _ | exact neq_str _ _ | (refine add_nat ?_; omega) | (refine sub_nat ?_ ?_; omega; omega)) | refine WR.pick rfl rfl rfl ?_ | refine WR.un rfl rfl ?_ | refine WR.ext rfl rfl ?_ | refine WR.eq rfl rfl rfl ?_ | refine WR.mkifc rfl ?_)
    (repeat refine WC.seq ?_); refine WC.blk ?_
    obtain ⟨r0, q5⟩ := eql_some y (.ofNat 0)
    obtain ⟨r1, q6⟩ := eql_some y (.ofNat 1)
    cases r0 with
    | true =>
      (repeat refine WC.seq ?_); refine WC.regX hs8 fun s9 hs9 hx9 ho9 hn9 => ?_
      repeat (first | refine WR.nil ?_ | refine WR.guardY rfl ?_ | refine WR.guardN rfl ?_ | refine WR.guardT rfl ?_ | refine WR.mov rfl ?_ | refine WR.nilchk rfl ?_ | (refine WR.len (v := ?_) rfl ?_ ?_; rotate_left; first | assumption | exact rfl) | (refine WR.iadr (v := ?_) rfl rfl ?_ ?_; rotate_left; assumption) | (refine WR.fadr (v := ?_) rfl ?_ ?_; rotate_left; first | assumption | exact rfl) | (refine WR.r (v := ?_) rfl rfl (Ld.use (s0 := ?_) ?_ ?_) ?_; rotate_left; rotate_left; assumption; assumption) | (refine WR.r (v := ?_) rfl rfl (Ldn.use (s0 := ?_) ?_ ?_) ?_; rotate_left; rotate_left; assumption; assumption) | (refine WR.bin (v := ?_) rfl rfl ?_ ?_; rotate_left; first | assumption | exact lss_nat _ _ | exact eql_nat _ _ | exact neq_nat _ _ | exact gtr_nat _ _ | exact geq_nat _ _ | exact leq_nat _ _ | exact eql_str _ _ | exact neq_str _ _ | (refine add_nat ?_; omega) | (refine sub_nat ?_ ?_; omega; omega)) | refine WR.pick rfl rfl rfl ?_ | refine WR.un rfl rfl ?_ | refine WR.ext rfl rfl ?_ | refine WR.eq rfl rfl rfl ?_ | refine WR.mkifc rfl ?_)
      (repeat refine WC.seq ?_); refine WC.cond rfl ?_ ?_
      rotate_left
      · intro hh; cases hh
      intro _
      (repeat refine WC.seq ?_); refine WC.regX hs9 fun s10 hs10 hx10 ho10 hn10 => ?_
      repeat (first | refine WR.nil ?_ | refine WR.guardY rfl ?_ | refine WR.guardN rfl ?_ | refine WR.guardT rfl ?_ | refine WR.mov rfl ?_ | refine WR.nilchk rfl ?_ | (refine WR.len (v := ?_) rfl ?_ ?_; rotate_left; first | assumption | exact rfl) | (refine WR.iadr (v := ?_) rfl rfl ?_ ?_; rotate_left; assumption) | (refine WR.fadr (v := ?_) rfl ?_ ?_; rotate_left; first | assumption | exact rfl) | (refine WR.r (v := ?_) rfl rfl (Ld.use (s0 := ?_) ?_ ?_) ?_; rotate_left; rotate_left; assumption; assumption) | (refine WR.r (v := ?_) rfl rfl (Ldn.use (s0 := ?_) ?_ ?_) ?_; rotate_left; rotate_left; assumption; assumption) | (refine WR.bin (v := ?_) rfl rfl ?_ ?_; rotate_left; first | assumption | exact lss_nat _ _ | exact eql_nat _ _ | exact neq_nat _ _ | exact gtr_nat _ _ | exact geq_nat _ _ | exact leq_nat _ _ | exact eql_str _ _ | exact neq_str _ _ | (refine add_nat ?_; omega) | (refine sub_nat ?_ ?_; omega; omega)) | refine WR.pick rfl rfl rfl ?_ | refine WR.un rfl rfl ?_ | refine WR.ext rfl rfl ?_ | refine WR.eq rfl rfl rfl ?_ | refine WR.mkifc rfl ?_)
      obtain ⟨s11, c, H', r, e11, st⟩ := tableS (n + 1) (hb.ext hs10) ok
      rw [hp] at e11
      refine WR.fn rfl e11 ?_
      repeat (first | refine WR.nil ?_ | refine WR.guardY rfl ?_ | refine WR.guardN rfl ?_ | refine WR.guardT rfl ?_ | refine WR.mov rfl ?_ | refine WR.nilchk rfl ?_ | (refine WR.len (v := ?_) rfl ?_ ?_; rotate_left; first | assumption | exact rfl) | (refine WR.iadr (v := ?_) rfl rfl ?_ ?_; rotate_left; assumption) | (refine WR.fadr (v := ?_) rfl ?_ ?_; rotate_left; first | assumption | exact rfl) | (refine WR.r (v := ?_) rfl rfl (Ld.use (s0 := ?_) ?_ ?_) ?_; rotate_left; rotate_left; assumption; assumption) | (refine WR.r (v := ?_) rfl rfl (Ldn.use (s0 := ?_) ?_ ?_) ?_; rotate_left; rotate_left; assumption; assumption) | (refine WR.bin (v := ?_) rfl rfl ?_ ?_; rotate_left; first | assumption | exact lss_nat _ _ | exact eql_nat _ _ | exact neq_nat _ _ | exact gtr_nat _ _ | exact geq_nat _ _ | exact leq_nat _ _ | exact eql_str _ _ | exact neq_str _ _ | (refine add_nat ?_; omega) | (refine sub_nat ?_ ?_; omega; omega)) | refine WR.pick rfl rfl rfl ?_ | refine WR.un rfl rfl ?_ | refine WR.ext rfl rfl ?_ | refine WR.eq rfl rfl rfl ?_ | refine WR.mkifc rfl ?_)
      refine WR.alloc ?_
      refine WR.store rfl rfl rfl rfl (Nat.le_refl _) (wr_some (gr := false) (g := 0) (w := 0) (by rw [get_put, if_pos rfl]) (Nat.le_refl _)) ?_
      repeat (first | refine WR.nil ?_ | refine WR.guardY rfl ?_ | refine WR.guardN rfl ?_ | refine WR.guardT rfl ?_ | refine WR.mov rfl ?_ | refine WR.nilchk rfl ?_ | (refine WR.len (v := ?_) rfl ?_ ?_; rotate_left; first | assumption | exact rfl) | (refine WR.iadr (v := ?_) rfl rfl ?_ ?_; rotate_left; assumption) | (refine WR.fadr (v := ?_) rfl ?_ ?_; rotate_left; first | assumption | exact rfl) | (refine WR.r (v := ?_) rfl rfl (Ld.use (s0 := ?_) ?_ ?_) ?_; rotate_left; rotate_left; assumption; assumption) | (refine WR.r (v := ?_) rfl rfl (Ldn.use (s0 := ?_) ?_ ?_) ?_; rotate_left; rotate_left; assumption; assumption) | (refine WR.bin (v := ?_) rfl rfl ?_ ?_; rotate_left; first | assumption | exact lss_nat _ _ | exact eql_nat _ _ | exact neq_nat _ _ | exact gtr_nat _ _ | exact geq_nat _ _ | exact leq_nat _ _ | exact eql_str _ _ | exact neq_str _ _ | (refine add_nat ?_; omega) | (refine sub_nat ?_ ?_; omega; omega)) | refine WR.pick rfl rfl rfl ?_ | refine WR.un rfl rfl ?_ | refine WR.ext rfl rfl ?_ | refine WR.eq rfl rfl rfl ?_ | refine WR.mkifc rfl ?_)
      have m10 : s10.next = s9.next + 8 := hn10
      have hlt9 := (hb.ext hs9)
      have nfB : ¬ Foot H' (s9.next + 1 + 1 + 1 + 1 + 1) := fun hf => by have := (hlt9.foot (st.fr.foot _ (by omega) hf)).2; omega
      have h12 := (st.at_.off nfB (.cells [.int .i64 (.ofNat 0), .int .i64 (.ofNat 0), .str []] 0 0 false)).off nfB (.cells (valR r) 0 0 false)
      have x9 := x0b.trans hs9
      have x12 := ((HFr.low (hb.ext hs10) st.fr (x0b.trans hs10) hlo).put (id := s9.next + 1 + 1 + 1 + 1 + 1) (by have := x9.next; omega) (.cells [.int .i64 (.ofNat 0), .int .i64 (.ofNat 0), .str []] 0 0 false)).put (id := s9.next + 1 + 1 + 1 + 1 + 1) (by have := x9.next; omega) (.cells (valR r) 0 0 false)
      change WC _ _ _ _ ((s11.put (s9.next + 1 + 1 + 1 + 1 + 1) (.cells [.int .i64 (.ofNat 0), .int .i64 (.ofNat 0), .str []] 0 0 false)).put (s9.next + 1 + 1 + 1 + 1 + 1) (.cells (valR r) 0 0 false)) _
      generalize (s11.put (s9.next + 1 + 1 + 1 + 1 + 1) (.cells [.int .i64 (.ofNat 0), .int .i64 (.ofNat 0), .str []] 0 0 false)).put (s9.next + 1 + 1 + 1 + 1 + 1) (.cells (valR r) 0 0 false) = sx at h12 x12 ⊢
      (repeat refine WC.seq ?_); refine WC.regX x12 fun s13 hs13 hx13 ho13 hn13 => ?_
      repeat (first | refine WR.nil ?_ | refine WR.guardY rfl ?_ | refine WR.guardN rfl ?_ | refine WR.guardT rfl ?_ | refine WR.mov rfl ?_ | refine WR.nilchk rfl ?_ | (refine WR.len (v := ?_) rfl ?_ ?_; rotate_left; first | assumption | exact rfl) | (refine WR.iadr (v := ?_) rfl rfl ?_ ?_; rotate_left; assumption) | (refine WR.fadr (v := ?_) rfl ?_ ?_; rotate_left; first | assumption | exact rfl) | (refine WR.r (v := ?_) rfl rfl (Ld.use (s0 := ?_) ?_ ?_) ?_; rotate_left; rotate_left; assumption; assumption) | (refine WR.r (v := ?_) rfl rfl (Ldn.use (s0 := ?_) ?_ ?_) ?_; rotate_left; rotate_left; assumption; assumption) | (refine WR.bin (v := ?_) rfl rfl ?_ ?_; rotate_left; first | assumption | exact lss_nat _ _ | exact eql_nat _ _ | exact neq_nat _ _ | exact gtr_nat _ _ | exact geq_nat _ _ | exact leq_nat _ _ | exact eql_str _ _ | exact neq_str _ _ | (refine add_nat ?_; omega) | (refine sub_nat ?_ ?_; omega; omega)) | refine WR.pick rfl rfl rfl ?_ | refine WR.un rfl rfl ?_ | refine WR.ext rfl rfl ?_ | refine WR.eq rfl rfl rfl ?_ | refine WR.mkifc rfl ?_)
      have hp' : H'.p = .ptr hid 0 0 6 := by rw [HM.p, st.hid, hh1]
      refine WC.weak ?hw1 (check3 (n := n + 2) (m := m) (was := H.used) (c := c) (i := i) (lv := lv) (h12.ext hx13) (by rw [← hh2, ← st.room]; exact st.ok.fit) st.same (fun e => by rw [← hh2]; exact st.full e) ?_)
      case hw1 => exact ⟨rfl, rfl, by rw [hp']; rfl, rfl, rfl, rfl, trivial⟩
      intro l s5 k5 hsub
      rw [hp'] at hsub
      exact cont _ _ H' ((h12.ext hx13).ext k5) st.ok (st.hid.trans hh1) (st.room.trans hh2) (hs13.trans k5) hsub
    | false =>
    (repeat refine WC.seq ?_); refine WC.regX hs8 fun s9 hs9 hx9 ho9 hn9 => ?_
    repeat (first | refine WR.nil ?_ | refine WR.guardY rfl ?_ | refine WR.guardN rfl ?_ | refine WR.guardT rfl ?_ | refine WR.mov rfl ?_ | refine WR.nilchk rfl ?_ | (refine WR.len (v := ?_) rfl ?_ ?_; rotate_left; first | assumption | exact rfl) | (refine WR.iadr (v := ?_) rfl rfl ?_ ?_; rotate_left; assumption) | (refine WR.fadr (v := ?_) rfl ?_ ?_; rotate_left; first | assumption | exact rfl) | (refine WR.r (v := ?_) rfl rfl (Ld.use (s0 := ?_) ?_ ?_) ?_; rotate_left; rotate_left; assumption; assumption) | (refine WR.r (v := ?_) rfl rfl (Ldn.use (s0 := ?_) ?_ ?_) ?_; rotate_left; rotate_left; assumption; assumption) | (refine WR.bin (v := ?_) rfl rfl ?_ ?_; rotate_left; first | assumption | exact lss_nat _ _ | exact eql_nat _ _ | exact neq_nat _ _ | exact gtr_nat _ _ | exact geq_nat _ _ | exact leq_nat _ _ | exact eql_str _ _ | exact neq_str _ _ | (refine add_nat ?_; omega) | (refine sub_nat ?_ ?_; omega; omega)) | refine WR.pick rfl rfl rfl ?_ | refine WR.un rfl rfl ?_ | refine WR.ext rfl rfl ?_ | refine WR.eq rfl rfl rfl ?_ | refine WR.mkifc rfl ?_)
    (repeat refine WC.seq ?_); refine WC.cond rfl ?_ ?_
    · intro hh; cases hh
    intro _
    cases r1 with
    | true =>
      (repeat refine WC.seq ?_); refine WC.regX hs9 fun s15 hs15 hx15 ho15 hn15 => ?_
      repeat (first | refine WR.nil ?_ | refine WR.guardY rfl ?_ | refine WR.guardN rfl ?_ | refine WR.guardT rfl ?_ | refine WR.mov rfl ?_ | refine WR.nilchk rfl ?_ | (refine WR.len (v := ?_) rfl ?_ ?_; rotate_left; first | assumption | exact rfl) | (refine WR.iadr (v := ?_) rfl rfl ?_ ?_; rotate_left; assumption) | (refine WR.fadr (v := ?_) rfl ?_ ?_; rotate_left; first | assumption | exact rfl) | (refine WR.r (v := ?_) rfl rfl (Ld.use (s0 := ?_) ?_ ?_) ?_; rotate_left; rotate_left; assumption; assumption) | (refine WR.r (v := ?_) rfl rfl (Ldn.use (s0 := ?_) ?_ ?_) ?_; rotate_left; rotate_left; assumption; assumption) | (refine WR.bin (v := ?_) rfl rfl ?_ ?_; rotate_left; first | assumption | exact lss_nat _ _ | exact eql_nat _ _ | exact neq_nat _ _ | exact gtr_nat _ _ | exact geq_nat _ _ | exact leq_nat _ _ | exact eql_str _ _ | exact neq_str _ _ | (refine add_nat ?_; omega) | (refine sub_nat ?_ ?_; omega; omega)) | refine WR.pick rfl rfl rfl ?_ | refine WR.un rfl rfl ?_ | refine WR.ext rfl rfl ?_ | refine WR.eq rfl rfl rfl ?_ | refine WR.mkifc rfl ?_)
      (repeat refine WC.seq ?_); refine WC.cond rfl ?_ ?_
      rotate_left
      · intro hh; cases hh
      intro _
      (repeat refine WC.seq ?_); refine WC.regX hs15 fun s10 hs10 hx10 ho10 hn10 => ?_
      repeat (first | refine WR.nil ?_ | refine WR.guardY rfl ?_ | refine WR.guardN rfl ?_ | refine WR.guardT rfl ?_ | refine WR.mov rfl ?_ | refine WR.nilchk rfl ?_ | (refine WR.len (v := ?_) rfl ?_ ?_; rotate_left; first | assumption | exact rfl) | (refine WR.iadr (v := ?_) rfl rfl ?_ ?_; rotate_left; assumption) | (refine WR.fadr (v := ?_) rfl ?_ ?_; rotate_left; first | assumption | exact rfl) | (refine WR.r (v := ?_) rfl rfl (Ld.use (s0 := ?_) ?_ ?_) ?_; rotate_left; rotate_left; assumption; assumption) | (refine WR.r (v := ?_) rfl rfl (Ldn.use (s0 := ?_) ?_ ?_) ?_; rotate_left; rotate_left; assumption; assumption) | (refine WR.bin (v := ?_) rfl rfl ?_ ?_; rotate_left; first | assumption | exact lss_nat _ _ | exact eql_nat _ _ | exact neq_nat _ _ | exact gtr_nat _ _ | exact geq_nat _ _ | exact leq_nat _ _ | exact eql_str _ _ | exact neq_str _ _ | (refine add_nat ?_; omega) | (refine sub_nat ?_ ?_; omega; omega)) | refine WR.pick rfl rfl rfl ?_ | refine WR.un rfl rfl ?_ | refine WR.ext rfl rfl ?_ | refine WR.eq rfl rfl rfl ?_ | refine WR.mkifc rfl ?_)
      refine WR.build (cs := [.int .i64 (.ofNat 0), .int .i64 (.ofNat 0), .nilslc]) rfl ?_
      obtain ⟨s11, c, H', r, e11, st⟩ := fnS (u := .ofNat 0) (p := .ofNat 0) (cv := .nilslc) (crows := []) (n + 1) (hb.ext hs10) ok ⟨by simp, rfl⟩ (fun id hi => absurd trivial hi) (by simp)
      rw [hp] at e11
      refine WR.fn rfl e11 ?_
      repeat (first | refine WR.nil ?_ | refine WR.guardY rfl ?_ | refine WR.guardN rfl ?_ | refine WR.guardT rfl ?_ | refine WR.mov rfl ?_ | refine WR.nilchk rfl ?_ | (refine WR.len (v := ?_) rfl ?_ ?_; rotate_left; first | assumption | exact rfl) | (refine WR.iadr (v := ?_) rfl rfl ?_ ?_; rotate_left; assumption) | (refine WR.fadr (v := ?_) rfl ?_ ?_; rotate_left; first | assumption | exact rfl) | (refine WR.r (v := ?_) rfl rfl (Ld.use (s0 := ?_) ?_ ?_) ?_; rotate_left; rotate_left; assumption; assumption) | (refine WR.r (v := ?_) rfl rfl (Ldn.use (s0 := ?_) ?_ ?_) ?_; rotate_left; rotate_left; assumption; assumption) | (refine WR.bin (v := ?_) rfl rfl ?_ ?_; rotate_left; first | assumption | exact lss_nat _ _ | exact eql_nat _ _ | exact neq_nat _ _ | exact gtr_nat _ _ | exact geq_nat _ _ | exact leq_nat _ _ | exact eql_str _ _ | exact neq_str _ _ | (refine add_nat ?_; omega) | (refine sub_nat ?_ ?_; omega; omega)) | refine WR.pick rfl rfl rfl ?_ | refine WR.un rfl rfl ?_ | refine WR.ext rfl rfl ?_ | refine WR.eq rfl rfl rfl ?_ | refine WR.mkifc rfl ?_)
      refine WR.alloc ?_
      refine WR.store rfl rfl rfl rfl (Nat.le_refl _) (wr_some (gr := false) (g := 0) (w := 0) (by rw [get_put, if_pos rfl]) (Nat.le_refl _)) ?_
      repeat (first | refine WR.nil ?_ | refine WR.guardY rfl ?_ | refine WR.guardN rfl ?_ | refine WR.guardT rfl ?_ | refine WR.mov rfl ?_ | refine WR.nilchk rfl ?_ | (refine WR.len (v := ?_) rfl ?_ ?_; rotate_left; first | assumption | exact rfl) | (refine WR.iadr (v := ?_) rfl rfl ?_ ?_; rotate_left; assumption) | (refine WR.fadr (v := ?_) rfl ?_ ?_; rotate_left; first | assumption | exact rfl) | (refine WR.r (v := ?_) rfl rfl (Ld.use (s0 := ?_) ?_ ?_) ?_; rotate_left; rotate_left; assumption; assumption) | (refine WR.r (v := ?_) rfl rfl (Ldn.use (s0 := ?_) ?_ ?_) ?_; rotate_left; rotate_left; assumption; assumption) | (refine WR.bin (v := ?_) rfl rfl ?_ ?_; rotate_left; first | assumption | exact lss_nat _ _ | exact eql_nat _ _ | exact neq_nat _ _ | exact gtr_nat _ _ | exact geq_nat _ _ | exact leq_nat _ _ | exact eql_str _ _ | exact neq_str _ _ | (refine add_nat ?_; omega) | (refine sub_nat ?_ ?_; omega; omega)) | refine WR.pick rfl rfl rfl ?_ | refine WR.un rfl rfl ?_ | refine WR.ext rfl rfl ?_ | refine WR.eq rfl rfl rfl ?_ | refine WR.mkifc rfl ?_)
      have m10 : s10.next = s15.next + 9 := hn10
      have hlt9 := (hb.ext hs15)
      have nfB : ¬ Foot H' (s15.next + 1 + 1 + 1 + 1 + 1 + 1) := fun hf => by have := (hlt9.foot (st.fr.foot _ (by omega) hf)).2; omega
      have h12 := (st.at_.off nfB (.cells [.int .i64 (.ofNat 0), .int .i64 (.ofNat 0), .str []] 0 0 false)).off nfB (.cells (valR r) 0 0 false)
      have x9 := x0b.trans hs15
      have x12 := ((HFr.low (hb.ext hs10) st.fr (x0b.trans hs10) hlo).put (id := s15.next + 1 + 1 + 1 + 1 + 1 + 1) (by have := x9.next; omega) (.cells [.int .i64 (.ofNat 0), .int .i64 (.ofNat 0), .str []] 0 0 false)).put (id := s15.next + 1 + 1 + 1 + 1 + 1 + 1) (by have := x9.next; omega) (.cells (valR r) 0 0 false)
      change WC _ _ _ _ ((s11.put (s15.next + 1 + 1 + 1 + 1 + 1 + 1) (.cells [.int .i64 (.ofNat 0), .int .i64 (.ofNat 0), .str []] 0 0 false)).put (s15.next + 1 + 1 + 1 + 1 + 1 + 1) (.cells (valR r) 0 0 false)) _
      generalize (s11.put (s15.next + 1 + 1 + 1 + 1 + 1 + 1) (.cells [.int .i64 (.ofNat 0), .int .i64 (.ofNat 0), .str []] 0 0 false)).put (s15.next + 1 + 1 + 1 + 1 + 1 + 1) (.cells (valR r) 0 0 false) = sx at h12 x12 ⊢
      (repeat refine WC.seq ?_); refine WC.regX x12 fun s13 hs13 hx13 ho13 hn13 => ?_
      repeat (first | refine WR.nil ?_ | refine WR.guardY rfl ?_ | refine WR.guardN rfl ?_ | refine WR.guardT rfl ?_ | refine WR.mov rfl ?_ | refine WR.nilchk rfl ?_ | (refine WR.len (v := ?_) rfl ?_ ?_; rotate_left; first | assumption | exact rfl) | (refine WR.iadr (v := ?_) rfl rfl ?_ ?_; rotate_left; assumption) | (refine WR.fadr (v := ?_) rfl ?_ ?_; rotate_left; first | assumption | exact rfl) | (refine WR.r (v := ?_) rfl rfl (Ld.use (s0 := ?_) ?_ ?_) ?_; rotate_left; rotate_left; assumption; assumption) | (refine WR.r (v := ?_) rfl rfl (Ldn.use (s0 := ?_) ?_ ?_) ?_; rotate_left; rotate_left; assumption; assumption) | (refine WR.bin (v := ?_) rfl rfl ?_ ?_; rotate_left; first | assumption | exact lss_nat _ _ | exact eql_nat _ _ | exact neq_nat _ _ | exact gtr_nat _ _ | exact geq_nat _ _ | exact leq_nat _ _ | exact eql_str _ _ | exact neq_str _ _ | (refine add_nat ?_; omega) | (refine sub_nat ?_ ?_; omega; omega)) | refine WR.pick rfl rfl rfl ?_ | refine WR.un rfl rfl ?_ | refine WR.ext rfl rfl ?_ | refine WR.eq rfl rfl rfl ?_ | refine WR.mkifc rfl ?_)
      have hp' : H'.p = .ptr hid 0 0 6 := by rw [HM.p, st.hid, hh1]
      refine WC.weak ?hw1 (check3 (n := n + 2) (m := m) (was := H.used) (c := c) (i := i) (lv := lv) (h12.ext hx13) (by rw [← hh2, ← st.room]; exact st.ok.fit) st.same (fun e => by rw [← hh2]; exact st.full e) ?_)
      case hw1 => exact ⟨rfl, rfl, by rw [hp']; rfl, rfl, rfl, rfl, trivial⟩
      intro l s5 k5 hsub
      rw [hp'] at hsub
      exact cont _ _ H' ((h12.ext hx13).ext k5) st.ok (st.hid.trans hh1) (st.room.trans hh2) (hs13.trans k5) hsub
    | false =>
      (repeat refine WC.seq ?_); refine WC.regX hs9 fun s15 hs15 hx15 ho15 hn15 => ?_
      repeat (first | refine WR.nil ?_ | refine WR.guardY rfl ?_ | refine WR.guardN rfl ?_ | refine WR.guardT rfl ?_ | refine WR.mov rfl ?_ | refine WR.nilchk rfl ?_ | (refine WR.len (v := ?_) rfl ?_ ?_; rotate_left; first | assumption | exact rfl) | (refine WR.iadr (v := ?_) rfl rfl ?_ ?_; rotate_left; assumption) | (refine WR.fadr (v := ?_) rfl ?_ ?_; rotate_left; first | assumption | exact rfl) | (refine WR.r (v := ?_) rfl rfl (Ld.use (s0 := ?_) ?_ ?_) ?_; rotate_left; rotate_left; assumption; assumption) | (refine WR.r (v := ?_) rfl rfl (Ldn.use (s0 := ?_) ?_ ?_) ?_; rotate_left; rotate_left; assumption; assumption) | (refine WR.bin (v := ?_) rfl rfl ?_ ?_; rotate_left; first | assumption | exact lss_nat _ _ | exact eql_nat _ _ | exact neq_nat _ _ | exact gtr_nat _ _ | exact geq_nat _ _ | exact leq_nat _ _ | exact eql_str _ _ | exact neq_str _ _ | (refine add_nat ?_; omega) | (refine sub_nat ?_ ?_; omega; omega)) | refine WR.pick rfl rfl rfl ?_ | refine WR.un rfl rfl ?_ | refine WR.ext rfl rfl ?_ | refine WR.eq rfl rfl rfl ?_ | refine WR.mkifc rfl ?_)
      (repeat refine WC.seq ?_); refine WC.cond rfl ?_ ?_
      · intro hh; cases hh
      intro _
      (repeat refine WC.seq ?_); refine WC.regX hs15 fun s10 hs10 hx10 ho10 hn10 => ?_
      repeat (first | refine WR.nil ?_ | refine WR.guardY rfl ?_ | refine WR.guardN rfl ?_ | refine WR.guardT rfl ?_ | refine WR.mov rfl ?_ | refine WR.nilchk rfl ?_ | (refine WR.len (v := ?_) rfl ?_ ?_; rotate_left; first | assumption | exact rfl) | (refine WR.iadr (v := ?_) rfl rfl ?_ ?_; rotate_left; assumption) | (refine WR.fadr (v := ?_) rfl ?_ ?_; rotate_left; first | assumption | exact rfl) | (refine WR.r (v := ?_) rfl rfl (Ld.use (s0 := ?_) ?_ ?_) ?_; rotate_left; rotate_left; assumption; assumption) | (refine WR.r (v := ?_) rfl rfl (Ldn.use (s0 := ?_) ?_ ?_) ?_; rotate_left; rotate_left; assumption; assumption) | (refine WR.bin (v := ?_) rfl rfl ?_ ?_; rotate_left; first | assumption | exact lss_nat _ _ | exact eql_nat _ _ | exact neq_nat _ _ | exact gtr_nat _ _ | exact geq_nat _ _ | exact leq_nat _ _ | exact eql_str _ _ | exact neq_str _ _ | (refine add_nat ?_; omega) | (refine sub_nat ?_ ?_; omega; omega)) | refine WR.pick rfl rfl rfl ?_ | refine WR.un rfl rfl ?_ | refine WR.ext rfl rfl ?_ | refine WR.eq rfl rfl rfl ?_ | refine WR.mkifc rfl ?_)
      refine WR.build (cs := valR (vA 3 0)) rfl ?_
      repeat (first | refine WR.nil ?_ | refine WR.guardY rfl ?_ | refine WR.guardN rfl ?_ | refine WR.guardT rfl ?_ | refine WR.mov rfl ?_ | refine WR.nilchk rfl ?_ | (refine WR.len (v := ?_) rfl ?_ ?_; rotate_left; first | assumption | exact rfl) | (refine WR.iadr (v := ?_) rfl rfl ?_ ?_; rotate_left; assumption) | (refine WR.fadr (v := ?_) rfl ?_ ?_; rotate_left; first | assumption | exact rfl) | (refine WR.r (v := ?_) rfl rfl (Ld.use (s0 := ?_) ?_ ?_) ?_; rotate_left; rotate_left; assumption; assumption) | (refine WR.r (v := ?_) rfl rfl (Ldn.use (s0 := ?_) ?_ ?_) ?_; rotate_left; rotate_left; assumption; assumption) | (refine WR.bin (v := ?_) rfl rfl ?_ ?_; rotate_left; first | assumption | exact lss_nat _ _ | exact eql_nat _ _ | exact neq_nat _ _ | exact gtr_nat _ _ | exact geq_nat _ _ | exact leq_nat _ _ | exact eql_str _ _ | exact neq_str _ _ | (refine add_nat ?_; omega) | (refine sub_nat ?_ ?_; omega; omega)) | refine WR.pick rfl rfl rfl ?_ | refine WR.un rfl rfl ?_ | refine WR.ext rfl rfl ?_ | refine WR.eq rfl rfl rfl ?_ | refine WR.mkifc rfl ?_)
      obtain ⟨s11, c, H', e11, st⟩ := putS n (hb.ext hs10) ok (vA 3 0) o.key o.v
      rw [hp] at e11
      refine WR.fn rfl e11 ?_
      repeat (first | refine WR.nil ?_ | refine WR.guardY rfl ?_ | refine WR.guardN rfl ?_ | refine WR.guardT rfl ?_ | refine WR.mov rfl ?_ | refine WR.nilchk rfl ?_ | (refine WR.len (v := ?_) rfl ?_ ?_; rotate_left; first | assumption | exact rfl) | (refine WR.iadr (v := ?_) rfl rfl ?_ ?_; rotate_left; assumption) | (refine WR.fadr (v := ?_) rfl ?_ ?_; rotate_left; first | assumption | exact rfl) | (refine WR.r (v := ?_) rfl rfl (Ld.use (s0 := ?_) ?_ ?_) ?_; rotate_left; rotate_left; assumption; assumption) | (refine WR.r (v := ?_) rfl rfl (Ldn.use (s0 := ?_) ?_ ?_) ?_; rotate_left; rotate_left; assumption; assumption) | (refine WR.bin (v := ?_) rfl rfl ?_ ?_; rotate_left; first | assumption | exact lss_nat _ _ | exact eql_nat _ _ | exact neq_nat _ _ | exact gtr_nat _ _ | exact geq_nat _ _ | exact leq_nat _ _ | exact eql_str _ _ | exact neq_str _ _ | (refine add_nat ?_; omega) | (refine sub_nat ?_ ?_; omega; omega)) | refine WR.pick rfl rfl rfl ?_ | refine WR.un rfl rfl ?_ | refine WR.ext rfl rfl ?_ | refine WR.eq rfl rfl rfl ?_ | refine WR.mkifc rfl ?_)
      have hp' : H'.p = .ptr hid 0 0 6 := by rw [HM.p, st.hid, hh1]
      have x12 := HFr.low (hb.ext hs10) st.fr (x0b.trans hs10) hlo
      refine WC.weak ?hw1 (check3 (n := n + 2) (m := m) (was := H.used) (c := c) (i := i) (lv := lv) st.at_ (by rw [← hh2, ← st.room]; exact st.ok.fit) st.same (fun e => by rw [← hh2]; exact st.full e) ?_)
      case hw1 => exact ⟨rfl, rfl, by rw [hp']; rfl, rfl, rfl, rfl, trivial⟩
      intro l s5 k5 hsub
      rw [hp'] at hsub
      exact cont _ _ H' (st.at_.ext k5) st.ok (st.hid.trans hh1) (st.room.trans hh2) (x12.trans k5) hsub
end
end Go.Proofs.Ytggpnokhhpnnaaa
