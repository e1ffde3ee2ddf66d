/- HeapRoom: never is more used than there is room; what there is no room for changes nothing. It answers true. Conditions: none. -/
import Derived.Test.YtggpnokhhpnnaaaHeapC
import Derived.Test.YtggpnokhhpnnaaaAbsLaw
set_option autoImplicit false
set_option maxRecDepth 100000
set_option linter.unusedVariables false
namespace Go.Proofs.Ytggpnokhhpnnaaa
open Go Go.Abs
abbrev opSh : List Sh := [.int .i64, .int .i64, .int .i64, .str, .int .i64, .int .i64, .str, .int .i64, .int .i64, .str, .int .i64, .int .i64, .slc [.int .i64], .int .i64]
theorem len_of {v : AV} (h : okS (.slc [.int .i64]) v) : ∃ m, apure .e (.len false (.c v)) = some (.int .i64 (.ofNat m)) ∧ OneC v := by
  simp only [okS] at h
  rcases h with rfl | rfl | ⟨rows, rfl, _, _, hr⟩
  · exact ⟨0, rfl, rfl, rfl⟩
  · exact ⟨0, rfl, rfl, rfl⟩
  · exact ⟨rows.length, rfl, rfl, rfl⟩
theorem op_of {r : List AV} (h : okL opSh r) : ∃ o : OpV, r = opR o ∧ apure .e (.len false (.c o.c)) = some (.int .i64 (.ofNat o.cl)) ∧ OneC o.c := by
  simp only [okL] at h
  obtain ⟨x0, _, rfl, h0, x1, _, rfl, h1, x2, _, rfl, h2, x3, _, rfl, h3, x4, _, rfl, h4, x5, _, rfl, h5, x6, _, rfl, h6, x7, _, rfl, h7, x8, _, rfl, h8, x9, _, rfl, h9, xa, _, rfl, ha, xb, _, rfl, hb, xc, _, rfl, hc, xd, _, rfl, hd, rfl⟩ := h
  obtain ⟨m, hm, h1c⟩ := len_of hc
  simp only [okS] at h0 h1 h2 h3 h4 h5 h6 h7 h8 h9 ha hb hd
  obtain ⟨n0, rfl, _⟩ := h0
  obtain ⟨n1, rfl, _⟩ := h1
  obtain ⟨n2, rfl, _⟩ := h2
  obtain ⟨n3, rfl, _⟩ := h3
  obtain ⟨n4, rfl, _⟩ := h4
  obtain ⟨n5, rfl, _⟩ := h5
  obtain ⟨n6, rfl, _⟩ := h6
  obtain ⟨n7, rfl, _⟩ := h7
  obtain ⟨n8, rfl, _⟩ := h8
  obtain ⟨n9, rfl, _⟩ := h9
  obtain ⟨na, rfl, _⟩ := ha
  obtain ⟨nb, rfl, _⟩ := hb
  obtain ⟨nd, rfl, _⟩ := hd
  exact ⟨⟨n0, ⟨n1, n2, n3⟩, ⟨n4, n5, n6⟩, ⟨n7, n8, n9⟩, na, nb, xc, m, nd⟩, rfl, hm, h1c⟩
theorem ops_rows {rows : List (List AV)} (hr : ∀ r, r ∈ rows → okL opSh r) : ∃ os : List OpV, rows = os.map opR ∧ ∀ o, o ∈ os → apure .e (.len false (.c o.c)) = some (.int .i64 (.ofNat o.cl)) ∧ OneC o.c := by
  induction rows with
  | nil => exact ⟨[], rfl, by simp⟩
  | cons r rows ih =>
    obtain ⟨os, rfl, h2⟩ := ih fun r h => hr r (by simp [h])
    obtain ⟨o, rfl, h3⟩ := op_of (hr r (by simp))
    refine ⟨o :: os, rfl, ?_⟩
    intro p hp
    rcases List.mem_cons.1 hp with rfl | hp
    · exact h3
    · exact h2 p hp
theorem ops_of {v : AV} (h : okS (.slc opSh) v) : ∃ os : List OpV, ∀ s, OpsV s v os := by
  rw [okS] at h
  rcases h with rfl | rfl | ⟨rows, rfl, _, _, hr⟩
  · exact ⟨[], fun s => ⟨⟨by simp, rfl⟩, by simp⟩⟩
  · exact ⟨[], fun s => ⟨⟨by simp, rfl⟩, by simp⟩⟩
  · obtain ⟨os, rfl, h2⟩ := ops_rows hr
    exact ⟨os, fun s => ⟨⟨by intro r hr; obtain ⟨o, _, rfl⟩ := List.mem_map.1 hr; rfl, rfl, rfl, rfl⟩, h2⟩⟩
theorem told3 {s0 : St} {lv : AV} {os : List OpV} {x : Int} (h1 : -9223372036854775808 ≤ x) (h2 : x ≤ 9223372036854775807) (hO : OpsV s0 lv os) : ∃ s', acall F0 E15 105 3 [.int .i64 x, lv] s0 = some (.bool true, s') := by
  have : ∃ v s', acall F0 E15 105 3 [.int .i64 x, lv] s0 = some (v, s') ∧ v = .bool true := by
    refine acall_of (n := 104) (P := fun v _ => v = .bool true) rfl comp3 (Nat.le_of_ble_eq_true rfl) ?_
    (repeat refine WC.seq ?_); refine WC.regX (Ext.refl s0) fun s1 hs1 hx1 ho1 hn1 => ?_
    repeat (first | refine WR.nil ?_ | refine WR.guardY rfl ?_ | refine WR.guardN rfl ?_ | refine WR.guardT rfl ?_ | refine WR.mov rfl ?_ | refine WR.nilchk rfl ?_ | (refine WR.len (v := ?_) rfl ?_ ?_; rotate_left; first | assumption | exact rfl) | (refine WR.iadr (v := ?_) rfl rfl ?_ ?_; rotate_left; assumption) | (refine WR.fadr (v := ?_) rfl ?_ ?_; rotate_left; first | assumption | exact rfl) | (refine WR.r (v := ?_) rfl rfl (Ld.use (s0 := ?_) ?_ ?_) ?_; rotate_left; rotate_left; assumption; assumption) | (refine WR.r (v := ?_) rfl rfl (Ldn.use (s0 := ?_) ?_ ?_) ?_; rotate_left; rotate_left; assumption; assumption) | (refine WR.bin (v := ?_) rfl rfl ?_ ?_; rotate_left; first | assumption | exact lss_nat _ _ | exact eql_nat _ _ | exact neq_nat _ _ | exact gtr_nat _ _ | exact geq_nat _ _ | exact leq_nat _ _ | exact eql_str _ _ | exact neq_str _ _ | (refine add_nat ?_; omega) | (refine sub_nat ?_ ?_; omega; omega)) | refine WR.pick rfl rfl rfl ?_ | refine WR.un rfl rfl ?_ | refine WR.ext rfl rfl ?_ | refine WR.eq rfl rfl rfl ?_ | refine WR.mkifc rfl ?_)
    (repeat refine WC.seq ?_); refine WC.regX hs1 fun s2 hs2 hx2 ho2 hn2 => ?_
    repeat (first | refine WR.nil ?_ | refine WR.guardY rfl ?_ | refine WR.guardN rfl ?_ | refine WR.guardT rfl ?_ | refine WR.mov rfl ?_ | refine WR.nilchk rfl ?_ | (refine WR.len (v := ?_) rfl ?_ ?_; rotate_left; first | assumption | exact rfl) | (refine WR.iadr (v := ?_) rfl rfl ?_ ?_; rotate_left; assumption) | (refine WR.fadr (v := ?_) rfl ?_ ?_; rotate_left; first | assumption | exact rfl) | (refine WR.r (v := ?_) rfl rfl (Ld.use (s0 := ?_) ?_ ?_) ?_; rotate_left; rotate_left; assumption; assumption) | (refine WR.r (v := ?_) rfl rfl (Ldn.use (s0 := ?_) ?_ ?_) ?_; rotate_left; rotate_left; assumption; assumption) | (refine WR.bin (v := ?_) rfl rfl ?_ ?_; rotate_left; first | assumption | exact lss_nat _ _ | exact eql_nat _ _ | exact neq_nat _ _ | exact gtr_nat _ _ | exact geq_nat _ _ | exact leq_nat _ _ | exact eql_str _ _ | exact neq_str _ _ | (refine add_nat ?_; omega) | (refine sub_nat ?_ ?_; omega; omega)) | refine WR.pick rfl rfl rfl ?_ | refine WR.un rfl rfl ?_ | refine WR.ext rfl rfl ?_ | refine WR.eq rfl rfl rfl ?_ | refine WR.mkifc rfl ?_)
    obtain ⟨s3, m, e3, k3, hm⟩ := count_ (s := s2) 103 h1 h2
    refine WR.fn rfl e3 ?_
    have hs3 := hs2.trans k3
    repeat (first | refine WR.nil ?_ | refine WR.guardY rfl ?_ | refine WR.guardN rfl ?_ | refine WR.guardT rfl ?_ | refine WR.mov rfl ?_ | refine WR.nilchk rfl ?_ | (refine WR.len (v := ?_) rfl ?_ ?_; rotate_left; first | assumption | exact rfl) | (refine WR.iadr (v := ?_) rfl rfl ?_ ?_; rotate_left; assumption) | (refine WR.fadr (v := ?_) rfl ?_ ?_; rotate_left; first | assumption | exact rfl) | (refine WR.r (v := ?_) rfl rfl (Ld.use (s0 := ?_) ?_ ?_) ?_; rotate_left; rotate_left; assumption; assumption) | (refine WR.r (v := ?_) rfl rfl (Ldn.use (s0 := ?_) ?_ ?_) ?_; rotate_left; rotate_left; assumption; assumption) | (refine WR.bin (v := ?_) rfl rfl ?_ ?_; rotate_left; first | assumption | exact lss_nat _ _ | exact eql_nat _ _ | exact neq_nat _ _ | exact gtr_nat _ _ | exact geq_nat _ _ | exact leq_nat _ _ | exact eql_str _ _ | exact neq_str _ _ | (refine add_nat ?_; omega) | (refine sub_nat ?_ ?_; omega; omega)) | refine WR.pick rfl rfl rfl ?_ | refine WR.un rfl rfl ?_ | refine WR.ext rfl rfl ?_ | refine WR.eq rfl rfl rfl ?_ | refine WR.mkifc rfl ?_)
    (repeat refine WC.seq ?_); refine WC.regX hs3 fun s4 hs4 hx4 ho4 hn4 => ?_
    repeat (first | refine WR.nil ?_ | refine WR.guardY rfl ?_ | refine WR.guardN rfl ?_ | refine WR.guardT rfl ?_ | refine WR.mov rfl ?_ | refine WR.nilchk rfl ?_ | (refine WR.len (v := ?_) rfl ?_ ?_; rotate_left; first | assumption | exact rfl) | (refine WR.iadr (v := ?_) rfl rfl ?_ ?_; rotate_left; assumption) | (refine WR.fadr (v := ?_) rfl ?_ ?_; rotate_left; first | assumption | exact rfl) | (refine WR.r (v := ?_) rfl rfl (Ld.use (s0 := ?_) ?_ ?_) ?_; rotate_left; rotate_left; assumption; assumption) | (refine WR.r (v := ?_) rfl rfl (Ldn.use (s0 := ?_) ?_ ?_) ?_; rotate_left; rotate_left; assumption; assumption) | (refine WR.bin (v := ?_) rfl rfl ?_ ?_; rotate_left; first | assumption | exact lss_nat _ _ | exact eql_nat _ _ | exact neq_nat _ _ | exact gtr_nat _ _ | exact geq_nat _ _ | exact leq_nat _ _ | exact eql_str _ _ | exact neq_str _ _ | (refine add_nat ?_; omega) | (refine sub_nat ?_ ?_; omega; omega)) | refine WR.pick rfl rfl rfl ?_ | refine WR.un rfl rfl ?_ | refine WR.ext rfl rfl ?_ | refine WR.eq rfl rfl rfl ?_ | refine WR.mkifc rfl ?_)
    have le4 : s0.next ≤ s4.next := hs4.next
    obtain ⟨s5, hid, e5, k5, _, hA, hK⟩ := new_ (s := s4) (lo := s0.next) 103 (m := m) (by omega) le4
    refine WR.fn rfl e5 ?_
    have hs5 := hs4.trans k5
    repeat (first | refine WR.nil ?_ | refine WR.guardY rfl ?_ | refine WR.guardN rfl ?_ | refine WR.guardT rfl ?_ | refine WR.mov rfl ?_ | refine WR.nilchk rfl ?_ | (refine WR.len (v := ?_) rfl ?_ ?_; rotate_left; first | assumption | exact rfl) | (refine WR.iadr (v := ?_) rfl rfl ?_ ?_; rotate_left; assumption) | (refine WR.fadr (v := ?_) rfl ?_ ?_; rotate_left; first | assumption | exact rfl) | (refine WR.r (v := ?_) rfl rfl (Ld.use (s0 := ?_) ?_ ?_) ?_; rotate_left; rotate_left; assumption; assumption) | (refine WR.r (v := ?_) rfl rfl (Ldn.use (s0 := ?_) ?_ ?_) ?_; rotate_left; rotate_left; assumption; assumption) | (refine WR.bin (v := ?_) rfl rfl ?_ ?_; rotate_left; first | assumption | exact lss_nat _ _ | exact eql_nat _ _ | exact neq_nat _ _ | exact gtr_nat _ _ | exact geq_nat _ _ | exact leq_nat _ _ | exact eql_str _ _ | exact neq_str _ _ | (refine add_nat ?_; omega) | (refine sub_nat ?_ ?_; omega; omega)) | refine WR.pick rfl rfl rfl ?_ | refine WR.un rfl rfl ?_ | refine WR.ext rfl rfl ?_ | refine WR.eq rfl rfl rfl ?_ | refine WR.mkifc rfl ?_)
    have q := neqF (a := 0) (b := 0) rfl
    (repeat refine WC.seq ?_); refine WC.regX hs5 fun s6 hs6 hx6 ho6 hn6 => ?_
    repeat (first | refine WR.nil ?_ | refine WR.guardY rfl ?_ | refine WR.guardN rfl ?_ | refine WR.guardT rfl ?_ | refine WR.mov rfl ?_ | refine WR.nilchk rfl ?_ | (refine WR.len (v := ?_) rfl ?_ ?_; rotate_left; first | assumption | exact rfl) | (refine WR.iadr (v := ?_) rfl rfl ?_ ?_; rotate_left; assumption) | (refine WR.fadr (v := ?_) rfl ?_ ?_; rotate_left; first | assumption | exact rfl) | (refine WR.r (v := ?_) rfl rfl (Ld.use (s0 := ?_) ?_ ?_) ?_; rotate_left; rotate_left; assumption; assumption) | (refine WR.r (v := ?_) rfl rfl (Ldn.use (s0 := ?_) ?_ ?_) ?_; rotate_left; rotate_left; assumption; assumption) | (refine WR.bin (v := ?_) rfl rfl ?_ ?_; rotate_left; first | assumption | exact lss_nat _ _ | exact eql_nat _ _ | exact neq_nat _ _ | exact gtr_nat _ _ | exact geq_nat _ _ | exact leq_nat _ _ | exact eql_str _ _ | exact neq_str _ _ | (refine add_nat ?_; omega) | (refine sub_nat ?_ ?_; omega; omega)) | refine WR.pick rfl rfl rfl ?_ | refine WR.un rfl rfl ?_ | refine WR.ext rfl rfl ?_ | refine WR.eq rfl rfl rfl ?_ | refine WR.mkifc rfl ?_)
    (repeat refine WC.seq ?_); refine WC.cond rfl ?_ ?_
    · intro hh; cases hh
    intro _
    (repeat refine WC.seq ?_); refine WC.skip ?_
    (repeat refine WC.seq ?_); refine WC.regX hs6 fun s7 hs7 hx7 ho7 hn7 => ?_
    repeat (first | refine WR.nil ?_ | refine WR.guardY rfl ?_ | refine WR.guardN rfl ?_ | refine WR.guardT rfl ?_ | refine WR.mov rfl ?_ | refine WR.nilchk rfl ?_ | (refine WR.len (v := ?_) rfl ?_ ?_; rotate_left; first | assumption | exact rfl) | (refine WR.iadr (v := ?_) rfl rfl ?_ ?_; rotate_left; assumption) | (refine WR.fadr (v := ?_) rfl ?_ ?_; rotate_left; first | assumption | exact rfl) | (refine WR.r (v := ?_) rfl rfl (Ld.use (s0 := ?_) ?_ ?_) ?_; rotate_left; rotate_left; assumption; assumption) | (refine WR.r (v := ?_) rfl rfl (Ldn.use (s0 := ?_) ?_ ?_) ?_; rotate_left; rotate_left; assumption; assumption) | (refine WR.bin (v := ?_) rfl rfl ?_ ?_; rotate_left; first | assumption | exact lss_nat _ _ | exact eql_nat _ _ | exact neq_nat _ _ | exact gtr_nat _ _ | exact geq_nat _ _ | exact leq_nat _ _ | exact eql_str _ _ | exact neq_str _ _ | (refine add_nat ?_; omega) | (refine sub_nat ?_ ?_; omega; omega)) | refine WR.pick rfl rfl rfl ?_ | refine WR.un rfl rfl ?_ | refine WR.ext rfl rfl ?_ | refine WR.eq rfl rfl rfl ?_ | refine WR.mkifc rfl ?_)
    (repeat refine WC.seq ?_); refine WC.blk (WC.loop ?_)
    refine WL.weak ?hw1 (WL.mono (loop3 (n := 100) (hid := hid) (m := m) hO (Nat.le_refl _) 60 0 _ 104 _ (by omega) (by omega) ((hA.ext hx6).ext hx7) hK rfl rfl hs7) ?_)
    case hw1 => exact ⟨rfl, rfl, rfl, rfl, trivial⟩
    rintro x l s rfl
    refine WC.weak (l2 := []) trivial ?_
    (repeat refine WC.seq ?_); refine WC.regX (Ext.refl s) fun s8 hs8 hx8 ho8 hn8 => ?_
    refine WR.fn rfl (known15 103 _) ?_
    repeat (first | refine WR.nil ?_ | refine WR.guardY rfl ?_ | refine WR.guardN rfl ?_ | refine WR.guardT rfl ?_ | refine WR.mov rfl ?_ | refine WR.nilchk rfl ?_ | (refine WR.len (v := ?_) rfl ?_ ?_; rotate_left; first | assumption | exact rfl) | (refine WR.iadr (v := ?_) rfl rfl ?_ ?_; rotate_left; assumption) | (refine WR.fadr (v := ?_) rfl ?_ ?_; rotate_left; first | assumption | exact rfl) | (refine WR.r (v := ?_) rfl rfl (Ld.use (s0 := ?_) ?_ ?_) ?_; rotate_left; rotate_left; assumption; assumption) | (refine WR.r (v := ?_) rfl rfl (Ldn.use (s0 := ?_) ?_ ?_) ?_; rotate_left; rotate_left; assumption; assumption) | (refine WR.bin (v := ?_) rfl rfl ?_ ?_; rotate_left; first | assumption | exact lss_nat _ _ | exact eql_nat _ _ | exact neq_nat _ _ | exact gtr_nat _ _ | exact geq_nat _ _ | exact leq_nat _ _ | exact eql_str _ _ | exact neq_str _ _ | (refine add_nat ?_; omega) | (refine sub_nat ?_ ?_; omega; omega)) | refine WR.pick rfl rfl rfl ?_ | refine WR.un rfl rfl ?_ | refine WR.ext rfl rfl ?_ | refine WR.eq rfl rfl rfl ?_ | refine WR.mkifc rfl ?_)
    (repeat refine WC.seq ?_); refine WC.ret ?_
    exact ⟨.inr rfl, _, rfl, rfl⟩
  obtain ⟨v, s', h1, rfl⟩ := this
  exact ⟨s', h1⟩
end Go.Proofs.Ytggpnokhhpnnaaa
namespace Go.Proofs.Ytggpnokhhpnnaaa.heapRoom
open Go Go.ChangeShapes Go.WideShapes Go.ChangeAt Go.RowKit Go.Abs
theorem own : ownKnob Try.prog.godebug = none := by kernel_rfl
theorem laidOut : laidOutB Try.prog = true := by kernel_rfl
theorem mixed : Try.prog.follows .mixedOrders = true := by kernel_rfl
theorem plain : Sound Try.prog (acall (comp Try.prog) (fun _ => none) 60) := acall_ok mixed (fun f g h => by cases h) 60
theorem known : ans (acall (comp Try.prog) (fun _ => none) 60 15 [] ⟨.e, 0⟩) = some (.bool true) := by kernel_rfl
theorem sound : Sound Try.prog (acall F0 E15 105) := acall_ok mixed (single_sound (closed_sound plain known rfl)) 105
def specs : List (Bool × List Sh) := [(false, [.int .i64]), (false, [.slc opSh])]
theorem all (xs : List AV) (h : okArgs specs xs) : ans (acall F0 E15 105 3 xs ⟨.e, 0⟩) = some (.bool true) := by
  simp only [specs, okArgs, okA] at h
  obtain ⟨_, _, rfl, ⟨_, e1, h1⟩, _, _, rfl, ⟨_, e2, h2⟩, rfl⟩ := h
  cases e1; cases e2
  obtain ⟨os, hO⟩ := ops_of h2
  simp only [okS] at h1
  obtain ⟨x, rfl, hx⟩ := h1
  simp only [Lit.wf, Bool.and_eq_true, decide_eq_true_eq] at hx
  obtain ⟨s', h⟩ := told3 (x := x) hx.1 hx.2 (hO ⟨.e, 0⟩)
  rw [h]; rfl
theorem lifted (os : Os) (started : os.Started) (H : Type) (enc : TypeId × Value → H) :
    ReturnsInHanded {} Try.checked os 3 .any (Rows.heapRoomSpec.pre6 enc Try.prog Try.f3 Rows.heapRoomRow.domain false) (Rows.heapRoomSpec.post enc Try.prog Try.f3 false true false false) := by
  refine returnsInHanded_of_change (C := Try.checked) own started (by kernel_rfl) Try.func3
    (ChangeSpec.witness6 (enc := enc) (C := Try.checked) false ⟨#[], #[.int .i64 0, .slice none 0 0], []⟩ 8 (by kernel_rfl) (by kernel_rfl) (by kernel_rfl) (by kernel_rfl)) ?_
  intro W base args ds gs before hval hW hcnd _
  exact law_contract sound laidOut rfl (by kernel_rfl) (rt := 4) rfl (by kernel_rfl) (fun ds h => by match ds, h with | [a, b], _ => rfl) (specs := specs) (by kernel_rfl) all W base args ds gs before hval hW
theorem over : Rows.heapRoomRow.holds Try.pinned (OpenSpec.ofChange Rows.heapRoomSpec) :=
  OpenClaim.holds_of_wide 3 Try.f3 rfl rfl rfl rfl rfl rfl rfl ⟨rfl, rfl, rfl, rfl, rfl⟩ rfl rfl rfl rfl rfl (by kernel_rfl) Try.func3 (by kernel_rfl)
    (of_decide_eq_true (by kernel_rfl)) (by unfold Func.isWrapper; first | (rw [if_pos (by decide +kernel)]; kernel_rfl) | (rw [if_neg (by decide +kernel)]; exact ⟨rfl, rfl⟩))
    (fun os started H enc _ => lifted os started H enc)
end Go.Proofs.Ytggpnokhhpnnaaa.heapRoom
namespace Go.Proofs.Ytggpnokhhpnnaaa
theorem heapRoom_holds : Rows.HeapRoomSaid := heapRoom.over
#print axioms heapRoom_holds
end Go.Proofs.Ytggpnokhhpnnaaa
