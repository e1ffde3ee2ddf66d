/- Contract: the document's order of modules. -/
import Derived.Test.YtbcnhellcpeecaaDepsB
import Derived.Test.YtbcnhellcpeecaaAbsLaw
set_option autoImplicit false
set_option maxRecDepth 100000
set_option linter.unusedVariables false
namespace Go.Proofs.Ytbcnhellcpeecaa
open Go Go.Abs
variable {F : FuncId → Option AFunc} {E : FuncId → Option (List AV → St → Option (AV × St))}
variable {s0 sB s s' : St} {lo idT n : Nat} {lv hv ov tk : AV} {D : List Dep} {ns : List (List Nat)} {out : List Nat}
/-- Who is taken, of so many. -/
def bsOf (n : Nat) (out : List Nat) : List Bool := (List.range n).map fun i => decide (i ∈ out)
theorem bsOf_get {n i : Nat} (h : i < n) (out : List Nat) : (bsOf n out)[i]? = some (decide (i ∈ out)) := by simp [bsOf, h]
theorem lssNeg : abin .lss (.int .i64 (.negSucc 0)) (.int .i64 (.ofNat 0)) = some (.bool true) := rfl
theorem geqNeg : abin .geq (.int .i64 (.negSucc 0)) (.int .i64 (.ofNat 0)) = some (.bool false) := rfl

theorem loop17 (hF15 : F 15 = some fn15) (hE15 : E 15 = none) (hD : DepsV s0 lv D) (hT : Slv s0 1 tk (bools (bsOf D.length out))) (hlen : D.length < 1000) {m : Nat} (hm : D.length < m) {i : Nat} (hi : i < D.length) (hneeds : D[i].needs.length < 1000) :
    ∀ (j k : Nat) (s : St) (f : Nat), k + j = D[i].needs.length → j < f → (∀ q ∈ wPart D i k, q ∈ out) → Ext s0 s →
      WL (acall F E (m + 1)) (m + 1) b17_0 f [(0, lv), (1, .int .i64 (.ofNat i)), (2, tk), (7, .int .i64 (.ofNat k))] s
        (fun x l s => Ext s0 s ∧ ((x = .ext 0 ∧ ∀ q ∈ wOf D i, q ∈ out) ∨ (x = .ret ∧ lkS l 6 = some (.bool false) ∧ ∃ q ∈ wOf D i, q ∉ out))) := by
  obtain ⟨p, q0, q1, nv, e1, e2, e3, e4, e5, e6, e7⟩ := hD.at hi
  have h0 := e6.len' (m := D[i].needs.length) (by simp [strs])
  intro j
  induction j with
  | zero =>
    intro k s f hk hf hq hs
    obtain ⟨f, rfl⟩ : ∃ g, f = g + 1 := ⟨f - 1, by omega⟩
    refine WL.round ?_
    (repeat refine WC.seq ?_); refine WC.regX hs fun s1 hs1 hx1 ho1 hn1 => ?_
    repeat (first | refine WR.nil ?_ | refine WR.guardY rfl ?_ | refine WR.guardN rfl ?_ | refine WR.guardT rfl ?_ | refine WR.mov rfl ?_ | (refine WR.len (v := ?_) rfl ?_ ?_; rotate_left; first | assumption | exact rfl) | (refine WR.iadr (v := ?_) rfl rfl ?_ ?_; rotate_left; assumption) | (refine WR.fadr (v := ?_) rfl ?_ ?_; rotate_left; first | assumption | exact rfl) | (refine WR.r (v := ?_) rfl rfl (Ld.use (s0 := ?_) ?_ ?_) ?_; rotate_left; rotate_left; assumption; assumption) | (refine WR.bin (v := ?_) rfl rfl ?_ ?_; rotate_left; first | assumption | exact lss_nat _ _ | exact eql_nat _ _ | exact neq_nat _ _ | exact gtr_nat _ _ | exact geq_nat _ _ | exact leq_nat _ _ | exact eql_str _ _ | exact neq_str _ _ | (refine add_nat ?_; omega) | (refine sub_nat ?_ ?_; omega; omega)) | refine WR.pick rfl rfl rfl ?_ | refine WR.un rfl rfl ?_ | refine WR.ext rfl rfl ?_)
    (repeat refine WC.seq ?_); refine WC.cond rfl ?_ ?_
    · intro h; simp at h; omega
    · intro h
      refine WC.ext ⟨hs1, .inl ⟨rfl, ?_⟩⟩
      rw [show k = D[i].needs.length by omega, wPart_all hi] at hq
      exact hq
  | succ j ih =>
    intro k s f hk hf hq hs
    obtain ⟨f, rfl⟩ : ∃ g, f = g + 1 := ⟨f - 1, by omega⟩
    have hkl : k < D[i].needs.length := by omega
    obtain ⟨p2, hp2, hld2⟩ := e6.at1 (i := k) (a := .str D[i].needs[k]) (by simp [strs, hkl])
    have tail : ∀ (l : SL) (s : St), Sub2 [(0, lv), (1, .int .i64 (.ofNat i)), (2, tk), (7, .int .i64 (.ofNat k))] l → Ext s0 s → (∀ q ∈ wPart D i (k + 1), q ∈ out) →
        WC (acall F E (m + 1)) (m + 1) (.reg r17_6) l s (fun x l s => thenW x (WL (acall F E (m + 1)) (m + 1) b17_0 f l s (fun x l s => Ext s0 s ∧ ((x = .ext 0 ∧ ∀ q ∈ wOf D i, q ∈ out) ∨ (x = .ret ∧ lkS l 6 = some (.bool false) ∧ ∃ q ∈ wOf D i, q ∉ out))))
          (Ext s0 s ∧ ((x = .ext 0 ∧ ∀ q ∈ wOf D i, q ∈ out) ∨ (x = .ret ∧ lkS l 6 = some (.bool false) ∧ ∃ q ∈ wOf D i, q ∉ out)))) := by
      intro l s hl hs hr
      refine WC.weak hl ?_
      (repeat refine WC.seq ?_); refine WC.regX hs fun s1 hs1 hx1 ho1 hn1 => ?_
      repeat (first | refine WR.nil ?_ | refine WR.guardY rfl ?_ | refine WR.guardN rfl ?_ | refine WR.guardT rfl ?_ | refine WR.mov rfl ?_ | (refine WR.len (v := ?_) rfl ?_ ?_; rotate_left; first | assumption | exact rfl) | (refine WR.iadr (v := ?_) rfl rfl ?_ ?_; rotate_left; assumption) | (refine WR.fadr (v := ?_) rfl ?_ ?_; rotate_left; first | assumption | exact rfl) | (refine WR.r (v := ?_) rfl rfl (Ld.use (s0 := ?_) ?_ ?_) ?_; rotate_left; rotate_left; assumption; assumption) | (refine WR.bin (v := ?_) rfl rfl ?_ ?_; rotate_left; first | assumption | exact lss_nat _ _ | exact eql_nat _ _ | exact neq_nat _ _ | exact gtr_nat _ _ | exact geq_nat _ _ | exact leq_nat _ _ | exact eql_str _ _ | exact neq_str _ _ | (refine add_nat ?_; omega) | (refine sub_nat ?_ ?_; omega; omega)) | refine WR.pick rfl rfl rfl ?_ | refine WR.un rfl rfl ?_ | refine WR.ext rfl rfl ?_)
      refine WL.weak ?hw (ih (k + 1) _ f (by omega) (by omega) hr hs1)
      case hw => exact ⟨rfl, rfl, rfl, rfl, trivial⟩
    refine WL.round ?_
    (repeat refine WC.seq ?_); refine WC.regX hs fun s1 hs1 hx1 ho1 hn1 => ?_
    repeat (first | refine WR.nil ?_ | refine WR.guardY rfl ?_ | refine WR.guardN rfl ?_ | refine WR.guardT rfl ?_ | refine WR.mov rfl ?_ | (refine WR.len (v := ?_) rfl ?_ ?_; rotate_left; first | assumption | exact rfl) | (refine WR.iadr (v := ?_) rfl rfl ?_ ?_; rotate_left; assumption) | (refine WR.fadr (v := ?_) rfl ?_ ?_; rotate_left; first | assumption | exact rfl) | (refine WR.r (v := ?_) rfl rfl (Ld.use (s0 := ?_) ?_ ?_) ?_; rotate_left; rotate_left; assumption; assumption) | (refine WR.bin (v := ?_) rfl rfl ?_ ?_; rotate_left; first | assumption | exact lss_nat _ _ | exact eql_nat _ _ | exact neq_nat _ _ | exact gtr_nat _ _ | exact geq_nat _ _ | exact leq_nat _ _ | exact eql_str _ _ | exact neq_str _ _ | (refine add_nat ?_; omega) | (refine sub_nat ?_ ?_; omega; omega)) | refine WR.pick rfl rfl rfl ?_ | refine WR.un rfl rfl ?_ | refine WR.ext rfl rfl ?_)
    (repeat refine WC.seq ?_); refine WC.cond rfl ?_ ?_
    · intro _
      (repeat refine WC.seq ?_); refine WC.skip ?_
      (repeat refine WC.seq ?_); refine WC.blk ?_
      (repeat refine WC.seq ?_); refine WC.regX hs1 fun s2 hs2 hx2 ho2 hn2 => ?_
      repeat (first | refine WR.nil ?_ | refine WR.guardY rfl ?_ | refine WR.guardN rfl ?_ | refine WR.guardT rfl ?_ | refine WR.mov rfl ?_ | (refine WR.len (v := ?_) rfl ?_ ?_; rotate_left; first | assumption | exact rfl) | (refine WR.iadr (v := ?_) rfl rfl ?_ ?_; rotate_left; assumption) | (refine WR.fadr (v := ?_) rfl ?_ ?_; rotate_left; first | assumption | exact rfl) | (refine WR.r (v := ?_) rfl rfl (Ld.use (s0 := ?_) ?_ ?_) ?_; rotate_left; rotate_left; assumption; assumption) | (refine WR.bin (v := ?_) rfl rfl ?_ ?_; rotate_left; first | assumption | exact lss_nat _ _ | exact eql_nat _ _ | exact neq_nat _ _ | exact gtr_nat _ _ | exact geq_nat _ _ | exact leq_nat _ _ | exact eql_str _ _ | exact neq_str _ _ | (refine add_nat ?_; omega) | (refine sub_nat ?_ ?_; omega; omega)) | refine WR.pick rfl rfl rfl ?_ | refine WR.un rfl rfl ?_ | refine WR.ext rfl rfl ?_)
      obtain ⟨v3, s3, c1, c2, c3⟩ := place15 hF15 hE15 (q := D[i].needs[k]) (hD.ext hs2) (by omega) hm
      refine WR.fn rfl c1 ?_
      subst c3
      have hs3 := hs2.trans c2
      cases hf0 : first D D[i].needs[k] with
      | none =>
        simp only [placeV]
        have hb := geqNeg
        repeat (first | refine WR.nil ?_ | refine WR.guardY rfl ?_ | refine WR.guardN rfl ?_ | refine WR.guardT rfl ?_ | refine WR.mov rfl ?_ | (refine WR.len (v := ?_) rfl ?_ ?_; rotate_left; first | assumption | exact rfl) | (refine WR.iadr (v := ?_) rfl rfl ?_ ?_; rotate_left; assumption) | (refine WR.fadr (v := ?_) rfl ?_ ?_; rotate_left; first | assumption | exact rfl) | (refine WR.r (v := ?_) rfl rfl (Ld.use (s0 := ?_) ?_ ?_) ?_; rotate_left; rotate_left; assumption; assumption) | (refine WR.bin (v := ?_) rfl rfl ?_ ?_; rotate_left; first | assumption | exact lss_nat _ _ | exact eql_nat _ _ | exact neq_nat _ _ | exact gtr_nat _ _ | exact geq_nat _ _ | exact leq_nat _ _ | exact eql_str _ _ | exact neq_str _ _ | (refine add_nat ?_; omega) | (refine sub_nat ?_ ?_; omega; omega)) | refine WR.pick rfl rfl rfl ?_ | refine WR.un rfl rfl ?_ | refine WR.ext rfl rfl ?_)
        (repeat refine WC.seq ?_); refine WC.regX hs3 fun s4 hs4 hx4 ho4 hn4 => ?_
        repeat (first | refine WR.nil ?_ | refine WR.guardY rfl ?_ | refine WR.guardN rfl ?_ | refine WR.guardT rfl ?_ | refine WR.mov rfl ?_ | (refine WR.len (v := ?_) rfl ?_ ?_; rotate_left; first | assumption | exact rfl) | (refine WR.iadr (v := ?_) rfl rfl ?_ ?_; rotate_left; assumption) | (refine WR.fadr (v := ?_) rfl ?_ ?_; rotate_left; first | assumption | exact rfl) | (refine WR.r (v := ?_) rfl rfl (Ld.use (s0 := ?_) ?_ ?_) ?_; rotate_left; rotate_left; assumption; assumption) | (refine WR.bin (v := ?_) rfl rfl ?_ ?_; rotate_left; first | assumption | exact lss_nat _ _ | exact eql_nat _ _ | exact neq_nat _ _ | exact gtr_nat _ _ | exact geq_nat _ _ | exact leq_nat _ _ | exact eql_str _ _ | exact neq_str _ _ | (refine add_nat ?_; omega) | (refine sub_nat ?_ ?_; omega; omega)) | refine WR.pick rfl rfl rfl ?_ | refine WR.un rfl rfl ?_ | refine WR.ext rfl rfl ?_)
        (repeat refine WC.seq ?_); refine WC.cond rfl ?_ ?_
        · intro h; simp at h
        · intro _
          refine WC.skip (tail _ _ ⟨rfl, rfl, rfl, rfl, trivial⟩ hs4 ?_)
          rw [wPart_succ hi hkl, hf0]; exact hq
      | some p' =>
        simp only [placeV]
        have hb := geqT (Nat.zero_le p')
        obtain ⟨hpl, _⟩ := first_some.1 hf0
        repeat (first | refine WR.nil ?_ | refine WR.guardY rfl ?_ | refine WR.guardN rfl ?_ | refine WR.guardT rfl ?_ | refine WR.mov rfl ?_ | (refine WR.len (v := ?_) rfl ?_ ?_; rotate_left; first | assumption | exact rfl) | (refine WR.iadr (v := ?_) rfl rfl ?_ ?_; rotate_left; assumption) | (refine WR.fadr (v := ?_) rfl ?_ ?_; rotate_left; first | assumption | exact rfl) | (refine WR.r (v := ?_) rfl rfl (Ld.use (s0 := ?_) ?_ ?_) ?_; rotate_left; rotate_left; assumption; assumption) | (refine WR.bin (v := ?_) rfl rfl ?_ ?_; rotate_left; first | assumption | exact lss_nat _ _ | exact eql_nat _ _ | exact neq_nat _ _ | exact gtr_nat _ _ | exact geq_nat _ _ | exact leq_nat _ _ | exact eql_str _ _ | exact neq_str _ _ | (refine add_nat ?_; omega) | (refine sub_nat ?_ ?_; omega; omega)) | refine WR.pick rfl rfl rfl ?_ | refine WR.un rfl rfl ?_ | refine WR.ext rfl rfl ?_)
        (repeat refine WC.seq ?_); refine WC.regX hs3 fun s4 hs4 hx4 ho4 hn4 => ?_
        by_cases hpi : p' = i
        · have hb2 := neqF hpi
          repeat (first | refine WR.nil ?_ | refine WR.guardY rfl ?_ | refine WR.guardN rfl ?_ | refine WR.guardT rfl ?_ | refine WR.mov rfl ?_ | (refine WR.len (v := ?_) rfl ?_ ?_; rotate_left; first | assumption | exact rfl) | (refine WR.iadr (v := ?_) rfl rfl ?_ ?_; rotate_left; assumption) | (refine WR.fadr (v := ?_) rfl ?_ ?_; rotate_left; first | assumption | exact rfl) | (refine WR.r (v := ?_) rfl rfl (Ld.use (s0 := ?_) ?_ ?_) ?_; rotate_left; rotate_left; assumption; assumption) | (refine WR.bin (v := ?_) rfl rfl ?_ ?_; rotate_left; first | assumption | exact lss_nat _ _ | exact eql_nat _ _ | exact neq_nat _ _ | exact gtr_nat _ _ | exact geq_nat _ _ | exact leq_nat _ _ | exact eql_str _ _ | exact neq_str _ _ | (refine add_nat ?_; omega) | (refine sub_nat ?_ ?_; omega; omega)) | refine WR.pick rfl rfl rfl ?_ | refine WR.un rfl rfl ?_ | refine WR.ext rfl rfl ?_)
          (repeat refine WC.seq ?_); refine WC.cond rfl ?_ ?_
          · intro h; simp at h
          · intro _
            refine WC.skip (tail _ _ ⟨rfl, rfl, rfl, rfl, trivial⟩ hs4 ?_)
            rw [wPart_succ hi hkl, hf0]
            simpa [hpi] using hq
        · have hb2 := neqT hpi
          obtain ⟨p5, hp5, hld5⟩ := hT.at1 (i := p') (a := .bool (decide (p' ∈ out))) (by simp [bools, bsOf_get hpl])
          repeat (first | refine WR.nil ?_ | refine WR.guardY rfl ?_ | refine WR.guardN rfl ?_ | refine WR.guardT rfl ?_ | refine WR.mov rfl ?_ | (refine WR.len (v := ?_) rfl ?_ ?_; rotate_left; first | assumption | exact rfl) | (refine WR.iadr (v := ?_) rfl rfl ?_ ?_; rotate_left; assumption) | (refine WR.fadr (v := ?_) rfl ?_ ?_; rotate_left; first | assumption | exact rfl) | (refine WR.r (v := ?_) rfl rfl (Ld.use (s0 := ?_) ?_ ?_) ?_; rotate_left; rotate_left; assumption; assumption) | (refine WR.bin (v := ?_) rfl rfl ?_ ?_; rotate_left; first | assumption | exact lss_nat _ _ | exact eql_nat _ _ | exact neq_nat _ _ | exact gtr_nat _ _ | exact geq_nat _ _ | exact leq_nat _ _ | exact eql_str _ _ | exact neq_str _ _ | (refine add_nat ?_; omega) | (refine sub_nat ?_ ?_; omega; omega)) | refine WR.pick rfl rfl rfl ?_ | refine WR.un rfl rfl ?_ | refine WR.ext rfl rfl ?_)
          have hws : wPart D i (k + 1) = wPart D i k ++ [p'] := by rw [wPart_succ hi hkl, hf0]; simp [hpi]
          have hmem : p' ∈ wOf D i := by
            unfold wOf
            rw [needsOf_lt hi]
            simp only [List.mem_filter, List.mem_filterMap]
            exact ⟨⟨_, List.getElem_mem hkl, hf0⟩, by simpa using hpi⟩
          by_cases ho : p' ∈ out
          · simp only [decide_eq_true ho]
            (repeat refine WC.seq ?_); refine WC.cond rfl ?_ ?_
            · intro h; simp at h
            · intro _
              refine WC.skip (tail _ _ ⟨rfl, rfl, rfl, rfl, trivial⟩ hs4 ?_)
              rw [hws]
              intro q hq2
              rcases List.mem_append.1 hq2 with h | h
              · exact hq q h
              · simp at h; subst h; exact ho
          · simp only [decide_eq_false ho]
            (repeat refine WC.seq ?_); refine WC.cond rfl ?_ ?_
            · intro _
              (repeat refine WC.seq ?_); refine WC.regX hs4 fun s5 hs5 hx5 ho5 hn5 => ?_
              repeat (first | refine WR.nil ?_ | refine WR.guardY rfl ?_ | refine WR.guardN rfl ?_ | refine WR.guardT rfl ?_ | refine WR.mov rfl ?_ | (refine WR.len (v := ?_) rfl ?_ ?_; rotate_left; first | assumption | exact rfl) | (refine WR.iadr (v := ?_) rfl rfl ?_ ?_; rotate_left; assumption) | (refine WR.fadr (v := ?_) rfl ?_ ?_; rotate_left; first | assumption | exact rfl) | (refine WR.r (v := ?_) rfl rfl (Ld.use (s0 := ?_) ?_ ?_) ?_; rotate_left; rotate_left; assumption; assumption) | (refine WR.bin (v := ?_) rfl rfl ?_ ?_; rotate_left; first | assumption | exact lss_nat _ _ | exact eql_nat _ _ | exact neq_nat _ _ | exact gtr_nat _ _ | exact geq_nat _ _ | exact leq_nat _ _ | exact eql_str _ _ | exact neq_str _ _ | (refine add_nat ?_; omega) | (refine sub_nat ?_ ?_; omega; omega)) | refine WR.pick rfl rfl rfl ?_ | refine WR.un rfl rfl ?_ | refine WR.ext rfl rfl ?_)
              exact WC.ret ⟨hs5, .inr ⟨rfl, rfl, p', hmem, ho⟩⟩
            · intro h; simp at h
    · intro h; simp at h; omega
theorem ready17 (hF17 : F 17 = some fn17) (hE17 : E 17 = none) (hF15 : F 15 = some fn15) (hE15 : E 15 = none) (hD : DepsV s0 lv D) (hT : Slv s0 1 tk (bools (bsOf D.length out))) (hlen : D.length < 1000) {m : Nat} (hm : D.length < m) {i : Nat} (hi : i < D.length) (hneeds : D[i].needs.length < 1000) (hm2 : D[i].needs.length < m + 1) :
    Pure (acall F E (m + 2)) 17 s0 [lv, .int .i64 (.ofNat i), tk] fun v _ => v = .bool ((wOf D i).all fun k => decide (k ∈ out)) := by
  have hs := Ext.refl s0
  refine acall_of (P := fun v s' => Ext s0 s' ∧ v = .bool ((wOf D i).all fun k => decide (k ∈ out))) hE17 hF17 (Nat.le_of_ble_eq_true rfl) ?_
  (repeat refine WC.seq ?_); refine WC.regX hs fun s1 hs1 hx1 ho1 hn1 => ?_
  repeat (first | refine WR.nil ?_ | refine WR.guardY rfl ?_ | refine WR.guardN rfl ?_ | refine WR.guardT rfl ?_ | refine WR.mov rfl ?_ | (refine WR.len (v := ?_) rfl ?_ ?_; rotate_left; first | assumption | exact rfl) | (refine WR.iadr (v := ?_) rfl rfl ?_ ?_; rotate_left; assumption) | (refine WR.fadr (v := ?_) rfl ?_ ?_; rotate_left; first | assumption | exact rfl) | (refine WR.r (v := ?_) rfl rfl (Ld.use (s0 := ?_) ?_ ?_) ?_; rotate_left; rotate_left; assumption; assumption) | (refine WR.bin (v := ?_) rfl rfl ?_ ?_; rotate_left; first | assumption | exact lss_nat _ _ | exact eql_nat _ _ | exact neq_nat _ _ | exact gtr_nat _ _ | exact geq_nat _ _ | exact leq_nat _ _ | exact eql_str _ _ | exact neq_str _ _ | (refine add_nat ?_; omega) | (refine sub_nat ?_ ?_; omega; omega)) | refine WR.pick rfl rfl rfl ?_ | refine WR.un rfl rfl ?_ | refine WR.ext rfl rfl ?_)
  (repeat refine WC.seq ?_); refine WC.regX hs1 fun s2 hs2 hx2 ho2 hn2 => ?_
  repeat (first | refine WR.nil ?_ | refine WR.guardY rfl ?_ | refine WR.guardN rfl ?_ | refine WR.guardT rfl ?_ | refine WR.mov rfl ?_ | (refine WR.len (v := ?_) rfl ?_ ?_; rotate_left; first | assumption | exact rfl) | (refine WR.iadr (v := ?_) rfl rfl ?_ ?_; rotate_left; assumption) | (refine WR.fadr (v := ?_) rfl ?_ ?_; rotate_left; first | assumption | exact rfl) | (refine WR.r (v := ?_) rfl rfl (Ld.use (s0 := ?_) ?_ ?_) ?_; rotate_left; rotate_left; assumption; assumption) | (refine WR.bin (v := ?_) rfl rfl ?_ ?_; rotate_left; first | assumption | exact lss_nat _ _ | exact eql_nat _ _ | exact neq_nat _ _ | exact gtr_nat _ _ | exact geq_nat _ _ | exact leq_nat _ _ | exact eql_str _ _ | exact neq_str _ _ | (refine add_nat ?_; omega) | (refine sub_nat ?_ ?_; omega; omega)) | refine WR.pick rfl rfl rfl ?_ | refine WR.un rfl rfl ?_ | refine WR.ext rfl rfl ?_)
  (repeat refine WC.seq ?_); refine WC.blk (WC.loop ?_)
  refine WL.weak ?hw2 (WL.mono (loop17 (out := out) hF15 hE15 hD hT hlen hm hi hneeds D[i].needs.length 0 _ (m + 1) (by omega) (by omega) (by simp [wPart]) hs2) ?_)
  case hw2 => exact ⟨rfl, rfl, rfl, rfl, trivial⟩
  rintro x l s ⟨h1, ⟨rfl, h2⟩ | ⟨rfl, h2, q, h3, h4⟩⟩
  · (repeat refine WC.seq ?_); refine WC.regX h1 fun s3 hs3 hx3 ho3 hn3 => ?_
    repeat (first | refine WR.nil ?_ | refine WR.guardY rfl ?_ | refine WR.guardN rfl ?_ | refine WR.guardT rfl ?_ | refine WR.mov rfl ?_ | (refine WR.len (v := ?_) rfl ?_ ?_; rotate_left; first | assumption | exact rfl) | (refine WR.iadr (v := ?_) rfl rfl ?_ ?_; rotate_left; assumption) | (refine WR.fadr (v := ?_) rfl ?_ ?_; rotate_left; first | assumption | exact rfl) | (refine WR.r (v := ?_) rfl rfl (Ld.use (s0 := ?_) ?_ ?_) ?_; rotate_left; rotate_left; assumption; assumption) | (refine WR.bin (v := ?_) rfl rfl ?_ ?_; rotate_left; first | assumption | exact lss_nat _ _ | exact eql_nat _ _ | exact neq_nat _ _ | exact gtr_nat _ _ | exact geq_nat _ _ | exact leq_nat _ _ | exact eql_str _ _ | exact neq_str _ _ | (refine add_nat ?_; omega) | (refine sub_nat ?_ ?_; omega; omega)) | refine WR.pick rfl rfl rfl ?_ | refine WR.un rfl rfl ?_ | refine WR.ext rfl rfl ?_)
    (repeat refine WC.seq ?_); refine WC.ret ?_
    refine ⟨.inr rfl, _, rfl, hs3, ?_⟩
    rw [show ((wOf D i).all fun k => decide (k ∈ out)) = true by rw [List.all_eq_true]; intro q hq; simpa using h2 q hq]
    rfl
  · refine ⟨.inr rfl, _, by simp only [fn17, ressL, resL, h2]; rfl, h1, ?_⟩
    rw [show ((wOf D i).all fun k => decide (k ∈ out)) = false by rw [List.all_eq_false]; exact ⟨q, h3, by simpa using h4⟩]
    rfl
end Go.Proofs.Ytbcnhellcpeecaa

namespace Go.Proofs.Ytbcnhellcpeecaa
open Go Go.Abs
variable {F : FuncId → Option AFunc} {E : FuncId → Option (List AV → St → Option (AV × St))}
variable {s0 sB s s' : St} {lo idT n : Nat} {lv hv ov tk : AV} {D : List Dep} {ns : List (List Nat)} {out : List Nat}
/-- A fault of the reference, told. -/
def Fault (s0 : St) (c : Nat) (x : AX) (l : SL) (s : St) : Prop := x = .ret ∧ Ext s0 s ∧ lkS l 4 = some .nilslc ∧ lkS l 5 = some (.int .i64 (.ofNat c))

theorem loop11a (hF15 : F 15 = some fn15) (hE15 : E 15 = none) (hD : DepsV s0 lv D) (hlen : D.length < 1000) {m : Nat} (hm : D.length < m) :
    ∀ (j k : Nat) (s : St) (f : Nat), k + j = D.length → j < f → (∀ i (h : i < D.length), i < k → first D D[i].name = some i) → Ext s0 s →
      WL (acall F E (m + 1)) (m + 1) b11_0 f [(0, lv), (1, hv), (6, .int .i64 (.ofNat k))] s
        (fun x l s => (Fault s0 11 x l s ∧ twice D) ∨ (x = .ext 0 ∧ Ext s0 s ∧ ¬ twice D ∧ Sub2 [(0, lv), (1, hv)] l)) := by
  have h0 := hD.len
  intro j
  induction j with
  | zero =>
    intro k s f hk hf hq hs
    obtain ⟨f, rfl⟩ : ∃ g, f = g + 1 := ⟨f - 1, by omega⟩
    refine WL.round ?_
    (repeat refine WC.seq ?_); refine WC.regX hs fun s1 hs1 hx1 ho1 hn1 => ?_
    repeat (first | refine WR.nil ?_ | refine WR.guardY rfl ?_ | refine WR.guardN rfl ?_ | refine WR.guardT rfl ?_ | refine WR.mov rfl ?_ | (refine WR.len (v := ?_) rfl ?_ ?_; rotate_left; first | assumption | exact rfl) | (refine WR.iadr (v := ?_) rfl rfl ?_ ?_; rotate_left; assumption) | (refine WR.fadr (v := ?_) rfl ?_ ?_; rotate_left; first | assumption | exact rfl) | (refine WR.r (v := ?_) rfl rfl (Ld.use (s0 := ?_) ?_ ?_) ?_; rotate_left; rotate_left; assumption; assumption) | (refine WR.bin (v := ?_) rfl rfl ?_ ?_; rotate_left; first | assumption | exact lss_nat _ _ | exact eql_nat _ _ | exact neq_nat _ _ | exact gtr_nat _ _ | exact geq_nat _ _ | exact leq_nat _ _ | exact eql_str _ _ | exact neq_str _ _ | (refine add_nat ?_; omega) | (refine sub_nat ?_ ?_; omega; omega)) | refine WR.pick rfl rfl rfl ?_ | refine WR.un rfl rfl ?_ | refine WR.ext rfl rfl ?_)
    (repeat refine WC.seq ?_); refine WC.cond rfl ?_ ?_
    · intro h; simp at h; omega
    · intro h
      refine WC.ext (.inr ⟨rfl, hs1, ?_, ⟨rfl, rfl, trivial⟩⟩)
      rintro ⟨i, hi, e⟩
      exact e (hq i hi (by omega))
  | succ j ih =>
    intro k s f hk hf hq hs
    obtain ⟨f, rfl⟩ : ∃ g, f = g + 1 := ⟨f - 1, by omega⟩
    have hkl : k < D.length := by omega
    obtain ⟨p, q0, q1, nv, e1, e2, e3, e4, e5, e6, e7⟩ := hD.at hkl
    refine WL.round ?_
    (repeat refine WC.seq ?_); refine WC.regX hs fun s1 hs1 hx1 ho1 hn1 => ?_
    repeat (first | refine WR.nil ?_ | refine WR.guardY rfl ?_ | refine WR.guardN rfl ?_ | refine WR.guardT rfl ?_ | refine WR.mov rfl ?_ | (refine WR.len (v := ?_) rfl ?_ ?_; rotate_left; first | assumption | exact rfl) | (refine WR.iadr (v := ?_) rfl rfl ?_ ?_; rotate_left; assumption) | (refine WR.fadr (v := ?_) rfl ?_ ?_; rotate_left; first | assumption | exact rfl) | (refine WR.r (v := ?_) rfl rfl (Ld.use (s0 := ?_) ?_ ?_) ?_; rotate_left; rotate_left; assumption; assumption) | (refine WR.bin (v := ?_) rfl rfl ?_ ?_; rotate_left; first | assumption | exact lss_nat _ _ | exact eql_nat _ _ | exact neq_nat _ _ | exact gtr_nat _ _ | exact geq_nat _ _ | exact leq_nat _ _ | exact eql_str _ _ | exact neq_str _ _ | (refine add_nat ?_; omega) | (refine sub_nat ?_ ?_; omega; omega)) | refine WR.pick rfl rfl rfl ?_ | refine WR.un rfl rfl ?_ | refine WR.ext rfl rfl ?_)
    (repeat refine WC.seq ?_); refine WC.cond rfl ?_ ?_
    · intro _
      (repeat refine WC.seq ?_); refine WC.skip ?_
      (repeat refine WC.seq ?_); refine WC.blk ?_
      (repeat refine WC.seq ?_); refine WC.regX hs1 fun s2 hs2 hx2 ho2 hn2 => ?_
      repeat (first | refine WR.nil ?_ | refine WR.guardY rfl ?_ | refine WR.guardN rfl ?_ | refine WR.guardT rfl ?_ | refine WR.mov rfl ?_ | (refine WR.len (v := ?_) rfl ?_ ?_; rotate_left; first | assumption | exact rfl) | (refine WR.iadr (v := ?_) rfl rfl ?_ ?_; rotate_left; assumption) | (refine WR.fadr (v := ?_) rfl ?_ ?_; rotate_left; first | assumption | exact rfl) | (refine WR.r (v := ?_) rfl rfl (Ld.use (s0 := ?_) ?_ ?_) ?_; rotate_left; rotate_left; assumption; assumption) | (refine WR.bin (v := ?_) rfl rfl ?_ ?_; rotate_left; first | assumption | exact lss_nat _ _ | exact eql_nat _ _ | exact neq_nat _ _ | exact gtr_nat _ _ | exact geq_nat _ _ | exact leq_nat _ _ | exact eql_str _ _ | exact neq_str _ _ | (refine add_nat ?_; omega) | (refine sub_nat ?_ ?_; omega; omega)) | refine WR.pick rfl rfl rfl ?_ | refine WR.un rfl rfl ?_ | refine WR.ext rfl rfl ?_)
      obtain ⟨v3, s3, c1, c2, c3⟩ := place15 hF15 hE15 (q := D[k].name) (hD.ext hs2) (by omega) hm
      refine WR.fn rfl c1 ?_
      subst c3
      have hs3 := hs2.trans c2
      cases hf0 : first D D[k].name with
      | none => exact absurd rfl (first_none.1 hf0 k hkl)
      | some k' =>
        simp only [placeV]
        by_cases hkk : k' = k
        · subst hkk
          have hb := neqF (rfl : k' = k')
          repeat (first | refine WR.nil ?_ | refine WR.guardY rfl ?_ | refine WR.guardN rfl ?_ | refine WR.guardT rfl ?_ | refine WR.mov rfl ?_ | (refine WR.len (v := ?_) rfl ?_ ?_; rotate_left; first | assumption | exact rfl) | (refine WR.iadr (v := ?_) rfl rfl ?_ ?_; rotate_left; assumption) | (refine WR.fadr (v := ?_) rfl ?_ ?_; rotate_left; first | assumption | exact rfl) | (refine WR.r (v := ?_) rfl rfl (Ld.use (s0 := ?_) ?_ ?_) ?_; rotate_left; rotate_left; assumption; assumption) | (refine WR.bin (v := ?_) rfl rfl ?_ ?_; rotate_left; first | assumption | exact lss_nat _ _ | exact eql_nat _ _ | exact neq_nat _ _ | exact gtr_nat _ _ | exact geq_nat _ _ | exact leq_nat _ _ | exact eql_str _ _ | exact neq_str _ _ | (refine add_nat ?_; omega) | (refine sub_nat ?_ ?_; omega; omega)) | refine WR.pick rfl rfl rfl ?_ | refine WR.un rfl rfl ?_ | refine WR.ext rfl rfl ?_)
          (repeat refine WC.seq ?_); refine WC.cond rfl ?_ ?_
          · intro h; simp at h
          · intro _
            (repeat refine WC.seq ?_); refine WC.skip ?_
            (repeat refine WC.seq ?_); refine WC.regX hs3 fun s4 hs4 hx4 ho4 hn4 => ?_
            repeat (first | refine WR.nil ?_ | refine WR.guardY rfl ?_ | refine WR.guardN rfl ?_ | refine WR.guardT rfl ?_ | refine WR.mov rfl ?_ | (refine WR.len (v := ?_) rfl ?_ ?_; rotate_left; first | assumption | exact rfl) | (refine WR.iadr (v := ?_) rfl rfl ?_ ?_; rotate_left; assumption) | (refine WR.fadr (v := ?_) rfl ?_ ?_; rotate_left; first | assumption | exact rfl) | (refine WR.r (v := ?_) rfl rfl (Ld.use (s0 := ?_) ?_ ?_) ?_; rotate_left; rotate_left; assumption; assumption) | (refine WR.bin (v := ?_) rfl rfl ?_ ?_; rotate_left; first | assumption | exact lss_nat _ _ | exact eql_nat _ _ | exact neq_nat _ _ | exact gtr_nat _ _ | exact geq_nat _ _ | exact leq_nat _ _ | exact eql_str _ _ | exact neq_str _ _ | (refine add_nat ?_; omega) | (refine sub_nat ?_ ?_; omega; omega)) | refine WR.pick rfl rfl rfl ?_ | refine WR.un rfl rfl ?_ | refine WR.ext rfl rfl ?_)
            refine WL.weak ?hw1 (ih (k' + 1) _ f (by omega) (by omega) ?_ hs4)
            case hw1 => exact ⟨rfl, rfl, rfl, trivial⟩
            intro i hi hik
            by_cases e : i = k'
            · subst e; exact hf0
            · exact hq i hi (by omega)
        · have hb := neqT hkk
          repeat (first | refine WR.nil ?_ | refine WR.guardY rfl ?_ | refine WR.guardN rfl ?_ | refine WR.guardT rfl ?_ | refine WR.mov rfl ?_ | (refine WR.len (v := ?_) rfl ?_ ?_; rotate_left; first | assumption | exact rfl) | (refine WR.iadr (v := ?_) rfl rfl ?_ ?_; rotate_left; assumption) | (refine WR.fadr (v := ?_) rfl ?_ ?_; rotate_left; first | assumption | exact rfl) | (refine WR.r (v := ?_) rfl rfl (Ld.use (s0 := ?_) ?_ ?_) ?_; rotate_left; rotate_left; assumption; assumption) | (refine WR.bin (v := ?_) rfl rfl ?_ ?_; rotate_left; first | assumption | exact lss_nat _ _ | exact eql_nat _ _ | exact neq_nat _ _ | exact gtr_nat _ _ | exact geq_nat _ _ | exact leq_nat _ _ | exact eql_str _ _ | exact neq_str _ _ | (refine add_nat ?_; omega) | (refine sub_nat ?_ ?_; omega; omega)) | refine WR.pick rfl rfl rfl ?_ | refine WR.un rfl rfl ?_ | refine WR.ext rfl rfl ?_)
          (repeat refine WC.seq ?_); refine WC.cond rfl ?_ ?_
          · intro _
            (repeat refine WC.seq ?_); refine WC.regX hs3 fun s4 hs4 hx4 ho4 hn4 => ?_
            repeat (first | refine WR.nil ?_ | refine WR.guardY rfl ?_ | refine WR.guardN rfl ?_ | refine WR.guardT rfl ?_ | refine WR.mov rfl ?_ | (refine WR.len (v := ?_) rfl ?_ ?_; rotate_left; first | assumption | exact rfl) | (refine WR.iadr (v := ?_) rfl rfl ?_ ?_; rotate_left; assumption) | (refine WR.fadr (v := ?_) rfl ?_ ?_; rotate_left; first | assumption | exact rfl) | (refine WR.r (v := ?_) rfl rfl (Ld.use (s0 := ?_) ?_ ?_) ?_; rotate_left; rotate_left; assumption; assumption) | (refine WR.bin (v := ?_) rfl rfl ?_ ?_; rotate_left; first | assumption | exact lss_nat _ _ | exact eql_nat _ _ | exact neq_nat _ _ | exact gtr_nat _ _ | exact geq_nat _ _ | exact leq_nat _ _ | exact eql_str _ _ | exact neq_str _ _ | (refine add_nat ?_; omega) | (refine sub_nat ?_ ?_; omega; omega)) | refine WR.pick rfl rfl rfl ?_ | refine WR.un rfl rfl ?_ | refine WR.ext rfl rfl ?_)
            refine WC.ret (.inl ⟨⟨rfl, hs4, rfl, rfl⟩, k, hkl, ?_⟩)
            rw [hf0]; intro e; cases e; exact hkk rfl
          · intro h; simp at h
    · intro h; simp at h; omega

theorem loop11b (hF15 : F 15 = some fn15) (hE15 : E 15 = none) (hF16 : F 16 = some fn16) (hE16 : E 16 = none) (hD : DepsV s0 lv D) (hH : Slv s0 1 hv (strs ns)) (hlen : D.length < 1000) (hns : ns.length < 1000) {m : Nat} (hm : D.length < m) (hmn : ns.length < m) {i : Nat} (hi : i < D.length) (hneeds : D[i].needs.length < 1000) :
    ∀ (j k : Nat) (s : St) (f : Nat), k + j = D[i].needs.length → j < f → (∀ q (h : q < D[i].needs.length), q < k → first D D[i].needs[q] = none → D[i].needs[q] ∈ ns) → Ext s0 s →
      WL (acall F E (m + 1)) (m + 1) b11_1 f [(0, lv), (1, hv), (7, .int .i64 (.ofNat i)), (8, .int .i64 (.ofNat k))] s
        (fun x l s => (Fault s0 19 x l s ∧ missing D ns) ∨ (x = .ext 4 ∧ Ext s0 s ∧ (∀ q ∈ D[i].needs, first D q = none → q ∈ ns) ∧ Sub2 [(0, lv), (1, hv), (7, .int .i64 (.ofNat i))] l)) := by
  obtain ⟨p, q0, q1, nv, e1, e2, e3, e4, e5, e6, e7⟩ := hD.at hi
  have h0 := e6.len' (m := D[i].needs.length) (by simp [strs])
  intro j
  induction j with
  | zero =>
    intro k s f hk hf hq hs
    obtain ⟨f, rfl⟩ : ∃ g, f = g + 1 := ⟨f - 1, by omega⟩
    refine WL.round ?_
    (repeat refine WC.seq ?_); refine WC.regX hs fun s1 hs1 hx1 ho1 hn1 => ?_
    repeat (first | refine WR.nil ?_ | refine WR.guardY rfl ?_ | refine WR.guardN rfl ?_ | refine WR.guardT rfl ?_ | refine WR.mov rfl ?_ | (refine WR.len (v := ?_) rfl ?_ ?_; rotate_left; first | assumption | exact rfl) | (refine WR.iadr (v := ?_) rfl rfl ?_ ?_; rotate_left; assumption) | (refine WR.fadr (v := ?_) rfl ?_ ?_; rotate_left; first | assumption | exact rfl) | (refine WR.r (v := ?_) rfl rfl (Ld.use (s0 := ?_) ?_ ?_) ?_; rotate_left; rotate_left; assumption; assumption) | (refine WR.bin (v := ?_) rfl rfl ?_ ?_; rotate_left; first | assumption | exact lss_nat _ _ | exact eql_nat _ _ | exact neq_nat _ _ | exact gtr_nat _ _ | exact geq_nat _ _ | exact leq_nat _ _ | exact eql_str _ _ | exact neq_str _ _ | (refine add_nat ?_; omega) | (refine sub_nat ?_ ?_; omega; omega)) | refine WR.pick rfl rfl rfl ?_ | refine WR.un rfl rfl ?_ | refine WR.ext rfl rfl ?_)
    (repeat refine WC.seq ?_); refine WC.cond rfl ?_ ?_
    · intro h; simp at h; omega
    · intro h
      refine WC.ext (.inr ⟨rfl, hs1, fun q hq2 h1 => ?_, ⟨rfl, rfl, rfl, trivial⟩⟩)
      obtain ⟨r, hr, rfl⟩ := List.getElem_of_mem hq2
      exact hq r hr (by omega) h1
  | succ j ih =>
    intro k s f hk hf hq hs
    obtain ⟨f, rfl⟩ : ∃ g, f = g + 1 := ⟨f - 1, by omega⟩
    have hkl : k < D[i].needs.length := by omega
    obtain ⟨p2, hp2, hld2⟩ := e6.at1 (i := k) (a := .str D[i].needs[k]) (by simp [strs, hkl])
    have tail : ∀ (l : SL) (s : St), Sub2 [(0, lv), (1, hv), (7, .int .i64 (.ofNat i)), (8, .int .i64 (.ofNat k))] l → Ext s0 s → (first D D[i].needs[k] = none → D[i].needs[k] ∈ ns) →
        WC (acall F E (m + 1)) (m + 1) (.reg r11_12) l s (fun x l s => thenW x (WL (acall F E (m + 1)) (m + 1) b11_1 f l s (fun x l s => (Fault s0 19 x l s ∧ missing D ns) ∨ (x = .ext 4 ∧ Ext s0 s ∧ (∀ q ∈ D[i].needs, first D q = none → q ∈ ns) ∧ Sub2 [(0, lv), (1, hv), (7, .int .i64 (.ofNat i))] l)))
          ((Fault s0 19 x l s ∧ missing D ns) ∨ (x = .ext 4 ∧ Ext s0 s ∧ (∀ q ∈ D[i].needs, first D q = none → q ∈ ns) ∧ Sub2 [(0, lv), (1, hv), (7, .int .i64 (.ofNat i))] l))) := by
      intro l s hl hs hr
      refine WC.weak hl ?_
      (repeat refine WC.seq ?_); refine WC.regX hs fun s1 hs1 hx1 ho1 hn1 => ?_
      repeat (first | refine WR.nil ?_ | refine WR.guardY rfl ?_ | refine WR.guardN rfl ?_ | refine WR.guardT rfl ?_ | refine WR.mov rfl ?_ | (refine WR.len (v := ?_) rfl ?_ ?_; rotate_left; first | assumption | exact rfl) | (refine WR.iadr (v := ?_) rfl rfl ?_ ?_; rotate_left; assumption) | (refine WR.fadr (v := ?_) rfl ?_ ?_; rotate_left; first | assumption | exact rfl) | (refine WR.r (v := ?_) rfl rfl (Ld.use (s0 := ?_) ?_ ?_) ?_; rotate_left; rotate_left; assumption; assumption) | (refine WR.bin (v := ?_) rfl rfl ?_ ?_; rotate_left; first | assumption | exact lss_nat _ _ | exact eql_nat _ _ | exact neq_nat _ _ | exact gtr_nat _ _ | exact geq_nat _ _ | exact leq_nat _ _ | exact eql_str _ _ | exact neq_str _ _ | (refine add_nat ?_; omega) | (refine sub_nat ?_ ?_; omega; omega)) | refine WR.pick rfl rfl rfl ?_ | refine WR.un rfl rfl ?_ | refine WR.ext rfl rfl ?_)
      refine WL.weak ?hw (ih (k + 1) _ f (by omega) (by omega) ?_ hs1)
      case hw => exact ⟨rfl, rfl, rfl, rfl, trivial⟩
      intro r hr2 hrk h1
      by_cases e : r = k
      · subst e; exact hr h1
      · exact hq r hr2 (by omega) h1
    refine WL.round ?_
    (repeat refine WC.seq ?_); refine WC.regX hs fun s1 hs1 hx1 ho1 hn1 => ?_
    repeat (first | refine WR.nil ?_ | refine WR.guardY rfl ?_ | refine WR.guardN rfl ?_ | refine WR.guardT rfl ?_ | refine WR.mov rfl ?_ | (refine WR.len (v := ?_) rfl ?_ ?_; rotate_left; first | assumption | exact rfl) | (refine WR.iadr (v := ?_) rfl rfl ?_ ?_; rotate_left; assumption) | (refine WR.fadr (v := ?_) rfl ?_ ?_; rotate_left; first | assumption | exact rfl) | (refine WR.r (v := ?_) rfl rfl (Ld.use (s0 := ?_) ?_ ?_) ?_; rotate_left; rotate_left; assumption; assumption) | (refine WR.bin (v := ?_) rfl rfl ?_ ?_; rotate_left; first | assumption | exact lss_nat _ _ | exact eql_nat _ _ | exact neq_nat _ _ | exact gtr_nat _ _ | exact geq_nat _ _ | exact leq_nat _ _ | exact eql_str _ _ | exact neq_str _ _ | (refine add_nat ?_; omega) | (refine sub_nat ?_ ?_; omega; omega)) | refine WR.pick rfl rfl rfl ?_ | refine WR.un rfl rfl ?_ | refine WR.ext rfl rfl ?_)
    (repeat refine WC.seq ?_); refine WC.cond rfl ?_ ?_
    · intro _
      (repeat refine WC.seq ?_); refine WC.skip ?_
      (repeat refine WC.seq ?_); refine WC.blk ?_
      (repeat refine WC.seq ?_); refine WC.regX hs1 fun s2 hs2 hx2 ho2 hn2 => ?_
      repeat (first | refine WR.nil ?_ | refine WR.guardY rfl ?_ | refine WR.guardN rfl ?_ | refine WR.guardT rfl ?_ | refine WR.mov rfl ?_ | (refine WR.len (v := ?_) rfl ?_ ?_; rotate_left; first | assumption | exact rfl) | (refine WR.iadr (v := ?_) rfl rfl ?_ ?_; rotate_left; assumption) | (refine WR.fadr (v := ?_) rfl ?_ ?_; rotate_left; first | assumption | exact rfl) | (refine WR.r (v := ?_) rfl rfl (Ld.use (s0 := ?_) ?_ ?_) ?_; rotate_left; rotate_left; assumption; assumption) | (refine WR.bin (v := ?_) rfl rfl ?_ ?_; rotate_left; first | assumption | exact lss_nat _ _ | exact eql_nat _ _ | exact neq_nat _ _ | exact gtr_nat _ _ | exact geq_nat _ _ | exact leq_nat _ _ | exact eql_str _ _ | exact neq_str _ _ | (refine add_nat ?_; omega) | (refine sub_nat ?_ ?_; omega; omega)) | refine WR.pick rfl rfl rfl ?_ | refine WR.un rfl rfl ?_ | refine WR.ext rfl rfl ?_)
      obtain ⟨v3, s3, c1, c2, c3⟩ := place15 hF15 hE15 (q := D[i].needs[k]) (hD.ext hs2) (by omega) hm
      refine WR.fn rfl c1 ?_
      subst c3
      have hs3 := hs2.trans c2
      cases hf0 : first D D[i].needs[k] with
      | some p' =>
        simp only [placeV]
        have hb := lssF (Nat.not_lt_zero p')
        repeat (first | refine WR.nil ?_ | refine WR.guardY rfl ?_ | refine WR.guardN rfl ?_ | refine WR.guardT rfl ?_ | refine WR.mov rfl ?_ | (refine WR.len (v := ?_) rfl ?_ ?_; rotate_left; first | assumption | exact rfl) | (refine WR.iadr (v := ?_) rfl rfl ?_ ?_; rotate_left; assumption) | (refine WR.fadr (v := ?_) rfl ?_ ?_; rotate_left; first | assumption | exact rfl) | (refine WR.r (v := ?_) rfl rfl (Ld.use (s0 := ?_) ?_ ?_) ?_; rotate_left; rotate_left; assumption; assumption) | (refine WR.bin (v := ?_) rfl rfl ?_ ?_; rotate_left; first | assumption | exact lss_nat _ _ | exact eql_nat _ _ | exact neq_nat _ _ | exact gtr_nat _ _ | exact geq_nat _ _ | exact leq_nat _ _ | exact eql_str _ _ | exact neq_str _ _ | (refine add_nat ?_; omega) | (refine sub_nat ?_ ?_; omega; omega)) | refine WR.pick rfl rfl rfl ?_ | refine WR.un rfl rfl ?_ | refine WR.ext rfl rfl ?_)
        (repeat refine WC.seq ?_); refine WC.cond rfl ?_ ?_
        · intro h; simp at h
        · intro _
          exact WC.skip (tail _ _ ⟨rfl, rfl, rfl, rfl, trivial⟩ hs3 (fun h => by rw [hf0] at h; simp at h))
      | none =>
        simp only [placeV]
        have hb := lssNeg
        repeat (first | refine WR.nil ?_ | refine WR.guardY rfl ?_ | refine WR.guardN rfl ?_ | refine WR.guardT rfl ?_ | refine WR.mov rfl ?_ | (refine WR.len (v := ?_) rfl ?_ ?_; rotate_left; first | assumption | exact rfl) | (refine WR.iadr (v := ?_) rfl rfl ?_ ?_; rotate_left; assumption) | (refine WR.fadr (v := ?_) rfl ?_ ?_; rotate_left; first | assumption | exact rfl) | (refine WR.r (v := ?_) rfl rfl (Ld.use (s0 := ?_) ?_ ?_) ?_; rotate_left; rotate_left; assumption; assumption) | (refine WR.bin (v := ?_) rfl rfl ?_ ?_; rotate_left; first | assumption | exact lss_nat _ _ | exact eql_nat _ _ | exact neq_nat _ _ | exact gtr_nat _ _ | exact geq_nat _ _ | exact leq_nat _ _ | exact eql_str _ _ | exact neq_str _ _ | (refine add_nat ?_; omega) | (refine sub_nat ?_ ?_; omega; omega)) | refine WR.pick rfl rfl rfl ?_ | refine WR.un rfl rfl ?_ | refine WR.ext rfl rfl ?_)
        obtain ⟨v4, s4, d1, d2, d3⟩ := among16 hF16 hE16 (q := D[i].needs[k]) (hH.ext hs3) (by omega) hmn
        refine WR.fn rfl d1 ?_
        subst d3
        have hs4 := hs3.trans d2
        by_cases hmm : D[i].needs[k] ∈ ns
        · rw [decide_eq_true hmm]
          repeat (first | refine WR.nil ?_ | refine WR.guardY rfl ?_ | refine WR.guardN rfl ?_ | refine WR.guardT rfl ?_ | refine WR.mov rfl ?_ | (refine WR.len (v := ?_) rfl ?_ ?_; rotate_left; first | assumption | exact rfl) | (refine WR.iadr (v := ?_) rfl rfl ?_ ?_; rotate_left; assumption) | (refine WR.fadr (v := ?_) rfl ?_ ?_; rotate_left; first | assumption | exact rfl) | (refine WR.r (v := ?_) rfl rfl (Ld.use (s0 := ?_) ?_ ?_) ?_; rotate_left; rotate_left; assumption; assumption) | (refine WR.bin (v := ?_) rfl rfl ?_ ?_; rotate_left; first | assumption | exact lss_nat _ _ | exact eql_nat _ _ | exact neq_nat _ _ | exact gtr_nat _ _ | exact geq_nat _ _ | exact leq_nat _ _ | exact eql_str _ _ | exact neq_str _ _ | (refine add_nat ?_; omega) | (refine sub_nat ?_ ?_; omega; omega)) | refine WR.pick rfl rfl rfl ?_ | refine WR.un rfl rfl ?_ | refine WR.ext rfl rfl ?_)
          (repeat refine WC.seq ?_); refine WC.cond rfl ?_ ?_
          · intro h; simp at h
          · intro _
            exact WC.skip (tail _ _ ⟨rfl, rfl, rfl, rfl, trivial⟩ hs4 (fun _ => hmm))
        · rw [decide_eq_false hmm]
          repeat (first | refine WR.nil ?_ | refine WR.guardY rfl ?_ | refine WR.guardN rfl ?_ | refine WR.guardT rfl ?_ | refine WR.mov rfl ?_ | (refine WR.len (v := ?_) rfl ?_ ?_; rotate_left; first | assumption | exact rfl) | (refine WR.iadr (v := ?_) rfl rfl ?_ ?_; rotate_left; assumption) | (refine WR.fadr (v := ?_) rfl ?_ ?_; rotate_left; first | assumption | exact rfl) | (refine WR.r (v := ?_) rfl rfl (Ld.use (s0 := ?_) ?_ ?_) ?_; rotate_left; rotate_left; assumption; assumption) | (refine WR.bin (v := ?_) rfl rfl ?_ ?_; rotate_left; first | assumption | exact lss_nat _ _ | exact eql_nat _ _ | exact neq_nat _ _ | exact gtr_nat _ _ | exact geq_nat _ _ | exact leq_nat _ _ | exact eql_str _ _ | exact neq_str _ _ | (refine add_nat ?_; omega) | (refine sub_nat ?_ ?_; omega; omega)) | refine WR.pick rfl rfl rfl ?_ | refine WR.un rfl rfl ?_ | refine WR.ext rfl rfl ?_)
          (repeat refine WC.seq ?_); refine WC.cond rfl ?_ ?_
          · intro _
            (repeat refine WC.seq ?_); refine WC.regX hs4 fun s5 hs5 hx5 ho5 hn5 => ?_
            repeat (first | refine WR.nil ?_ | refine WR.guardY rfl ?_ | refine WR.guardN rfl ?_ | refine WR.guardT rfl ?_ | refine WR.mov rfl ?_ | (refine WR.len (v := ?_) rfl ?_ ?_; rotate_left; first | assumption | exact rfl) | (refine WR.iadr (v := ?_) rfl rfl ?_ ?_; rotate_left; assumption) | (refine WR.fadr (v := ?_) rfl ?_ ?_; rotate_left; first | assumption | exact rfl) | (refine WR.r (v := ?_) rfl rfl (Ld.use (s0 := ?_) ?_ ?_) ?_; rotate_left; rotate_left; assumption; assumption) | (refine WR.bin (v := ?_) rfl rfl ?_ ?_; rotate_left; first | assumption | exact lss_nat _ _ | exact eql_nat _ _ | exact neq_nat _ _ | exact gtr_nat _ _ | exact geq_nat _ _ | exact leq_nat _ _ | exact eql_str _ _ | exact neq_str _ _ | (refine add_nat ?_; omega) | (refine sub_nat ?_ ?_; omega; omega)) | refine WR.pick rfl rfl rfl ?_ | refine WR.un rfl rfl ?_ | refine WR.ext rfl rfl ?_)
            exact WC.ret (.inl ⟨⟨rfl, hs5, rfl, rfl⟩, D[i], List.getElem_mem _, _, List.getElem_mem _, hf0, hmm⟩)
          · intro h; simp at h
    · intro h; simp at h; omega

theorem loop11c (hF15 : F 15 = some fn15) (hE15 : E 15 = none) (hF16 : F 16 = some fn16) (hE16 : E 16 = none) (hD : DepsV s0 lv D) (hH : Slv s0 1 hv (strs ns)) (hlen : D.length < 1000) (hns : ns.length < 1000) {m : Nat} (hm : D.length < m) (hmn : ns.length < m) (hneeds : ∀ d ∈ D, d.needs.length < 1000 ∧ d.needs.length < m + 1) :
    ∀ (j k : Nat) (s : St) (f : Nat), k + j = D.length → j < f → (∀ r (h : r < D.length), r < k → ∀ q ∈ D[r].needs, first D q = none → q ∈ ns) → Ext s0 s →
      WL (acall F E (m + 1)) (m + 1) b11_2 f [(0, lv), (1, hv), (7, .int .i64 (.ofNat k))] s
        (fun x l s => (Fault s0 19 x l s ∧ missing D ns) ∨ (x = .ext 2 ∧ Ext s0 s ∧ ¬ missing D ns ∧ Sub2 [(0, lv), (1, hv)] l)) := by
  have h0 := hD.len
  intro j
  induction j with
  | zero =>
    intro k s f hk hf hq hs
    obtain ⟨f, rfl⟩ : ∃ g, f = g + 1 := ⟨f - 1, by omega⟩
    refine WL.round ?_
    (repeat refine WC.seq ?_); refine WC.regX hs fun s1 hs1 hx1 ho1 hn1 => ?_
    repeat (first | refine WR.nil ?_ | refine WR.guardY rfl ?_ | refine WR.guardN rfl ?_ | refine WR.guardT rfl ?_ | refine WR.mov rfl ?_ | (refine WR.len (v := ?_) rfl ?_ ?_; rotate_left; first | assumption | exact rfl) | (refine WR.iadr (v := ?_) rfl rfl ?_ ?_; rotate_left; assumption) | (refine WR.fadr (v := ?_) rfl ?_ ?_; rotate_left; first | assumption | exact rfl) | (refine WR.r (v := ?_) rfl rfl (Ld.use (s0 := ?_) ?_ ?_) ?_; rotate_left; rotate_left; assumption; assumption) | (refine WR.bin (v := ?_) rfl rfl ?_ ?_; rotate_left; first | assumption | exact lss_nat _ _ | exact eql_nat _ _ | exact neq_nat _ _ | exact gtr_nat _ _ | exact geq_nat _ _ | exact leq_nat _ _ | exact eql_str _ _ | exact neq_str _ _ | (refine add_nat ?_; omega) | (refine sub_nat ?_ ?_; omega; omega)) | refine WR.pick rfl rfl rfl ?_ | refine WR.un rfl rfl ?_ | refine WR.ext rfl rfl ?_)
    (repeat refine WC.seq ?_); refine WC.cond rfl ?_ ?_
    · intro h; simp at h; omega
    · intro h
      refine WC.ext (.inr ⟨rfl, hs1, ?_, ⟨rfl, rfl, trivial⟩⟩)
      rintro ⟨d, hd, q, hq2, h1, h2⟩
      obtain ⟨r, hr, rfl⟩ := List.getElem_of_mem hd
      exact h2 (hq r hr (by omega) q hq2 h1)
  | succ j ih =>
    intro k s f hk hf hq hs
    obtain ⟨f, rfl⟩ : ∃ g, f = g + 1 := ⟨f - 1, by omega⟩
    have hkl : k < D.length := by omega
    have hnd := hneeds D[k] (List.getElem_mem _)
    refine WL.round ?_
    (repeat refine WC.seq ?_); refine WC.regX hs fun s1 hs1 hx1 ho1 hn1 => ?_
    repeat (first | refine WR.nil ?_ | refine WR.guardY rfl ?_ | refine WR.guardN rfl ?_ | refine WR.guardT rfl ?_ | refine WR.mov rfl ?_ | (refine WR.len (v := ?_) rfl ?_ ?_; rotate_left; first | assumption | exact rfl) | (refine WR.iadr (v := ?_) rfl rfl ?_ ?_; rotate_left; assumption) | (refine WR.fadr (v := ?_) rfl ?_ ?_; rotate_left; first | assumption | exact rfl) | (refine WR.r (v := ?_) rfl rfl (Ld.use (s0 := ?_) ?_ ?_) ?_; rotate_left; rotate_left; assumption; assumption) | (refine WR.bin (v := ?_) rfl rfl ?_ ?_; rotate_left; first | assumption | exact lss_nat _ _ | exact eql_nat _ _ | exact neq_nat _ _ | exact gtr_nat _ _ | exact geq_nat _ _ | exact leq_nat _ _ | exact eql_str _ _ | exact neq_str _ _ | (refine add_nat ?_; omega) | (refine sub_nat ?_ ?_; omega; omega)) | refine WR.pick rfl rfl rfl ?_ | refine WR.un rfl rfl ?_ | refine WR.ext rfl rfl ?_)
    (repeat refine WC.seq ?_); refine WC.cond rfl ?_ ?_
    · intro _
      (repeat refine WC.seq ?_); refine WC.skip ?_
      (repeat refine WC.seq ?_); refine WC.blk ?_
      (repeat refine WC.seq ?_); refine WC.regX hs1 fun s2 hs2 hx2 ho2 hn2 => ?_
      repeat (first | refine WR.nil ?_ | refine WR.guardY rfl ?_ | refine WR.guardN rfl ?_ | refine WR.guardT rfl ?_ | refine WR.mov rfl ?_ | (refine WR.len (v := ?_) rfl ?_ ?_; rotate_left; first | assumption | exact rfl) | (refine WR.iadr (v := ?_) rfl rfl ?_ ?_; rotate_left; assumption) | (refine WR.fadr (v := ?_) rfl ?_ ?_; rotate_left; first | assumption | exact rfl) | (refine WR.r (v := ?_) rfl rfl (Ld.use (s0 := ?_) ?_ ?_) ?_; rotate_left; rotate_left; assumption; assumption) | (refine WR.bin (v := ?_) rfl rfl ?_ ?_; rotate_left; first | assumption | exact lss_nat _ _ | exact eql_nat _ _ | exact neq_nat _ _ | exact gtr_nat _ _ | exact geq_nat _ _ | exact leq_nat _ _ | exact eql_str _ _ | exact neq_str _ _ | (refine add_nat ?_; omega) | (refine sub_nat ?_ ?_; omega; omega)) | refine WR.pick rfl rfl rfl ?_ | refine WR.un rfl rfl ?_ | refine WR.ext rfl rfl ?_)
      (repeat refine WC.seq ?_); refine WC.blk (WC.loop ?_)
      refine WL.weak ?hw1 (WL.mono (loop11b (ns := ns) hF15 hE15 hF16 hE16 hD hH hlen hns hm hmn hkl hnd.1 D[k].needs.length 0 _ (m + 1) (by omega) hnd.2 (fun q _ h => absurd h (by omega)) hs2) ?_)
      case hw1 => exact ⟨rfl, rfl, rfl, rfl, trivial⟩
      rintro x l s5 (⟨⟨rfl, h1, h2, h3⟩, h4⟩ | ⟨rfl, h1, h2, h3⟩)
      · exact .inl ⟨⟨rfl, h1, h2, h3⟩, h4⟩
      · refine WC.weak h3 ?_
        (repeat refine WC.seq ?_); refine WC.regX h1 fun s6 hs6 hx6 ho6 hn6 => ?_
        repeat (first | refine WR.nil ?_ | refine WR.guardY rfl ?_ | refine WR.guardN rfl ?_ | refine WR.guardT rfl ?_ | refine WR.mov rfl ?_ | (refine WR.len (v := ?_) rfl ?_ ?_; rotate_left; first | assumption | exact rfl) | (refine WR.iadr (v := ?_) rfl rfl ?_ ?_; rotate_left; assumption) | (refine WR.fadr (v := ?_) rfl ?_ ?_; rotate_left; first | assumption | exact rfl) | (refine WR.r (v := ?_) rfl rfl (Ld.use (s0 := ?_) ?_ ?_) ?_; rotate_left; rotate_left; assumption; assumption) | (refine WR.bin (v := ?_) rfl rfl ?_ ?_; rotate_left; first | assumption | exact lss_nat _ _ | exact eql_nat _ _ | exact neq_nat _ _ | exact gtr_nat _ _ | exact geq_nat _ _ | exact leq_nat _ _ | exact eql_str _ _ | exact neq_str _ _ | (refine add_nat ?_; omega) | (refine sub_nat ?_ ?_; omega; omega)) | refine WR.pick rfl rfl rfl ?_ | refine WR.un rfl rfl ?_ | refine WR.ext rfl rfl ?_)
        refine WL.weak ?hw2 (ih (k + 1) _ f (by omega) (by omega) ?_ hs6)
        case hw2 => exact ⟨rfl, rfl, rfl, trivial⟩
        intro r hr hrk q hq2 hf0
        by_cases e : r = k
        · subst e; exact h2 q hq2 hf0
        · exact hq r hr (by omega) q hq2 hf0
    · intro h; simp at h; omega

/-- While modules are taken, in the reference. -/
structure RInv (sB s : St) (lo idT n : Nat) (ov : AV) (out : List Nat) : Prop where
  ext : Ext sB s
  lt : sB.next ≤ idT ∧ idT < lo ∧ lo ≤ s.next
  gT : s.objs.get idT = some (.cells ((bsOf n out).map .bool) 0 0 false)
  own : Own s lo 1 ov (nats out)
theorem RInv.step (h : RInv sB s lo idT n ov out) (k : Ext s s') : RInv sB s' lo idT n ov out := by
  obtain ⟨a1, a2, a3⟩ := h.lt
  exact ⟨h.ext.trans k, ⟨a1, a2, Nat.le_trans a3 k.next⟩, by rw [k.old _ (by omega)]; exact h.gT, h.own.ext k⟩
theorem bsOf_length (n : Nat) (out : List Nat) : (bsOf n out).length = n := by simp [bsOf]
theorem RInv.load (h : RInv sB s lo idT n ov out) {i : Nat} (hi : i < n) (y : AV) : aread .load1 (.ptr idT 0 (0 + i * 1) 1) y s = some (.bool (decide (i ∈ out))) :=
  ld_obj h.gT (by simp [bsOf_get hi]) (Nat.le_refl _)
theorem RInv.slv (h : RInv sB s lo idT n ov out) : Slv s 1 (.slc idT 0 0 n n 1) (bools (bsOf n out)) := by
  obtain ⟨a1, a2, a3⟩ := h.lt
  have e : (bools (bsOf n out)).flatten = (bsOf n out).map .bool := by
    generalize bsOf n out = q
    induction q with
    | nil => rfl
    | cons x xs ih => simp [bools] at ih ⊢; exact ih
  refine ⟨by intro r hr; simp only [bools, List.mem_map] at hr; obtain ⟨b, _, rfl⟩ := hr; rfl, rfl, by simp [bools, bsOf_length], by omega, _, by simp only [St.cells, h.gT]; rfl, ?_⟩
  rw [e, seg_some]
  refine ⟨by simp [bsOf_length], ?_⟩
  rw [List.drop_zero, List.take_of_length_le]
  simp [bsOf_length]

theorem loop11d (hF17 : F 17 = some fn17) (hE17 : E 17 = none) (hF15 : F 15 = some fn15) (hE15 : E 15 = none) (hD : DepsV sB lv D) (hlen : D.length < 1000) {m : Nat} (hm : D.length < m) (hneeds : ∀ d ∈ D, d.needs.length < 1000 ∧ d.needs.length < m + 1) :
    ∀ (j k : Nat) (s : St) (f : Nat), k + j = D.length → j < f → RInv sB s lo idT D.length ov out →
      WL (acall F E (m + 2)) (m + 2) b11_3 f [(0, lv), (9, .slc idT 0 0 D.length D.length 1), (10, ov), (11, .int .i64 (.ofNat k))] s
        (fun x l s => x = .ext 8 ∧ RInv sB s lo idT D.length ov out ∧ ∃ i, Sub2 [(0, lv), (9, .slc idT 0 0 D.length D.length 1), (10, ov), (11, .int .i64 (.ofNat i))] l ∧
          ((i = D.length ∧ scan (ready (wOf D) out) j k = none) ∨ (i < D.length ∧ scan (ready (wOf D) out) j k = some i))) := by
  have h0 := hD.len
  intro j
  induction j with
  | zero =>
    intro k s f hk hf ht
    obtain ⟨f, rfl⟩ : ∃ g, f = g + 1 := ⟨f - 1, by omega⟩
    have hs := ht.ext
    have hb := lssF (show ¬ k < D.length by omega)
    refine WL.round ?_
    (repeat refine WC.seq ?_); refine WC.regX hs fun s1 hs1 hx1 ho1 hn1 => ?_
    repeat (first | refine WR.nil ?_ | refine WR.guardY rfl ?_ | refine WR.guardN rfl ?_ | refine WR.guardT rfl ?_ | refine WR.mov rfl ?_ | (refine WR.len (v := ?_) rfl ?_ ?_; rotate_left; first | assumption | exact rfl) | (refine WR.iadr (v := ?_) rfl rfl ?_ ?_; rotate_left; assumption) | (refine WR.fadr (v := ?_) rfl ?_ ?_; rotate_left; first | assumption | exact rfl) | (refine WR.r (v := ?_) rfl rfl (Ld.use (s0 := ?_) ?_ ?_) ?_; rotate_left; rotate_left; assumption; assumption) | (refine WR.bin (v := ?_) rfl rfl ?_ ?_; rotate_left; first | assumption | exact lss_nat _ _ | exact eql_nat _ _ | exact neq_nat _ _ | exact gtr_nat _ _ | exact geq_nat _ _ | exact leq_nat _ _ | exact eql_str _ _ | exact neq_str _ _ | (refine add_nat ?_; omega) | (refine sub_nat ?_ ?_; omega; omega)) | refine WR.pick rfl rfl rfl ?_ | refine WR.un rfl rfl ?_ | refine WR.ext rfl rfl ?_)
    (repeat refine WC.seq ?_); refine WC.cond rfl ?_ ?_
    · intro h; simp at h
    · intro h
      exact WC.ext ⟨rfl, ht.step hx1, k, ⟨rfl, rfl, rfl, rfl, trivial⟩, .inl ⟨by omega, rfl⟩⟩
  | succ j ih =>
    intro k s f hk hf ht
    obtain ⟨f, rfl⟩ : ∃ g, f = g + 1 := ⟨f - 1, by omega⟩
    have hs := ht.ext
    have hkn : k < D.length := by omega
    have hb := lssT hkn
    have hI := iadr_slc (id := idT) (g := 0) hkn 1 D.length
    have hnd := hneeds D[k] (List.getElem_mem _)
    refine WL.round ?_
    (repeat refine WC.seq ?_); refine WC.regX hs fun s1 hs1 hx1 ho1 hn1 => ?_
    repeat (first | refine WR.nil ?_ | refine WR.guardY rfl ?_ | refine WR.guardN rfl ?_ | refine WR.guardT rfl ?_ | refine WR.mov rfl ?_ | (refine WR.len (v := ?_) rfl ?_ ?_; rotate_left; first | assumption | exact rfl) | (refine WR.iadr (v := ?_) rfl rfl ?_ ?_; rotate_left; assumption) | (refine WR.fadr (v := ?_) rfl ?_ ?_; rotate_left; first | assumption | exact rfl) | (refine WR.r (v := ?_) rfl rfl (Ld.use (s0 := ?_) ?_ ?_) ?_; rotate_left; rotate_left; assumption; assumption) | (refine WR.bin (v := ?_) rfl rfl ?_ ?_; rotate_left; first | assumption | exact lss_nat _ _ | exact eql_nat _ _ | exact neq_nat _ _ | exact gtr_nat _ _ | exact geq_nat _ _ | exact leq_nat _ _ | exact eql_str _ _ | exact neq_str _ _ | (refine add_nat ?_; omega) | (refine sub_nat ?_ ?_; omega; omega)) | refine WR.pick rfl rfl rfl ?_ | refine WR.un rfl rfl ?_ | refine WR.ext rfl rfl ?_)
    have ht1 := ht.step hx1
    refine WR.r rfl rfl (ht1.load hkn _) ?_
    by_cases hko : k ∈ out
    · rw [decide_eq_true hko]
      repeat (first | refine WR.nil ?_ | refine WR.guardY rfl ?_ | refine WR.guardN rfl ?_ | refine WR.guardT rfl ?_ | refine WR.mov rfl ?_ | (refine WR.len (v := ?_) rfl ?_ ?_; rotate_left; first | assumption | exact rfl) | (refine WR.iadr (v := ?_) rfl rfl ?_ ?_; rotate_left; assumption) | (refine WR.fadr (v := ?_) rfl ?_ ?_; rotate_left; first | assumption | exact rfl) | (refine WR.r (v := ?_) rfl rfl (Ld.use (s0 := ?_) ?_ ?_) ?_; rotate_left; rotate_left; assumption; assumption) | (refine WR.bin (v := ?_) rfl rfl ?_ ?_; rotate_left; first | assumption | exact lss_nat _ _ | exact eql_nat _ _ | exact neq_nat _ _ | exact gtr_nat _ _ | exact geq_nat _ _ | exact leq_nat _ _ | exact eql_str _ _ | exact neq_str _ _ | (refine add_nat ?_; omega) | (refine sub_nat ?_ ?_; omega; omega)) | refine WR.pick rfl rfl rfl ?_ | refine WR.un rfl rfl ?_ | refine WR.ext rfl rfl ?_)
      (repeat refine WC.seq ?_); refine WC.cond rfl ?_ ?_
      · intro _
        (repeat refine WC.seq ?_); refine WC.skip ?_
        refine WC.blk ?_
        (repeat refine WC.seq ?_); refine WC.regX hs1 fun s2 hs2 hx2 ho2 hn2 => ?_
        repeat (first | refine WR.nil ?_ | refine WR.guardY rfl ?_ | refine WR.guardN rfl ?_ | refine WR.guardT rfl ?_ | refine WR.mov rfl ?_ | (refine WR.len (v := ?_) rfl ?_ ?_; rotate_left; first | assumption | exact rfl) | (refine WR.iadr (v := ?_) rfl rfl ?_ ?_; rotate_left; assumption) | (refine WR.fadr (v := ?_) rfl ?_ ?_; rotate_left; first | assumption | exact rfl) | (refine WR.r (v := ?_) rfl rfl (Ld.use (s0 := ?_) ?_ ?_) ?_; rotate_left; rotate_left; assumption; assumption) | (refine WR.bin (v := ?_) rfl rfl ?_ ?_; rotate_left; first | assumption | exact lss_nat _ _ | exact eql_nat _ _ | exact neq_nat _ _ | exact gtr_nat _ _ | exact geq_nat _ _ | exact leq_nat _ _ | exact eql_str _ _ | exact neq_str _ _ | (refine add_nat ?_; omega) | (refine sub_nat ?_ ?_; omega; omega)) | refine WR.pick rfl rfl rfl ?_ | refine WR.un rfl rfl ?_ | refine WR.ext rfl rfl ?_)
        rw [scan_step (ready_false (.inl hko))]
        refine WL.weak ?hw (ih (k + 1) _ f (by omega) (by omega) (ht1.step hx2))
        case hw => exact ⟨rfl, rfl, rfl, rfl, trivial⟩
      · intro h; simp at h
    · rw [decide_eq_false hko]
      repeat (first | refine WR.nil ?_ | refine WR.guardY rfl ?_ | refine WR.guardN rfl ?_ | refine WR.guardT rfl ?_ | refine WR.mov rfl ?_ | (refine WR.len (v := ?_) rfl ?_ ?_; rotate_left; first | assumption | exact rfl) | (refine WR.iadr (v := ?_) rfl rfl ?_ ?_; rotate_left; assumption) | (refine WR.fadr (v := ?_) rfl ?_ ?_; rotate_left; first | assumption | exact rfl) | (refine WR.r (v := ?_) rfl rfl (Ld.use (s0 := ?_) ?_ ?_) ?_; rotate_left; rotate_left; assumption; assumption) | (refine WR.bin (v := ?_) rfl rfl ?_ ?_; rotate_left; first | assumption | exact lss_nat _ _ | exact eql_nat _ _ | exact neq_nat _ _ | exact gtr_nat _ _ | exact geq_nat _ _ | exact leq_nat _ _ | exact eql_str _ _ | exact neq_str _ _ | (refine add_nat ?_; omega) | (refine sub_nat ?_ ?_; omega; omega)) | refine WR.pick rfl rfl rfl ?_ | refine WR.un rfl rfl ?_ | refine WR.ext rfl rfl ?_)
      obtain ⟨v3, s3, c1, c2, c3⟩ := ready17 (out := out) hF17 hE17 hF15 hE15 (hD.ext hs1) ht1.slv hlen hm hkn hnd.1 hnd.2
      refine WR.fn rfl c1 ?_
      subst c3
      have hs3 := hs1.trans c2
      have ht3 := ht1.step c2
      have hrd : ready (wOf D) out k = (wOf D k).all fun k => decide (k ∈ out) := by unfold ready; simp [hko]
      cases hall : (wOf D k).all fun k => decide (k ∈ out) with
      | true =>
        repeat (first | refine WR.nil ?_ | refine WR.guardY rfl ?_ | refine WR.guardN rfl ?_ | refine WR.guardT rfl ?_ | refine WR.mov rfl ?_ | (refine WR.len (v := ?_) rfl ?_ ?_; rotate_left; first | assumption | exact rfl) | (refine WR.iadr (v := ?_) rfl rfl ?_ ?_; rotate_left; assumption) | (refine WR.fadr (v := ?_) rfl ?_ ?_; rotate_left; first | assumption | exact rfl) | (refine WR.r (v := ?_) rfl rfl (Ld.use (s0 := ?_) ?_ ?_) ?_; rotate_left; rotate_left; assumption; assumption) | (refine WR.bin (v := ?_) rfl rfl ?_ ?_; rotate_left; first | assumption | exact lss_nat _ _ | exact eql_nat _ _ | exact neq_nat _ _ | exact gtr_nat _ _ | exact geq_nat _ _ | exact leq_nat _ _ | exact eql_str _ _ | exact neq_str _ _ | (refine add_nat ?_; omega) | (refine sub_nat ?_ ?_; omega; omega)) | refine WR.pick rfl rfl rfl ?_ | refine WR.un rfl rfl ?_ | refine WR.ext rfl rfl ?_)
        (repeat refine WC.seq ?_); refine WC.cond rfl ?_ ?_
        · intro h; simp at h
        · intro _
          exact WC.ext ⟨rfl, ht3, k, ⟨rfl, rfl, rfl, rfl, trivial⟩, .inr ⟨hkn, by simp [scan, hrd, hall]⟩⟩
      | false =>
        repeat (first | refine WR.nil ?_ | refine WR.guardY rfl ?_ | refine WR.guardN rfl ?_ | refine WR.guardT rfl ?_ | refine WR.mov rfl ?_ | (refine WR.len (v := ?_) rfl ?_ ?_; rotate_left; first | assumption | exact rfl) | (refine WR.iadr (v := ?_) rfl rfl ?_ ?_; rotate_left; assumption) | (refine WR.fadr (v := ?_) rfl ?_ ?_; rotate_left; first | assumption | exact rfl) | (refine WR.r (v := ?_) rfl rfl (Ld.use (s0 := ?_) ?_ ?_) ?_; rotate_left; rotate_left; assumption; assumption) | (refine WR.bin (v := ?_) rfl rfl ?_ ?_; rotate_left; first | assumption | exact lss_nat _ _ | exact eql_nat _ _ | exact neq_nat _ _ | exact gtr_nat _ _ | exact geq_nat _ _ | exact leq_nat _ _ | exact eql_str _ _ | exact neq_str _ _ | (refine add_nat ?_; omega) | (refine sub_nat ?_ ?_; omega; omega)) | refine WR.pick rfl rfl rfl ?_ | refine WR.un rfl rfl ?_ | refine WR.ext rfl rfl ?_)
        (repeat refine WC.seq ?_); refine WC.cond rfl ?_ ?_
        · intro _
          (repeat refine WC.seq ?_); refine WC.skip ?_
          refine WC.blk ?_
          (repeat refine WC.seq ?_); refine WC.regX hs3 fun s4 hs4 hx4 ho4 hn4 => ?_
          repeat (first | refine WR.nil ?_ | refine WR.guardY rfl ?_ | refine WR.guardN rfl ?_ | refine WR.guardT rfl ?_ | refine WR.mov rfl ?_ | (refine WR.len (v := ?_) rfl ?_ ?_; rotate_left; first | assumption | exact rfl) | (refine WR.iadr (v := ?_) rfl rfl ?_ ?_; rotate_left; assumption) | (refine WR.fadr (v := ?_) rfl ?_ ?_; rotate_left; first | assumption | exact rfl) | (refine WR.r (v := ?_) rfl rfl (Ld.use (s0 := ?_) ?_ ?_) ?_; rotate_left; rotate_left; assumption; assumption) | (refine WR.bin (v := ?_) rfl rfl ?_ ?_; rotate_left; first | assumption | exact lss_nat _ _ | exact eql_nat _ _ | exact neq_nat _ _ | exact gtr_nat _ _ | exact geq_nat _ _ | exact leq_nat _ _ | exact eql_str _ _ | exact neq_str _ _ | (refine add_nat ?_; omega) | (refine sub_nat ?_ ?_; omega; omega)) | refine WR.pick rfl rfl rfl ?_ | refine WR.un rfl rfl ?_ | refine WR.ext rfl rfl ?_)
          rw [scan_step (by rw [hrd, hall])]
          refine WL.weak ?hw3 (ih (k + 1) _ f (by omega) (by omega) (ht3.step hx4))
          case hw3 => exact ⟨rfl, rfl, rfl, rfl, trivial⟩
        · intro h; simp at h
end Go.Proofs.Ytbcnhellcpeecaa

namespace Go.Proofs.Ytbcnhellcpeecaa
open Go Go.Abs
variable {F : FuncId → Option AFunc} {E : FuncId → Option (List AV → St → Option (AV × St))}
variable {s0 sB s s' : St} {lo idT n : Nat} {lv hv ov tk : AV} {D : List Dep} {ns : List (List Nat)} {out : List Nat}
theorem bsOf_set {n k : Nat} (hk : k < n) (out : List Nat) : setSeg ((bsOf n out).map AV.bool) k [.bool true] = (bsOf n (out ++ [k])).map AV.bool := by
  have hl : k < ((bsOf n out).map AV.bool).length := by simpa [bsOf_length] using hk
  have e : setSeg ((bsOf n out).map AV.bool) k [.bool true] = ((bsOf n out).map AV.bool).set k (.bool true) := by
    simp only [setSeg, List.length_singleton]
    rw [List.set_eq_take_append_cons_drop, if_pos hl]; simp
  rw [e]
  apply List.ext_getElem?
  intro i
  by_cases hi : i < n
  · by_cases hik : i = k
    · subst hik
      rw [List.getElem?_set_self hl]
      simp [bsOf_get hk]
    · rw [List.getElem?_set_ne (fun h => hik h.symm)]
      simp [bsOf_get hi, hik]
  · rw [List.getElem?_eq_none (by simp [bsOf_length]; omega), List.getElem?_eq_none (by simp [bsOf_length]; omega)]

theorem loop11e (hF17 : F 17 = some fn17) (hE17 : E 17 = none) (hF15 : F 15 = some fn15) (hE15 : E 15 = none) (hD : DepsV sB lv D) (hlen : D.length < 1000) {m : Nat} (hm : D.length < m) (hneeds : ∀ d ∈ D, d.needs.length < 1000 ∧ d.needs.length < m + 1) :
    ∀ (j : Nat) (s : St) (f : Nat) (ov : AV) (out : List Nat), out.length + j = D.length → j < f → RInv sB s lo idT D.length ov out →
      WL (acall F E (m + 2)) (m + 2) b11_4 f [(0, lv), (9, .slc idT 0 0 D.length D.length 1), (10, ov)] s
        (fun x l s => (Fault sB 18 x l s ∧ rounds (wOf D) D.length j out = none) ∨
          (x = .ext 6 ∧ ∃ ov' out', RInv sB s lo idT D.length ov' out' ∧ rounds (wOf D) D.length j out = some out' ∧ lkS l 10 = some ov')) := by
  have h0 := hD.len
  intro j
  induction j with
  | zero =>
    intro s f ov out hk hf ht
    obtain ⟨f, rfl⟩ : ∃ g, f = g + 1 := ⟨f - 1, by omega⟩
    have hs := ht.ext
    have ho := ht.own.slv.len' (m := out.length) (by simp [nats])
    refine WL.round ?_
    (repeat refine WC.seq ?_); refine WC.regX hs fun s1 hs1 hx1 ho1 hn1 => ?_
    repeat (first | refine WR.nil ?_ | refine WR.guardY rfl ?_ | refine WR.guardN rfl ?_ | refine WR.guardT rfl ?_ | refine WR.mov rfl ?_ | (refine WR.len (v := ?_) rfl ?_ ?_; rotate_left; first | assumption | exact rfl) | (refine WR.iadr (v := ?_) rfl rfl ?_ ?_; rotate_left; assumption) | (refine WR.fadr (v := ?_) rfl ?_ ?_; rotate_left; first | assumption | exact rfl) | (refine WR.r (v := ?_) rfl rfl (Ld.use (s0 := ?_) ?_ ?_) ?_; rotate_left; rotate_left; assumption; assumption) | (refine WR.bin (v := ?_) rfl rfl ?_ ?_; rotate_left; first | assumption | exact lss_nat _ _ | exact eql_nat _ _ | exact neq_nat _ _ | exact gtr_nat _ _ | exact geq_nat _ _ | exact leq_nat _ _ | exact eql_str _ _ | exact neq_str _ _ | (refine add_nat ?_; omega) | (refine sub_nat ?_ ?_; omega; omega)) | refine WR.pick rfl rfl rfl ?_ | refine WR.un rfl rfl ?_ | refine WR.ext rfl rfl ?_)
    (repeat refine WC.seq ?_); refine WC.cond rfl ?_ ?_
    · intro h; simp at h; omega
    · intro h
      exact WC.ext (.inr ⟨rfl, ov, out, ht.step hx1, rfl, rfl⟩)
  | succ j ih =>
    intro s f ov out hk hf ht
    obtain ⟨f, rfl⟩ : ∃ g, f = g + 1 := ⟨f - 1, by omega⟩
    have hs := ht.ext
    have ho := ht.own.slv.len' (m := out.length) (by simp [nats])
    refine WL.round ?_
    (repeat refine WC.seq ?_); refine WC.regX hs fun s1 hs1 hx1 ho1 hn1 => ?_
    repeat (first | refine WR.nil ?_ | refine WR.guardY rfl ?_ | refine WR.guardN rfl ?_ | refine WR.guardT rfl ?_ | refine WR.mov rfl ?_ | (refine WR.len (v := ?_) rfl ?_ ?_; rotate_left; first | assumption | exact rfl) | (refine WR.iadr (v := ?_) rfl rfl ?_ ?_; rotate_left; assumption) | (refine WR.fadr (v := ?_) rfl ?_ ?_; rotate_left; first | assumption | exact rfl) | (refine WR.r (v := ?_) rfl rfl (Ld.use (s0 := ?_) ?_ ?_) ?_; rotate_left; rotate_left; assumption; assumption) | (refine WR.bin (v := ?_) rfl rfl ?_ ?_; rotate_left; first | assumption | exact lss_nat _ _ | exact eql_nat _ _ | exact neq_nat _ _ | exact gtr_nat _ _ | exact geq_nat _ _ | exact leq_nat _ _ | exact eql_str _ _ | exact neq_str _ _ | (refine add_nat ?_; omega) | (refine sub_nat ?_ ?_; omega; omega)) | refine WR.pick rfl rfl rfl ?_ | refine WR.un rfl rfl ?_ | refine WR.ext rfl rfl ?_)
    (repeat refine WC.seq ?_); refine WC.cond rfl ?_ ?_
    · intro _
      (repeat refine WC.seq ?_); refine WC.skip ?_
      (repeat refine WC.seq ?_); refine WC.blk ?_
      (repeat refine WC.seq ?_); refine WC.regX hs1 fun s2 hs2 hx2 ho2 hn2 => ?_
      repeat (first | refine WR.nil ?_ | refine WR.guardY rfl ?_ | refine WR.guardN rfl ?_ | refine WR.guardT rfl ?_ | refine WR.mov rfl ?_ | (refine WR.len (v := ?_) rfl ?_ ?_; rotate_left; first | assumption | exact rfl) | (refine WR.iadr (v := ?_) rfl rfl ?_ ?_; rotate_left; assumption) | (refine WR.fadr (v := ?_) rfl ?_ ?_; rotate_left; first | assumption | exact rfl) | (refine WR.r (v := ?_) rfl rfl (Ld.use (s0 := ?_) ?_ ?_) ?_; rotate_left; rotate_left; assumption; assumption) | (refine WR.bin (v := ?_) rfl rfl ?_ ?_; rotate_left; first | assumption | exact lss_nat _ _ | exact eql_nat _ _ | exact neq_nat _ _ | exact gtr_nat _ _ | exact geq_nat _ _ | exact leq_nat _ _ | exact eql_str _ _ | exact neq_str _ _ | (refine add_nat ?_; omega) | (refine sub_nat ?_ ?_; omega; omega)) | refine WR.pick rfl rfl rfl ?_ | refine WR.un rfl rfl ?_ | refine WR.ext rfl rfl ?_)
      (repeat refine WC.seq ?_); refine WC.blk (WC.loop ?_)
      refine WL.weak ?hw1 (WL.mono (loop11d (out := out) hF17 hE17 hF15 hE15 hD hlen hm hneeds D.length 0 _ (m + 2) (by omega) (by omega) ((ht.step hx1).step hx2)) ?_)
      case hw1 => exact ⟨rfl, rfl, rfl, rfl, trivial⟩
      rintro x l s5 ⟨rfl, ht5, i, hl, hi⟩
      refine WC.weak hl ?_
      have hs5 := ht5.ext
      rcases hi with ⟨rfl, hsc⟩ | ⟨hiD, hsc⟩
      · (repeat refine WC.seq ?_); refine WC.regX hs5 fun s6 hs6 hx6 ho6 hn6 => ?_
        have hb := eqlT (rfl : D.length = D.length)
        repeat (first | refine WR.nil ?_ | refine WR.guardY rfl ?_ | refine WR.guardN rfl ?_ | refine WR.guardT rfl ?_ | refine WR.mov rfl ?_ | (refine WR.len (v := ?_) rfl ?_ ?_; rotate_left; first | assumption | exact rfl) | (refine WR.iadr (v := ?_) rfl rfl ?_ ?_; rotate_left; assumption) | (refine WR.fadr (v := ?_) rfl ?_ ?_; rotate_left; first | assumption | exact rfl) | (refine WR.r (v := ?_) rfl rfl (Ld.use (s0 := ?_) ?_ ?_) ?_; rotate_left; rotate_left; assumption; assumption) | (refine WR.bin (v := ?_) rfl rfl ?_ ?_; rotate_left; first | assumption | exact lss_nat _ _ | exact eql_nat _ _ | exact neq_nat _ _ | exact gtr_nat _ _ | exact geq_nat _ _ | exact leq_nat _ _ | exact eql_str _ _ | exact neq_str _ _ | (refine add_nat ?_; omega) | (refine sub_nat ?_ ?_; omega; omega)) | refine WR.pick rfl rfl rfl ?_ | refine WR.un rfl rfl ?_ | refine WR.ext rfl rfl ?_)
        (repeat refine WC.seq ?_); refine WC.cond rfl ?_ ?_
        · intro _
          (repeat refine WC.seq ?_); refine WC.regX hs6 fun s7 hs7 hx7 ho7 hn7 => ?_
          repeat (first | refine WR.nil ?_ | refine WR.guardY rfl ?_ | refine WR.guardN rfl ?_ | refine WR.guardT rfl ?_ | refine WR.mov rfl ?_ | (refine WR.len (v := ?_) rfl ?_ ?_; rotate_left; first | assumption | exact rfl) | (refine WR.iadr (v := ?_) rfl rfl ?_ ?_; rotate_left; assumption) | (refine WR.fadr (v := ?_) rfl ?_ ?_; rotate_left; first | assumption | exact rfl) | (refine WR.r (v := ?_) rfl rfl (Ld.use (s0 := ?_) ?_ ?_) ?_; rotate_left; rotate_left; assumption; assumption) | (refine WR.bin (v := ?_) rfl rfl ?_ ?_; rotate_left; first | assumption | exact lss_nat _ _ | exact eql_nat _ _ | exact neq_nat _ _ | exact gtr_nat _ _ | exact geq_nat _ _ | exact leq_nat _ _ | exact eql_str _ _ | exact neq_str _ _ | (refine add_nat ?_; omega) | (refine sub_nat ?_ ?_; omega; omega)) | refine WR.pick rfl rfl rfl ?_ | refine WR.un rfl rfl ?_ | refine WR.ext rfl rfl ?_)
          exact WC.ret (.inl ⟨⟨rfl, hs7, rfl, rfl⟩, by simp [rounds, hsc]⟩)
        · intro h; simp at h
      · (repeat refine WC.seq ?_); refine WC.regX hs5 fun s6 hs6 hx6 ho6 hn6 => ?_
        have hb := eqlF (show ¬ i = D.length by omega)
        repeat (first | refine WR.nil ?_ | refine WR.guardY rfl ?_ | refine WR.guardN rfl ?_ | refine WR.guardT rfl ?_ | refine WR.mov rfl ?_ | (refine WR.len (v := ?_) rfl ?_ ?_; rotate_left; first | assumption | exact rfl) | (refine WR.iadr (v := ?_) rfl rfl ?_ ?_; rotate_left; assumption) | (refine WR.fadr (v := ?_) rfl ?_ ?_; rotate_left; first | assumption | exact rfl) | (refine WR.r (v := ?_) rfl rfl (Ld.use (s0 := ?_) ?_ ?_) ?_; rotate_left; rotate_left; assumption; assumption) | (refine WR.bin (v := ?_) rfl rfl ?_ ?_; rotate_left; first | assumption | exact lss_nat _ _ | exact eql_nat _ _ | exact neq_nat _ _ | exact gtr_nat _ _ | exact geq_nat _ _ | exact leq_nat _ _ | exact eql_str _ _ | exact neq_str _ _ | (refine add_nat ?_; omega) | (refine sub_nat ?_ ?_; omega; omega)) | refine WR.pick rfl rfl rfl ?_ | refine WR.un rfl rfl ?_ | refine WR.ext rfl rfl ?_)
        (repeat refine WC.seq ?_); refine WC.cond rfl ?_ ?_
        · intro h; simp at h
        · intro _
          have ht6 := ht5.step hx6
          have hI := iadr_slc (id := idT) (g := 0) hiD 1 D.length
          (repeat refine WC.seq ?_); refine WC.skip ?_
          (repeat refine WC.seq ?_); refine WC.regX hs6 fun s7 hs7 hx7 ho7 hn7 => ?_
          have ht7 := ht6.step hx7
          repeat (first | refine WR.nil ?_ | refine WR.guardY rfl ?_ | refine WR.guardN rfl ?_ | refine WR.guardT rfl ?_ | refine WR.mov rfl ?_ | (refine WR.len (v := ?_) rfl ?_ ?_; rotate_left; first | assumption | exact rfl) | (refine WR.iadr (v := ?_) rfl rfl ?_ ?_; rotate_left; assumption) | (refine WR.fadr (v := ?_) rfl ?_ ?_; rotate_left; first | assumption | exact rfl) | (refine WR.r (v := ?_) rfl rfl (Ld.use (s0 := ?_) ?_ ?_) ?_; rotate_left; rotate_left; assumption; assumption) | (refine WR.bin (v := ?_) rfl rfl ?_ ?_; rotate_left; first | assumption | exact lss_nat _ _ | exact eql_nat _ _ | exact neq_nat _ _ | exact gtr_nat _ _ | exact geq_nat _ _ | exact leq_nat _ _ | exact eql_str _ _ | exact neq_str _ _ | (refine add_nat ?_; omega) | (refine sub_nat ?_ ?_; omega; omega)) | refine WR.pick rfl rfl rfl ?_ | refine WR.un rfl rfl ?_ | refine WR.ext rfl rfl ?_)
          refine WR.store rfl rfl rfl rfl (Nat.le_refl _) (wr_some ht7.gT (by simp [cellsOf, bsOf_length]; omega)) ?_
          have hset : setSeg ((bsOf D.length out).map AV.bool) (0 + i * 1) (cellsOf (.bool true)) = (bsOf D.length (out ++ [i])).map AV.bool := by
            rw [show 0 + i * 1 = i by omega]; exact bsOf_set hiD out
          rw [hset]
          repeat (first | refine WR.nil ?_ | refine WR.guardY rfl ?_ | refine WR.guardN rfl ?_ | refine WR.guardT rfl ?_ | refine WR.mov rfl ?_ | (refine WR.len (v := ?_) rfl ?_ ?_; rotate_left; first | assumption | exact rfl) | (refine WR.iadr (v := ?_) rfl rfl ?_ ?_; rotate_left; assumption) | (refine WR.fadr (v := ?_) rfl ?_ ?_; rotate_left; first | assumption | exact rfl) | (refine WR.r (v := ?_) rfl rfl (Ld.use (s0 := ?_) ?_ ?_) ?_; rotate_left; rotate_left; assumption; assumption) | (refine WR.bin (v := ?_) rfl rfl ?_ ?_; rotate_left; first | assumption | exact lss_nat _ _ | exact eql_nat _ _ | exact neq_nat _ _ | exact gtr_nat _ _ | exact geq_nat _ _ | exact leq_nat _ _ | exact eql_str _ _ | exact neq_str _ _ | (refine add_nat ?_; omega) | (refine sub_nat ?_ ?_; omega; omega)) | refine WR.pick rfl rfl rfl ?_ | refine WR.un rfl rfl ?_ | refine WR.ext rfl rfl ?_)
          obtain ⟨l1, l2, l3⟩ := ht7.lt
          generalize hs8 : St.put s7 _ _ = s8
          have n8 : s8.next = s7.next := by rw [← hs8]; rfl
          have hx8 : Ext sB s8 := by rw [← hs8]; exact hs7.put (by omega) _
          have own8 : Own s8 lo 1 ov (nats out) := by rw [← hs8]; exact ht7.own.put (ht7.own.offOld l2) _
          (repeat refine WC.seq ?_); refine WC.regX hx8 fun s9 hs9 hx9 ho9 hn9 => ?_
          repeat (first | refine WR.nil ?_ | refine WR.guardY rfl ?_ | refine WR.guardN rfl ?_ | refine WR.guardT rfl ?_ | refine WR.mov rfl ?_ | (refine WR.len (v := ?_) rfl ?_ ?_; rotate_left; first | assumption | exact rfl) | (refine WR.iadr (v := ?_) rfl rfl ?_ ?_; rotate_left; assumption) | (refine WR.fadr (v := ?_) rfl ?_ ?_; rotate_left; first | assumption | exact rfl) | (refine WR.r (v := ?_) rfl rfl (Ld.use (s0 := ?_) ?_ ?_) ?_; rotate_left; rotate_left; assumption; assumption) | (refine WR.bin (v := ?_) rfl rfl ?_ ?_; rotate_left; first | assumption | exact lss_nat _ _ | exact eql_nat _ _ | exact neq_nat _ _ | exact gtr_nat _ _ | exact geq_nat _ _ | exact leq_nat _ _ | exact eql_str _ _ | exact neq_str _ _ | (refine add_nat ?_; omega) | (refine sub_nat ?_ ?_; omega; omega)) | refine WR.pick rfl rfl rfl ?_ | refine WR.un rfl rfl ?_ | refine WR.ext rfl rfl ?_)
          refine WR.lits (fillL1 rfl ⟨rfl, rfl⟩ (by simp [rep]) rfl) ?_
          have hlit : s8.next + 1 + 1 < s9.next := by rw [hn9]; simp [r11_23]
          generalize hid : s8.next + 1 + 1 = id at hlit ⊢
          generalize hs10 : St.put s9 _ _ = s10
          have hx10 : Ext s8 s10 := by rw [← hs10]; exact hx9.put (by omega) _
          have lit : Slv s10 1 (.slc id 0 0 1 1 1) (nats [i]) := by
            refine ⟨by simp [nats], rfl, rfl, by rw [← hs10]; exact hlit, [.int .i64 (.ofNat i)], ?_, rfl⟩
            rw [← hs10]; simp only [St.cells, get_put, if_pos]; rfl
          obtain ⟨v2, s11, f1, f2, f3, f4⟩ := Own.app (bytes := 8) (own8.ext hx10) lit (by simp [nats, lim]; omega)
          refine WR.append rfl rfl f1 ?_
          repeat (first | refine WR.nil ?_ | refine WR.guardY rfl ?_ | refine WR.guardN rfl ?_ | refine WR.guardT rfl ?_ | refine WR.mov rfl ?_ | (refine WR.len (v := ?_) rfl ?_ ?_; rotate_left; first | assumption | exact rfl) | (refine WR.iadr (v := ?_) rfl rfl ?_ ?_; rotate_left; assumption) | (refine WR.fadr (v := ?_) rfl ?_ ?_; rotate_left; first | assumption | exact rfl) | (refine WR.r (v := ?_) rfl rfl (Ld.use (s0 := ?_) ?_ ?_) ?_; rotate_left; rotate_left; assumption; assumption) | (refine WR.bin (v := ?_) rfl rfl ?_ ?_; rotate_left; first | assumption | exact lss_nat _ _ | exact eql_nat _ _ | exact neq_nat _ _ | exact gtr_nat _ _ | exact geq_nat _ _ | exact leq_nat _ _ | exact eql_str _ _ | exact neq_str _ _ | (refine add_nat ?_; omega) | (refine sub_nat ?_ ?_; omega; omega)) | refine WR.pick rfl rfl rfl ?_ | refine WR.un rfl rfl ?_ | refine WR.ext rfl rfl ?_)
          have n10 := hx10.next
          have n11 := f3.next
          have ht11 : RInv sB s11 lo idT D.length v2 (out ++ [i]) := by
            refine ⟨f3.ext (hx8.trans hx10) fun id hid => (own8.ext hx10).offOld (by omega), ⟨l1, l2, by omega⟩, ?_, by simpa [nats] using f2⟩
            rw [f3.old _ (by omega) ((own8.ext hx10).offOld l2), hx10.old _ (by omega), ← hs8, get_put, if_pos rfl]
          have hr : rounds (wOf D) D.length (j + 1) out = rounds (wOf D) D.length j (out ++ [i]) := by simp [rounds, hsc]
          rw [hr]
          refine WL.weak ?hw2 (ih _ f _ _ (by simp; omega) (by omega) ht11)
          case hw2 => exact ⟨rfl, rfl, rfl, trivial⟩
    · intro h; simp at h; omega

theorem ref11 (hF11 : F 11 = some fn11) (hE11 : E 11 = none) (hF17 : F 17 = some fn17) (hE17 : E 17 = none) (hF15 : F 15 = some fn15) (hE15 : E 15 = none) (hF16 : F 16 = some fn16) (hE16 : E 16 = none) (hD : DepsV s0 lv D) (hH : Slv s0 1 hv (strs ns))
    (hlen : D.length < 1000) (hns : ns.length < 1000) {m : Nat} (hm : D.length < m) (hmn : ns.length < m) (hneeds : ∀ d ∈ D, d.needs.length < 1000 ∧ d.needs.length < m + 1) :
    Pure (acall F E (m + 3)) 11 s0 [lv, hv] fun v s => OrderP D ns v s := by
  have hs := Ext.refl s0
  have h0 := hD.len
  refine acall_of (P := fun v s' => Ext s0 s' ∧ OrderP D ns v s') hE11 hF11 (Nat.le_of_ble_eq_true rfl) ?_
  have bad : ∀ (c : Nat) (x : AX) (l : SL) (s : St), Fault s0 c x l s → OrderS D ns [] c → doneW fn11.results (fun v s' => Ext s0 s' ∧ OrderP D ns v s') .ret l s := by
    rintro c x l s ⟨_, h1, h2, h3⟩ hO
    exact ⟨.inr rfl, [.nilslc, .int .i64 (.ofNat c)], by simp only [fn11, ressL, resL, h2, h3], h1, .nilslc, [], c, rfl, ⟨by simp [nats], rfl⟩, hO⟩
  (repeat refine WC.seq ?_); refine WC.regX hs fun s1 hs1 hx1 ho1 hn1 => ?_
  repeat (first | refine WR.nil ?_ | refine WR.guardY rfl ?_ | refine WR.guardN rfl ?_ | refine WR.guardT rfl ?_ | refine WR.mov rfl ?_ | (refine WR.len (v := ?_) rfl ?_ ?_; rotate_left; first | assumption | exact rfl) | (refine WR.iadr (v := ?_) rfl rfl ?_ ?_; rotate_left; assumption) | (refine WR.fadr (v := ?_) rfl ?_ ?_; rotate_left; first | assumption | exact rfl) | (refine WR.r (v := ?_) rfl rfl (Ld.use (s0 := ?_) ?_ ?_) ?_; rotate_left; rotate_left; assumption; assumption) | (refine WR.bin (v := ?_) rfl rfl ?_ ?_; rotate_left; first | assumption | exact lss_nat _ _ | exact eql_nat _ _ | exact neq_nat _ _ | exact gtr_nat _ _ | exact geq_nat _ _ | exact leq_nat _ _ | exact eql_str _ _ | exact neq_str _ _ | (refine add_nat ?_; omega) | (refine sub_nat ?_ ?_; omega; omega)) | refine WR.pick rfl rfl rfl ?_ | refine WR.un rfl rfl ?_ | refine WR.ext rfl rfl ?_)
  (repeat refine WC.seq ?_); refine WC.regX hs1 fun s2 hs2 hx2 ho2 hn2 => ?_
  repeat (first | refine WR.nil ?_ | refine WR.guardY rfl ?_ | refine WR.guardN rfl ?_ | refine WR.guardT rfl ?_ | refine WR.mov rfl ?_ | (refine WR.len (v := ?_) rfl ?_ ?_; rotate_left; first | assumption | exact rfl) | (refine WR.iadr (v := ?_) rfl rfl ?_ ?_; rotate_left; assumption) | (refine WR.fadr (v := ?_) rfl ?_ ?_; rotate_left; first | assumption | exact rfl) | (refine WR.r (v := ?_) rfl rfl (Ld.use (s0 := ?_) ?_ ?_) ?_; rotate_left; rotate_left; assumption; assumption) | (refine WR.bin (v := ?_) rfl rfl ?_ ?_; rotate_left; first | assumption | exact lss_nat _ _ | exact eql_nat _ _ | exact neq_nat _ _ | exact gtr_nat _ _ | exact geq_nat _ _ | exact leq_nat _ _ | exact eql_str _ _ | exact neq_str _ _ | (refine add_nat ?_; omega) | (refine sub_nat ?_ ?_; omega; omega)) | refine WR.pick rfl rfl rfl ?_ | refine WR.un rfl rfl ?_ | refine WR.ext rfl rfl ?_)
  (repeat refine WC.seq ?_); refine WC.blk (WC.loop ?_)
  refine WL.weak ?hw1 (WL.mono (loop11a (m := m + 1) (hv := hv) hF15 hE15 hD hlen (by omega) D.length 0 _ (m + 2) (by omega) (by omega) (fun q _ h => absurd h (by omega)) hs2) ?_)
  case hw1 => exact ⟨rfl, rfl, rfl, trivial⟩
  rintro x l s (⟨hb, h1⟩ | ⟨rfl, h1, h2, h3⟩)
  · have := hb.1; subst this
    exact bad 11 _ _ _ hb (.inl ⟨h1, rfl, rfl⟩)
  · refine WC.weak h3 ?_
    (repeat refine WC.seq ?_); refine WC.regX h1 fun s3 hs3 hx3 ho3 hn3 => ?_
    repeat (first | refine WR.nil ?_ | refine WR.guardY rfl ?_ | refine WR.guardN rfl ?_ | refine WR.guardT rfl ?_ | refine WR.mov rfl ?_ | (refine WR.len (v := ?_) rfl ?_ ?_; rotate_left; first | assumption | exact rfl) | (refine WR.iadr (v := ?_) rfl rfl ?_ ?_; rotate_left; assumption) | (refine WR.fadr (v := ?_) rfl ?_ ?_; rotate_left; first | assumption | exact rfl) | (refine WR.r (v := ?_) rfl rfl (Ld.use (s0 := ?_) ?_ ?_) ?_; rotate_left; rotate_left; assumption; assumption) | (refine WR.bin (v := ?_) rfl rfl ?_ ?_; rotate_left; first | assumption | exact lss_nat _ _ | exact eql_nat _ _ | exact neq_nat _ _ | exact gtr_nat _ _ | exact geq_nat _ _ | exact leq_nat _ _ | exact eql_str _ _ | exact neq_str _ _ | (refine add_nat ?_; omega) | (refine sub_nat ?_ ?_; omega; omega)) | refine WR.pick rfl rfl rfl ?_ | refine WR.un rfl rfl ?_ | refine WR.ext rfl rfl ?_)
    (repeat refine WC.seq ?_); refine WC.blk (WC.loop ?_)
    refine WL.weak ?hw2 (WL.mono (loop11c (m := m + 1) hF15 hE15 hF16 hE16 hD hH hlen hns (by omega) (by omega) (fun d hd => ⟨(hneeds d hd).1, by have := (hneeds d hd).2; omega⟩) D.length 0 _ (m + 2) (by omega) (by omega) (fun q _ h => absurd h (by omega)) hs3) ?_)
    case hw2 => exact ⟨rfl, rfl, rfl, trivial⟩
    rintro x l s (⟨hb, h4⟩ | ⟨rfl, h4, h5, h6⟩)
    · have := hb.1; subst this
      exact bad 19 _ _ _ hb (.inr (.inl ⟨h2, h4, rfl, rfl⟩))
    · refine WC.weak h6 ?_
      (repeat refine WC.seq ?_); refine WC.regX h4 fun s5 hs5 hx5 ho5 hn5 => ?_
      repeat (first | refine WR.nil ?_ | refine WR.guardY rfl ?_ | refine WR.guardN rfl ?_ | refine WR.guardT rfl ?_ | refine WR.mov rfl ?_ | (refine WR.len (v := ?_) rfl ?_ ?_; rotate_left; first | assumption | exact rfl) | (refine WR.iadr (v := ?_) rfl rfl ?_ ?_; rotate_left; assumption) | (refine WR.fadr (v := ?_) rfl ?_ ?_; rotate_left; first | assumption | exact rfl) | (refine WR.r (v := ?_) rfl rfl (Ld.use (s0 := ?_) ?_ ?_) ?_; rotate_left; rotate_left; assumption; assumption) | (refine WR.bin (v := ?_) rfl rfl ?_ ?_; rotate_left; first | assumption | exact lss_nat _ _ | exact eql_nat _ _ | exact neq_nat _ _ | exact gtr_nat _ _ | exact geq_nat _ _ | exact leq_nat _ _ | exact eql_str _ _ | exact neq_str _ _ | (refine add_nat ?_; omega) | (refine sub_nat ?_ ?_; omega; omega)) | refine WR.pick rfl rfl rfl ?_ | refine WR.un rfl rfl ?_ | refine WR.ext rfl rfl ?_)
      refine WR.mkslc rfl rfl (Nat.le_refl _) (by simp [lim]; omega) ?_
      repeat (first | refine WR.nil ?_ | refine WR.guardY rfl ?_ | refine WR.guardN rfl ?_ | refine WR.guardT rfl ?_ | refine WR.mov rfl ?_ | (refine WR.len (v := ?_) rfl ?_ ?_; rotate_left; first | assumption | exact rfl) | (refine WR.iadr (v := ?_) rfl rfl ?_ ?_; rotate_left; assumption) | (refine WR.fadr (v := ?_) rfl ?_ ?_; rotate_left; first | assumption | exact rfl) | (refine WR.r (v := ?_) rfl rfl (Ld.use (s0 := ?_) ?_ ?_) ?_; rotate_left; rotate_left; assumption; assumption) | (refine WR.bin (v := ?_) rfl rfl ?_ ?_; rotate_left; first | assumption | exact lss_nat _ _ | exact eql_nat _ _ | exact neq_nat _ _ | exact gtr_nat _ _ | exact geq_nat _ _ | exact leq_nat _ _ | exact eql_str _ _ | exact neq_str _ _ | (refine add_nat ?_; omega) | (refine sub_nat ?_ ?_; omega; omega)) | refine WR.pick rfl rfl rfl ?_ | refine WR.un rfl rfl ?_ | refine WR.ext rfl rfl ?_)
      have hidT : s.next + 1 + 1 < s5.next := by rw [hn5]; simp [r11_14]
      generalize hid : s.next + 1 + 1 = idT at hidT ⊢
      generalize hs6 : St.put s5 _ _ = s6
      have n6 : s6.next = s5.next := by rw [← hs6]; rfl
      have n5 := hx5.next
      have hx6 : Ext s s6 := by rw [← hs6]; exact hx5.put (by omega) _
      have hs6' : Ext s0 s6 := h4.trans hx6
      have hR : RInv s s6 s6.next idT D.length .nilslc [] := by
        refine ⟨hx6, ⟨by omega, by omega, by omega⟩, ?_, Own.nil (Nat.le_refl _)⟩
        rw [← hs6, get_put, if_pos rfl]
        congr 2
        have : bsOf D.length [] = List.replicate D.length false := by
          apply List.ext_getElem?
          intro i
          by_cases hi : i < D.length
          · rw [bsOf_get hi]; simp [hi]
          · rw [List.getElem?_eq_none (by simp [bsOf_length]; omega), List.getElem?_eq_none (by simp; omega)]
        rw [this]
        generalize D.length = q
        induction q with
        | zero => rfl
        | succ q ih => simp only [rep, List.replicate_succ, List.map_cons, List.singleton_append]; rw [← ih]
      (repeat refine WC.seq ?_); refine WC.regX hs6' fun s7 hs7 hx7 ho7 hn7 => ?_
      repeat (first | refine WR.nil ?_ | refine WR.guardY rfl ?_ | refine WR.guardN rfl ?_ | refine WR.guardT rfl ?_ | refine WR.mov rfl ?_ | (refine WR.len (v := ?_) rfl ?_ ?_; rotate_left; first | assumption | exact rfl) | (refine WR.iadr (v := ?_) rfl rfl ?_ ?_; rotate_left; assumption) | (refine WR.fadr (v := ?_) rfl ?_ ?_; rotate_left; first | assumption | exact rfl) | (refine WR.r (v := ?_) rfl rfl (Ld.use (s0 := ?_) ?_ ?_) ?_; rotate_left; rotate_left; assumption; assumption) | (refine WR.bin (v := ?_) rfl rfl ?_ ?_; rotate_left; first | assumption | exact lss_nat _ _ | exact eql_nat _ _ | exact neq_nat _ _ | exact gtr_nat _ _ | exact geq_nat _ _ | exact leq_nat _ _ | exact eql_str _ _ | exact neq_str _ _ | (refine add_nat ?_; omega) | (refine sub_nat ?_ ?_; omega; omega)) | refine WR.pick rfl rfl rfl ?_ | refine WR.un rfl rfl ?_ | refine WR.ext rfl rfl ?_)
      (repeat refine WC.seq ?_); refine WC.blk (WC.loop ?_)
      refine WL.weak ?hw3 (WL.mono (loop11e (m := m) hF17 hE17 hF15 hE15 (hD.ext h4) hlen hm hneeds D.length _ (m + 2) _ _ (by simp) (by omega) (hR.step hx7)) ?_)
      case hw3 => exact ⟨rfl, rfl, rfl, trivial⟩
      rintro x l s9 (⟨⟨hb1, hb2, hb3⟩, h7⟩ | ⟨rfl, ov', out', h7, h8, h9⟩)
      · subst hb1
        exact bad 18 _ _ _ ⟨rfl, h4.trans hb2, hb3⟩ (.inr (.inr (.inl ⟨h2, h5, h7, rfl, rfl⟩)))
      · have hs9 := h4.trans h7.ext
        (repeat refine WC.seq ?_); refine WC.regX hs9 fun s10 hs10 hx10 ho10 hn10 => ?_
        refine WR.mov h9 ?_
        repeat (first | refine WR.nil ?_ | refine WR.guardY rfl ?_ | refine WR.guardN rfl ?_ | refine WR.guardT rfl ?_ | refine WR.mov rfl ?_ | (refine WR.len (v := ?_) rfl ?_ ?_; rotate_left; first | assumption | exact rfl) | (refine WR.iadr (v := ?_) rfl rfl ?_ ?_; rotate_left; assumption) | (refine WR.fadr (v := ?_) rfl ?_ ?_; rotate_left; first | assumption | exact rfl) | (refine WR.r (v := ?_) rfl rfl (Ld.use (s0 := ?_) ?_ ?_) ?_; rotate_left; rotate_left; assumption; assumption) | (refine WR.bin (v := ?_) rfl rfl ?_ ?_; rotate_left; first | assumption | exact lss_nat _ _ | exact eql_nat _ _ | exact neq_nat _ _ | exact gtr_nat _ _ | exact geq_nat _ _ | exact leq_nat _ _ | exact eql_str _ _ | exact neq_str _ _ | (refine add_nat ?_; omega) | (refine sub_nat ?_ ?_; omega; omega)) | refine WR.pick rfl rfl rfl ?_ | refine WR.un rfl rfl ?_ | refine WR.ext rfl rfl ?_)
        (repeat refine WC.seq ?_); refine WC.ret ?_
        exact ⟨.inr rfl, _, rfl, hs10, ov', out', 0, rfl, h7.own.slv.ext hx10, .inr (.inr (.inr ⟨h2, h5, h8, rfl⟩))⟩
end Go.Proofs.Ytbcnhellcpeecaa

namespace Go.Proofs.Ytbcnhellcpeecaa
open Go Go.Abs
/-- The closed checks, told. -/
noncomputable def E8 : FuncId → Option (List AV → St → Option (AV × St)) := single 8 (closed (.bool true))
noncomputable abbrev F0 : FuncId → Option AFunc := comp Try.prog
theorem known8 (m : Nat) (s : St) : acall F0 E8 (m + 1) 8 [] s = some (.bool true, s) := rfl

theorem strs_rows {rows : List (List AV)} (hr : ∀ r, r ∈ rows → okL [.str] r) : ∃ ns, rows = strs ns := by
  induction rows with
  | nil => exact ⟨[], rfl⟩
  | cons r rows ih =>
    obtain ⟨ns, rfl⟩ := ih fun r h => hr r (by simp [h])
    have := hr r (by simp)
    simp only [okL] at this
    obtain ⟨x, y, rfl, hx, rfl⟩ := this
    simp only [okS] at hx
    obtain ⟨a, rfl, _⟩ := hx
    exact ⟨a :: ns, rfl⟩
theorem rounds_length {W : Nat → List Nat} {n : Nat} : ∀ {c : Nat} {o r : List Nat}, rounds W n c o = some r → r.length = o.length + c
  | 0, o, r, h => by simp [rounds] at h; subst h; rfl
  | c + 1, o, r, h => by
    simp only [rounds] at h
    cases hsc : scan (ready W o) n 0 with
    | none => rw [hsc] at h; simp at h
    | some i => rw [hsc] at h; have := rounds_length h; simp at this; omega
theorem OrderS.length {D : List Dep} {ns : List (List Nat)} {out : List Nat} {e : Nat} (h : OrderS D ns out e) : out.length ≤ D.length := by
  rcases h with ⟨_, rfl, _⟩ | ⟨_, _, rfl, _⟩ | ⟨_, _, _, rfl, _⟩ | ⟨_, _, h, _⟩
  · simp
  · simp
  · simp
  · have := rounds_length h; simp at this; omega
theorem strs_of {v : AV} (h : okS (.slc [.str]) v) : ∃ ns, ∀ s, Slv s 1 v (strs ns) := by
  simp only [okS] at h
  rcases h with rfl | rfl | ⟨rows, rfl, _, _, hr⟩
  · exact ⟨[], fun s => ⟨by simp [strs], rfl⟩⟩
  · exact ⟨[], fun s => ⟨by simp [strs], rfl⟩⟩
  · obtain ⟨ns, rfl⟩ := strs_rows hr
    exact ⟨ns, fun s => ⟨by intro r hr; simp only [strs, List.mem_map] at hr; obtain ⟨a, _, rfl⟩ := hr; rfl, rfl, rfl, rfl⟩⟩
theorem deps_rows {rows : List (List AV)} (hr : ∀ r, r ∈ rows → okL [.str, .slc [.str]] r) : ∃ D : List Dep, rows.length = D.length ∧ (∀ r ∈ rows, r.length = 2) ∧ ∀ (i : Nat) (d : Dep), D[i]? = some d → ∃ nv, rows[i]? = some [.str d.name, nv] ∧ ∀ s, Slv s 1 nv (strs d.needs) := by
  induction rows with
  | nil => exact ⟨[], rfl, by simp, by simp⟩
  | cons r rows ih =>
    obtain ⟨D, h1, h2, h3⟩ := ih fun r h => hr r (by simp [h])
    have := hr r (by simp)
    simp only [okL] at this
    obtain ⟨x, y, rfl, hx, nv, z, rfl, hnv, rfl⟩ := this
    simp only [okS] at hx
    obtain ⟨a, rfl, _⟩ := hx
    obtain ⟨ns, hns⟩ := strs_of hnv
    refine ⟨⟨a, ns⟩ :: D, by simp [h1], ?_, ?_⟩
    · intro r hr
      rcases List.mem_cons.1 hr with rfl | hr
      · rfl
      · exact h2 r hr
    · intro i d hd
      cases i with
      | zero => simp at hd; subst hd; exact ⟨nv, rfl, hns⟩
      | succ i => exact h3 i d (by simpa using hd)
theorem deps_of {v : AV} (h : okS (.slc [.str, .slc [.str]]) v) : ∃ D : List Dep, ∀ s, DepsV s v D := by
  rw [okS] at h
  rcases h with rfl | rfl | ⟨rows, rfl, _, _, hr⟩
  · exact ⟨[], fun s => ⟨[], ⟨by simp, rfl⟩, rfl, by simp⟩⟩
  · exact ⟨[], fun s => ⟨[], ⟨by simp, rfl⟩, rfl, by simp⟩⟩
  · obtain ⟨D, h1, h2, h3⟩ := deps_rows hr
    refine ⟨D, fun s => ⟨rows, ⟨h2, rfl, rfl, rfl⟩, h1, fun i d hd => ?_⟩⟩
    obtain ⟨nv, h4, h5⟩ := h3 i d hd
    exact ⟨nv, h4, h5 s⟩
theorem DepsV.one {s : St} {v : AV} {D : List Dep} (h : DepsV s v D) : OneC v := by obtain ⟨rows, h1, _⟩ := h; exact h1.one

variable {s0 s : St} {lv hv ov : AV} {D : List Dep} {ns : List (List Nat)}
/-- Two copies of modules are alike. -/
theorem loop3 {call : CallF} {m : Nat} (hD : DepsV s0 lv D) (hO : DepsV s0 ov D) (hlen : D.length < 1000) {a6 a7 a8 a9 : AV} :
    ∀ (j k : Nat) (s : St) (f : Nat), k + j = D.length → j < f → Ext s0 s →
      WL call m b3_0 f [(0, lv), (5, ov), (6, a6), (7, a7), (8, a8), (9, a9), (10, .int .i64 (.ofNat k))] s
        (fun x l s => x = .ext 0 ∧ Ext s0 s ∧ Sub2 [(6, a6), (7, a7), (8, a8), (9, a9)] l) := by
  have h0 := hO.len
  intro j
  induction j with
  | zero =>
    intro k s f hk hf hs
    obtain ⟨f, rfl⟩ : ∃ g, f = g + 1 := ⟨f - 1, by omega⟩
    refine WL.round ?_
    (repeat refine WC.seq ?_); refine WC.regX hs fun s1 hs1 hx1 ho1 hn1 => ?_
    repeat (first | refine WR.nil ?_ | refine WR.guardY rfl ?_ | refine WR.guardN rfl ?_ | refine WR.guardT rfl ?_ | refine WR.mov rfl ?_ | (refine WR.len (v := ?_) rfl ?_ ?_; rotate_left; first | assumption | exact rfl) | (refine WR.iadr (v := ?_) rfl rfl ?_ ?_; rotate_left; assumption) | (refine WR.fadr (v := ?_) rfl ?_ ?_; rotate_left; first | assumption | exact rfl) | (refine WR.r (v := ?_) rfl rfl (Ld.use (s0 := ?_) ?_ ?_) ?_; rotate_left; rotate_left; assumption; assumption) | (refine WR.bin (v := ?_) rfl rfl ?_ ?_; rotate_left; first | assumption | exact lss_nat _ _ | exact eql_nat _ _ | exact neq_nat _ _ | exact gtr_nat _ _ | exact geq_nat _ _ | exact leq_nat _ _ | exact eql_str _ _ | exact neq_str _ _ | (refine add_nat ?_; omega) | (refine sub_nat ?_ ?_; omega; omega)) | refine WR.pick rfl rfl rfl ?_ | refine WR.un rfl rfl ?_ | refine WR.ext rfl rfl ?_)
    (repeat refine WC.seq ?_); refine WC.cond rfl ?_ ?_
    · intro h; simp at h; omega
    · intro h
      exact WC.ext ⟨rfl, hs1, rfl, rfl, rfl, rfl, trivial⟩
  | succ j ih =>
    intro k s f hk hf hs
    obtain ⟨f, rfl⟩ : ∃ g, f = g + 1 := ⟨f - 1, by omega⟩
    have hkl : k < D.length := by omega
    obtain ⟨p, q0, q1, nv, e1, e2, e3, e4, e5, e6, e7⟩ := hD.at hkl
    obtain ⟨p', q0', q1', nv', e1', e2', e3', e4', e5', e6', e7'⟩ := hO.at hkl
    have hl := e6.len' (m := D[k].needs.length) (by simp [strs])
    have hl' := e6'.len' (m := D[k].needs.length) (by simp [strs])
    have hb : abin .neq (.str D[k].name) (.str D[k].name) = some (.bool false) := by rw [neq_str, decide_eq_true rfl]; rfl
    have hb2 := neqF (rfl : D[k].needs.length = D[k].needs.length)
    refine WL.round ?_
    (repeat refine WC.seq ?_); refine WC.regX hs fun s1 hs1 hx1 ho1 hn1 => ?_
    repeat (first | refine WR.nil ?_ | refine WR.guardY rfl ?_ | refine WR.guardN rfl ?_ | refine WR.guardT rfl ?_ | refine WR.mov rfl ?_ | (refine WR.len (v := ?_) rfl ?_ ?_; rotate_left; first | assumption | exact rfl) | (refine WR.iadr (v := ?_) rfl rfl ?_ ?_; rotate_left; assumption) | (refine WR.fadr (v := ?_) rfl ?_ ?_; rotate_left; first | assumption | exact rfl) | (refine WR.r (v := ?_) rfl rfl (Ld.use (s0 := ?_) ?_ ?_) ?_; rotate_left; rotate_left; assumption; assumption) | (refine WR.bin (v := ?_) rfl rfl ?_ ?_; rotate_left; first | assumption | exact lss_nat _ _ | exact eql_nat _ _ | exact neq_nat _ _ | exact gtr_nat _ _ | exact geq_nat _ _ | exact leq_nat _ _ | exact eql_str _ _ | exact neq_str _ _ | (refine add_nat ?_; omega) | (refine sub_nat ?_ ?_; omega; omega)) | refine WR.pick rfl rfl rfl ?_ | refine WR.un rfl rfl ?_ | refine WR.ext rfl rfl ?_)
    (repeat refine WC.seq ?_); refine WC.cond rfl ?_ ?_
    · intro _
      (repeat refine WC.seq ?_); refine WC.skip ?_
      (repeat refine WC.seq ?_); refine WC.blk ?_
      (repeat refine WC.seq ?_); refine WC.drawX hs1 fun s2 hs2 hx2 ho2 hn2 => ?_
      repeat (first | refine WD.nil ?_ | refine WD.guardY rfl ?_ | refine WD.guardN rfl ?_ | refine WD.guardT rfl ?_ | refine WD.mov rfl ?_ | (refine WD.len (v := ?_) rfl ?_ ?_; rotate_left; first | assumption | exact rfl) | (refine WD.iadr (v := ?_) rfl rfl ?_ ?_; rotate_left; assumption) | (refine WD.fadr (v := ?_) rfl ?_ ?_; rotate_left; first | assumption | exact rfl) | (refine WD.r (v := ?_) rfl rfl (Ld.use (s0 := ?_) ?_ ?_) rfl ?_; rotate_left; rotate_left; assumption; assumption) | (refine WD.bin (v := ?_) rfl rfl ?_ ?_; rotate_left; first | assumption | exact lss_nat _ _ | exact eql_nat _ _ | exact neq_nat _ _ | exact gtr_nat _ _ | exact geq_nat _ _ | exact leq_nat _ _ | exact eql_str _ _ | exact neq_str _ _ | (refine add_nat ?_; omega) | (refine sub_nat ?_ ?_; omega; omega)) | refine WD.pick rfl rfl rfl ?_ | refine WD.un rfl rfl ?_)
      (repeat refine WC.seq ?_); refine WC.cond rfl ?_ ?_
      · intro h; simp at h
      · intro _
        (repeat refine WC.seq ?_); refine WC.skip ?_
        (repeat refine WC.seq ?_); refine WC.regX hs2 fun s3 hs3 hx3 ho3 hn3 => ?_
        repeat (first | refine WR.nil ?_ | refine WR.guardY rfl ?_ | refine WR.guardN rfl ?_ | refine WR.guardT rfl ?_ | refine WR.mov rfl ?_ | (refine WR.len (v := ?_) rfl ?_ ?_; rotate_left; first | assumption | exact rfl) | (refine WR.iadr (v := ?_) rfl rfl ?_ ?_; rotate_left; assumption) | (refine WR.fadr (v := ?_) rfl ?_ ?_; rotate_left; first | assumption | exact rfl) | (refine WR.r (v := ?_) rfl rfl (Ld.use (s0 := ?_) ?_ ?_) ?_; rotate_left; rotate_left; assumption; assumption) | (refine WR.bin (v := ?_) rfl rfl ?_ ?_; rotate_left; first | assumption | exact lss_nat _ _ | exact eql_nat _ _ | exact neq_nat _ _ | exact gtr_nat _ _ | exact geq_nat _ _ | exact leq_nat _ _ | exact eql_str _ _ | exact neq_str _ _ | (refine add_nat ?_; omega) | (refine sub_nat ?_ ?_; omega; omega)) | refine WR.pick rfl rfl rfl ?_ | refine WR.un rfl rfl ?_ | refine WR.ext rfl rfl ?_)
        refine WL.weak ?hw (ih (k + 1) _ f (by omega) (by omega) hs3)
        case hw => exact ⟨rfl, rfl, rfl, rfl, rfl, rfl, rfl, trivial⟩
    · intro h; simp at h; omega

theorem told3 (hD : DepsV s0 lv D) (hH : Slv s0 1 hv (strs ns)) : ∃ s', acall F0 E8 301 3 [lv, hv] s0 = some (.bool true, s') := by
  have hs := Ext.refl s0
  have : ∃ v s', acall F0 E8 301 3 [lv, hv] s0 = some (v, s') ∧ v = .bool true := by
    refine acall_of (n := 300) (P := fun v _ => v = .bool true) rfl comp3 (Nat.le_of_ble_eq_true rfl) ?_
    (repeat refine WC.seq ?_); refine WC.regX hs fun s1 hs1 hx1 ho1 hn1 => ?_
    repeat (first | refine WR.nil ?_ | refine WR.guardY rfl ?_ | refine WR.guardN rfl ?_ | refine WR.guardT rfl ?_ | refine WR.mov rfl ?_ | (refine WR.len (v := ?_) rfl ?_ ?_; rotate_left; first | assumption | exact rfl) | (refine WR.iadr (v := ?_) rfl rfl ?_ ?_; rotate_left; assumption) | (refine WR.fadr (v := ?_) rfl ?_ ?_; rotate_left; first | assumption | exact rfl) | (refine WR.r (v := ?_) rfl rfl (Ld.use (s0 := ?_) ?_ ?_) ?_; rotate_left; rotate_left; assumption; assumption) | (refine WR.bin (v := ?_) rfl rfl ?_ ?_; rotate_left; first | assumption | exact lss_nat _ _ | exact eql_nat _ _ | exact neq_nat _ _ | exact gtr_nat _ _ | exact geq_nat _ _ | exact leq_nat _ _ | exact eql_str _ _ | exact neq_str _ _ | (refine add_nat ?_; omega) | (refine sub_nat ?_ ?_; omega; omega)) | refine WR.pick rfl rfl rfl ?_ | refine WR.un rfl rfl ?_ | refine WR.ext rfl rfl ?_)
    (repeat refine WC.seq ?_); refine WC.regX hs1 fun s2 hs2 hx2 ho2 hn2 => ?_
    repeat (first | refine WR.nil ?_ | refine WR.guardY rfl ?_ | refine WR.guardN rfl ?_ | refine WR.guardT rfl ?_ | refine WR.mov rfl ?_ | (refine WR.len (v := ?_) rfl ?_ ?_; rotate_left; first | assumption | exact rfl) | (refine WR.iadr (v := ?_) rfl rfl ?_ ?_; rotate_left; assumption) | (refine WR.fadr (v := ?_) rfl ?_ ?_; rotate_left; first | assumption | exact rfl) | (refine WR.r (v := ?_) rfl rfl (Ld.use (s0 := ?_) ?_ ?_) ?_; rotate_left; rotate_left; assumption; assumption) | (refine WR.bin (v := ?_) rfl rfl ?_ ?_; rotate_left; first | assumption | exact lss_nat _ _ | exact eql_nat _ _ | exact neq_nat _ _ | exact gtr_nat _ _ | exact geq_nat _ _ | exact leq_nat _ _ | exact eql_str _ _ | exact neq_str _ _ | (refine add_nat ?_; omega) | (refine sub_nat ?_ ?_; omega; omega)) | refine WR.pick rfl rfl rfl ?_ | refine WR.un rfl rfl ?_ | refine WR.ext rfl rfl ?_)
    obtain ⟨v3, s3, c1, c2, b, rfl, hb⟩ := light7 (F := F0) (E := E8) (n := 299) comp7 rfl (hD.ext hs2) (hH.ext hs2) (by omega)
    refine WR.fn rfl c1 ?_
    have hs3 := hs2.trans c2
    cases b with
    | false =>
      repeat (first | refine WR.nil ?_ | refine WR.guardY rfl ?_ | refine WR.guardN rfl ?_ | refine WR.guardT rfl ?_ | refine WR.mov rfl ?_ | (refine WR.len (v := ?_) rfl ?_ ?_; rotate_left; first | assumption | exact rfl) | (refine WR.iadr (v := ?_) rfl rfl ?_ ?_; rotate_left; assumption) | (refine WR.fadr (v := ?_) rfl ?_ ?_; rotate_left; first | assumption | exact rfl) | (refine WR.r (v := ?_) rfl rfl (Ld.use (s0 := ?_) ?_ ?_) ?_; rotate_left; rotate_left; assumption; assumption) | (refine WR.bin (v := ?_) rfl rfl ?_ ?_; rotate_left; first | assumption | exact lss_nat _ _ | exact eql_nat _ _ | exact neq_nat _ _ | exact gtr_nat _ _ | exact geq_nat _ _ | exact leq_nat _ _ | exact eql_str _ _ | exact neq_str _ _ | (refine add_nat ?_; omega) | (refine sub_nat ?_ ?_; omega; omega)) | refine WR.pick rfl rfl rfl ?_ | refine WR.un rfl rfl ?_ | refine WR.ext rfl rfl ?_)
      (repeat refine WC.seq ?_); refine WC.cond rfl ?_ ?_
      · intro _
        (repeat refine WC.seq ?_); refine WC.regX hs3 fun s4 hs4 hx4 ho4 hn4 => ?_
        refine WR.fn rfl (known8 299 _) ?_
        repeat (first | refine WR.nil ?_ | refine WR.guardY rfl ?_ | refine WR.guardN rfl ?_ | refine WR.guardT rfl ?_ | refine WR.mov rfl ?_ | (refine WR.len (v := ?_) rfl ?_ ?_; rotate_left; first | assumption | exact rfl) | (refine WR.iadr (v := ?_) rfl rfl ?_ ?_; rotate_left; assumption) | (refine WR.fadr (v := ?_) rfl ?_ ?_; rotate_left; first | assumption | exact rfl) | (refine WR.r (v := ?_) rfl rfl (Ld.use (s0 := ?_) ?_ ?_) ?_; rotate_left; rotate_left; assumption; assumption) | (refine WR.bin (v := ?_) rfl rfl ?_ ?_; rotate_left; first | assumption | exact lss_nat _ _ | exact eql_nat _ _ | exact neq_nat _ _ | exact gtr_nat _ _ | exact geq_nat _ _ | exact leq_nat _ _ | exact eql_str _ _ | exact neq_str _ _ | (refine add_nat ?_; omega) | (refine sub_nat ?_ ?_; omega; omega)) | refine WR.pick rfl rfl rfl ?_ | refine WR.un rfl rfl ?_ | refine WR.ext rfl rfl ?_)
        exact WC.ret ⟨.inr rfl, _, rfl, rfl⟩
      · intro h; simp at h
    | true =>
      obtain ⟨f1, f2, f3⟩ := hb rfl
      repeat (first | refine WR.nil ?_ | refine WR.guardY rfl ?_ | refine WR.guardN rfl ?_ | refine WR.guardT rfl ?_ | refine WR.mov rfl ?_ | (refine WR.len (v := ?_) rfl ?_ ?_; rotate_left; first | assumption | exact rfl) | (refine WR.iadr (v := ?_) rfl rfl ?_ ?_; rotate_left; assumption) | (refine WR.fadr (v := ?_) rfl ?_ ?_; rotate_left; first | assumption | exact rfl) | (refine WR.r (v := ?_) rfl rfl (Ld.use (s0 := ?_) ?_ ?_) ?_; rotate_left; rotate_left; assumption; assumption) | (refine WR.bin (v := ?_) rfl rfl ?_ ?_; rotate_left; first | assumption | exact lss_nat _ _ | exact eql_nat _ _ | exact neq_nat _ _ | exact gtr_nat _ _ | exact geq_nat _ _ | exact leq_nat _ _ | exact eql_str _ _ | exact neq_str _ _ | (refine add_nat ?_; omega) | (refine sub_nat ?_ ?_; omega; omega)) | refine WR.pick rfl rfl rfl ?_ | refine WR.un rfl rfl ?_ | refine WR.ext rfl rfl ?_)
      (repeat refine WC.seq ?_); refine WC.cond rfl ?_ ?_
      · intro h; simp at h
      · intro _
        (repeat refine WC.seq ?_); refine WC.skip ?_
        (repeat refine WC.seq ?_); refine WC.regX hs3 fun s4 hs4 hx4 ho4 hn4 => ?_
        repeat (first | refine WR.nil ?_ | refine WR.guardY rfl ?_ | refine WR.guardN rfl ?_ | refine WR.guardT rfl ?_ | refine WR.mov rfl ?_ | (refine WR.len (v := ?_) rfl ?_ ?_; rotate_left; first | assumption | exact rfl) | (refine WR.iadr (v := ?_) rfl rfl ?_ ?_; rotate_left; assumption) | (refine WR.fadr (v := ?_) rfl ?_ ?_; rotate_left; first | assumption | exact rfl) | (refine WR.r (v := ?_) rfl rfl (Ld.use (s0 := ?_) ?_ ?_) ?_; rotate_left; rotate_left; assumption; assumption) | (refine WR.bin (v := ?_) rfl rfl ?_ ?_; rotate_left; first | assumption | exact lss_nat _ _ | exact eql_nat _ _ | exact neq_nat _ _ | exact gtr_nat _ _ | exact geq_nat _ _ | exact leq_nat _ _ | exact eql_str _ _ | exact neq_str _ _ | (refine add_nat ?_; omega) | (refine sub_nat ?_ ?_; omega; omega)) | refine WR.pick rfl rfl rfl ?_ | refine WR.un rfl rfl ?_ | refine WR.ext rfl rfl ?_)
        obtain ⟨v5, s5, d1, d2, d3⟩ := given9 (F := F0) (E := E8) (n := 299) comp9 rfl (hD.ext hs4) (by omega) (fun d hd => by have := f3 d hd; omega) (by omega)
        refine WR.fn rfl d1 ?_
        have hs5 := hs4.trans d2
        repeat (first | refine WR.nil ?_ | refine WR.guardY rfl ?_ | refine WR.guardN rfl ?_ | refine WR.guardT rfl ?_ | refine WR.mov rfl ?_ | (refine WR.len (v := ?_) rfl ?_ ?_; rotate_left; first | assumption | exact rfl) | (refine WR.iadr (v := ?_) rfl rfl ?_ ?_; rotate_left; assumption) | (refine WR.fadr (v := ?_) rfl ?_ ?_; rotate_left; first | assumption | exact rfl) | (refine WR.r (v := ?_) rfl rfl (Ld.use (s0 := ?_) ?_ ?_) ?_; rotate_left; rotate_left; assumption; assumption) | (refine WR.bin (v := ?_) rfl rfl ?_ ?_; rotate_left; first | assumption | exact lss_nat _ _ | exact eql_nat _ _ | exact neq_nat _ _ | exact gtr_nat _ _ | exact geq_nat _ _ | exact leq_nat _ _ | exact eql_str _ _ | exact neq_str _ _ | (refine add_nat ?_; omega) | (refine sub_nat ?_ ?_; omega; omega)) | refine WR.pick rfl rfl rfl ?_ | refine WR.un rfl rfl ?_ | refine WR.ext rfl rfl ?_)
        (repeat refine WC.seq ?_); refine WC.regX hs5 fun s6 hs6 hx6 ho6 hn6 => ?_
        repeat (first | refine WR.nil ?_ | refine WR.guardY rfl ?_ | refine WR.guardN rfl ?_ | refine WR.guardT rfl ?_ | refine WR.mov rfl ?_ | (refine WR.len (v := ?_) rfl ?_ ?_; rotate_left; first | assumption | exact rfl) | (refine WR.iadr (v := ?_) rfl rfl ?_ ?_; rotate_left; assumption) | (refine WR.fadr (v := ?_) rfl ?_ ?_; rotate_left; first | assumption | exact rfl) | (refine WR.r (v := ?_) rfl rfl (Ld.use (s0 := ?_) ?_ ?_) ?_; rotate_left; rotate_left; assumption; assumption) | (refine WR.bin (v := ?_) rfl rfl ?_ ?_; rotate_left; first | assumption | exact lss_nat _ _ | exact eql_nat _ _ | exact neq_nat _ _ | exact gtr_nat _ _ | exact geq_nat _ _ | exact leq_nat _ _ | exact eql_str _ _ | exact neq_str _ _ | (refine add_nat ?_; omega) | (refine sub_nat ?_ ?_; omega; omega)) | refine WR.pick rfl rfl rfl ?_ | refine WR.un rfl rfl ?_ | refine WR.ext rfl rfl ?_)
        obtain ⟨v7, s7, g1, g2, ov7, out7, e7, rfl, g4, g5⟩ := order10 (F := F0) (E := E8) (n := 297) comp10 rfl comp14 rfl comp18 rfl comp19 rfl (d3.ext hx6) d3.one (hH.ext hs6) (by omega) (by omega) (by omega) (by omega) (fun d hd => by have := f3 d hd; omega)
        refine WR.fn rfl g1 ?_
        have hs7 := hs6.trans g2
        repeat (first | refine WR.nil ?_ | refine WR.guardY rfl ?_ | refine WR.guardN rfl ?_ | refine WR.guardT rfl ?_ | refine WR.mov rfl ?_ | (refine WR.len (v := ?_) rfl ?_ ?_; rotate_left; first | assumption | exact rfl) | (refine WR.iadr (v := ?_) rfl rfl ?_ ?_; rotate_left; assumption) | (refine WR.fadr (v := ?_) rfl ?_ ?_; rotate_left; first | assumption | exact rfl) | (refine WR.r (v := ?_) rfl rfl (Ld.use (s0 := ?_) ?_ ?_) ?_; rotate_left; rotate_left; assumption; assumption) | (refine WR.bin (v := ?_) rfl rfl ?_ ?_; rotate_left; first | assumption | exact lss_nat _ _ | exact eql_nat _ _ | exact neq_nat _ _ | exact gtr_nat _ _ | exact geq_nat _ _ | exact leq_nat _ _ | exact eql_str _ _ | exact neq_str _ _ | (refine add_nat ?_; omega) | (refine sub_nat ?_ ?_; omega; omega)) | refine WR.pick rfl rfl rfl ?_ | refine WR.un rfl rfl ?_ | refine WR.ext rfl rfl ?_)
        (repeat refine WC.seq ?_); refine WC.regX hs7 fun s8 hs8 hx8 ho8 hn8 => ?_
        repeat (first | refine WR.nil ?_ | refine WR.guardY rfl ?_ | refine WR.guardN rfl ?_ | refine WR.guardT rfl ?_ | refine WR.mov rfl ?_ | (refine WR.len (v := ?_) rfl ?_ ?_; rotate_left; first | assumption | exact rfl) | (refine WR.iadr (v := ?_) rfl rfl ?_ ?_; rotate_left; assumption) | (refine WR.fadr (v := ?_) rfl ?_ ?_; rotate_left; first | assumption | exact rfl) | (refine WR.r (v := ?_) rfl rfl (Ld.use (s0 := ?_) ?_ ?_) ?_; rotate_left; rotate_left; assumption; assumption) | (refine WR.bin (v := ?_) rfl rfl ?_ ?_; rotate_left; first | assumption | exact lss_nat _ _ | exact eql_nat _ _ | exact neq_nat _ _ | exact gtr_nat _ _ | exact geq_nat _ _ | exact leq_nat _ _ | exact eql_str _ _ | exact neq_str _ _ | (refine add_nat ?_; omega) | (refine sub_nat ?_ ?_; omega; omega)) | refine WR.pick rfl rfl rfl ?_ | refine WR.un rfl rfl ?_ | refine WR.ext rfl rfl ?_)
        obtain ⟨v9, s9, k1, k2, ov9, out9, e9, rfl, k4, k5⟩ := ref11 (F := F0) (E := E8) (m := 297) comp11 rfl comp17 rfl comp15 rfl comp16 rfl (hD.ext hs8) (hH.ext hs8) (by omega) (by omega) (by omega) (by omega) (fun d hd => by have := f3 d hd; omega)
        refine WR.fn rfl k1 ?_
        have hs9 := hs8.trans k2
        obtain ⟨rfl, rfl⟩ := g5.same k5
        repeat (first | refine WR.nil ?_ | refine WR.guardY rfl ?_ | refine WR.guardN rfl ?_ | refine WR.guardT rfl ?_ | refine WR.mov rfl ?_ | (refine WR.len (v := ?_) rfl ?_ ?_; rotate_left; first | assumption | exact rfl) | (refine WR.iadr (v := ?_) rfl rfl ?_ ?_; rotate_left; assumption) | (refine WR.fadr (v := ?_) rfl ?_ ?_; rotate_left; first | assumption | exact rfl) | (refine WR.r (v := ?_) rfl rfl (Ld.use (s0 := ?_) ?_ ?_) ?_; rotate_left; rotate_left; assumption; assumption) | (refine WR.bin (v := ?_) rfl rfl ?_ ?_; rotate_left; first | assumption | exact lss_nat _ _ | exact eql_nat _ _ | exact neq_nat _ _ | exact gtr_nat _ _ | exact geq_nat _ _ | exact leq_nat _ _ | exact eql_str _ _ | exact neq_str _ _ | (refine add_nat ?_; omega) | (refine sub_nat ?_ ?_; omega; omega)) | refine WR.pick rfl rfl rfl ?_ | refine WR.un rfl rfl ?_ | refine WR.ext rfl rfl ?_)
        (repeat refine WC.seq ?_); refine WC.regX hs9 fun s10 hs10 hx10 ho10 hn10 => ?_
        repeat (first | refine WR.nil ?_ | refine WR.guardY rfl ?_ | refine WR.guardN rfl ?_ | refine WR.guardT rfl ?_ | refine WR.mov rfl ?_ | (refine WR.len (v := ?_) rfl ?_ ?_; rotate_left; first | assumption | exact rfl) | (refine WR.iadr (v := ?_) rfl rfl ?_ ?_; rotate_left; assumption) | (refine WR.fadr (v := ?_) rfl ?_ ?_; rotate_left; first | assumption | exact rfl) | (refine WR.r (v := ?_) rfl rfl (Ld.use (s0 := ?_) ?_ ?_) ?_; rotate_left; rotate_left; assumption; assumption) | (refine WR.bin (v := ?_) rfl rfl ?_ ?_; rotate_left; first | assumption | exact lss_nat _ _ | exact eql_nat _ _ | exact neq_nat _ _ | exact gtr_nat _ _ | exact geq_nat _ _ | exact leq_nat _ _ | exact eql_str _ _ | exact neq_str _ _ | (refine add_nat ?_; omega) | (refine sub_nat ?_ ?_; omega; omega)) | refine WR.pick rfl rfl rfl ?_ | refine WR.un rfl rfl ?_ | refine WR.ext rfl rfl ?_)
        (repeat refine WC.seq ?_); refine WC.blk (WC.loop ?_)
        have hO10 : DepsV s10 v5 D := ((((d3.ext hx6).ext g2).ext hx8).ext k2).ext hx10
        refine WL.weak ?hw1 (WL.mono (loop3 (hD.ext hs10) hO10 (by omega) (a6 := ov7) (a7 := .int .i64 (.ofNat e7)) (a8 := ov9) (a9 := .int .i64 (.ofNat e7)) D.length 0 _ 300 (by omega) (by omega) (Ext.refl _)) ?_)
        case hw1 => exact ⟨rfl, rfl, rfl, rfl, rfl, rfl, rfl, trivial⟩
        rintro x l s11 ⟨rfl, h11, hl11⟩
        refine WC.weak hl11 ?_
        have hs11 := hs10.trans h11
        (repeat refine WC.seq ?_); refine WC.regX hs11 fun s12 hs12 hx12 ho12 hn12 => ?_
        repeat (first | refine WR.nil ?_ | refine WR.guardY rfl ?_ | refine WR.guardN rfl ?_ | refine WR.guardT rfl ?_ | refine WR.mov rfl ?_ | (refine WR.len (v := ?_) rfl ?_ ?_; rotate_left; first | assumption | exact rfl) | (refine WR.iadr (v := ?_) rfl rfl ?_ ?_; rotate_left; assumption) | (refine WR.fadr (v := ?_) rfl ?_ ?_; rotate_left; first | assumption | exact rfl) | (refine WR.r (v := ?_) rfl rfl (Ld.use (s0 := ?_) ?_ ?_) ?_; rotate_left; rotate_left; assumption; assumption) | (refine WR.bin (v := ?_) rfl rfl ?_ ?_; rotate_left; first | assumption | exact lss_nat _ _ | exact eql_nat _ _ | exact neq_nat _ _ | exact gtr_nat _ _ | exact geq_nat _ _ | exact leq_nat _ _ | exact eql_str _ _ | exact neq_str _ _ | (refine add_nat ?_; omega) | (refine sub_nat ?_ ?_; omega; omega)) | refine WR.pick rfl rfl rfl ?_ | refine WR.un rfl rfl ?_ | refine WR.ext rfl rfl ?_)
        have o7 : Slv s12 1 ov7 (nats out7) := ((((g4.ext hx8).ext k2).ext hx10).ext h11).ext hx12
        have o9 : Slv s12 1 ov9 (nats out7) := ((k4.ext hx10).ext h11).ext hx12
        have hout := g5.length
        obtain ⟨v13, s13, m1, m2, rfl⟩ := ints12 (F := F0) (E := E8) (n := 299) comp12 rfl o7 o9 (by omega) (by omega)
        refine WR.fn rfl m1 ?_
        have hb := eqlT (rfl : e7 = e7)
        simp only [decide_true]
        repeat (first | refine WR.nil ?_ | refine WR.guardY rfl ?_ | refine WR.guardN rfl ?_ | refine WR.guardT rfl ?_ | refine WR.mov rfl ?_ | (refine WR.len (v := ?_) rfl ?_ ?_; rotate_left; first | assumption | exact rfl) | (refine WR.iadr (v := ?_) rfl rfl ?_ ?_; rotate_left; assumption) | (refine WR.fadr (v := ?_) rfl ?_ ?_; rotate_left; first | assumption | exact rfl) | (refine WR.r (v := ?_) rfl rfl (Ld.use (s0 := ?_) ?_ ?_) ?_; rotate_left; rotate_left; assumption; assumption) | (refine WR.bin (v := ?_) rfl rfl ?_ ?_; rotate_left; first | assumption | exact lss_nat _ _ | exact eql_nat _ _ | exact neq_nat _ _ | exact gtr_nat _ _ | exact geq_nat _ _ | exact leq_nat _ _ | exact eql_str _ _ | exact neq_str _ _ | (refine add_nat ?_; omega) | (refine sub_nat ?_ ?_; omega; omega)) | refine WR.pick rfl rfl rfl ?_ | refine WR.un rfl rfl ?_ | refine WR.ext rfl rfl ?_)
        refine WR.fn rfl (known8 299 _) ?_
        repeat (first | refine WR.nil ?_ | refine WR.guardY rfl ?_ | refine WR.guardN rfl ?_ | refine WR.guardT rfl ?_ | refine WR.mov rfl ?_ | (refine WR.len (v := ?_) rfl ?_ ?_; rotate_left; first | assumption | exact rfl) | (refine WR.iadr (v := ?_) rfl rfl ?_ ?_; rotate_left; assumption) | (refine WR.fadr (v := ?_) rfl ?_ ?_; rotate_left; first | assumption | exact rfl) | (refine WR.r (v := ?_) rfl rfl (Ld.use (s0 := ?_) ?_ ?_) ?_; rotate_left; rotate_left; assumption; assumption) | (refine WR.bin (v := ?_) rfl rfl ?_ ?_; rotate_left; first | assumption | exact lss_nat _ _ | exact eql_nat _ _ | exact neq_nat _ _ | exact gtr_nat _ _ | exact geq_nat _ _ | exact leq_nat _ _ | exact eql_str _ _ | exact neq_str _ _ | (refine add_nat ?_; omega) | (refine sub_nat ?_ ?_; omega; omega)) | refine WR.pick rfl rfl rfl ?_ | refine WR.un rfl rfl ?_ | refine WR.ext rfl rfl ?_)
        (repeat refine WC.seq ?_); refine WC.ret ?_
        exact ⟨.inr rfl, _, rfl, rfl⟩
  obtain ⟨v, s', h1, rfl⟩ := this
  exact ⟨s', h1⟩
end Go.Proofs.Ytbcnhellcpeecaa
