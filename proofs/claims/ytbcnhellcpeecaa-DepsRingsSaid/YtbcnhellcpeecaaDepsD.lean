/- DepsStands: in an order each module stands once, and behind each other one that it needs: told of the evaluator. -/
import Derived.Test.YtbcnhellcpeecaaDepsC
set_option autoImplicit false
set_option maxRecDepth 100000
set_option linter.unusedVariables false
namespace Go.Proofs.Ytbcnhellcpeecaa
open Go Go.Abs
theorem scan_some {p : Nat → Bool} : ∀ {c i j : Nat}, scan p c i = some j → p j = true ∧ i ≤ j ∧ j < i + c
  | 0, i, j, h => by simp [scan] at h
  | c + 1, i, j, h => by
    simp only [scan] at h
    by_cases hp : p i = true
    · rw [if_pos hp] at h; cases h; exact ⟨hp, by omega, by omega⟩
    · rw [if_neg hp] at h
      obtain ⟨h1, h2, h3⟩ := scan_some h
      exact ⟨h1, by omega, by omega⟩
/-- Each one was ready when it was taken. -/
def Ordered (W : Nat → List Nat) (n : Nat) (out : List Nat) : Prop := ∀ k (h : k < out.length), ready W (out.take k) out[k] = true ∧ out[k] < n
theorem rounds_ordered {W : Nat → List Nat} {n : Nat} : ∀ {c : Nat} {o r : List Nat}, Ordered W n o → rounds W n c o = some r → Ordered W n r
  | 0, o, r, ho, h => by simp [rounds] at h; subst h; exact ho
  | c + 1, o, r, ho, h => by
    simp only [rounds] at h
    cases hsc : scan (ready W o) n 0 with
    | none => rw [hsc] at h; simp at h
    | some i =>
      rw [hsc] at h
      refine rounds_ordered ?_ h
      obtain ⟨h1, h2, h3⟩ := scan_some hsc
      intro k hk
      by_cases e : k < o.length
      · obtain ⟨a, b⟩ := ho k e
        rw [List.getElem_append_left e, List.take_append_of_le_length (by omega)]
        exact ⟨a, b⟩
      · simp at hk
        have : k = o.length := by omega
        subst this
        simp
        exact ⟨h1, by omega⟩
theorem ready_iff {W : Nat → List Nat} {out : List Nat} {i : Nat} : ready W out i = true ↔ i ∉ out ∧ ∀ q ∈ W i, q ∈ out := by
  unfold ready
  simp
theorem Ordered.ne {W : Nat → List Nat} {n : Nat} {out : List Nat} (h : Ordered W n out) {k i : Nat} (hi : i < out.length) (hk : k < i) : out[k] ≠ out[i] := by
  obtain ⟨h1, _⟩ := h i hi
  rw [ready_iff] at h1
  intro e
  apply h1.1
  rw [← e]
  rw [List.mem_take_iff_getElem]
  exact ⟨k, by omega, rfl⟩
theorem Ordered.needs {D : List Dep} {out : List Nat} (h : Ordered (wOf D) D.length out) (ht : ¬ twice D) {k i : Nat} (hi : i < out.length) (hk : k < i) :
    (D[out[i]]'(h i hi).2).name ∉ (D[out[k]]'(h k (by omega)).2).needs := by
  intro hm
  have hne := h.ne hi hk
  obtain ⟨h1, h2⟩ := h i hi
  obtain ⟨h3, h4⟩ := h k (by omega)
  rw [ready_iff] at h1 h3
  have hf : first D D[out[i]].name = some out[i] := Classical.byContradiction fun e => ht ⟨_, h2, e⟩
  have hw : out[i] ∈ wOf D out[k] := by
    unfold wOf
    rw [needsOf_lt h4]
    simp only [List.mem_filter, List.mem_filterMap]
    exact ⟨⟨_, hm, hf⟩, by simpa using fun e => hne e.symm⟩
  have := h3.2 _ hw
  rw [List.mem_take_iff_getElem] at this
  obtain ⟨j, hj, e⟩ := this
  exact h.ne hi (k := j) (by omega) e

variable {s0 s : St} {lv hv ov : AV} {D : List Dep} {ns : List (List Nat)} {out : List Nat}
theorem loop4a (hD : DepsV s0 lv D) (hO : Slv s0 1 ov (nats out)) (hlen : D.length < 1000) (hne : ∀ d ∈ D, d.needs.length < 299) (ho : Ordered (wOf D) D.length out) (hl : out.length = D.length) (ht : ¬ twice D) {i : Nat} (hi : i < out.length) :
    ∀ (j k : Nat) (s : St) (f : Nat), k + j = i → j < f → Ext s0 s →
      WL (acall F0 E8 300) 300 b4_0 f [(0, lv), (5, ov), (7, .int .i64 (.ofNat i)), (8, .int .i64 (.ofNat k))] s
        (fun x l s => x = .ext 2 ∧ Ext s0 s ∧ Sub2 [(0, lv), (5, ov), (7, .int .i64 (.ofNat i))] l) := by
  intro j
  induction j with
  | zero =>
    intro k s f hk hf hs
    obtain ⟨f, rfl⟩ : ∃ g, f = g + 1 := ⟨f - 1, by omega⟩
    refine WL.round ?_
    (repeat refine WC.seq ?_); refine WC.regX hs fun s1 hs1 hx1 ho1 hn1 => ?_
    repeat (first | refine WR.nil ?_ | refine WR.guardY rfl ?_ | refine WR.guardN rfl ?_ | refine WR.guardT rfl ?_ | refine WR.mov rfl ?_ | (refine WR.len (v := ?_) rfl ?_ ?_; rotate_left; first | assumption | exact rfl) | (refine WR.iadr (v := ?_) rfl rfl ?_ ?_; rotate_left; assumption) | (refine WR.fadr (v := ?_) rfl ?_ ?_; rotate_left; first | assumption | exact rfl) | (refine WR.r (v := ?_) rfl rfl (Ld.use (s0 := ?_) ?_ ?_) ?_; rotate_left; rotate_left; assumption; assumption) | (refine WR.bin (v := ?_) rfl rfl ?_ ?_; rotate_left; first | assumption | exact lss_nat _ _ | exact eql_nat _ _ | exact neq_nat _ _ | exact gtr_nat _ _ | exact geq_nat _ _ | exact leq_nat _ _ | exact eql_str _ _ | exact neq_str _ _ | (refine add_nat ?_; omega) | (refine sub_nat ?_ ?_; omega; omega)) | refine WR.pick rfl rfl rfl ?_ | refine WR.un rfl rfl ?_ | refine WR.ext rfl rfl ?_)
    (repeat refine WC.seq ?_); refine WC.cond rfl ?_ ?_
    · intro h; simp at h; omega
    · intro h
      exact WC.ext ⟨rfl, hs1, rfl, rfl, rfl, trivial⟩
  | succ j ih =>
    intro k s f hk hf hs
    obtain ⟨f, rfl⟩ : ∃ g, f = g + 1 := ⟨f - 1, by omega⟩
    have hki : k < i := by omega
    have hko : k < out.length := by omega
    obtain ⟨pk, hpk, hlk⟩ := hO.at1 (i := k) (a := .int .i64 (.ofNat out[k])) (by simp [nats, hko])
    obtain ⟨pi, hpi, hli⟩ := hO.at1 (i := i) (a := .int .i64 (.ofNat out[i])) (by simp [nats, hi])
    obtain ⟨p, q0, q1, nv, e1, e2, e3, e4, e5, e6, e7⟩ := hD.at (ho k hko).2
    obtain ⟨p', q0', q1', nv', e1', e2', e3', e4', e5', e6', e7'⟩ := hD.at (ho i hi).2
    have hb := eqlF (ho.ne hi hki)
    have hno := ho.needs ht hi hki
    refine WL.round ?_
    (repeat refine WC.seq ?_); refine WC.regX hs fun s1 hs1 hx1 ho1 hn1 => ?_
    repeat (first | refine WR.nil ?_ | refine WR.guardY rfl ?_ | refine WR.guardN rfl ?_ | refine WR.guardT rfl ?_ | refine WR.mov rfl ?_ | (refine WR.len (v := ?_) rfl ?_ ?_; rotate_left; first | assumption | exact rfl) | (refine WR.iadr (v := ?_) rfl rfl ?_ ?_; rotate_left; assumption) | (refine WR.fadr (v := ?_) rfl ?_ ?_; rotate_left; first | assumption | exact rfl) | (refine WR.r (v := ?_) rfl rfl (Ld.use (s0 := ?_) ?_ ?_) ?_; rotate_left; rotate_left; assumption; assumption) | (refine WR.bin (v := ?_) rfl rfl ?_ ?_; rotate_left; first | assumption | exact lss_nat _ _ | exact eql_nat _ _ | exact neq_nat _ _ | exact gtr_nat _ _ | exact geq_nat _ _ | exact leq_nat _ _ | exact eql_str _ _ | exact neq_str _ _ | (refine add_nat ?_; omega) | (refine sub_nat ?_ ?_; omega; omega)) | refine WR.pick rfl rfl rfl ?_ | refine WR.un rfl rfl ?_ | refine WR.ext rfl rfl ?_)
    (repeat refine WC.seq ?_); refine WC.cond rfl ?_ ?_
    · intro _
      (repeat refine WC.seq ?_); refine WC.skip ?_
      (repeat refine WC.seq ?_); refine WC.blk ?_
      (repeat refine WC.seq ?_); refine WC.drawX hs1 fun s2 hs2 hx2 ho2 hn2 => ?_
      repeat (first | refine WD.nil ?_ | refine WD.guardY rfl ?_ | refine WD.guardN rfl ?_ | refine WD.guardT rfl ?_ | refine WD.mov rfl ?_ | (refine WD.len (v := ?_) rfl ?_ ?_; rotate_left; first | assumption | exact rfl) | (refine WD.iadr (v := ?_) rfl rfl ?_ ?_; rotate_left; assumption) | (refine WD.fadr (v := ?_) rfl ?_ ?_; rotate_left; first | assumption | exact rfl) | (refine WD.r (v := ?_) rfl rfl (Ld.use (s0 := ?_) ?_ ?_) rfl ?_; rotate_left; rotate_left; assumption; assumption) | (refine WD.bin (v := ?_) rfl rfl ?_ ?_; rotate_left; first | assumption | exact lss_nat _ _ | exact eql_nat _ _ | exact neq_nat _ _ | exact gtr_nat _ _ | exact geq_nat _ _ | exact leq_nat _ _ | exact eql_str _ _ | exact neq_str _ _ | (refine add_nat ?_; omega) | (refine sub_nat ?_ ?_; omega; omega)) | refine WD.pick rfl rfl rfl ?_ | refine WD.un rfl rfl ?_)
      refine WD.r rfl rfl ((e7.ext hs2).loadn rfl _) rfl ?_
      repeat (first | refine WD.nil ?_ | refine WD.guardY rfl ?_ | refine WD.guardN rfl ?_ | refine WD.guardT rfl ?_ | refine WD.mov rfl ?_ | (refine WD.len (v := ?_) rfl ?_ ?_; rotate_left; first | assumption | exact rfl) | (refine WD.iadr (v := ?_) rfl rfl ?_ ?_; rotate_left; assumption) | (refine WD.fadr (v := ?_) rfl ?_ ?_; rotate_left; first | assumption | exact rfl) | (refine WD.r (v := ?_) rfl rfl (Ld.use (s0 := ?_) ?_ ?_) rfl ?_; rotate_left; rotate_left; assumption; assumption) | (refine WD.bin (v := ?_) rfl rfl ?_ ?_; rotate_left; first | assumption | exact lss_nat _ _ | exact eql_nat _ _ | exact neq_nat _ _ | exact gtr_nat _ _ | exact geq_nat _ _ | exact leq_nat _ _ | exact eql_str _ _ | exact neq_str _ _ | (refine add_nat ?_; omega) | (refine sub_nat ?_ ?_; omega; omega)) | refine WD.pick rfl rfl rfl ?_ | refine WD.un rfl rfl ?_)
      have hnl := hne _ (List.getElem_mem (ho k hko).2)
      have hkD := (ho k hko).2
      have hiD := (ho i hi).2
      obtain ⟨v3, s3, c1, c2, c3⟩ := needs13 (F := F0) (E := E8) (n := 299) (nm := D[out[k]].name) (q := D[out[i]].name) comp13 rfl (e6.ext hs2) (by omega) hnl
      subst c3
      refine WD.fn rfl c1 (by repeat (first | exact rfl | refine readsOk_bit (by decide) ?_)) ?_
      rw [decide_eq_false hno]
      have hs3 := hs2.trans c2
      repeat (first | refine WD.nil ?_ | refine WD.guardY rfl ?_ | refine WD.guardN rfl ?_ | refine WD.guardT rfl ?_ | refine WD.mov rfl ?_ | (refine WD.len (v := ?_) rfl ?_ ?_; rotate_left; first | assumption | exact rfl) | (refine WD.iadr (v := ?_) rfl rfl ?_ ?_; rotate_left; assumption) | (refine WD.fadr (v := ?_) rfl ?_ ?_; rotate_left; first | assumption | exact rfl) | (refine WD.r (v := ?_) rfl rfl (Ld.use (s0 := ?_) ?_ ?_) rfl ?_; rotate_left; rotate_left; assumption; assumption) | (refine WD.bin (v := ?_) rfl rfl ?_ ?_; rotate_left; first | assumption | exact lss_nat _ _ | exact eql_nat _ _ | exact neq_nat _ _ | exact gtr_nat _ _ | exact geq_nat _ _ | exact leq_nat _ _ | exact eql_str _ _ | exact neq_str _ _ | (refine add_nat ?_; omega) | (refine sub_nat ?_ ?_; omega; omega)) | refine WD.pick rfl rfl rfl ?_ | refine WD.un rfl rfl ?_)
      (repeat refine WC.seq ?_); refine WC.cond rfl ?_ ?_
      · intro h; simp at h
      · intro _
        (repeat refine WC.seq ?_); refine WC.skip ?_
        refine WC.regX (s0 := s0) ?_ fun s4 hs4 hx4 ho4 hn4 => ?_
        · exact hs3
        repeat (first | refine WR.nil ?_ | refine WR.guardY rfl ?_ | refine WR.guardN rfl ?_ | refine WR.guardT rfl ?_ | refine WR.mov rfl ?_ | (refine WR.len (v := ?_) rfl ?_ ?_; rotate_left; first | assumption | exact rfl) | (refine WR.iadr (v := ?_) rfl rfl ?_ ?_; rotate_left; assumption) | (refine WR.fadr (v := ?_) rfl ?_ ?_; rotate_left; first | assumption | exact rfl) | (refine WR.r (v := ?_) rfl rfl (Ld.use (s0 := ?_) ?_ ?_) ?_; rotate_left; rotate_left; assumption; assumption) | (refine WR.bin (v := ?_) rfl rfl ?_ ?_; rotate_left; first | assumption | exact lss_nat _ _ | exact eql_nat _ _ | exact neq_nat _ _ | exact gtr_nat _ _ | exact geq_nat _ _ | exact leq_nat _ _ | exact eql_str _ _ | exact neq_str _ _ | (refine add_nat ?_; omega) | (refine sub_nat ?_ ?_; omega; omega)) | refine WR.pick rfl rfl rfl ?_ | refine WR.un rfl rfl ?_ | refine WR.ext rfl rfl ?_)
        refine WL.weak ?hw (ih (k + 1) _ f (by omega) (by omega) hs4)
        case hw => exact ⟨rfl, rfl, rfl, rfl, trivial⟩
    · intro h; simp at h; omega
theorem loop4b (hD : DepsV s0 lv D) (hO : Slv s0 1 ov (nats out)) (hlen : D.length < 299) (hne : ∀ d ∈ D, d.needs.length < 299) (ho : Ordered (wOf D) D.length out) (hl : out.length = D.length) (ht : ¬ twice D) :
    ∀ (j i : Nat) (s : St) (f : Nat), i + j = out.length → j < f → Ext s0 s →
      WL (acall F0 E8 300) 300 b4_1 f [(0, lv), (5, ov), (7, .int .i64 (.ofNat i))] s (fun x l s => x = .ext 0 ∧ Ext s0 s) := by
  have h0 := hO.len' (m := out.length) (by simp [nats])
  have h1 := hD.len
  intro j
  induction j with
  | zero =>
    intro i s f hk hf hs
    obtain ⟨f, rfl⟩ : ∃ g, f = g + 1 := ⟨f - 1, by omega⟩
    refine WL.round ?_
    (repeat refine WC.seq ?_); refine WC.regX hs fun s1 hs1 hx1 ho1 hn1 => ?_
    repeat (first | refine WR.nil ?_ | refine WR.guardY rfl ?_ | refine WR.guardN rfl ?_ | refine WR.guardT rfl ?_ | refine WR.mov rfl ?_ | (refine WR.len (v := ?_) rfl ?_ ?_; rotate_left; first | assumption | exact rfl) | (refine WR.iadr (v := ?_) rfl rfl ?_ ?_; rotate_left; assumption) | (refine WR.fadr (v := ?_) rfl ?_ ?_; rotate_left; first | assumption | exact rfl) | (refine WR.r (v := ?_) rfl rfl (Ld.use (s0 := ?_) ?_ ?_) ?_; rotate_left; rotate_left; assumption; assumption) | (refine WR.bin (v := ?_) rfl rfl ?_ ?_; rotate_left; first | assumption | exact lss_nat _ _ | exact eql_nat _ _ | exact neq_nat _ _ | exact gtr_nat _ _ | exact geq_nat _ _ | exact leq_nat _ _ | exact eql_str _ _ | exact neq_str _ _ | (refine add_nat ?_; omega) | (refine sub_nat ?_ ?_; omega; omega)) | refine WR.pick rfl rfl rfl ?_ | refine WR.un rfl rfl ?_ | refine WR.ext rfl rfl ?_)
    (repeat refine WC.seq ?_); refine WC.cond rfl ?_ ?_
    · intro h; simp at h; omega
    · intro h
      exact WC.ext ⟨rfl, hs1⟩
  | succ j ih =>
    intro i s f hk hf hs
    obtain ⟨f, rfl⟩ : ∃ g, f = g + 1 := ⟨f - 1, by omega⟩
    have hi : i < out.length := by omega
    obtain ⟨pi, hpi, hli⟩ := hO.at1 (i := i) (a := .int .i64 (.ofNat out[i])) (by simp [nats, hi])
    have hb := lssF (Nat.not_lt_zero out[i])
    have hb2 := geqF (show ¬ D.length ≤ out[i] by have := (ho i hi).2; omega)
    refine WL.round ?_
    (repeat refine WC.seq ?_); refine WC.regX hs fun s1 hs1 hx1 ho1 hn1 => ?_
    repeat (first | refine WR.nil ?_ | refine WR.guardY rfl ?_ | refine WR.guardN rfl ?_ | refine WR.guardT rfl ?_ | refine WR.mov rfl ?_ | (refine WR.len (v := ?_) rfl ?_ ?_; rotate_left; first | assumption | exact rfl) | (refine WR.iadr (v := ?_) rfl rfl ?_ ?_; rotate_left; assumption) | (refine WR.fadr (v := ?_) rfl ?_ ?_; rotate_left; first | assumption | exact rfl) | (refine WR.r (v := ?_) rfl rfl (Ld.use (s0 := ?_) ?_ ?_) ?_; rotate_left; rotate_left; assumption; assumption) | (refine WR.bin (v := ?_) rfl rfl ?_ ?_; rotate_left; first | assumption | exact lss_nat _ _ | exact eql_nat _ _ | exact neq_nat _ _ | exact gtr_nat _ _ | exact geq_nat _ _ | exact leq_nat _ _ | exact eql_str _ _ | exact neq_str _ _ | (refine add_nat ?_; omega) | (refine sub_nat ?_ ?_; omega; omega)) | refine WR.pick rfl rfl rfl ?_ | refine WR.un rfl rfl ?_ | refine WR.ext rfl rfl ?_)
    (repeat refine WC.seq ?_); refine WC.cond rfl ?_ ?_
    · intro _
      (repeat refine WC.seq ?_); refine WC.skip ?_
      (repeat refine WC.seq ?_); refine WC.blk ?_
      (repeat refine WC.seq ?_); refine WC.regX hs1 fun s2 hs2 hx2 ho2 hn2 => ?_
      repeat (first | refine WR.nil ?_ | refine WR.guardY rfl ?_ | refine WR.guardN rfl ?_ | refine WR.guardT rfl ?_ | refine WR.mov rfl ?_ | (refine WR.len (v := ?_) rfl ?_ ?_; rotate_left; first | assumption | exact rfl) | (refine WR.iadr (v := ?_) rfl rfl ?_ ?_; rotate_left; assumption) | (refine WR.fadr (v := ?_) rfl ?_ ?_; rotate_left; first | assumption | exact rfl) | (refine WR.r (v := ?_) rfl rfl (Ld.use (s0 := ?_) ?_ ?_) ?_; rotate_left; rotate_left; assumption; assumption) | (refine WR.bin (v := ?_) rfl rfl ?_ ?_; rotate_left; first | assumption | exact lss_nat _ _ | exact eql_nat _ _ | exact neq_nat _ _ | exact gtr_nat _ _ | exact geq_nat _ _ | exact leq_nat _ _ | exact eql_str _ _ | exact neq_str _ _ | (refine add_nat ?_; omega) | (refine sub_nat ?_ ?_; omega; omega)) | refine WR.pick rfl rfl rfl ?_ | refine WR.un rfl rfl ?_ | refine WR.ext rfl rfl ?_)
      (repeat refine WC.seq ?_); refine WC.cond rfl ?_ ?_
      · intro h; simp at h
      · intro _
        (repeat refine WC.seq ?_); refine WC.skip ?_
        (repeat refine WC.seq ?_); refine WC.regX hs2 fun s3 hs3 hx3 ho3 hn3 => ?_
        repeat (first | refine WR.nil ?_ | refine WR.guardY rfl ?_ | refine WR.guardN rfl ?_ | refine WR.guardT rfl ?_ | refine WR.mov rfl ?_ | (refine WR.len (v := ?_) rfl ?_ ?_; rotate_left; first | assumption | exact rfl) | (refine WR.iadr (v := ?_) rfl rfl ?_ ?_; rotate_left; assumption) | (refine WR.fadr (v := ?_) rfl ?_ ?_; rotate_left; first | assumption | exact rfl) | (refine WR.r (v := ?_) rfl rfl (Ld.use (s0 := ?_) ?_ ?_) ?_; rotate_left; rotate_left; assumption; assumption) | (refine WR.bin (v := ?_) rfl rfl ?_ ?_; rotate_left; first | assumption | exact lss_nat _ _ | exact eql_nat _ _ | exact neq_nat _ _ | exact gtr_nat _ _ | exact geq_nat _ _ | exact leq_nat _ _ | exact eql_str _ _ | exact neq_str _ _ | (refine add_nat ?_; omega) | (refine sub_nat ?_ ?_; omega; omega)) | refine WR.pick rfl rfl rfl ?_ | refine WR.un rfl rfl ?_ | refine WR.ext rfl rfl ?_)
        (repeat refine WC.seq ?_); refine WC.blk (WC.loop ?_)
        refine WL.weak ?hw (WL.mono (loop4a hD hO (by omega) hne ho hl ht hi i 0 _ 300 (by omega) (by omega) hs3) ?_)
        case hw => exact ⟨rfl, rfl, rfl, rfl, trivial⟩
        rintro x l s4 ⟨rfl, hs4, hl4⟩
        refine WC.weak hl4 ?_
        (repeat refine WC.seq ?_); refine WC.regX hs4 fun s5 hs5 hx5 ho5 hn5 => ?_
        repeat (first | refine WR.nil ?_ | refine WR.guardY rfl ?_ | refine WR.guardN rfl ?_ | refine WR.guardT rfl ?_ | refine WR.mov rfl ?_ | (refine WR.len (v := ?_) rfl ?_ ?_; rotate_left; first | assumption | exact rfl) | (refine WR.iadr (v := ?_) rfl rfl ?_ ?_; rotate_left; assumption) | (refine WR.fadr (v := ?_) rfl ?_ ?_; rotate_left; first | assumption | exact rfl) | (refine WR.r (v := ?_) rfl rfl (Ld.use (s0 := ?_) ?_ ?_) ?_; rotate_left; rotate_left; assumption; assumption) | (refine WR.bin (v := ?_) rfl rfl ?_ ?_; rotate_left; first | assumption | exact lss_nat _ _ | exact eql_nat _ _ | exact neq_nat _ _ | exact gtr_nat _ _ | exact geq_nat _ _ | exact leq_nat _ _ | exact eql_str _ _ | exact neq_str _ _ | (refine add_nat ?_; omega) | (refine sub_nat ?_ ?_; omega; omega)) | refine WR.pick rfl rfl rfl ?_ | refine WR.un rfl rfl ?_ | refine WR.ext rfl rfl ?_)
        refine WL.weak ?hw2 (ih (i + 1) _ f (by omega) (by omega) hs5)
        case hw2 => exact ⟨rfl, rfl, rfl, trivial⟩
    · intro h; simp at h; omega

theorem told4 (hD : DepsV s0 lv D) (hH : Slv s0 1 hv (strs ns)) : ∃ s', acall F0 E8 301 4 [lv, hv] s0 = some (.bool true, s') := by
  have hs := Ext.refl s0
  have : ∃ v s', acall F0 E8 301 4 [lv, hv] s0 = some (v, s') ∧ v = .bool true := by
    refine acall_of (n := 300) (P := fun v _ => v = .bool true) rfl comp4 (Nat.le_of_ble_eq_true rfl) ?_
    (repeat refine WC.seq ?_); refine WC.regX hs fun s1 hs1 hx1 ho1 hn1 => ?_
    repeat (first | refine WR.nil ?_ | refine WR.guardY rfl ?_ | refine WR.guardN rfl ?_ | refine WR.guardT rfl ?_ | refine WR.mov rfl ?_ | (refine WR.len (v := ?_) rfl ?_ ?_; rotate_left; first | assumption | exact rfl) | (refine WR.iadr (v := ?_) rfl rfl ?_ ?_; rotate_left; assumption) | (refine WR.fadr (v := ?_) rfl ?_ ?_; rotate_left; first | assumption | exact rfl) | (refine WR.r (v := ?_) rfl rfl (Ld.use (s0 := ?_) ?_ ?_) ?_; rotate_left; rotate_left; assumption; assumption) | (refine WR.bin (v := ?_) rfl rfl ?_ ?_; rotate_left; first | assumption | exact lss_nat _ _ | exact eql_nat _ _ | exact neq_nat _ _ | exact gtr_nat _ _ | exact geq_nat _ _ | exact leq_nat _ _ | exact eql_str _ _ | exact neq_str _ _ | (refine add_nat ?_; omega) | (refine sub_nat ?_ ?_; omega; omega)) | refine WR.pick rfl rfl rfl ?_ | refine WR.un rfl rfl ?_ | refine WR.ext rfl rfl ?_)
    (repeat refine WC.seq ?_); refine WC.regX hs1 fun s2 hs2 hx2 ho2 hn2 => ?_
    repeat (first | refine WR.nil ?_ | refine WR.guardY rfl ?_ | refine WR.guardN rfl ?_ | refine WR.guardT rfl ?_ | refine WR.mov rfl ?_ | (refine WR.len (v := ?_) rfl ?_ ?_; rotate_left; first | assumption | exact rfl) | (refine WR.iadr (v := ?_) rfl rfl ?_ ?_; rotate_left; assumption) | (refine WR.fadr (v := ?_) rfl ?_ ?_; rotate_left; first | assumption | exact rfl) | (refine WR.r (v := ?_) rfl rfl (Ld.use (s0 := ?_) ?_ ?_) ?_; rotate_left; rotate_left; assumption; assumption) | (refine WR.bin (v := ?_) rfl rfl ?_ ?_; rotate_left; first | assumption | exact lss_nat _ _ | exact eql_nat _ _ | exact neq_nat _ _ | exact gtr_nat _ _ | exact geq_nat _ _ | exact leq_nat _ _ | exact eql_str _ _ | exact neq_str _ _ | (refine add_nat ?_; omega) | (refine sub_nat ?_ ?_; omega; omega)) | refine WR.pick rfl rfl rfl ?_ | refine WR.un rfl rfl ?_ | refine WR.ext rfl rfl ?_)
    obtain ⟨v3, s3, c1, c2, b, rfl, hb⟩ := light7 (F := F0) (E := E8) (n := 299) comp7 rfl (hD.ext hs2) (hH.ext hs2) (by omega)
    refine WR.fn rfl c1 ?_
    have hs3 := hs2.trans c2
    cases b with
    | false =>
      repeat (first | refine WR.nil ?_ | refine WR.guardY rfl ?_ | refine WR.guardN rfl ?_ | refine WR.guardT rfl ?_ | refine WR.mov rfl ?_ | (refine WR.len (v := ?_) rfl ?_ ?_; rotate_left; first | assumption | exact rfl) | (refine WR.iadr (v := ?_) rfl rfl ?_ ?_; rotate_left; assumption) | (refine WR.fadr (v := ?_) rfl ?_ ?_; rotate_left; first | assumption | exact rfl) | (refine WR.r (v := ?_) rfl rfl (Ld.use (s0 := ?_) ?_ ?_) ?_; rotate_left; rotate_left; assumption; assumption) | (refine WR.bin (v := ?_) rfl rfl ?_ ?_; rotate_left; first | assumption | exact lss_nat _ _ | exact eql_nat _ _ | exact neq_nat _ _ | exact gtr_nat _ _ | exact geq_nat _ _ | exact leq_nat _ _ | exact eql_str _ _ | exact neq_str _ _ | (refine add_nat ?_; omega) | (refine sub_nat ?_ ?_; omega; omega)) | refine WR.pick rfl rfl rfl ?_ | refine WR.un rfl rfl ?_ | refine WR.ext rfl rfl ?_)
      (repeat refine WC.seq ?_); refine WC.cond rfl ?_ ?_
      · intro _
        (repeat refine WC.seq ?_); refine WC.regX hs3 fun s4 hs4 hx4 ho4 hn4 => ?_
        refine WR.fn rfl (known8 299 _) ?_
        repeat (first | refine WR.nil ?_ | refine WR.guardY rfl ?_ | refine WR.guardN rfl ?_ | refine WR.guardT rfl ?_ | refine WR.mov rfl ?_ | (refine WR.len (v := ?_) rfl ?_ ?_; rotate_left; first | assumption | exact rfl) | (refine WR.iadr (v := ?_) rfl rfl ?_ ?_; rotate_left; assumption) | (refine WR.fadr (v := ?_) rfl ?_ ?_; rotate_left; first | assumption | exact rfl) | (refine WR.r (v := ?_) rfl rfl (Ld.use (s0 := ?_) ?_ ?_) ?_; rotate_left; rotate_left; assumption; assumption) | (refine WR.bin (v := ?_) rfl rfl ?_ ?_; rotate_left; first | assumption | exact lss_nat _ _ | exact eql_nat _ _ | exact neq_nat _ _ | exact gtr_nat _ _ | exact geq_nat _ _ | exact leq_nat _ _ | exact eql_str _ _ | exact neq_str _ _ | (refine add_nat ?_; omega) | (refine sub_nat ?_ ?_; omega; omega)) | refine WR.pick rfl rfl rfl ?_ | refine WR.un rfl rfl ?_ | refine WR.ext rfl rfl ?_)
        exact WC.ret ⟨.inr rfl, _, rfl, rfl⟩
      · intro h; simp at h
    | true =>
      obtain ⟨f1, f2, f3⟩ := hb rfl
      repeat (first | refine WR.nil ?_ | refine WR.guardY rfl ?_ | refine WR.guardN rfl ?_ | refine WR.guardT rfl ?_ | refine WR.mov rfl ?_ | (refine WR.len (v := ?_) rfl ?_ ?_; rotate_left; first | assumption | exact rfl) | (refine WR.iadr (v := ?_) rfl rfl ?_ ?_; rotate_left; assumption) | (refine WR.fadr (v := ?_) rfl ?_ ?_; rotate_left; first | assumption | exact rfl) | (refine WR.r (v := ?_) rfl rfl (Ld.use (s0 := ?_) ?_ ?_) ?_; rotate_left; rotate_left; assumption; assumption) | (refine WR.bin (v := ?_) rfl rfl ?_ ?_; rotate_left; first | assumption | exact lss_nat _ _ | exact eql_nat _ _ | exact neq_nat _ _ | exact gtr_nat _ _ | exact geq_nat _ _ | exact leq_nat _ _ | exact eql_str _ _ | exact neq_str _ _ | (refine add_nat ?_; omega) | (refine sub_nat ?_ ?_; omega; omega)) | refine WR.pick rfl rfl rfl ?_ | refine WR.un rfl rfl ?_ | refine WR.ext rfl rfl ?_)
      (repeat refine WC.seq ?_); refine WC.cond rfl ?_ ?_
      · intro h; simp at h
      · intro _
        (repeat refine WC.seq ?_); refine WC.skip ?_
        (repeat refine WC.seq ?_); refine WC.regX hs3 fun s4 hs4 hx4 ho4 hn4 => ?_
        repeat (first | refine WR.nil ?_ | refine WR.guardY rfl ?_ | refine WR.guardN rfl ?_ | refine WR.guardT rfl ?_ | refine WR.mov rfl ?_ | (refine WR.len (v := ?_) rfl ?_ ?_; rotate_left; first | assumption | exact rfl) | (refine WR.iadr (v := ?_) rfl rfl ?_ ?_; rotate_left; assumption) | (refine WR.fadr (v := ?_) rfl ?_ ?_; rotate_left; first | assumption | exact rfl) | (refine WR.r (v := ?_) rfl rfl (Ld.use (s0 := ?_) ?_ ?_) ?_; rotate_left; rotate_left; assumption; assumption) | (refine WR.bin (v := ?_) rfl rfl ?_ ?_; rotate_left; first | assumption | exact lss_nat _ _ | exact eql_nat _ _ | exact neq_nat _ _ | exact gtr_nat _ _ | exact geq_nat _ _ | exact leq_nat _ _ | exact eql_str _ _ | exact neq_str _ _ | (refine add_nat ?_; omega) | (refine sub_nat ?_ ?_; omega; omega)) | refine WR.pick rfl rfl rfl ?_ | refine WR.un rfl rfl ?_ | refine WR.ext rfl rfl ?_)
        obtain ⟨v5, s5, d1, d2, d3⟩ := given9 (F := F0) (E := E8) (n := 299) comp9 rfl (hD.ext hs4) (by omega) (fun d hd => by have := f3 d hd; omega) (by omega)
        refine WR.fn rfl d1 ?_
        have hs5 := hs4.trans d2
        repeat (first | refine WR.nil ?_ | refine WR.guardY rfl ?_ | refine WR.guardN rfl ?_ | refine WR.guardT rfl ?_ | refine WR.mov rfl ?_ | (refine WR.len (v := ?_) rfl ?_ ?_; rotate_left; first | assumption | exact rfl) | (refine WR.iadr (v := ?_) rfl rfl ?_ ?_; rotate_left; assumption) | (refine WR.fadr (v := ?_) rfl ?_ ?_; rotate_left; first | assumption | exact rfl) | (refine WR.r (v := ?_) rfl rfl (Ld.use (s0 := ?_) ?_ ?_) ?_; rotate_left; rotate_left; assumption; assumption) | (refine WR.bin (v := ?_) rfl rfl ?_ ?_; rotate_left; first | assumption | exact lss_nat _ _ | exact eql_nat _ _ | exact neq_nat _ _ | exact gtr_nat _ _ | exact geq_nat _ _ | exact leq_nat _ _ | exact eql_str _ _ | exact neq_str _ _ | (refine add_nat ?_; omega) | (refine sub_nat ?_ ?_; omega; omega)) | refine WR.pick rfl rfl rfl ?_ | refine WR.un rfl rfl ?_ | refine WR.ext rfl rfl ?_)
        obtain ⟨v7, s7, g1, g2, ov7, out7, e7, rfl, g4, g5⟩ := order10 (F := F0) (E := E8) (n := 297) comp10 rfl comp14 rfl comp18 rfl comp19 rfl d3 d3.one (hH.ext hs5) (by omega) (by omega) (by omega) (by omega) (fun d hd => by have := f3 d hd; omega)
        refine WR.fn rfl g1 ?_
        have hs7 := hs5.trans g2
        repeat (first | refine WR.nil ?_ | refine WR.guardY rfl ?_ | refine WR.guardN rfl ?_ | refine WR.guardT rfl ?_ | refine WR.mov rfl ?_ | (refine WR.len (v := ?_) rfl ?_ ?_; rotate_left; first | assumption | exact rfl) | (refine WR.iadr (v := ?_) rfl rfl ?_ ?_; rotate_left; assumption) | (refine WR.fadr (v := ?_) rfl ?_ ?_; rotate_left; first | assumption | exact rfl) | (refine WR.r (v := ?_) rfl rfl (Ld.use (s0 := ?_) ?_ ?_) ?_; rotate_left; rotate_left; assumption; assumption) | (refine WR.bin (v := ?_) rfl rfl ?_ ?_; rotate_left; first | assumption | exact lss_nat _ _ | exact eql_nat _ _ | exact neq_nat _ _ | exact gtr_nat _ _ | exact geq_nat _ _ | exact leq_nat _ _ | exact eql_str _ _ | exact neq_str _ _ | (refine add_nat ?_; omega) | (refine sub_nat ?_ ?_; omega; omega)) | refine WR.pick rfl rfl rfl ?_ | refine WR.un rfl rfl ?_ | refine WR.ext rfl rfl ?_)
        (repeat refine WC.seq ?_); refine WC.regX hs7 fun s8 hs8 hx8 ho8 hn8 => ?_
        have fault : e7 ≠ 0 → out7 = [] → WR (acall F0 E8 300) s7.next r4_4 [(6, .int .i64 (.ofNat e7)), (5, ov7)] s8 (fun l s => WC (acall F0 E8 300) 300 (.cond (.t 22) (.seq (.reg r4_5) .ret) .skip) l s (fun x l s => x = .ret ∧ doneW fn4.results (fun v _ => v = .bool true) x l s)) := by
          intro he hout
          subst hout
          have hb := neqT he
          have h0 := (g4.ext hx8).len' (m := 0) rfl
          have hb2 := eqlT (rfl : 0 = 0)
          repeat (first | refine WR.nil ?_ | refine WR.guardY rfl ?_ | refine WR.guardN rfl ?_ | refine WR.guardT rfl ?_ | refine WR.mov rfl ?_ | (refine WR.len (v := ?_) rfl ?_ ?_; rotate_left; first | assumption | exact rfl) | (refine WR.iadr (v := ?_) rfl rfl ?_ ?_; rotate_left; assumption) | (refine WR.fadr (v := ?_) rfl ?_ ?_; rotate_left; first | assumption | exact rfl) | (refine WR.r (v := ?_) rfl rfl (Ld.use (s0 := ?_) ?_ ?_) ?_; rotate_left; rotate_left; assumption; assumption) | (refine WR.bin (v := ?_) rfl rfl ?_ ?_; rotate_left; first | assumption | exact lss_nat _ _ | exact eql_nat _ _ | exact neq_nat _ _ | exact gtr_nat _ _ | exact geq_nat _ _ | exact leq_nat _ _ | exact eql_str _ _ | exact neq_str _ _ | (refine add_nat ?_; omega) | (refine sub_nat ?_ ?_; omega; omega)) | refine WR.pick rfl rfl rfl ?_ | refine WR.un rfl rfl ?_ | refine WR.ext rfl rfl ?_)
          (repeat refine WC.seq ?_); refine WC.cond rfl ?_ ?_
          · intro _
            (repeat refine WC.seq ?_); refine WC.regX hs8 fun s9 hs9 hx9 ho9 hn9 => ?_
            repeat (first | refine WR.nil ?_ | refine WR.guardY rfl ?_ | refine WR.guardN rfl ?_ | refine WR.guardT rfl ?_ | refine WR.mov rfl ?_ | (refine WR.len (v := ?_) rfl ?_ ?_; rotate_left; first | assumption | exact rfl) | (refine WR.iadr (v := ?_) rfl rfl ?_ ?_; rotate_left; assumption) | (refine WR.fadr (v := ?_) rfl ?_ ?_; rotate_left; first | assumption | exact rfl) | (refine WR.r (v := ?_) rfl rfl (Ld.use (s0 := ?_) ?_ ?_) ?_; rotate_left; rotate_left; assumption; assumption) | (refine WR.bin (v := ?_) rfl rfl ?_ ?_; rotate_left; first | assumption | exact lss_nat _ _ | exact eql_nat _ _ | exact neq_nat _ _ | exact gtr_nat _ _ | exact geq_nat _ _ | exact leq_nat _ _ | exact eql_str _ _ | exact neq_str _ _ | (refine add_nat ?_; omega) | (refine sub_nat ?_ ?_; omega; omega)) | refine WR.pick rfl rfl rfl ?_ | refine WR.un rfl rfl ?_ | refine WR.ext rfl rfl ?_)
            refine WR.fn rfl (known8 299 _) ?_
            repeat (first | refine WR.nil ?_ | refine WR.guardY rfl ?_ | refine WR.guardN rfl ?_ | refine WR.guardT rfl ?_ | refine WR.mov rfl ?_ | (refine WR.len (v := ?_) rfl ?_ ?_; rotate_left; first | assumption | exact rfl) | (refine WR.iadr (v := ?_) rfl rfl ?_ ?_; rotate_left; assumption) | (refine WR.fadr (v := ?_) rfl ?_ ?_; rotate_left; first | assumption | exact rfl) | (refine WR.r (v := ?_) rfl rfl (Ld.use (s0 := ?_) ?_ ?_) ?_; rotate_left; rotate_left; assumption; assumption) | (refine WR.bin (v := ?_) rfl rfl ?_ ?_; rotate_left; first | assumption | exact lss_nat _ _ | exact eql_nat _ _ | exact neq_nat _ _ | exact gtr_nat _ _ | exact geq_nat _ _ | exact leq_nat _ _ | exact eql_str _ _ | exact neq_str _ _ | (refine add_nat ?_; omega) | (refine sub_nat ?_ ?_; omega; omega)) | refine WR.pick rfl rfl rfl ?_ | refine WR.un rfl rfl ?_ | refine WR.ext rfl rfl ?_)
            (repeat refine WC.seq ?_); refine WC.ret ?_
            exact ⟨rfl, .inr rfl, _, rfl, rfl⟩
          · intro h; simp at h
        have fail : e7 ≠ 0 → out7 = [] → WR (acall F0 E8 300) s7.next r4_4 [(6, .int .i64 (.ofNat e7)), (5, ov7)] s8 (fun l s => WC (acall F0 E8 300) 300 (.cond (.t 22) (.seq (.reg r4_5) .ret) .skip) l s (fun x l s => thenW x False (doneW fn4.results (fun v _ => v = .bool true) x l s))) := fun he ho => WR.mono (fault he ho) fun l s h => WC.mono h fun x l s h => by
          obtain ⟨rfl, h⟩ := h
          exact h
        rcases g5 with ⟨h1, h2, rfl⟩ | ⟨h1, h2, h3, rfl⟩ | ⟨h1, h2, h3, h4, rfl⟩ | ⟨h1, h2, h3, rfl⟩
        · refine WR.weak ?ha (WR.mono (fail (by omega) h2) fun l s h => WC.mono h fun x l s h => ?_)
          case ha => exact ⟨rfl, rfl, trivial⟩
          cases x <;> first | exact h.elim | exact h
        · refine WR.weak ?hc (WR.mono (fail (by omega) h3) fun l s h => WC.mono h fun x l s h => ?_)
          case hc => exact ⟨rfl, rfl, trivial⟩
          cases x <;> first | exact h.elim | exact h
        · refine WR.weak ?hd (WR.mono (fail (by omega) h4) fun l s h => WC.mono h fun x l s h => ?_)
          case hd => exact ⟨rfl, rfl, trivial⟩
          cases x <;> first | exact h.elim | exact h
        · have hlo : out7.length = D.length := by have := rounds_length h3; simpa using this
          have hord : Ordered (wOf D) D.length out7 := rounds_ordered (fun k h => by simp at h) h3
          have hb := neqF (rfl : 0 = 0)
          repeat (first | refine WR.nil ?_ | refine WR.guardY rfl ?_ | refine WR.guardN rfl ?_ | refine WR.guardT rfl ?_ | refine WR.mov rfl ?_ | (refine WR.len (v := ?_) rfl ?_ ?_; rotate_left; first | assumption | exact rfl) | (refine WR.iadr (v := ?_) rfl rfl ?_ ?_; rotate_left; assumption) | (refine WR.fadr (v := ?_) rfl ?_ ?_; rotate_left; first | assumption | exact rfl) | (refine WR.r (v := ?_) rfl rfl (Ld.use (s0 := ?_) ?_ ?_) ?_; rotate_left; rotate_left; assumption; assumption) | (refine WR.bin (v := ?_) rfl rfl ?_ ?_; rotate_left; first | assumption | exact lss_nat _ _ | exact eql_nat _ _ | exact neq_nat _ _ | exact gtr_nat _ _ | exact geq_nat _ _ | exact leq_nat _ _ | exact eql_str _ _ | exact neq_str _ _ | (refine add_nat ?_; omega) | (refine sub_nat ?_ ?_; omega; omega)) | refine WR.pick rfl rfl rfl ?_ | refine WR.un rfl rfl ?_ | refine WR.ext rfl rfl ?_)
          (repeat refine WC.seq ?_); refine WC.cond rfl ?_ ?_
          · intro h; simp at h
          · intro _
            (repeat refine WC.seq ?_); refine WC.skip ?_
            (repeat refine WC.seq ?_); refine WC.regX hs8 fun s9 hs9 hx9 ho9 hn9 => ?_
            have h0 := ((g4.ext hx8).ext hx9).len' (m := out7.length) (by simp [nats])
            have hl0 := (hD.ext hs9).len
            have hb2 := neqF hlo
            repeat (first | refine WR.nil ?_ | refine WR.guardY rfl ?_ | refine WR.guardN rfl ?_ | refine WR.guardT rfl ?_ | refine WR.mov rfl ?_ | (refine WR.len (v := ?_) rfl ?_ ?_; rotate_left; first | assumption | exact rfl) | (refine WR.iadr (v := ?_) rfl rfl ?_ ?_; rotate_left; assumption) | (refine WR.fadr (v := ?_) rfl ?_ ?_; rotate_left; first | assumption | exact rfl) | (refine WR.r (v := ?_) rfl rfl (Ld.use (s0 := ?_) ?_ ?_) ?_; rotate_left; rotate_left; assumption; assumption) | (refine WR.bin (v := ?_) rfl rfl ?_ ?_; rotate_left; first | assumption | exact lss_nat _ _ | exact eql_nat _ _ | exact neq_nat _ _ | exact gtr_nat _ _ | exact geq_nat _ _ | exact leq_nat _ _ | exact eql_str _ _ | exact neq_str _ _ | (refine add_nat ?_; omega) | (refine sub_nat ?_ ?_; omega; omega)) | refine WR.pick rfl rfl rfl ?_ | refine WR.un rfl rfl ?_ | refine WR.ext rfl rfl ?_)
            (repeat refine WC.seq ?_); refine WC.cond rfl ?_ ?_
            · intro h; simp at h
            · intro _
              (repeat refine WC.seq ?_); refine WC.skip ?_
              (repeat refine WC.seq ?_); refine WC.regX hs9 fun s10 hs10 hx10 ho10 hn10 => ?_
              repeat (first | refine WR.nil ?_ | refine WR.guardY rfl ?_ | refine WR.guardN rfl ?_ | refine WR.guardT rfl ?_ | refine WR.mov rfl ?_ | (refine WR.len (v := ?_) rfl ?_ ?_; rotate_left; first | assumption | exact rfl) | (refine WR.iadr (v := ?_) rfl rfl ?_ ?_; rotate_left; assumption) | (refine WR.fadr (v := ?_) rfl ?_ ?_; rotate_left; first | assumption | exact rfl) | (refine WR.r (v := ?_) rfl rfl (Ld.use (s0 := ?_) ?_ ?_) ?_; rotate_left; rotate_left; assumption; assumption) | (refine WR.bin (v := ?_) rfl rfl ?_ ?_; rotate_left; first | assumption | exact lss_nat _ _ | exact eql_nat _ _ | exact neq_nat _ _ | exact gtr_nat _ _ | exact geq_nat _ _ | exact leq_nat _ _ | exact eql_str _ _ | exact neq_str _ _ | (refine add_nat ?_; omega) | (refine sub_nat ?_ ?_; omega; omega)) | refine WR.pick rfl rfl rfl ?_ | refine WR.un rfl rfl ?_ | refine WR.ext rfl rfl ?_)
              (repeat refine WC.seq ?_); refine WC.blk (WC.loop ?_)
              refine WL.weak ?hw1 (WL.mono (loop4b (hD.ext hs10) (((g4.ext hx8).ext hx9).ext hx10) (by omega) (fun d hd => by have := f3 d hd; omega) hord hlo h1 out7.length 0 _ 300 (by omega) (by omega) (Ext.refl _)) ?_)
              case hw1 => exact ⟨rfl, rfl, rfl, trivial⟩
              rintro x l s11 ⟨rfl, h11⟩
              have hs11 := hs10.trans h11
              (repeat refine WC.seq ?_); refine WC.regX hs11 fun s12 hs12 hx12 ho12 hn12 => ?_
              refine WR.fn rfl (known8 299 _) ?_
              repeat (first | refine WR.nil ?_ | refine WR.guardY rfl ?_ | refine WR.guardN rfl ?_ | refine WR.guardT rfl ?_ | refine WR.mov rfl ?_ | (refine WR.len (v := ?_) rfl ?_ ?_; rotate_left; first | assumption | exact rfl) | (refine WR.iadr (v := ?_) rfl rfl ?_ ?_; rotate_left; assumption) | (refine WR.fadr (v := ?_) rfl ?_ ?_; rotate_left; first | assumption | exact rfl) | (refine WR.r (v := ?_) rfl rfl (Ld.use (s0 := ?_) ?_ ?_) ?_; rotate_left; rotate_left; assumption; assumption) | (refine WR.bin (v := ?_) rfl rfl ?_ ?_; rotate_left; first | assumption | exact lss_nat _ _ | exact eql_nat _ _ | exact neq_nat _ _ | exact gtr_nat _ _ | exact geq_nat _ _ | exact leq_nat _ _ | exact eql_str _ _ | exact neq_str _ _ | (refine add_nat ?_; omega) | (refine sub_nat ?_ ?_; omega; omega)) | refine WR.pick rfl rfl rfl ?_ | refine WR.un rfl rfl ?_ | refine WR.ext rfl rfl ?_)
              (repeat refine WC.seq ?_); refine WC.ret ?_
              exact ⟨.inr rfl, _, rfl, rfl⟩
  obtain ⟨v, s', h1, rfl⟩ := this
  exact ⟨s', h1⟩
end Go.Proofs.Ytbcnhellcpeecaa
