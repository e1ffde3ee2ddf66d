/- DepsMore: more that there is already makes no other order; what needs nothing more stands behind an order as it is: told of the evaluator. -/
import Derived.Test.YtbcnhellcpeecaaDepsD
import Derived.Test.YtbcnhellcpeecaaAbsOwn0
set_option autoImplicit false
set_option maxRecDepth 100000
set_option linter.unusedVariables false
namespace Go.Proofs.Ytbcnhellcpeecaa
open Go Go.Abs
/-! The plain law. -/
theorem missing_more {D : List Dep} {ns : List (List Nat)} {more : List Nat} (h : ¬ missing D ns) : ¬ missing D (ns ++ [more]) := by
  rintro ⟨d, hd, q, hq, h1, h2⟩
  exact h ⟨d, hd, q, hq, h1, fun hm => h2 (List.mem_append_left _ hm)⟩
theorem OrderS.more {D : List Dep} {ns : List (List Nat)} {more : List Nat} {out out' : List Nat} {e' : Nat} (h : OrderS D ns out 0) (k : OrderS D (ns ++ [more]) out' e') : e' = 0 ∧ out = out' := by
  rcases h with ⟨_, _, h⟩ | ⟨_, _, _, h⟩ | ⟨_, _, _, _, h⟩ | ⟨h1, h2, h3, _⟩
  · omega
  · omega
  · omega
  · rcases k with ⟨k, _, _⟩ | ⟨_, k, _, _⟩ | ⟨_, _, k, _, _⟩ | ⟨_, _, k, rfl⟩
    · exact absurd k h1
    · exact absurd k (missing_more h2)
    · rw [h3] at k; simp at k
    · rw [h3] at k; cases k; exact ⟨rfl, rfl⟩
theorem first_app {D : List Dep} {x : Dep} {q : List Nat} (h : q ≠ x.name) : first (D ++ [x]) q = first D q := by
  unfold first
  rw [List.findIdx?_append]
  cases h2 : D.findIdx? fun d => decide (d.name = q) with
  | some k => rfl
  | none => simp; exact fun e => h e.symm
theorem first_app_some {D : List Dep} {x : Dep} {q : List Nat} {k : Nat} (h : first D q = some k) : first (D ++ [x]) q = some k := by
  unfold first at h ⊢
  rw [List.findIdx?_append, h]; rfl
theorem scan_is {p : Nat → Bool} : ∀ {c i j : Nat}, i ≤ j → j < i + c → p j = true → ∃ k, scan p c i = some k
  | 0, i, j, h1, h2, _ => by omega
  | c + 1, i, j, h1, h2, hp => by
    simp only [scan]
    by_cases hi : p i = true
    · exact ⟨i, by rw [if_pos hi]⟩
    · rw [if_neg hi]
      have : i ≠ j := fun e => hi (by rw [e]; exact hp)
      exact scan_is (by omega) (by omega) hp
theorem scan_more {p p' : Nat → Bool} : ∀ {c i j : Nat}, (∀ k, k < i + c → p' k = p k) → scan p c i = some j → scan p' (c + 1) i = some j
  | 0, i, j, _, h => by simp [scan] at h
  | c + 1, i, j, he, h => by
    rw [scan] at h ⊢
    rw [he i (by omega)]
    by_cases hi : p i = true
    · rw [if_pos hi] at h ⊢; exact h
    · rw [if_neg hi] at h ⊢
      exact scan_more (fun k hk => he k (by omega)) h
theorem rounds_more {W W' : Nat → List Nat} {n : Nat} (hW : ∀ i, i < n → W' i = W i) : ∀ {c : Nat} {o r : List Nat}, rounds W n c o = some r → rounds W' (n + 1) c o = some r
  | 0, o, r, h => h
  | c + 1, o, r, h => by
    simp only [rounds] at h ⊢
    cases hsc : scan (ready W o) n 0 with
    | none => rw [hsc] at h; simp at h
    | some i =>
      rw [hsc] at h
      rw [scan_more (p := ready W o) (fun k hk => by unfold ready; rw [hW k (by omega)]) hsc]
      exact rounds_more hW h
theorem rounds_add {W : Nat → List Nat} {n : Nat} : ∀ {c d : Nat} {o r : List Nat}, rounds W n c o = some r → rounds W n (c + d) o = rounds W n d r
  | 0, d, o, r, h => by simp [rounds] at h; subst h; rw [Nat.zero_add]
  | c + 1, d, o, r, h => by
    rw [show c + 1 + d = (c + d) + 1 by omega]
    simp only [rounds] at h ⊢
    cases hsc : scan (ready W o) n 0 with
    | none => rw [hsc] at h; simp at h
    | some i => rw [hsc] at h; exact rounds_add h
/-- What needs nothing more stands behind an order. -/
theorem OrderS.longer {D : List Dep} {ns : List (List Nat)} {more : List Nat} {out out' : List Nat} {e' : Nat} (h : OrderS D ns out 0) (hn : ∀ d ∈ D, d.name ≠ more) (hm : ∀ d ∈ D, ∀ q ∈ d.needs, q ≠ more)
    (k : OrderS (D ++ [(⟨more, []⟩ : Dep)]) ns out' e') : e' = 0 ∧ out'.length = out.length + 1 := by
  rcases h with ⟨_, _, h⟩ | ⟨_, _, _, h⟩ | ⟨_, _, _, _, h⟩ | ⟨h1, h2, h3, _⟩
  · omega
  · omega
  · omega
  · have tw : ¬ twice (D ++ [(⟨more, []⟩ : Dep)]) := by
      rintro ⟨i, hi, e⟩
      by_cases hlt : i < D.length
      · rw [List.getElem_append_left hlt] at e
        refine e (first_app_some ?_)
        exact Classical.byContradiction fun e2 => h1 ⟨i, hlt, e2⟩
      · simp at hi
        have : i = D.length := by omega
        subst this
        apply e
        rw [first_some]
        refine ⟨by simp, by simp, fun j hj => ?_⟩
        rw [List.getElem_append_left hj]
        simp
        exact hn _ (List.getElem_mem _)
    have ms : ¬ missing (D ++ [(⟨more, []⟩ : Dep)]) ns := by
      rintro ⟨d, hd, q, hq, e1, e2⟩
      rcases List.mem_append.1 hd with hd | hd
      · rw [first_app (by simpa using hm d hd q hq)] at e1
        exact h2 ⟨d, hd, q, hq, e1, e2⟩
      · simp at hd; subst hd; simp at hq
    have hW : ∀ i, i < D.length → wOf (D ++ [(⟨more, []⟩ : Dep)]) i = wOf D i := by
      intro i hi
      unfold wOf
      have : needsOf (D ++ [(⟨more, []⟩ : Dep)]) i = needsOf D i := by
        rw [needsOf_lt hi, needsOf_lt (show i < (D ++ [(⟨more, []⟩ : Dep)]).length by simp; omega), List.getElem_append_left hi]
      rw [this, needsOf_lt hi]
      congr 1
      have : ∀ l : List (List Nat), (∀ q ∈ l, q ≠ more) → l.filterMap (first (D ++ [(⟨more, []⟩ : Dep)])) = l.filterMap (first D) := by
        intro l
        induction l with
        | nil => intro _; rfl
        | cons q l ih =>
          intro hq
          simp only [List.filterMap_cons]
          rw [first_app (by simpa using hq q (by simp)), ih fun q' h => hq q' (by simp [h])]
      exact this _ fun q hq => hm _ (List.getElem_mem hi) q hq
    have hlen : (D ++ [(⟨more, []⟩ : Dep)]).length = D.length + 1 := by simp
    have hr := rounds_add (d := 1) (rounds_more hW h3)
    have hord : Ordered (wOf D) D.length out := rounds_ordered (fun k h => by simp at h) h3
    have hnot : D.length ∉ out := by
      intro hmem
      obtain ⟨k, hk, e⟩ := List.getElem_of_mem hmem
      have := (hord k hk).2
      omega
    have hlast : ready (wOf (D ++ [(⟨more, []⟩ : Dep)])) out D.length = true := by
      rw [ready_iff]
      refine ⟨hnot, fun q hq => ?_⟩
      unfold wOf at hq
      rw [needsOf_lt (show D.length < (D ++ [(⟨more, []⟩ : Dep)]).length by simp)] at hq
      simp at hq
    obtain ⟨kk, hkk⟩ := scan_is (p := ready (wOf (D ++ [(⟨more, []⟩ : Dep)])) out) (c := D.length + 1) (i := 0) (j := D.length) (by omega) (by omega) hlast
    have hlo := rounds_length h3
    rcases k with ⟨k, _, _⟩ | ⟨_, k, _, _⟩ | ⟨_, _, k, _, _⟩ | ⟨_, _, k, rfl⟩
    · exact absurd k tw
    · exact absurd k ms
    · rw [hlen, hr] at k
      simp [rounds, hkk] at k
    · rw [hlen] at k
      have := rounds_length k
      simp at this hlo
      exact ⟨rfl, by omega⟩

/-! The walk. -/
variable {s0 s : St} {lv hv ov : AV} {D : List Dep} {ns : List (List Nat)} {out : List Nat} {more : List Nat}
/-- An end: the checks were asked for their answer; or nothing met. -/
def Seen (s0 : St) (j : Nat) (B : Prop) (G : SL) (x : AX) (l : SL) (s : St) : Prop := Ext s0 s ∧ ((x = .ret ∧ lkS l 6 = some (.bool true)) ∨ (x = .ext j ∧ B ∧ Sub2 G l))
theorem loop6a (hD : DepsV s0 lv D) (hlen : D.length < 299) {a1 a7 : AV} {i : Nat} (hi : i < D.length) (hn : D[i].needs.length < 299) :
    ∀ (j k : Nat) (s : St) (f : Nat), k + j = D[i].needs.length → j < f → (∀ q (h : q < D[i].needs.length), q < k → D[i].needs[q] ≠ more) → Ext s0 s →
      WL (acall F0 E8 300) 300 b6_0 f [(0, lv), (1, a1), (2, .str more), (7, a7), (12, .int .i64 (.ofNat i)), (13, .int .i64 (.ofNat k))] s
        (Seen s0 2 (∀ q ∈ D[i].needs, q ≠ more) [(0, lv), (1, a1), (2, .str more), (7, a7), (12, .int .i64 (.ofNat i))]) := by
  obtain ⟨p, q0, q1, nv, e1, e2, e3, e4, e5, e6, e7⟩ := hD.at hi
  have h0 := e6.len' (m := D[i].needs.length) (by simp [strs])
  intro j
  induction j with
  | zero =>
    intro k s f hk hf hq hs
    obtain ⟨f, rfl⟩ : ∃ g, f = g + 1 := ⟨f - 1, by omega⟩
    refine WL.round ?_
    (repeat refine WC.seq ?_); refine WC.regX hs fun s1 hs1 hx1 ho1 hn1 => ?_
    repeat (first | refine WR.nil ?_ | refine WR.guardY rfl ?_ | refine WR.guardN rfl ?_ | refine WR.guardT rfl ?_ | refine WR.mov rfl ?_ | (refine WR.len (v := ?_) rfl ?_ ?_; rotate_left; first | assumption | exact rfl) | (refine WR.iadr (v := ?_) rfl rfl ?_ ?_; rotate_left; assumption) | (refine WR.fadr (v := ?_) rfl ?_ ?_; rotate_left; first | assumption | exact rfl) | (refine WR.r (v := ?_) rfl rfl (Ld.use (s0 := ?_) ?_ ?_) ?_; rotate_left; rotate_left; assumption; assumption) | (refine WR.bin (v := ?_) rfl rfl ?_ ?_; rotate_left; first | assumption | exact lss_nat _ _ | exact eql_nat _ _ | exact neq_nat _ _ | exact gtr_nat _ _ | exact geq_nat _ _ | exact leq_nat _ _ | exact eql_str _ _ | exact neq_str _ _ | (refine add_nat ?_; omega) | (refine sub_nat ?_ ?_; omega; omega)) | refine WR.pick rfl rfl rfl ?_ | refine WR.un rfl rfl ?_ | refine WR.ext rfl rfl ?_)
    (repeat refine WC.seq ?_); refine WC.cond rfl ?_ ?_
    · intro h; simp at h; omega
    · intro h
      refine WC.ext ⟨hs1, .inr ⟨rfl, fun q hq2 => ?_, rfl, rfl, rfl, rfl, rfl, trivial⟩⟩
      obtain ⟨r, hr, rfl⟩ := List.getElem_of_mem hq2
      exact hq r hr (by omega)
  | succ j ih =>
    intro k s f hk hf hq hs
    obtain ⟨f, rfl⟩ : ∃ g, f = g + 1 := ⟨f - 1, by omega⟩
    have hkl : k < D[i].needs.length := by omega
    obtain ⟨p2, hp2, hld2⟩ := e6.at1 (i := k) (a := .str D[i].needs[k]) (by simp [strs, hkl])
    refine WL.round ?_
    (repeat refine WC.seq ?_); refine WC.regX hs fun s1 hs1 hx1 ho1 hn1 => ?_
    repeat (first | refine WR.nil ?_ | refine WR.guardY rfl ?_ | refine WR.guardN rfl ?_ | refine WR.guardT rfl ?_ | refine WR.mov rfl ?_ | (refine WR.len (v := ?_) rfl ?_ ?_; rotate_left; first | assumption | exact rfl) | (refine WR.iadr (v := ?_) rfl rfl ?_ ?_; rotate_left; assumption) | (refine WR.fadr (v := ?_) rfl ?_ ?_; rotate_left; first | assumption | exact rfl) | (refine WR.r (v := ?_) rfl rfl (Ld.use (s0 := ?_) ?_ ?_) ?_; rotate_left; rotate_left; assumption; assumption) | (refine WR.bin (v := ?_) rfl rfl ?_ ?_; rotate_left; first | assumption | exact lss_nat _ _ | exact eql_nat _ _ | exact neq_nat _ _ | exact gtr_nat _ _ | exact geq_nat _ _ | exact leq_nat _ _ | exact eql_str _ _ | exact neq_str _ _ | (refine add_nat ?_; omega) | (refine sub_nat ?_ ?_; omega; omega)) | refine WR.pick rfl rfl rfl ?_ | refine WR.un rfl rfl ?_ | refine WR.ext rfl rfl ?_)
    (repeat refine WC.seq ?_); refine WC.cond rfl ?_ ?_
    · intro _
      (repeat refine WC.seq ?_); refine WC.skip ?_
      (repeat refine WC.seq ?_); refine WC.blk ?_
      (repeat refine WC.seq ?_); refine WC.regX hs1 fun s2 hs2 hx2 ho2 hn2 => ?_
      repeat (first | refine WR.nil ?_ | refine WR.guardY rfl ?_ | refine WR.guardN rfl ?_ | refine WR.guardT rfl ?_ | refine WR.mov rfl ?_ | (refine WR.len (v := ?_) rfl ?_ ?_; rotate_left; first | assumption | exact rfl) | (refine WR.iadr (v := ?_) rfl rfl ?_ ?_; rotate_left; assumption) | (refine WR.fadr (v := ?_) rfl ?_ ?_; rotate_left; first | assumption | exact rfl) | (refine WR.r (v := ?_) rfl rfl (Ld.use (s0 := ?_) ?_ ?_) ?_; rotate_left; rotate_left; assumption; assumption) | (refine WR.bin (v := ?_) rfl rfl ?_ ?_; rotate_left; first | assumption | exact lss_nat _ _ | exact eql_nat _ _ | exact neq_nat _ _ | exact gtr_nat _ _ | exact geq_nat _ _ | exact leq_nat _ _ | exact eql_str _ _ | exact neq_str _ _ | (refine add_nat ?_; omega) | (refine sub_nat ?_ ?_; omega; omega)) | refine WR.pick rfl rfl rfl ?_ | refine WR.un rfl rfl ?_ | refine WR.ext rfl rfl ?_)
      (repeat refine WC.seq ?_); refine WC.cond rfl ?_ ?_
      · intro h
        (repeat refine WC.seq ?_); refine WC.regX hs2 fun s3 hs3 hx3 ho3 hn3 => ?_
        refine WR.fn rfl (known8 299 _) ?_
        repeat (first | refine WR.nil ?_ | refine WR.guardY rfl ?_ | refine WR.guardN rfl ?_ | refine WR.guardT rfl ?_ | refine WR.mov rfl ?_ | (refine WR.len (v := ?_) rfl ?_ ?_; rotate_left; first | assumption | exact rfl) | (refine WR.iadr (v := ?_) rfl rfl ?_ ?_; rotate_left; assumption) | (refine WR.fadr (v := ?_) rfl ?_ ?_; rotate_left; first | assumption | exact rfl) | (refine WR.r (v := ?_) rfl rfl (Ld.use (s0 := ?_) ?_ ?_) ?_; rotate_left; rotate_left; assumption; assumption) | (refine WR.bin (v := ?_) rfl rfl ?_ ?_; rotate_left; first | assumption | exact lss_nat _ _ | exact eql_nat _ _ | exact neq_nat _ _ | exact gtr_nat _ _ | exact geq_nat _ _ | exact leq_nat _ _ | exact eql_str _ _ | exact neq_str _ _ | (refine add_nat ?_; omega) | (refine sub_nat ?_ ?_; omega; omega)) | refine WR.pick rfl rfl rfl ?_ | refine WR.un rfl rfl ?_ | refine WR.ext rfl rfl ?_)
        exact WC.ret ⟨hs3, .inl ⟨rfl, rfl⟩⟩
      · intro h
        simp at h
        (repeat refine WC.seq ?_); refine WC.skip ?_
        (repeat refine WC.seq ?_); refine WC.regX hs2 fun s3 hs3 hx3 ho3 hn3 => ?_
        repeat (first | refine WR.nil ?_ | refine WR.guardY rfl ?_ | refine WR.guardN rfl ?_ | refine WR.guardT rfl ?_ | refine WR.mov rfl ?_ | (refine WR.len (v := ?_) rfl ?_ ?_; rotate_left; first | assumption | exact rfl) | (refine WR.iadr (v := ?_) rfl rfl ?_ ?_; rotate_left; assumption) | (refine WR.fadr (v := ?_) rfl ?_ ?_; rotate_left; first | assumption | exact rfl) | (refine WR.r (v := ?_) rfl rfl (Ld.use (s0 := ?_) ?_ ?_) ?_; rotate_left; rotate_left; assumption; assumption) | (refine WR.bin (v := ?_) rfl rfl ?_ ?_; rotate_left; first | assumption | exact lss_nat _ _ | exact eql_nat _ _ | exact neq_nat _ _ | exact gtr_nat _ _ | exact geq_nat _ _ | exact leq_nat _ _ | exact eql_str _ _ | exact neq_str _ _ | (refine add_nat ?_; omega) | (refine sub_nat ?_ ?_; omega; omega)) | refine WR.pick rfl rfl rfl ?_ | refine WR.un rfl rfl ?_ | refine WR.ext rfl rfl ?_)
        refine WL.weak ?hw (ih (k + 1) _ f (by omega) (by omega) ?_ hs3)
        case hw => exact ⟨rfl, rfl, rfl, rfl, rfl, rfl, trivial⟩
        intro r hr hrk
        by_cases e : r = k
        · subst e; exact h
        · exact hq r hr (by omega)
    · intro h; simp at h; omega
theorem loop6b (hD : DepsV s0 lv D) (hlen : D.length < 299) {a1 a7 : AV} (hn : ∀ d ∈ D, d.needs.length < 299) :
    ∀ (j k : Nat) (s : St) (f : Nat), k + j = D.length → j < f → (∀ i (h : i < D.length), i < k → D[i].name ≠ more ∧ ∀ q ∈ D[i].needs, q ≠ more) → Ext s0 s →
      WL (acall F0 E8 300) 300 b6_1 f [(0, lv), (1, a1), (2, .str more), (7, a7), (12, .int .i64 (.ofNat k))] s
        (Seen s0 0 ((∀ d ∈ D, d.name ≠ more) ∧ ∀ d ∈ D, ∀ q ∈ d.needs, q ≠ more) [(0, lv), (1, a1), (2, .str more), (7, a7)]) := by
  have h0 := hD.len
  intro j
  induction j with
  | zero =>
    intro k s f hk hf hq hs
    obtain ⟨f, rfl⟩ : ∃ g, f = g + 1 := ⟨f - 1, by omega⟩
    refine WL.round ?_
    (repeat refine WC.seq ?_); refine WC.regX hs fun s1 hs1 hx1 ho1 hn1 => ?_
    repeat (first | refine WR.nil ?_ | refine WR.guardY rfl ?_ | refine WR.guardN rfl ?_ | refine WR.guardT rfl ?_ | refine WR.mov rfl ?_ | (refine WR.len (v := ?_) rfl ?_ ?_; rotate_left; first | assumption | exact rfl) | (refine WR.iadr (v := ?_) rfl rfl ?_ ?_; rotate_left; assumption) | (refine WR.fadr (v := ?_) rfl ?_ ?_; rotate_left; first | assumption | exact rfl) | (refine WR.r (v := ?_) rfl rfl (Ld.use (s0 := ?_) ?_ ?_) ?_; rotate_left; rotate_left; assumption; assumption) | (refine WR.bin (v := ?_) rfl rfl ?_ ?_; rotate_left; first | assumption | exact lss_nat _ _ | exact eql_nat _ _ | exact neq_nat _ _ | exact gtr_nat _ _ | exact geq_nat _ _ | exact leq_nat _ _ | exact eql_str _ _ | exact neq_str _ _ | (refine add_nat ?_; omega) | (refine sub_nat ?_ ?_; omega; omega)) | refine WR.pick rfl rfl rfl ?_ | refine WR.un rfl rfl ?_ | refine WR.ext rfl rfl ?_)
    (repeat refine WC.seq ?_); refine WC.cond rfl ?_ ?_
    · intro h; simp at h; omega
    · intro h
      refine WC.ext ⟨hs1, .inr ⟨rfl, ⟨fun d hd => ?_, fun d hd => ?_⟩, rfl, rfl, rfl, rfl, trivial⟩⟩
      · obtain ⟨i, hi, rfl⟩ := List.getElem_of_mem hd
        exact (hq i hi (by omega)).1
      · obtain ⟨i, hi, rfl⟩ := List.getElem_of_mem hd
        exact (hq i hi (by omega)).2
  | succ j ih =>
    intro k s f hk hf hq hs
    obtain ⟨f, rfl⟩ : ∃ g, f = g + 1 := ⟨f - 1, by omega⟩
    have hkl : k < D.length := by omega
    obtain ⟨p, q0, q1, nv, e1, e2, e3, e4, e5, e6, e7⟩ := hD.at hkl
    have hnk := hn D[k] (List.getElem_mem _)
    refine WL.round ?_
    (repeat refine WC.seq ?_); refine WC.regX hs fun s1 hs1 hx1 ho1 hn1 => ?_
    repeat (first | refine WR.nil ?_ | refine WR.guardY rfl ?_ | refine WR.guardN rfl ?_ | refine WR.guardT rfl ?_ | refine WR.mov rfl ?_ | (refine WR.len (v := ?_) rfl ?_ ?_; rotate_left; first | assumption | exact rfl) | (refine WR.iadr (v := ?_) rfl rfl ?_ ?_; rotate_left; assumption) | (refine WR.fadr (v := ?_) rfl ?_ ?_; rotate_left; first | assumption | exact rfl) | (refine WR.r (v := ?_) rfl rfl (Ld.use (s0 := ?_) ?_ ?_) ?_; rotate_left; rotate_left; assumption; assumption) | (refine WR.bin (v := ?_) rfl rfl ?_ ?_; rotate_left; first | assumption | exact lss_nat _ _ | exact eql_nat _ _ | exact neq_nat _ _ | exact gtr_nat _ _ | exact geq_nat _ _ | exact leq_nat _ _ | exact eql_str _ _ | exact neq_str _ _ | (refine add_nat ?_; omega) | (refine sub_nat ?_ ?_; omega; omega)) | refine WR.pick rfl rfl rfl ?_ | refine WR.un rfl rfl ?_ | refine WR.ext rfl rfl ?_)
    (repeat refine WC.seq ?_); refine WC.cond rfl ?_ ?_
    · intro _
      (repeat refine WC.seq ?_); refine WC.skip ?_
      (repeat refine WC.seq ?_); refine WC.blk ?_
      (repeat refine WC.seq ?_); refine WC.regX hs1 fun s2 hs2 hx2 ho2 hn2 => ?_
      repeat (first | refine WR.nil ?_ | refine WR.guardY rfl ?_ | refine WR.guardN rfl ?_ | refine WR.guardT rfl ?_ | refine WR.mov rfl ?_ | (refine WR.len (v := ?_) rfl ?_ ?_; rotate_left; first | assumption | exact rfl) | (refine WR.iadr (v := ?_) rfl rfl ?_ ?_; rotate_left; assumption) | (refine WR.fadr (v := ?_) rfl ?_ ?_; rotate_left; first | assumption | exact rfl) | (refine WR.r (v := ?_) rfl rfl (Ld.use (s0 := ?_) ?_ ?_) ?_; rotate_left; rotate_left; assumption; assumption) | (refine WR.bin (v := ?_) rfl rfl ?_ ?_; rotate_left; first | assumption | exact lss_nat _ _ | exact eql_nat _ _ | exact neq_nat _ _ | exact gtr_nat _ _ | exact geq_nat _ _ | exact leq_nat _ _ | exact eql_str _ _ | exact neq_str _ _ | (refine add_nat ?_; omega) | (refine sub_nat ?_ ?_; omega; omega)) | refine WR.pick rfl rfl rfl ?_ | refine WR.un rfl rfl ?_ | refine WR.ext rfl rfl ?_)
      (repeat refine WC.seq ?_); refine WC.cond rfl ?_ ?_
      · intro h
        (repeat refine WC.seq ?_); refine WC.regX hs2 fun s3 hs3 hx3 ho3 hn3 => ?_
        refine WR.fn rfl (known8 299 _) ?_
        repeat (first | refine WR.nil ?_ | refine WR.guardY rfl ?_ | refine WR.guardN rfl ?_ | refine WR.guardT rfl ?_ | refine WR.mov rfl ?_ | (refine WR.len (v := ?_) rfl ?_ ?_; rotate_left; first | assumption | exact rfl) | (refine WR.iadr (v := ?_) rfl rfl ?_ ?_; rotate_left; assumption) | (refine WR.fadr (v := ?_) rfl ?_ ?_; rotate_left; first | assumption | exact rfl) | (refine WR.r (v := ?_) rfl rfl (Ld.use (s0 := ?_) ?_ ?_) ?_; rotate_left; rotate_left; assumption; assumption) | (refine WR.bin (v := ?_) rfl rfl ?_ ?_; rotate_left; first | assumption | exact lss_nat _ _ | exact eql_nat _ _ | exact neq_nat _ _ | exact gtr_nat _ _ | exact geq_nat _ _ | exact leq_nat _ _ | exact eql_str _ _ | exact neq_str _ _ | (refine add_nat ?_; omega) | (refine sub_nat ?_ ?_; omega; omega)) | refine WR.pick rfl rfl rfl ?_ | refine WR.un rfl rfl ?_ | refine WR.ext rfl rfl ?_)
        exact WC.ret ⟨hs3, .inl ⟨rfl, rfl⟩⟩
      · intro h
        simp at h
        (repeat refine WC.seq ?_); refine WC.skip ?_
        (repeat refine WC.seq ?_); refine WC.regX hs2 fun s3 hs3 hx3 ho3 hn3 => ?_
        repeat (first | refine WR.nil ?_ | refine WR.guardY rfl ?_ | refine WR.guardN rfl ?_ | refine WR.guardT rfl ?_ | refine WR.mov rfl ?_ | (refine WR.len (v := ?_) rfl ?_ ?_; rotate_left; first | assumption | exact rfl) | (refine WR.iadr (v := ?_) rfl rfl ?_ ?_; rotate_left; assumption) | (refine WR.fadr (v := ?_) rfl ?_ ?_; rotate_left; first | assumption | exact rfl) | (refine WR.r (v := ?_) rfl rfl (Ld.use (s0 := ?_) ?_ ?_) ?_; rotate_left; rotate_left; assumption; assumption) | (refine WR.bin (v := ?_) rfl rfl ?_ ?_; rotate_left; first | assumption | exact lss_nat _ _ | exact eql_nat _ _ | exact neq_nat _ _ | exact gtr_nat _ _ | exact geq_nat _ _ | exact leq_nat _ _ | exact eql_str _ _ | exact neq_str _ _ | (refine add_nat ?_; omega) | (refine sub_nat ?_ ?_; omega; omega)) | refine WR.pick rfl rfl rfl ?_ | refine WR.un rfl rfl ?_ | refine WR.ext rfl rfl ?_)
        (repeat refine WC.seq ?_); refine WC.blk (WC.loop ?_)
        refine WL.weak ?hw (WL.mono (loop6a (more := more) (a1 := a1) (a7 := a7) hD hlen hkl hnk D[k].needs.length 0 _ 300 (by omega) (by omega) (fun q _ h => absurd h (by omega)) hs3) ?_)
        case hw => exact ⟨rfl, rfl, rfl, rfl, rfl, rfl, trivial⟩
        rintro x l s4 ⟨hs4, ⟨rfl, h4⟩ | ⟨rfl, h4, h5⟩⟩
        · exact ⟨hs4, .inl ⟨rfl, h4⟩⟩
        · refine WC.weak h5 ?_
          (repeat refine WC.seq ?_); refine WC.regX hs4 fun s5 hs5 hx5 ho5 hn5 => ?_
          repeat (first | refine WR.nil ?_ | refine WR.guardY rfl ?_ | refine WR.guardN rfl ?_ | refine WR.guardT rfl ?_ | refine WR.mov rfl ?_ | (refine WR.len (v := ?_) rfl ?_ ?_; rotate_left; first | assumption | exact rfl) | (refine WR.iadr (v := ?_) rfl rfl ?_ ?_; rotate_left; assumption) | (refine WR.fadr (v := ?_) rfl ?_ ?_; rotate_left; first | assumption | exact rfl) | (refine WR.r (v := ?_) rfl rfl (Ld.use (s0 := ?_) ?_ ?_) ?_; rotate_left; rotate_left; assumption; assumption) | (refine WR.bin (v := ?_) rfl rfl ?_ ?_; rotate_left; first | assumption | exact lss_nat _ _ | exact eql_nat _ _ | exact neq_nat _ _ | exact gtr_nat _ _ | exact geq_nat _ _ | exact leq_nat _ _ | exact eql_str _ _ | exact neq_str _ _ | (refine add_nat ?_; omega) | (refine sub_nat ?_ ?_; omega; omega)) | refine WR.pick rfl rfl rfl ?_ | refine WR.un rfl rfl ?_ | refine WR.ext rfl rfl ?_)
          refine WL.weak ?hw2 (ih (k + 1) _ f (by omega) (by omega) ?_ hs5)
          case hw2 => exact ⟨rfl, rfl, rfl, rfl, rfl, trivial⟩
          intro i hi hik
          by_cases e : i = k
          · subst e; exact ⟨h, h4⟩
          · exact hq i hi (by omega)
    · intro h; simp at h; omega
theorem told6 (hD : DepsV s0 lv D) (hH : Slv s0 1 hv (strs ns)) : ∃ s', acall F0 E8 301 6 [lv, hv, .str more] s0 = some (.bool true, s') := by
  have hs := Ext.refl s0
  have : ∃ v s', acall F0 E8 301 6 [lv, hv, .str more] s0 = some (v, s') ∧ v = .bool true := by
    refine acall_of (n := 300) (P := fun v _ => v = .bool true) rfl comp6 (Nat.le_of_ble_eq_true rfl) ?_
    (repeat refine WC.seq ?_); refine WC.regX hs fun s1 hs1 hx1 ho1 hn1 => ?_
    repeat (first | refine WR.nil ?_ | refine WR.guardY rfl ?_ | refine WR.guardN rfl ?_ | refine WR.guardT rfl ?_ | refine WR.mov rfl ?_ | (refine WR.len (v := ?_) rfl ?_ ?_; rotate_left; first | assumption | exact rfl) | (refine WR.iadr (v := ?_) rfl rfl ?_ ?_; rotate_left; assumption) | (refine WR.fadr (v := ?_) rfl ?_ ?_; rotate_left; first | assumption | exact rfl) | (refine WR.r (v := ?_) rfl rfl (Ld.use (s0 := ?_) ?_ ?_) ?_; rotate_left; rotate_left; assumption; assumption) | (refine WR.bin (v := ?_) rfl rfl ?_ ?_; rotate_left; first | assumption | exact lss_nat _ _ | exact eql_nat _ _ | exact neq_nat _ _ | exact gtr_nat _ _ | exact geq_nat _ _ | exact leq_nat _ _ | exact eql_str _ _ | exact neq_str _ _ | (refine add_nat ?_; omega) | (refine sub_nat ?_ ?_; omega; omega)) | refine WR.pick rfl rfl rfl ?_ | refine WR.un rfl rfl ?_ | refine WR.ext rfl rfl ?_)
    (repeat refine WC.seq ?_); refine WC.regX hs1 fun s2 hs2 hx2 ho2 hn2 => ?_
    repeat (first | refine WR.nil ?_ | refine WR.guardY rfl ?_ | refine WR.guardN rfl ?_ | refine WR.guardT rfl ?_ | refine WR.mov rfl ?_ | (refine WR.len (v := ?_) rfl ?_ ?_; rotate_left; first | assumption | exact rfl) | (refine WR.iadr (v := ?_) rfl rfl ?_ ?_; rotate_left; assumption) | (refine WR.fadr (v := ?_) rfl ?_ ?_; rotate_left; first | assumption | exact rfl) | (refine WR.r (v := ?_) rfl rfl (Ld.use (s0 := ?_) ?_ ?_) ?_; rotate_left; rotate_left; assumption; assumption) | (refine WR.bin (v := ?_) rfl rfl ?_ ?_; rotate_left; first | assumption | exact lss_nat _ _ | exact eql_nat _ _ | exact neq_nat _ _ | exact gtr_nat _ _ | exact geq_nat _ _ | exact leq_nat _ _ | exact eql_str _ _ | exact neq_str _ _ | (refine add_nat ?_; omega) | (refine sub_nat ?_ ?_; omega; omega)) | refine WR.pick rfl rfl rfl ?_ | refine WR.un rfl rfl ?_ | refine WR.ext rfl rfl ?_)
    obtain ⟨v3, s3, c1, c2, b, rfl, hb⟩ := light7 (F := F0) (E := E8) (n := 299) comp7 rfl (hD.ext hs2) (hH.ext hs2) (by omega)
    refine WR.fn rfl c1 ?_
    have hs3 := hs2.trans c2
    have far : ∀ (l : SL) (s : St) (Q : AX → SL → St → Prop), Ext s0 s → (∀ x l s, x = .ret → doneW fn6.results (fun v _ => v = .bool true) x l s → Q x l s) → WC (acall F0 E8 300) 300 (.seq (.reg r6_2) .ret) l s Q := by
      intro l s Q hs hQ
      (repeat refine WC.seq ?_); refine WC.regX hs fun s4 hs4 hx4 ho4 hn4 => ?_
      refine WR.fn rfl (known8 299 _) ?_
      repeat (first | refine WR.nil ?_ | refine WR.guardY rfl ?_ | refine WR.guardN rfl ?_ | refine WR.guardT rfl ?_ | refine WR.mov rfl ?_ | (refine WR.len (v := ?_) rfl ?_ ?_; rotate_left; first | assumption | exact rfl) | (refine WR.iadr (v := ?_) rfl rfl ?_ ?_; rotate_left; assumption) | (refine WR.fadr (v := ?_) rfl ?_ ?_; rotate_left; first | assumption | exact rfl) | (refine WR.r (v := ?_) rfl rfl (Ld.use (s0 := ?_) ?_ ?_) ?_; rotate_left; rotate_left; assumption; assumption) | (refine WR.bin (v := ?_) rfl rfl ?_ ?_; rotate_left; first | assumption | exact lss_nat _ _ | exact eql_nat _ _ | exact neq_nat _ _ | exact gtr_nat _ _ | exact geq_nat _ _ | exact leq_nat _ _ | exact eql_str _ _ | exact neq_str _ _ | (refine add_nat ?_; omega) | (refine sub_nat ?_ ?_; omega; omega)) | refine WR.pick rfl rfl rfl ?_ | refine WR.un rfl rfl ?_ | refine WR.ext rfl rfl ?_)
      exact WC.ret (hQ _ _ _ rfl ⟨.inr rfl, _, rfl, rfl⟩)
    cases b with
    | false =>
      repeat (first | refine WR.nil ?_ | refine WR.guardY rfl ?_ | refine WR.guardN rfl ?_ | refine WR.guardT rfl ?_ | refine WR.mov rfl ?_ | (refine WR.len (v := ?_) rfl ?_ ?_; rotate_left; first | assumption | exact rfl) | (refine WR.iadr (v := ?_) rfl rfl ?_ ?_; rotate_left; assumption) | (refine WR.fadr (v := ?_) rfl ?_ ?_; rotate_left; first | assumption | exact rfl) | (refine WR.r (v := ?_) rfl rfl (Ld.use (s0 := ?_) ?_ ?_) ?_; rotate_left; rotate_left; assumption; assumption) | (refine WR.bin (v := ?_) rfl rfl ?_ ?_; rotate_left; first | assumption | exact lss_nat _ _ | exact eql_nat _ _ | exact neq_nat _ _ | exact gtr_nat _ _ | exact geq_nat _ _ | exact leq_nat _ _ | exact eql_str _ _ | exact neq_str _ _ | (refine add_nat ?_; omega) | (refine sub_nat ?_ ?_; omega; omega)) | refine WR.pick rfl rfl rfl ?_ | refine WR.un rfl rfl ?_ | refine WR.ext rfl rfl ?_)
      (repeat refine WC.seq ?_); refine WC.cond rfl ?_ ?_
      · intro _
        exact far _ _ _ hs3 fun x l s hx h => by subst hx; exact h
      · intro h; simp at h
    | true =>
      obtain ⟨f1, f2, f3⟩ := hb rfl
      have f3' : ∀ d ∈ D, d.needs.length < 1000 ∧ d.needs.length < 298 := fun d hd => by have := f3 d hd; omega
      by_cases hbig : 100 < more.length
      · have hb' := gtrT hbig
        repeat (first | refine WR.nil ?_ | refine WR.guardY rfl ?_ | refine WR.guardN rfl ?_ | refine WR.guardT rfl ?_ | refine WR.mov rfl ?_ | (refine WR.len (v := ?_) rfl ?_ ?_; rotate_left; first | assumption | exact rfl) | (refine WR.iadr (v := ?_) rfl rfl ?_ ?_; rotate_left; assumption) | (refine WR.fadr (v := ?_) rfl ?_ ?_; rotate_left; first | assumption | exact rfl) | (refine WR.r (v := ?_) rfl rfl (Ld.use (s0 := ?_) ?_ ?_) ?_; rotate_left; rotate_left; assumption; assumption) | (refine WR.bin (v := ?_) rfl rfl ?_ ?_; rotate_left; first | assumption | exact lss_nat _ _ | exact eql_nat _ _ | exact neq_nat _ _ | exact gtr_nat _ _ | exact geq_nat _ _ | exact leq_nat _ _ | exact eql_str _ _ | exact neq_str _ _ | (refine add_nat ?_; omega) | (refine sub_nat ?_ ?_; omega; omega)) | refine WR.pick rfl rfl rfl ?_ | refine WR.un rfl rfl ?_ | refine WR.ext rfl rfl ?_)
        (repeat refine WC.seq ?_); refine WC.cond rfl ?_ ?_
        · intro _
          exact far _ _ _ hs3 fun x l s hx h => by subst hx; exact h
        · intro h; simp at h
      · have hb' := gtrF hbig
        repeat (first | refine WR.nil ?_ | refine WR.guardY rfl ?_ | refine WR.guardN rfl ?_ | refine WR.guardT rfl ?_ | refine WR.mov rfl ?_ | (refine WR.len (v := ?_) rfl ?_ ?_; rotate_left; first | assumption | exact rfl) | (refine WR.iadr (v := ?_) rfl rfl ?_ ?_; rotate_left; assumption) | (refine WR.fadr (v := ?_) rfl ?_ ?_; rotate_left; first | assumption | exact rfl) | (refine WR.r (v := ?_) rfl rfl (Ld.use (s0 := ?_) ?_ ?_) ?_; rotate_left; rotate_left; assumption; assumption) | (refine WR.bin (v := ?_) rfl rfl ?_ ?_; rotate_left; first | assumption | exact lss_nat _ _ | exact eql_nat _ _ | exact neq_nat _ _ | exact gtr_nat _ _ | exact geq_nat _ _ | exact leq_nat _ _ | exact eql_str _ _ | exact neq_str _ _ | (refine add_nat ?_; omega) | (refine sub_nat ?_ ?_; omega; omega)) | refine WR.pick rfl rfl rfl ?_ | refine WR.un rfl rfl ?_ | refine WR.ext rfl rfl ?_)
        (repeat refine WC.seq ?_); refine WC.cond rfl ?_ ?_
        · intro h; simp at h
        · intro _
          (repeat refine WC.seq ?_); refine WC.skip ?_
          (repeat refine WC.seq ?_); refine WC.regX hs3 fun s4 hs4 hx4 ho4 hn4 => ?_
          repeat (first | refine WR.nil ?_ | refine WR.guardY rfl ?_ | refine WR.guardN rfl ?_ | refine WR.guardT rfl ?_ | refine WR.mov rfl ?_ | (refine WR.len (v := ?_) rfl ?_ ?_; rotate_left; first | assumption | exact rfl) | (refine WR.iadr (v := ?_) rfl rfl ?_ ?_; rotate_left; assumption) | (refine WR.fadr (v := ?_) rfl ?_ ?_; rotate_left; first | assumption | exact rfl) | (refine WR.r (v := ?_) rfl rfl (Ld.use (s0 := ?_) ?_ ?_) ?_; rotate_left; rotate_left; assumption; assumption) | (refine WR.bin (v := ?_) rfl rfl ?_ ?_; rotate_left; first | assumption | exact lss_nat _ _ | exact eql_nat _ _ | exact neq_nat _ _ | exact gtr_nat _ _ | exact geq_nat _ _ | exact leq_nat _ _ | exact eql_str _ _ | exact neq_str _ _ | (refine add_nat ?_; omega) | (refine sub_nat ?_ ?_; omega; omega)) | refine WR.pick rfl rfl rfl ?_ | refine WR.un rfl rfl ?_ | refine WR.ext rfl rfl ?_)
          obtain ⟨v5, s5, d1, d2, d3⟩ := given9 (F := F0) (E := E8) (n := 299) comp9 rfl (hD.ext hs4) (by omega) (fun d hd => (f3' d hd).1) (by omega)
          refine WR.fn rfl d1 ?_
          have hs5 := hs4.trans d2
          repeat (first | refine WR.nil ?_ | refine WR.guardY rfl ?_ | refine WR.guardN rfl ?_ | refine WR.guardT rfl ?_ | refine WR.mov rfl ?_ | (refine WR.len (v := ?_) rfl ?_ ?_; rotate_left; first | assumption | exact rfl) | (refine WR.iadr (v := ?_) rfl rfl ?_ ?_; rotate_left; assumption) | (refine WR.fadr (v := ?_) rfl ?_ ?_; rotate_left; first | assumption | exact rfl) | (refine WR.r (v := ?_) rfl rfl (Ld.use (s0 := ?_) ?_ ?_) ?_; rotate_left; rotate_left; assumption; assumption) | (refine WR.bin (v := ?_) rfl rfl ?_ ?_; rotate_left; first | assumption | exact lss_nat _ _ | exact eql_nat _ _ | exact neq_nat _ _ | exact gtr_nat _ _ | exact geq_nat _ _ | exact leq_nat _ _ | exact eql_str _ _ | exact neq_str _ _ | (refine add_nat ?_; omega) | (refine sub_nat ?_ ?_; omega; omega)) | refine WR.pick rfl rfl rfl ?_ | refine WR.un rfl rfl ?_ | refine WR.ext rfl rfl ?_)
          obtain ⟨v7, s7, g1, g2, ov7, out7, e7, rfl, g4, g5⟩ := order10 (F := F0) (E := E8) (n := 297) comp10 rfl comp14 rfl comp18 rfl comp19 rfl d3 d3.one (hH.ext hs5) (by omega) (by omega) (by omega) (by omega) f3'
          refine WR.fn rfl g1 ?_
          have hs7 := hs5.trans g2
          repeat (first | refine WR.nil ?_ | refine WR.guardY rfl ?_ | refine WR.guardN rfl ?_ | refine WR.guardT rfl ?_ | refine WR.mov rfl ?_ | (refine WR.len (v := ?_) rfl ?_ ?_; rotate_left; first | assumption | exact rfl) | (refine WR.iadr (v := ?_) rfl rfl ?_ ?_; rotate_left; assumption) | (refine WR.fadr (v := ?_) rfl ?_ ?_; rotate_left; first | assumption | exact rfl) | (refine WR.r (v := ?_) rfl rfl (Ld.use (s0 := ?_) ?_ ?_) ?_; rotate_left; rotate_left; assumption; assumption) | (refine WR.bin (v := ?_) rfl rfl ?_ ?_; rotate_left; first | assumption | exact lss_nat _ _ | exact eql_nat _ _ | exact neq_nat _ _ | exact gtr_nat _ _ | exact geq_nat _ _ | exact leq_nat _ _ | exact eql_str _ _ | exact neq_str _ _ | (refine add_nat ?_; omega) | (refine sub_nat ?_ ?_; omega; omega)) | refine WR.pick rfl rfl rfl ?_ | refine WR.un rfl rfl ?_ | refine WR.ext rfl rfl ?_)
          (repeat refine WC.seq ?_); refine WC.regX hs7 fun s8 hs8 hx8 ho8 hn8 => ?_
          refine WR.lits rfl ?_
          repeat (first | refine WR.nil ?_ | refine WR.guardY rfl ?_ | refine WR.guardN rfl ?_ | refine WR.guardT rfl ?_ | refine WR.mov rfl ?_ | (refine WR.len (v := ?_) rfl ?_ ?_; rotate_left; first | assumption | exact rfl) | (refine WR.iadr (v := ?_) rfl rfl ?_ ?_; rotate_left; assumption) | (refine WR.fadr (v := ?_) rfl ?_ ?_; rotate_left; first | assumption | exact rfl) | (refine WR.r (v := ?_) rfl rfl (Ld.use (s0 := ?_) ?_ ?_) ?_; rotate_left; rotate_left; assumption; assumption) | (refine WR.bin (v := ?_) rfl rfl ?_ ?_; rotate_left; first | assumption | exact lss_nat _ _ | exact eql_nat _ _ | exact neq_nat _ _ | exact gtr_nat _ _ | exact geq_nat _ _ | exact leq_nat _ _ | exact eql_str _ _ | exact neq_str _ _ | (refine add_nat ?_; omega) | (refine sub_nat ?_ ?_; omega; omega)) | refine WR.pick rfl rfl rfl ?_ | refine WR.un rfl rfl ?_ | refine WR.ext rfl rfl ?_)
          generalize hs9 : St.put s8 _ _ = s9
          have hx9 : Ext s7 s9 := by rw [← hs9]; exact hx8.put (Nat.le_refl _) _
          have hn9 : s9.next = s8.next := by rw [← hs9]; rfl
          have hid9 : s7.next < s9.next := by rw [hn9, hn8]; simp [r6_4]
          have own9 : Own0 s9 s7.next 1 (.slc s7.next 0 0 0 0 1) [] := .inr ⟨rfl, by omega, _, rfl, Nat.le_refl _, hid9, by rw [← hs9, get_put, if_pos rfl]; rfl⟩
          obtain ⟨va, sa, a1, a2, a3, a4⟩ := own9.app (bytes := 16) (hH.ext (hs7.trans hx9)) (by simp [strs, lim]; omega)
          refine WR.append rfl rfl a1 ?_
          repeat (first | refine WR.nil ?_ | refine WR.guardY rfl ?_ | refine WR.guardN rfl ?_ | refine WR.guardT rfl ?_ | refine WR.mov rfl ?_ | (refine WR.len (v := ?_) rfl ?_ ?_; rotate_left; first | assumption | exact rfl) | (refine WR.iadr (v := ?_) rfl rfl ?_ ?_; rotate_left; assumption) | (refine WR.fadr (v := ?_) rfl ?_ ?_; rotate_left; first | assumption | exact rfl) | (refine WR.r (v := ?_) rfl rfl (Ld.use (s0 := ?_) ?_ ?_) ?_; rotate_left; rotate_left; assumption; assumption) | (refine WR.bin (v := ?_) rfl rfl ?_ ?_; rotate_left; first | assumption | exact lss_nat _ _ | exact eql_nat _ _ | exact neq_nat _ _ | exact gtr_nat _ _ | exact geq_nat _ _ | exact leq_nat _ _ | exact eql_str _ _ | exact neq_str _ _ | (refine add_nat ?_; omega) | (refine sub_nat ?_ ?_; omega; omega)) | refine WR.pick rfl rfl rfl ?_ | refine WR.un rfl rfl ?_ | refine WR.ext rfl rfl ?_)
          refine WR.lits (fillL1 rfl ⟨rfl, rfl⟩ (by simp [rep]) rfl) ?_
          have na := a3.next
          have hxa : Ext s7 sa := a3.ext hx9 fun id hid => own9.offOld hid
          have hidl0 : s8.next = s7.next + 7 := by rw [hn8]; rfl
          have hidl : s7.next + 1 + 1 + 1 + 1 < sa.next := by omega
          generalize hidb : s7.next + 1 + 1 + 1 + 1 = idl at hidl ⊢
          generalize hsb : St.put sa _ _ = sb
          have hxb : Ext s7 sb := by rw [← hsb]; exact hxa.put (by omega) _
          have hnb : sb.next = sa.next := by rw [← hsb]; rfl
          have offa : offId va idl := by
            have ha := a4 idl
            simp only [offId] at ha
            exact ha (by omega) (by omega)
          have ownb : Own0 sb s7.next 1 va (strs ns) := by
            have a2' : Own0 sa s7.next 1 va (strs ns) := by simpa using a2
            rw [← hsb]
            rcases a2' with h | ⟨e, h0, j, rfl, h1, h2, h3⟩
            · exact .inl (h.put offa _)
            · refine .inr ⟨e, h0, j, rfl, h1, h2, ?_⟩
              rw [get_put, if_neg offa]; exact h3
          have litb : Slv sb 1 (.slc idl 0 0 1 1 1) (strs [more]) := by
            refine ⟨by simp [strs], rfl, rfl, by omega, [.str more], ?_, rfl⟩
            rw [← hsb]; simp only [St.cells, get_put, if_pos]; rfl
          obtain ⟨vc, sc, b1, b2, b3, b4⟩ := ownb.app (bytes := 16) litb (by simp [strs, lim]; omega)
          refine WR.append rfl rfl b1 ?_
          repeat (first | refine WR.nil ?_ | refine WR.guardY rfl ?_ | refine WR.guardN rfl ?_ | refine WR.guardT rfl ?_ | refine WR.mov rfl ?_ | (refine WR.len (v := ?_) rfl ?_ ?_; rotate_left; first | assumption | exact rfl) | (refine WR.iadr (v := ?_) rfl rfl ?_ ?_; rotate_left; assumption) | (refine WR.fadr (v := ?_) rfl ?_ ?_; rotate_left; first | assumption | exact rfl) | (refine WR.r (v := ?_) rfl rfl (Ld.use (s0 := ?_) ?_ ?_) ?_; rotate_left; rotate_left; assumption; assumption) | (refine WR.bin (v := ?_) rfl rfl ?_ ?_; rotate_left; first | assumption | exact lss_nat _ _ | exact eql_nat _ _ | exact neq_nat _ _ | exact gtr_nat _ _ | exact geq_nat _ _ | exact leq_nat _ _ | exact eql_str _ _ | exact neq_str _ _ | (refine add_nat ?_; omega) | (refine sub_nat ?_ ?_; omega; omega)) | refine WR.pick rfl rfl rfl ?_ | refine WR.un rfl rfl ?_ | refine WR.ext rfl rfl ?_)
          have hxc : Ext s7 sc := b3.ext hxb fun id hid => ownb.offOld hid
          have hsc := hs7.trans hxc
          have slc : Slv sc 1 vc (strs (ns ++ [more])) := by
            have := b2.slv
            rwa [show strs ns ++ strs [more] = strs (ns ++ [more]) by simp [strs]] at this
          have oc : Slv sc 1 ov7 (nats out7) := g4.ext hxc
          (repeat refine WC.seq ?_); refine WC.regX hsc fun s10 hs10 hx10 ho10 hn10 => ?_
          repeat (first | refine WR.nil ?_ | refine WR.guardY rfl ?_ | refine WR.guardN rfl ?_ | refine WR.guardT rfl ?_ | refine WR.mov rfl ?_ | (refine WR.len (v := ?_) rfl ?_ ?_; rotate_left; first | assumption | exact rfl) | (refine WR.iadr (v := ?_) rfl rfl ?_ ?_; rotate_left; assumption) | (refine WR.fadr (v := ?_) rfl ?_ ?_; rotate_left; first | assumption | exact rfl) | (refine WR.r (v := ?_) rfl rfl (Ld.use (s0 := ?_) ?_ ?_) ?_; rotate_left; rotate_left; assumption; assumption) | (refine WR.bin (v := ?_) rfl rfl ?_ ?_; rotate_left; first | assumption | exact lss_nat _ _ | exact eql_nat _ _ | exact neq_nat _ _ | exact gtr_nat _ _ | exact geq_nat _ _ | exact leq_nat _ _ | exact eql_str _ _ | exact neq_str _ _ | (refine add_nat ?_; omega) | (refine sub_nat ?_ ?_; omega; omega)) | refine WR.pick rfl rfl rfl ?_ | refine WR.un rfl rfl ?_ | refine WR.ext rfl rfl ?_)
          obtain ⟨v11, s11, i1, i2, i3⟩ := given9 (F := F0) (E := E8) (n := 299) comp9 rfl (hD.ext hs10) (by omega) (fun d hd => (f3' d hd).1) (by omega)
          refine WR.fn rfl i1 ?_
          have hs11 := hs10.trans i2
          repeat (first | refine WR.nil ?_ | refine WR.guardY rfl ?_ | refine WR.guardN rfl ?_ | refine WR.guardT rfl ?_ | refine WR.mov rfl ?_ | (refine WR.len (v := ?_) rfl ?_ ?_; rotate_left; first | assumption | exact rfl) | (refine WR.iadr (v := ?_) rfl rfl ?_ ?_; rotate_left; assumption) | (refine WR.fadr (v := ?_) rfl ?_ ?_; rotate_left; first | assumption | exact rfl) | (refine WR.r (v := ?_) rfl rfl (Ld.use (s0 := ?_) ?_ ?_) ?_; rotate_left; rotate_left; assumption; assumption) | (refine WR.bin (v := ?_) rfl rfl ?_ ?_; rotate_left; first | assumption | exact lss_nat _ _ | exact eql_nat _ _ | exact neq_nat _ _ | exact gtr_nat _ _ | exact geq_nat _ _ | exact leq_nat _ _ | exact eql_str _ _ | exact neq_str _ _ | (refine add_nat ?_; omega) | (refine sub_nat ?_ ?_; omega; omega)) | refine WR.pick rfl rfl rfl ?_ | refine WR.un rfl rfl ?_ | refine WR.ext rfl rfl ?_)
          obtain ⟨v12, s12, j1, j2, ov12, out12, e12, rfl, j4, j5⟩ := order10 (F := F0) (E := E8) (n := 297) comp10 rfl comp14 rfl comp18 rfl comp19 rfl i3 i3.one ((slc.ext hx10).ext i2) (by omega) (by simp; omega) (by omega) (by simp; omega) f3'
          refine WR.fn rfl j1 ?_
          have hs12 := hs11.trans j2
          repeat (first | refine WR.nil ?_ | refine WR.guardY rfl ?_ | refine WR.guardN rfl ?_ | refine WR.guardT rfl ?_ | refine WR.mov rfl ?_ | (refine WR.len (v := ?_) rfl ?_ ?_; rotate_left; first | assumption | exact rfl) | (refine WR.iadr (v := ?_) rfl rfl ?_ ?_; rotate_left; assumption) | (refine WR.fadr (v := ?_) rfl ?_ ?_; rotate_left; first | assumption | exact rfl) | (refine WR.r (v := ?_) rfl rfl (Ld.use (s0 := ?_) ?_ ?_) ?_; rotate_left; rotate_left; assumption; assumption) | (refine WR.bin (v := ?_) rfl rfl ?_ ?_; rotate_left; first | assumption | exact lss_nat _ _ | exact eql_nat _ _ | exact neq_nat _ _ | exact gtr_nat _ _ | exact geq_nat _ _ | exact leq_nat _ _ | exact eql_str _ _ | exact neq_str _ _ | (refine add_nat ?_; omega) | (refine sub_nat ?_ ?_; omega; omega)) | refine WR.pick rfl rfl rfl ?_ | refine WR.un rfl rfl ?_ | refine WR.ext rfl rfl ?_)
          (repeat refine WC.seq ?_); refine WC.regX hs12 fun s13 hs13 hx13 ho13 hn13 => ?_
          by_cases he7 : e7 = 0
          · subst he7
            obtain ⟨rfl, rfl⟩ := g5.more j5
            have hb := neqF (rfl : 0 = 0)
            repeat (first | refine WR.nil ?_ | refine WR.guardY rfl ?_ | refine WR.guardN rfl ?_ | refine WR.guardT rfl ?_ | refine WR.mov rfl ?_ | (refine WR.len (v := ?_) rfl ?_ ?_; rotate_left; first | assumption | exact rfl) | (refine WR.iadr (v := ?_) rfl rfl ?_ ?_; rotate_left; assumption) | (refine WR.fadr (v := ?_) rfl ?_ ?_; rotate_left; first | assumption | exact rfl) | (refine WR.r (v := ?_) rfl rfl (Ld.use (s0 := ?_) ?_ ?_) ?_; rotate_left; rotate_left; assumption; assumption) | (refine WR.bin (v := ?_) rfl rfl ?_ ?_; rotate_left; first | assumption | exact lss_nat _ _ | exact eql_nat _ _ | exact neq_nat _ _ | exact gtr_nat _ _ | exact geq_nat _ _ | exact leq_nat _ _ | exact eql_str _ _ | exact neq_str _ _ | (refine add_nat ?_; omega) | (refine sub_nat ?_ ?_; omega; omega)) | refine WR.pick rfl rfl rfl ?_ | refine WR.un rfl rfl ?_ | refine WR.ext rfl rfl ?_)
            (repeat refine WC.seq ?_); refine WC.cond rfl ?_ ?_
            · intro h; simp at h
            · intro _
              (repeat refine WC.seq ?_); refine WC.skip ?_
              (repeat refine WC.seq ?_); refine WC.regX hs13 fun s14 hs14 hx14 ho14 hn14 => ?_
              repeat (first | refine WR.nil ?_ | refine WR.guardY rfl ?_ | refine WR.guardN rfl ?_ | refine WR.guardT rfl ?_ | refine WR.mov rfl ?_ | (refine WR.len (v := ?_) rfl ?_ ?_; rotate_left; first | assumption | exact rfl) | (refine WR.iadr (v := ?_) rfl rfl ?_ ?_; rotate_left; assumption) | (refine WR.fadr (v := ?_) rfl ?_ ?_; rotate_left; first | assumption | exact rfl) | (refine WR.r (v := ?_) rfl rfl (Ld.use (s0 := ?_) ?_ ?_) ?_; rotate_left; rotate_left; assumption; assumption) | (refine WR.bin (v := ?_) rfl rfl ?_ ?_; rotate_left; first | assumption | exact lss_nat _ _ | exact eql_nat _ _ | exact neq_nat _ _ | exact gtr_nat _ _ | exact geq_nat _ _ | exact leq_nat _ _ | exact eql_str _ _ | exact neq_str _ _ | (refine add_nat ?_; omega) | (refine sub_nat ?_ ?_; omega; omega)) | refine WR.pick rfl rfl rfl ?_ | refine WR.un rfl rfl ?_ | refine WR.ext rfl rfl ?_)
              have o7 : Slv s14 1 ov7 (nats out7) := ((((oc.ext hx10).ext i2).ext j2).ext hx13).ext hx14
              have o12 : Slv s14 1 ov12 (nats out7) := (j4.ext hx13).ext hx14
              have hol := g5.length
              obtain ⟨v15, s15, m1, m2, rfl⟩ := ints12 (F := F0) (E := E8) (n := 299) comp12 rfl o7 o12 (by omega) (by omega)
              refine WR.fn rfl m1 ?_
              simp only [decide_true]
              have hs15 := hs14.trans m2
              repeat (first | refine WR.nil ?_ | refine WR.guardY rfl ?_ | refine WR.guardN rfl ?_ | refine WR.guardT rfl ?_ | refine WR.mov rfl ?_ | (refine WR.len (v := ?_) rfl ?_ ?_; rotate_left; first | assumption | exact rfl) | (refine WR.iadr (v := ?_) rfl rfl ?_ ?_; rotate_left; assumption) | (refine WR.fadr (v := ?_) rfl ?_ ?_; rotate_left; first | assumption | exact rfl) | (refine WR.r (v := ?_) rfl rfl (Ld.use (s0 := ?_) ?_ ?_) ?_; rotate_left; rotate_left; assumption; assumption) | (refine WR.bin (v := ?_) rfl rfl ?_ ?_; rotate_left; first | assumption | exact lss_nat _ _ | exact eql_nat _ _ | exact neq_nat _ _ | exact gtr_nat _ _ | exact geq_nat _ _ | exact leq_nat _ _ | exact eql_str _ _ | exact neq_str _ _ | (refine add_nat ?_; omega) | (refine sub_nat ?_ ?_; omega; omega)) | refine WR.pick rfl rfl rfl ?_ | refine WR.un rfl rfl ?_ | refine WR.ext rfl rfl ?_)
              (repeat refine WC.seq ?_); refine WC.cond rfl ?_ ?_
              · intro h; simp at h
              · intro _
                (repeat refine WC.seq ?_); refine WC.skip ?_
                (repeat refine WC.seq ?_); refine WC.regX hs15 fun s16 hs16 hx16 ho16 hn16 => ?_
                repeat (first | refine WR.nil ?_ | refine WR.guardY rfl ?_ | refine WR.guardN rfl ?_ | refine WR.guardT rfl ?_ | refine WR.mov rfl ?_ | (refine WR.len (v := ?_) rfl ?_ ?_; rotate_left; first | assumption | exact rfl) | (refine WR.iadr (v := ?_) rfl rfl ?_ ?_; rotate_left; assumption) | (refine WR.fadr (v := ?_) rfl ?_ ?_; rotate_left; first | assumption | exact rfl) | (refine WR.r (v := ?_) rfl rfl (Ld.use (s0 := ?_) ?_ ?_) ?_; rotate_left; rotate_left; assumption; assumption) | (refine WR.bin (v := ?_) rfl rfl ?_ ?_; rotate_left; first | assumption | exact lss_nat _ _ | exact eql_nat _ _ | exact neq_nat _ _ | exact gtr_nat _ _ | exact geq_nat _ _ | exact leq_nat _ _ | exact eql_str _ _ | exact neq_str _ _ | (refine add_nat ?_; omega) | (refine sub_nat ?_ ?_; omega; omega)) | refine WR.pick rfl rfl rfl ?_ | refine WR.un rfl rfl ?_ | refine WR.ext rfl rfl ?_)
                (repeat refine WC.seq ?_); refine WC.blk (WC.loop ?_)
                refine WL.weak ?hw (WL.mono (loop6b (more := more) (a1 := hv) (a7 := ov7) (hD.ext hs16) (by omega) (fun d hd => by have := f3 d hd; omega) D.length 0 _ 300 (by omega) (by omega) (fun q _ h => absurd h (by omega)) (Ext.refl _)) ?_)
                case hw => exact ⟨rfl, rfl, rfl, rfl, rfl, trivial⟩
                rintro x l s17 ⟨h17, ⟨rfl, h18⟩ | ⟨rfl, ⟨h18, h19⟩, h20⟩⟩
                · exact ⟨.inr rfl, _, by simp only [fn6, ressL, resL, h18]; rfl, rfl⟩
                · refine WC.weak h20 ?_
                  have hs17 := hs16.trans h17
                  (repeat refine WC.seq ?_); refine WC.regX hs17 fun s20 hs20 hx20 ho20 hn20 => ?_
                  refine WR.lits rfl ?_
                  repeat (first | refine WR.nil ?_ | refine WR.guardY rfl ?_ | refine WR.guardN rfl ?_ | refine WR.guardT rfl ?_ | refine WR.mov rfl ?_ | (refine WR.len (v := ?_) rfl ?_ ?_; rotate_left; first | assumption | exact rfl) | (refine WR.iadr (v := ?_) rfl rfl ?_ ?_; rotate_left; assumption) | (refine WR.fadr (v := ?_) rfl ?_ ?_; rotate_left; first | assumption | exact rfl) | (refine WR.r (v := ?_) rfl rfl (Ld.use (s0 := ?_) ?_ ?_) ?_; rotate_left; rotate_left; assumption; assumption) | (refine WR.bin (v := ?_) rfl rfl ?_ ?_; rotate_left; first | assumption | exact lss_nat _ _ | exact eql_nat _ _ | exact neq_nat _ _ | exact gtr_nat _ _ | exact geq_nat _ _ | exact leq_nat _ _ | exact eql_str _ _ | exact neq_str _ _ | (refine add_nat ?_; omega) | (refine sub_nat ?_ ?_; omega; omega)) | refine WR.pick rfl rfl rfl ?_ | refine WR.un rfl rfl ?_ | refine WR.ext rfl rfl ?_)
                  generalize hs21 : St.put s20 _ _ = s21
                  have hx21 : Ext s17 s21 := by rw [← hs21]; exact hx20.put (Nat.le_refl _) _
                  have hn21 : s21.next = s20.next := by rw [← hs21]; rfl
                  have hn20' : s20.next = s17.next + 8 := by rw [hn20]; rfl
                  have own21 : Own0 s21 s17.next 2 (.slc s17.next 0 0 0 0 2) [] := .inr ⟨rfl, by omega, _, rfl, Nat.le_refl _, by omega, by rw [← hs21, get_put, if_pos rfl]; rfl⟩
                  have hs21' := hs17.trans hx21
                  obtain ⟨rows, r1, r2, r3⟩ := hD
                  obtain ⟨vp, sp, p1, p2, p3, p4⟩ := own21.app (bytes := 40) (r1.ext hs21') (by simp [lim]; omega)
                  refine WR.append rfl rfl p1 ?_
                  repeat (first | refine WR.nil ?_ | refine WR.guardY rfl ?_ | refine WR.guardN rfl ?_ | refine WR.guardT rfl ?_ | refine WR.mov rfl ?_ | (refine WR.len (v := ?_) rfl ?_ ?_; rotate_left; first | assumption | exact rfl) | (refine WR.iadr (v := ?_) rfl rfl ?_ ?_; rotate_left; assumption) | (refine WR.fadr (v := ?_) rfl ?_ ?_; rotate_left; first | assumption | exact rfl) | (refine WR.r (v := ?_) rfl rfl (Ld.use (s0 := ?_) ?_ ?_) ?_; rotate_left; rotate_left; assumption; assumption) | (refine WR.bin (v := ?_) rfl rfl ?_ ?_; rotate_left; first | assumption | exact lss_nat _ _ | exact eql_nat _ _ | exact neq_nat _ _ | exact gtr_nat _ _ | exact geq_nat _ _ | exact leq_nat _ _ | exact eql_str _ _ | exact neq_str _ _ | (refine add_nat ?_; omega) | (refine sub_nat ?_ ?_; omega; omega)) | refine WR.pick rfl rfl rfl ?_ | refine WR.un rfl rfl ?_ | refine WR.ext rfl rfl ?_)
                  refine WR.build (fillL1 rfl ⟨rfl, rfl⟩ (by simp) rfl) ?_
                  refine WR.lits (fillLn rfl rfl (by simp [rep]) rfl) ?_
                  have np := p3.next
                  have hxp : Ext s17 sp := p3.ext hx21 fun id hid => own21.offOld hid
                  generalize hidq : s17.next + 1 + 1 + 1 + 1 + 1 = idq
                  generalize hsq : St.put sp _ _ = sq
                  have hxq : Ext s17 sq := by rw [← hsq]; exact hxp.put (by omega) _
                  have hnq : sq.next = sp.next := by rw [← hsq]; rfl
                  have offq : offId vp idq := by
                    have ha := p4 idq
                    simp only [offId] at ha
                    exact ha (by omega) (by omega)
                  have ownq : Own0 sq s17.next 2 vp rows := by
                    have p2' : Own0 sp s17.next 2 vp rows := by simpa using p2
                    rw [← hsq]
                    rcases p2' with h | ⟨e, h0, j, rfl, h1, h2, h3⟩
                    · exact .inl (h.put offq _)
                    · refine .inr ⟨e, h0, j, rfl, h1, h2, ?_⟩
                      rw [get_put, if_neg offq]; exact h3
                  have litq : Slv sq 2 (.slc idq 0 0 1 1 2) [[.str more, .nilslc]] := by
                    refine ⟨by simp, rfl, rfl, by omega, [.str more, .nilslc], ?_, rfl⟩
                    rw [← hsq]; simp only [St.cells, get_put, if_pos]; rfl
                  obtain ⟨vr, sr, t1, t2, t3, t4⟩ := ownq.app (bytes := 40) litq (by simp [lim]; omega)
                  refine WR.append rfl rfl t1 ?_
                  repeat (first | refine WR.nil ?_ | refine WR.guardY rfl ?_ | refine WR.guardN rfl ?_ | refine WR.guardT rfl ?_ | refine WR.mov rfl ?_ | (refine WR.len (v := ?_) rfl ?_ ?_; rotate_left; first | assumption | exact rfl) | (refine WR.iadr (v := ?_) rfl rfl ?_ ?_; rotate_left; assumption) | (refine WR.fadr (v := ?_) rfl ?_ ?_; rotate_left; first | assumption | exact rfl) | (refine WR.r (v := ?_) rfl rfl (Ld.use (s0 := ?_) ?_ ?_) ?_; rotate_left; rotate_left; assumption; assumption) | (refine WR.bin (v := ?_) rfl rfl ?_ ?_; rotate_left; first | assumption | exact lss_nat _ _ | exact eql_nat _ _ | exact neq_nat _ _ | exact gtr_nat _ _ | exact geq_nat _ _ | exact leq_nat _ _ | exact eql_str _ _ | exact neq_str _ _ | (refine add_nat ?_; omega) | (refine sub_nat ?_ ?_; omega; omega)) | refine WR.pick rfl rfl rfl ?_ | refine WR.un rfl rfl ?_ | refine WR.ext rfl rfl ?_)
                  have hxr : Ext s17 sr := t3.ext hxq fun id hid => ownq.offOld hid
                  have hsr := hs17.trans hxr
                  have hDr : DepsV sr vr (D ++ [(⟨more, []⟩ : Dep)]) := by
                    refine ⟨_, t2.slv, by simp [r2], fun i d hd => ?_⟩
                    by_cases hi : i < D.length
                    · rw [List.getElem?_append_left hi] at hd
                      obtain ⟨nv, n1, n2⟩ := r3 i d hd
                      exact ⟨nv, by rw [List.getElem?_append_left (by omega)]; exact n1, n2.ext hsr⟩
                    · rw [List.getElem?_append_right (by omega)] at hd
                      have hi0 : i - D.length = 0 := by
                        rw [List.getElem?_eq_some_iff] at hd
                        obtain ⟨h, _⟩ := hd
                        simp at h; omega
                      rw [hi0] at hd
                      simp at hd
                      subst hd
                      exact ⟨.nilslc, by rw [List.getElem?_append_right (by omega), r2, hi0]; rfl, ⟨by simp [strs], rfl⟩⟩
                  have f4 : ∀ d ∈ D ++ [(⟨more, []⟩ : Dep)], d.needs.length < 1000 ∧ d.needs.length < 298 := by
                    intro d hd
                    rcases List.mem_append.1 hd with hd | hd
                    · exact f3' d hd
                    · simp at hd; subst hd; simp
                  (repeat refine WC.seq ?_); refine WC.regX hsr fun s22 hs22 hx22 ho22 hn22 => ?_
                  repeat (first | refine WR.nil ?_ | refine WR.guardY rfl ?_ | refine WR.guardN rfl ?_ | refine WR.guardT rfl ?_ | refine WR.mov rfl ?_ | (refine WR.len (v := ?_) rfl ?_ ?_; rotate_left; first | assumption | exact rfl) | (refine WR.iadr (v := ?_) rfl rfl ?_ ?_; rotate_left; assumption) | (refine WR.fadr (v := ?_) rfl ?_ ?_; rotate_left; first | assumption | exact rfl) | (refine WR.r (v := ?_) rfl rfl (Ld.use (s0 := ?_) ?_ ?_) ?_; rotate_left; rotate_left; assumption; assumption) | (refine WR.bin (v := ?_) rfl rfl ?_ ?_; rotate_left; first | assumption | exact lss_nat _ _ | exact eql_nat _ _ | exact neq_nat _ _ | exact gtr_nat _ _ | exact geq_nat _ _ | exact leq_nat _ _ | exact eql_str _ _ | exact neq_str _ _ | (refine add_nat ?_; omega) | (refine sub_nat ?_ ?_; omega; omega)) | refine WR.pick rfl rfl rfl ?_ | refine WR.un rfl rfl ?_ | refine WR.ext rfl rfl ?_)
                  obtain ⟨v23, s23, k1, k2, k3⟩ := given9 (F := F0) (E := E8) (n := 299) comp9 rfl (hDr.ext hx22) (by simp; omega) (fun d hd => (f4 d hd).1) (by simp; omega)
                  refine WR.fn rfl k1 ?_
                  have hs23 := hs22.trans k2
                  repeat (first | refine WR.nil ?_ | refine WR.guardY rfl ?_ | refine WR.guardN rfl ?_ | refine WR.guardT rfl ?_ | refine WR.mov rfl ?_ | (refine WR.len (v := ?_) rfl ?_ ?_; rotate_left; first | assumption | exact rfl) | (refine WR.iadr (v := ?_) rfl rfl ?_ ?_; rotate_left; assumption) | (refine WR.fadr (v := ?_) rfl ?_ ?_; rotate_left; first | assumption | exact rfl) | (refine WR.r (v := ?_) rfl rfl (Ld.use (s0 := ?_) ?_ ?_) ?_; rotate_left; rotate_left; assumption; assumption) | (refine WR.bin (v := ?_) rfl rfl ?_ ?_; rotate_left; first | assumption | exact lss_nat _ _ | exact eql_nat _ _ | exact neq_nat _ _ | exact gtr_nat _ _ | exact geq_nat _ _ | exact leq_nat _ _ | exact eql_str _ _ | exact neq_str _ _ | (refine add_nat ?_; omega) | (refine sub_nat ?_ ?_; omega; omega)) | refine WR.pick rfl rfl rfl ?_ | refine WR.un rfl rfl ?_ | refine WR.ext rfl rfl ?_)
                  obtain ⟨v24, s24, q1, q2, ov24, out24, e24, rfl, q4, q5⟩ := order10 (F := F0) (E := E8) (n := 297) comp10 rfl comp14 rfl comp18 rfl comp19 rfl k3 k3.one (hH.ext hs23) (by simp; omega) (by omega) (by simp; omega) (by omega) f4
                  refine WR.fn rfl q1 ?_
                  have hs24 := hs23.trans q2
                  obtain ⟨rfl, hl24⟩ := g5.longer h18 h19 q5
                  repeat (first | refine WR.nil ?_ | refine WR.guardY rfl ?_ | refine WR.guardN rfl ?_ | refine WR.guardT rfl ?_ | refine WR.mov rfl ?_ | (refine WR.len (v := ?_) rfl ?_ ?_; rotate_left; first | assumption | exact rfl) | (refine WR.iadr (v := ?_) rfl rfl ?_ ?_; rotate_left; assumption) | (refine WR.fadr (v := ?_) rfl ?_ ?_; rotate_left; first | assumption | exact rfl) | (refine WR.r (v := ?_) rfl rfl (Ld.use (s0 := ?_) ?_ ?_) ?_; rotate_left; rotate_left; assumption; assumption) | (refine WR.bin (v := ?_) rfl rfl ?_ ?_; rotate_left; first | assumption | exact lss_nat _ _ | exact eql_nat _ _ | exact neq_nat _ _ | exact gtr_nat _ _ | exact geq_nat _ _ | exact leq_nat _ _ | exact eql_str _ _ | exact neq_str _ _ | (refine add_nat ?_; omega) | (refine sub_nat ?_ ?_; omega; omega)) | refine WR.pick rfl rfl rfl ?_ | refine WR.un rfl rfl ?_ | refine WR.ext rfl rfl ?_)
                  (repeat refine WC.seq ?_); refine WC.regX hs24 fun s25 hs25 hx25 ho25 hn25 => ?_
                  have hb0 := eqlT (rfl : 0 = 0)
                  have hb1 := (q4.ext hx25).len' (m := out24.length) (by simp [nats])
                  have hb2 := (((((o7.ext m2).ext hx16).ext h17).ext hxr).ext hx22 |>.ext k2 |>.ext q2 |>.ext hx25).len' (m := out7.length) (by simp [nats])
                  have hb3 := add_nat (a := out7.length) (b := 1) (by omega)
                  have hb4 := eqlT hl24
                  repeat (first | refine WR.nil ?_ | refine WR.guardY rfl ?_ | refine WR.guardN rfl ?_ | refine WR.guardT rfl ?_ | refine WR.mov rfl ?_ | (refine WR.len (v := ?_) rfl ?_ ?_; rotate_left; first | assumption | exact rfl) | (refine WR.iadr (v := ?_) rfl rfl ?_ ?_; rotate_left; assumption) | (refine WR.fadr (v := ?_) rfl ?_ ?_; rotate_left; first | assumption | exact rfl) | (refine WR.r (v := ?_) rfl rfl (Ld.use (s0 := ?_) ?_ ?_) ?_; rotate_left; rotate_left; assumption; assumption) | (refine WR.bin (v := ?_) rfl rfl ?_ ?_; rotate_left; first | assumption | exact lss_nat _ _ | exact eql_nat _ _ | exact neq_nat _ _ | exact gtr_nat _ _ | exact geq_nat _ _ | exact leq_nat _ _ | exact eql_str _ _ | exact neq_str _ _ | (refine add_nat ?_; omega) | (refine sub_nat ?_ ?_; omega; omega)) | refine WR.pick rfl rfl rfl ?_ | refine WR.un rfl rfl ?_ | refine WR.ext rfl rfl ?_)
                  refine WR.fn rfl (known8 299 _) ?_
                  repeat (first | refine WR.nil ?_ | refine WR.guardY rfl ?_ | refine WR.guardN rfl ?_ | refine WR.guardT rfl ?_ | refine WR.mov rfl ?_ | (refine WR.len (v := ?_) rfl ?_ ?_; rotate_left; first | assumption | exact rfl) | (refine WR.iadr (v := ?_) rfl rfl ?_ ?_; rotate_left; assumption) | (refine WR.fadr (v := ?_) rfl ?_ ?_; rotate_left; first | assumption | exact rfl) | (refine WR.r (v := ?_) rfl rfl (Ld.use (s0 := ?_) ?_ ?_) ?_; rotate_left; rotate_left; assumption; assumption) | (refine WR.bin (v := ?_) rfl rfl ?_ ?_; rotate_left; first | assumption | exact lss_nat _ _ | exact eql_nat _ _ | exact neq_nat _ _ | exact gtr_nat _ _ | exact geq_nat _ _ | exact leq_nat _ _ | exact eql_str _ _ | exact neq_str _ _ | (refine add_nat ?_; omega) | (refine sub_nat ?_ ?_; omega; omega)) | refine WR.pick rfl rfl rfl ?_ | refine WR.un rfl rfl ?_ | refine WR.ext rfl rfl ?_)
                  (repeat refine WC.seq ?_); refine WC.ret ?_
                  exact ⟨.inr rfl, _, rfl, rfl⟩
          · have hb := neqT he7
            repeat (first | refine WR.nil ?_ | refine WR.guardY rfl ?_ | refine WR.guardN rfl ?_ | refine WR.guardT rfl ?_ | refine WR.mov rfl ?_ | (refine WR.len (v := ?_) rfl ?_ ?_; rotate_left; first | assumption | exact rfl) | (refine WR.iadr (v := ?_) rfl rfl ?_ ?_; rotate_left; assumption) | (refine WR.fadr (v := ?_) rfl ?_ ?_; rotate_left; first | assumption | exact rfl) | (refine WR.r (v := ?_) rfl rfl (Ld.use (s0 := ?_) ?_ ?_) ?_; rotate_left; rotate_left; assumption; assumption) | (refine WR.bin (v := ?_) rfl rfl ?_ ?_; rotate_left; first | assumption | exact lss_nat _ _ | exact eql_nat _ _ | exact neq_nat _ _ | exact gtr_nat _ _ | exact geq_nat _ _ | exact leq_nat _ _ | exact eql_str _ _ | exact neq_str _ _ | (refine add_nat ?_; omega) | (refine sub_nat ?_ ?_; omega; omega)) | refine WR.pick rfl rfl rfl ?_ | refine WR.un rfl rfl ?_ | refine WR.ext rfl rfl ?_)
            (repeat refine WC.seq ?_); refine WC.cond rfl ?_ ?_
            · intro _
              (repeat refine WC.seq ?_); refine WC.regX hs13 fun s14 hs14 hx14 ho14 hn14 => ?_
              refine WR.fn rfl (known8 299 _) ?_
              repeat (first | refine WR.nil ?_ | refine WR.guardY rfl ?_ | refine WR.guardN rfl ?_ | refine WR.guardT rfl ?_ | refine WR.mov rfl ?_ | (refine WR.len (v := ?_) rfl ?_ ?_; rotate_left; first | assumption | exact rfl) | (refine WR.iadr (v := ?_) rfl rfl ?_ ?_; rotate_left; assumption) | (refine WR.fadr (v := ?_) rfl ?_ ?_; rotate_left; first | assumption | exact rfl) | (refine WR.r (v := ?_) rfl rfl (Ld.use (s0 := ?_) ?_ ?_) ?_; rotate_left; rotate_left; assumption; assumption) | (refine WR.bin (v := ?_) rfl rfl ?_ ?_; rotate_left; first | assumption | exact lss_nat _ _ | exact eql_nat _ _ | exact neq_nat _ _ | exact gtr_nat _ _ | exact geq_nat _ _ | exact leq_nat _ _ | exact eql_str _ _ | exact neq_str _ _ | (refine add_nat ?_; omega) | (refine sub_nat ?_ ?_; omega; omega)) | refine WR.pick rfl rfl rfl ?_ | refine WR.un rfl rfl ?_ | refine WR.ext rfl rfl ?_)
              exact WC.ret ⟨.inr rfl, _, rfl, rfl⟩
            · intro h; simp at h
  obtain ⟨v, s', h1, rfl⟩ := this
  exact ⟨s', h1⟩
theorem gtrStr {a : List Nat} : apure .e (.len true (.c (.str a))) = some (.int .i64 (.ofNat a.length)) := rfl
end Go.Proofs.Ytbcnhellcpeecaa
