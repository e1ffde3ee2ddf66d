/- Regions in the order of the text; code; functions; calls. -/
import Derived.Test.YtiiajdfjnamfcaaGreatAbsRun
set_option autoImplicit false
set_option linter.unusedSimpArgs false
set_option linter.unusedVariables false
namespace Go.Abs
open Go Go.RowKit
section
variable {P : Program} {w : World} {ι : IM} {w0 : World} {X : Nat → Option AObj} {s : St} {nx : Nat} {fr : Fr} {a : Act}
theorem rel_bool {x : AV} {b : Bool} (h : rel ι w0 x (.bool b)) : x = .bool b := by
 cases x <;> simp only [rel] at h
 case bool => injection h with h; rw [h]
 all_goals first
  | (cases h; done)
  | (obtain ⟨_, h⟩ := h; cases h; done)
  | (obtain ⟨_, h, _⟩ := h; cases h; done)
  | (obtain ⟨_, _, h⟩ := h; cases h; done)
  | (obtain ⟨_, _, _, h⟩ := h; cases h; done)
  | (obtain ⟨_, _, h, _⟩ := h; cases h; done)
  | (obtain ⟨_, _, _, _, _, _, _, _, h⟩ := h; cases h; done)
theorem wants_sim {ops : Array Oper} {o : Oper} {g : Option (Nat × Bool)} {b : Bool} (hc : compGuard ops o.guard = some g) (hf : FR ι w0 fr a) (h : wants fr g = some b) : Region.wanted o (yielded ops a.tmps) = b := by
 unfold Region.wanted
 cases hg : o.guard with
 | none =>
  rw [hg] at hc
  simp [compGuard] at hc
  subst hc
  simp [wants] at h
  simp [h]
 | some q =>
  obtain ⟨j, wt⟩ := q
  rw [hg] at hc
  simp only [compGuard] at hc
  cases ho : ops[j]? with
  | none => simp [ho] at hc
  | some o' =>
   cases hd : o'.dst with
   | none => simp [ho, hd] at hc
   | some t =>
    simp [ho, hd] at hc
    subst hc
    simp only [wants] at h
    simp only
    have hy : yielded ops a.tmps j = match a.tmps[t]? with | some (.bool b) => some b | _ => none := by
     unfold yielded
     simp only [ho, Option.bind_some, hd]
     rfl
    rw [hy]
    cases hv : fr.get t with
    | none => simp [hv] at h
    | some v =>
     have r := hf t v hv
     simp only [hv] at h
     have hget : ∀ b, a.tmps[t]? = some (.bool b) → v = .bool b := by
      intro b hb
      have : a.tmps.getD t undef = .bool b := by
       rw [Array.getD_eq_getD_getElem?, hb]; rfl
      rw [this] at r
      exact rel_bool r
     cases v <;> simp only at h
     case bool b0 =>
      simp only [rel] at r
      have hb : a.tmps[t]? = some (.bool b0) := by
       rw [Array.getD_eq_getD_getElem?] at r
       cases hq : a.tmps[t]? with
       | none => rw [hq] at r; simp [undef] at r
       | some y => rw [hq] at r; simp at r; rw [r]
      rw [hb]
      simp at h
      subst h
      cases b0 <;> cases wt <;> rfl
     all_goals
      simp at h
      subst h
      split
      ·rename_i b hb
       have := hget b hb
       cases this
      ·rfl
def After (ι : IM) (w0 : World) (X : Nat → Option AObj) (a0 : Act) (fr' : Fr) (s' : St) (a' : Act) (w' : World) : Prop :=
 ∃ κ, ι.le κ ∧ FR κ w0 fr' a' ∧ SR κ w0 (s'.view X) s'.next w' ∧ a'.tmps.size = a0.tmps.size ∧ a'.defers = a0.defers
theorem After.mono {κ : IM} {a0 a1 a' : Act} {fr' : Fr} {s' : St} {w' : World} (h : After κ w0 X a1 fr' s' a' w') (hl : ι.le κ) (h1 : a1.tmps.size = a0.tmps.size) (h2 : a1.defers = a0.defers) : After ι w0 X a0 fr' s' a' w' := by
 obtain ⟨μ, k1, k2, k3, k4, k5⟩ := h
 exact ⟨μ, IM.le_trans hl k1, k2, k3, k4.trans h1, k5.trans h2⟩
theorem put_size (a : Act) (d : Option Nat) (v : Value) : (a.put d v).tmps.size = a.tmps.size := by
 cases d <;> simp [Act.put]
theorem put_defers (a : Act) (d : Option Nat) (v : Value) : (a.put d v).defers = a.defers := by
 cases d <;> simp [Act.put]
theorem aregs_sim {call : CallF} (hg : Sound P call) {ops : Array Oper} {n : Nat} {Q : Exit → Act → World → Prop} : ∀ (l : List AOper) (i id : Nat) (pres : List Nat) (fr fr' : Fr) (s s' : St) (ι : IM) (a : Act) (w : World),
  compOpers P ops (ops.toList.drop i) pres = some l → dstsOk n l = true → aregs call id l fr s = some (fr', s') → id + l.length ≤ s.next → (∀ j, id ≤ j → j < id + l.length → s.view X j = none) →
  n ≤ a.tmps.size → FR ι w0 fr a → SR ι w0 (s.view X) s.next w → (∀ a' w', After ι w0 X a fr' s' a' w' → Q .normal a' w') → wpOps P ops Q (List.range' i l.length) a w
 | [], i, id, pres, fr, fr', s, s', ι, a, w, hc, hd, h, hid, hfree, hn, hf, hs, hq => by
  simp [aregs] at h
  obtain ⟨rfl, rfl⟩ := h
  exact hq a w ⟨ι, IM.le_refl _, hf, hs, rfl, rfl⟩
 | o :: l, i, id, pres, fr, fr', s, s', ι, a, w, hc, hd, h, hid, hfree, hn, hf, hs, hq => by
  cases hdr : ops.toList.drop i with
  | nil => rw [hdr] at hc; simp [compOpers] at hc
  | cons op rest =>
   rw [hdr] at hc
   simp only [compOpers] at hc
   cases h1 : compOp P op.op with
   | none => simp [h1] at hc
   | some ao =>
    cases h2 : compGuard ops op.guard with
    | none => simp [h1, h2] at hc
    | some g =>
     simp only [h1, h2] at hc
     cases h3 : compOpers P ops rest (pres ++ [preOf pres op]) with
     | none => simp [h3] at hc
     | some l' =>
      simp [h3] at hc
      obtain ⟨rfl, rfl⟩ := hc
      have hop : ops[i]? = some op := by
       have : ops.toList[i]? = some op := by
        have := List.getElem?_drop (xs := ops.toList) (i := i) (j := 0)
        rw [hdr] at this
        simpa using this.symm
       simpa using this
      have hrest : ops.toList.drop (i + 1) = rest := by
       rw [← List.drop_drop, hdr]; rfl
      simp only [dstsOk, List.all_cons, Bool.and_eq_true] at hd
      have hdo : ∀ t, op.dst = some t → t < a.tmps.size := by
       intro t ht
       have := hd.1
       rw [ht] at this
       exact Nat.lt_of_lt_of_le (blt_lt this) hn
      simp only [List.length_cons] at hid hfree
      simp only [List.length_cons, List.range'_succ, wpOps, hop]
      simp only [aregs] at h
      cases hw : wants fr g with
      | none => simp [hw] at h
      | some b =>
       rw [wants_sim h2 hf hw]
       cases b with
       | false =>
        simp only [hw] at h
        simp only [Bool.false_eq_true, if_false]
        refine aregs_sim hg l' (i + 1) (id + 1) (pres ++ [preOf pres op]) _ fr' s s' ι _ w (by rw [hrest]; exact h3) hd.2 h (by omega) (fun j h1 h2 => hfree j (by omega) (by omega)) (by rw [put_size]; exact hn) (FR_put hf rel_undef hdo) hs ?_
        intro a' w' hA
        exact hq a' w' (hA.mono (IM.le_refl _) (put_size _ _ _) (put_defers _ _ _))
       | true =>
        simp only [hw] at h
        simp only [if_true]
        left
        cases hop2 : aop call id fr s ao with
        | none => simp [hop2] at h
        | some r =>
         obtain ⟨v, s1⟩ := r
         simp only [hop2] at h
         have hk := aop_keeps (id := id) hg.keeps (by omega) hop2
         refine aop_wp hg h1 hf hs (by omega) (hfree id (Nat.le_refl _) (by omega)) hop2 ?_
         intro v' w' κ k1 k2 k3
         refine aregs_sim hg l' (i + 1) (id + 1) (pres ++ [preOf pres op]) _ fr' s1 s' κ _ w' (by rw [hrest]; exact h3) hd.2 h (by have := hk.1; omega) ?_ (by rw [put_size]; exact hn) (FR_put (FR_mono k1 hf) k2 hdo) k3 ?_
         ·intro j hj1 hj2
          have hv := hfree j (by omega) (by omega)
          have hjs : s.objs.get j = none ∧ X j = none := by
           simp only [St.view] at hv
           cases hq : s.objs.get j with
           | none => rw [hq] at hv; exact ⟨rfl, hv⟩
           | some z => rw [hq] at hv; simp at hv
          have hs1 : s1.objs.get j = none := by
           cases ao with
           | p po =>
            simp only [aop] at hop2
            split at hop2 <;> simp at hop2
            rw [← hop2.2]; exact hjs.1
           | r k x y =>
            simp only [aop] at hop2
            split at hop2
            ·split at hop2 <;> simp at hop2
             rw [← hop2.2]; exact hjs.1
            ·simp at hop2
           | a lo =>
            simp only [aop] at hop2
            split at hop2 <;> simp at hop2
            rw [← hop2.2]
            simp only [St.put, Tr.get_set]
            rw [if_neg (by omega)]
            exact hjs.1
           | e eo => exact ((aeff_keeps hg.keeps (by simpa [aop] using hop2)).2 j).1 (by omega) hjs.1
          simp only [St.view, hs1]
          exact hjs.2
         ·intro a' w'' hA
          exact hq a' w'' (hA.mono k1 (put_size _ _ _) (put_defers _ _ _))
end
end Go.Abs
