/- Code, functions, calls. -/
import Derived.Test.YtiiajdfjnamfcaaGreatAbsRun2
set_option autoImplicit false
set_option linter.unusedSimpArgs false
set_option linter.unusedVariables false
namespace Go.Abs
open Go Go.RowKit
def AX.exit : AX → Exit
 | .nrm => .normal
 | .ext i => .exit i
 | .goto l => .goto l
 | .ret => .ret
def CSim (P : Program) (call : CallF) (fuel n : Nat) (c : Code) (ac : ACode) : Prop :=
 ∀ (fr : Fr) (s : St) (x : AX) (fr' : Fr) (s' : St), acode call fuel ac fr s = some (x, fr', s') → Keeps s.next s s' ∧
  ∀ (ι : IM) (w0 : World) (X : Nat → Option AObj) (a : Act) (w : World), n ≤ a.tmps.size → FR ι w0 fr a → SR ι w0 (s.view X) s.next w → c.wp P (fun e a' w' => e = x.exit ∧ After ι w0 X a fr' s' a' w') a w
section
variable {P : Program}
theorem wp_loop_n {Q : Exit → Act → World → Prop} {c : Code} (I : Nat → Act → World → Prop) (round : ∀ n a w, I n a w → c.wp P (Exit.then (fun a' w' => ∃ m, m < n ∧ I m a' w') Q) a w) {n : Nat} {a : Act} {w : World} (h₀ : I n a w) : (Code.loop c).wp P Q a w := by
 intro b k cs
 have key : ∀ n a w, I n a w → ∃ e a' w', Q e a' w' ∧ Arrives P (lone (b.at a (.code c :: .inLoop c :: k)) cs w) b k cs e a' w' := by
  intro n
  induction n using Nat.strongRecOn with
  | _ n ih =>
   intro a w hI
   obtain ⟨e, a₁, w₁, hq, harr⟩ := round n a w hI b (.inLoop c :: k) cs
   cases e with
   | normal =>
    obtain ⟨m, hlt, hI₁⟩ := hq
    obtain ⟨e₂, a₂, w₂, hq₂, harr₂⟩ := ih m hlt a₁ w₁ hI₁
    exact ⟨e₂, a₂, w₂, hq₂, .of_steps (Steps.trans harr (.one step_inLoop)) harr₂⟩
   | exit id => exact ⟨_, a₁, w₁, hq, .pass (x := .inLoop c) rfl (fun _ _ => .inl (by simp)) harr⟩
   | goto l => exact ⟨_, a₁, w₁, hq, .pass (x := .inLoop c) rfl (fun _ _ => .inl (by simp)) harr⟩
   | ret => exact ⟨_, a₁, w₁, hq, .pass (x := .inLoop c) rfl (fun _ _ => .inl (by simp)) harr⟩
   | panic ch => exact ⟨_, a₁, w₁, hq, .pass (x := .inLoop c) rfl (fun _ _ => .inl (by simp)) harr⟩
   | outgrown => exact ⟨_, a₁, w₁, hq, .pass (x := .inLoop c) rfl (fun _ _ => .inl (by simp)) harr⟩
 obtain ⟨e, a', w', hq, harr⟩ := key n a w h₀
 exact ⟨e, a', w', hq, .of_steps (.one step_loop) harr⟩
theorem SR.up {ι : IM} {w0 : World} {H : Nat → Option AObj} {nx nx' : Nat} {w : World} (h : SR ι w0 H nx w) (hn : nx ≤ nx') : SR ι w0 H nx' w :=
 { h with fresh := fun id hid => h.fresh id (Nat.le_trans hn hid) }
theorem reg_sim {call : CallF} (hg : Sound P call) {fuel n : Nat} {ops : Array Oper} {l : List AOper} {id : Nat} (hc : compReg P n ops false = some (.reg l)) : CSim P call fuel n (.region id ops false) (.reg l) := by
 unfold compReg at hc
 cases h1 : compOpers P ops ops.toList [] with
 | none => simp [h1] at hc
 | some l' =>
  simp only [h1] at hc
  split at hc
  ·rename_i hd
   simp at hc
   subst hc
   intro fr s x fr' s' h
   simp only [acode] at h
   split at h <;> simp at h
   rename_i fr1 s1 h2
   obtain ⟨rfl, rfl, rfl⟩ := h
   unfold areg at h2
   have hk := aregs_keeps hg.keeps (by simp) h2
   refine ⟨⟨by have := hk.1; simp at this; omega, fun j => hk.2 j⟩, ?_⟩
   intro ι w0 X a w hn hf hs
   have hlen : ∀ (l : List Oper) (pres : List Nat) (r : List AOper), compOpers P ops l pres = some r → r.length = l.length := by
    intro l
    induction l with
    | nil => intro pres r hh; simp [compOpers] at hh; subst hh; rfl
    | cons o l ih =>
     intro pres r hh
     simp only [compOpers] at hh
     split at hh
     ·split at hh
      ·rename_i hh2
       simp at hh
       subst hh
       simp [ih _ _ hh2]
      ·simp at hh
     ·simp at hh
   have hl := hlen _ _ _ h1
   apply wp_region
   have hr : List.range ops.size = List.range' 0 l'.length := by rw [List.range_eq_range', hl]; simp
   rw [hr]
   refine aregs_sim hg l' 0 s.next [] fr fr1 { s with next := s.next + l'.length } s1 ι a w (by simpa using h1) hd h2 (by simp) ?_ hn hf (SR.up hs (by simp)) ?_
   ·intro j hj1 hj2
    exact hs.fresh j hj1
   ·intro a' w' hA
    exact ⟨rfl, hA⟩
  ·simp at hc
theorem csim {call : CallF} (hg : Sound P call) {fuel n : Nat} (hdraw : ∀ ops l id, compReg P n ops true = some (.draw l) → CSim P call fuel n (.region id ops true) (.draw l)) {sub : Code → Option ACode}
  (hsub : ∀ c ac, sub c = some ac → CSim P call fuel n c ac) : ∀ (c : Code) (ac : ACode), compC P n sub c = some ac → CSim P call fuel n c ac := by
 intro c
 induction c with
 | skip =>
  intro ac h
  simp [compC] at h
  subst h
  intro fr s x fr' s' h
  simp [acode] at h
  obtain ⟨rfl, rfl, rfl⟩ := h
  exact ⟨Keeps.refl _ _, fun ι w0 X a w hn hf hs => wp_skip ⟨rfl, ι, IM.le_refl _, hf, hs, rfl, rfl⟩⟩
 | label l =>
  intro ac h
  simp [compC] at h
  subst h
  intro fr s x fr' s' h
  simp [acode] at h
  obtain ⟨rfl, rfl, rfl⟩ := h
  exact ⟨Keeps.refl _ _, fun ι w0 X a w hn hf hs => wp_label ⟨rfl, ι, IM.le_refl _, hf, hs, rfl, rfl⟩⟩
 | exit l =>
  intro ac h
  simp [compC] at h
  subst h
  intro fr s x fr' s' h
  simp [acode] at h
  obtain ⟨rfl, rfl, rfl⟩ := h
  exact ⟨Keeps.refl _ _, fun ι w0 X a w hn hf hs => wp_exit ⟨rfl, ι, IM.le_refl _, hf, hs, rfl, rfl⟩⟩
 | goto l =>
  intro ac h
  simp [compC] at h
  subst h
  intro fr s x fr' s' h
  simp [acode] at h
  obtain ⟨rfl, rfl, rfl⟩ := h
  exact ⟨Keeps.refl _ _, fun ι w0 X a w hn hf hs => wp_goto ⟨rfl, ι, IM.le_refl _, hf, hs, rfl, rfl⟩⟩
 | ret =>
  intro ac h
  simp [compC] at h
  subst h
  intro fr s x fr' s' h
  simp [acode] at h
  obtain ⟨rfl, rfl, rfl⟩ := h
  exact ⟨Keeps.refl _ _, fun ι w0 X a w hn hf hs => wp_ret ⟨rfl, ι, IM.le_refl _, hf, hs, rfl, rfl⟩⟩
 | region id ops draw =>
  intro ac h
  simp only [compC] at h
  cases draw with
  | false =>
   have : ∃ l, ac = .reg l := by
    unfold compReg at h
    split at h
    ·simp at h
    ·split at h
     ·simp at h; exact ⟨_, h.symm⟩
     ·simp at h
   obtain ⟨l, rfl⟩ := this
   exact reg_sim hg h
  | true =>
   have : ∃ l, ac = .draw l := by
    unfold compReg at h
    split at h
    ·simp at h
    ·split at h
     ·simp at h; exact ⟨_, h.2.symm⟩
     ·simp at h
   obtain ⟨l, rfl⟩ := this
   exact hdraw ops l id h
 | seq c1 c2 ih1 ih2 =>
  intro ac h
  simp only [compC] at h
  cases h1 : compC P n sub c1 with
  | none => simp [h1] at h
  | some x1 =>
   cases h2 : compC P n sub c2 with
   | none => simp [h1, h2] at h
   | some x2 =>
    simp [h1, h2] at h
    subst h
    intro fr s x fr' s' h
    simp only [acode] at h
    cases hr : acode call fuel x1 fr s with
    | none => simp [hr] at h
    | some r =>
     obtain ⟨x', fr1, s1⟩ := r
     obtain ⟨k1, k2⟩ := ih1 x1 h1 fr s x' fr1 s1 hr
     cases x' with
     | nrm =>
      simp only [hr] at h
      obtain ⟨m1, m2⟩ := ih2 x2 h2 fr1 s1 x fr' s' h
      refine ⟨k1.trans (m1.mono k1.1), fun ι w0 X a w hn hf hs => wp_seq (wp_mono (k2 ι w0 X a w hn hf hs) ?_)⟩
      rintro e a' w' ⟨rfl, κ, l1, l2, l3, l4, l5⟩
      refine wp_mono (m2 κ w0 X a' w' (by omega) l2 l3) ?_
      rintro e a2 w2 ⟨rfl, hA⟩
      exact ⟨rfl, hA.mono l1 l4 l5⟩
     | ext i =>
      simp [hr] at h
      obtain ⟨rfl, rfl, rfl⟩ := h
      refine ⟨k1, fun ι w0 X a w hn hf hs => wp_seq (wp_mono (k2 ι w0 X a w hn hf hs) ?_)⟩
      rintro e a' w' ⟨rfl, hA⟩
      exact ⟨rfl, hA⟩
     | goto i =>
      simp [hr] at h
      obtain ⟨rfl, rfl, rfl⟩ := h
      refine ⟨k1, fun ι w0 X a w hn hf hs => wp_seq (wp_mono (k2 ι w0 X a w hn hf hs) ?_)⟩
      rintro e a' w' ⟨rfl, hA⟩
      exact ⟨rfl, hA⟩
     | ret =>
      simp [hr] at h
      obtain ⟨rfl, rfl, rfl⟩ := h
      refine ⟨k1, fun ι w0 X a w hn hf hs => wp_seq (wp_mono (k2 ι w0 X a w hn hf hs) ?_)⟩
      rintro e a' w' ⟨rfl, hA⟩
      exact ⟨rfl, hA⟩
 | cond c c1 c2 ih1 ih2 =>
  intro ac h
  simp only [compC] at h
  cases h0 : compO c with
  | none => simp [h0] at h
  | some y =>
   cases h1 : compC P n sub c1 with
   | none => simp [h0, h1] at h
   | some x1 =>
    cases h2 : compC P n sub c2 with
    | none => simp [h0, h1, h2] at h
    | some x2 =>
     simp [h0, h1, h2] at h
     subst h
     intro fr s x fr' s' h
     simp only [acode] at h
     split at h
     ·rename_i hy
      obtain ⟨k1, k2⟩ := ih1 x1 h1 fr s x fr' s' h
      refine ⟨k1, fun ι w0 X a w hn hf hs => wp_cond_true ?_ (k2 ι w0 X a w hn hf hs)⟩
      have := ev_sim h0 hf hy
      simpa only [rel] using this
     ·rename_i hy
      obtain ⟨k1, k2⟩ := ih2 x2 h2 fr s x fr' s' h
      refine ⟨k1, fun ι w0 X a w hn hf hs => wp_cond_false ?_ (k2 ι w0 X a w hn hf hs)⟩
      have := ev_sim h0 hf hy
      simpa only [rel] using this
     ·simp at h
 | block id c ih =>
  intro ac h
  simp only [compC] at h
  obtain ⟨x1, h1, rfl⟩ := map_some h
  intro fr s x fr' s' h
  simp only [acode] at h
  cases hr : acode call fuel x1 fr s with
  | none => simp [hr] at h
  | some r =>
   obtain ⟨x', fr1, s1⟩ := r
   obtain ⟨k1, k2⟩ := ih x1 h1 fr s x' fr1 s1 hr
   cases x' with
   | ext j =>
    simp only [hr] at h
    cases hj : Nat.beq j id with
    | true =>
     simp [hj] at h
     obtain ⟨rfl, rfl, rfl⟩ := h
     have := Nat.eq_of_beq_eq_true hj
     subst this
     refine ⟨k1, fun ι w0 X a w hn hf hs => wp_block (wp_mono (k2 ι w0 X a w hn hf hs) ?_)⟩
     rintro e a' w' ⟨rfl, hA⟩
     simp only [AX.exit, Exit.inBlock, if_true]
     exact ⟨trivial, hA⟩
    | false =>
     simp [hj] at h
     obtain ⟨rfl, rfl, rfl⟩ := h
     refine ⟨k1, fun ι w0 X a w hn hf hs => wp_block (wp_mono (k2 ι w0 X a w hn hf hs) ?_)⟩
     rintro e a' w' ⟨rfl, hA⟩
     have : ¬ j = id := fun e => by subst e; simp at hj
     simp only [AX.exit, Exit.inBlock, this, if_false]
     exact ⟨trivial, hA⟩
   | nrm =>
    simp [hr] at h
    obtain ⟨rfl, rfl, rfl⟩ := h
    refine ⟨k1, fun ι w0 X a w hn hf hs => wp_block (wp_mono (k2 ι w0 X a w hn hf hs) ?_)⟩
    rintro e a' w' ⟨rfl, hA⟩
    exact ⟨rfl, hA⟩
   | goto i =>
    simp [hr] at h
    obtain ⟨rfl, rfl, rfl⟩ := h
    refine ⟨k1, fun ι w0 X a w hn hf hs => wp_block (wp_mono (k2 ι w0 X a w hn hf hs) ?_)⟩
    rintro e a' w' ⟨rfl, hA⟩
    exact ⟨rfl, hA⟩
   | ret =>
    simp [hr] at h
    obtain ⟨rfl, rfl, rfl⟩ := h
    refine ⟨k1, fun ι w0 X a w hn hf hs => wp_block (wp_mono (k2 ι w0 X a w hn hf hs) ?_)⟩
    rintro e a' w' ⟨rfl, hA⟩
    exact ⟨rfl, hA⟩
 | loop c ih =>
  intro ac h
  simp only [compC] at h
  obtain ⟨x1, h1, rfl⟩ := map_some h
  intro fr s x fr' s' h
  simp only [acode] at h
  have ih := ih x1 h1
  have keep : ∀ (m : Nat) (fr : Fr) (s : St), loopN (acode call fuel x1) m fr s = some (x, fr', s') → Keeps s.next s s' := by
   intro m
   induction m with
   | zero => intro fr s hh; simp [loopN] at hh
   | succ m im =>
    intro fr s hh
    simp only [loopN] at hh
    cases hr : acode call fuel x1 fr s with
    | none => simp [hr] at hh
    | some r =>
     obtain ⟨x', fr1, s1⟩ := r
     obtain ⟨k1, _⟩ := ih fr s x' fr1 s1 hr
     cases x' <;> simp [hr] at hh
     case nrm => exact k1.trans ((im fr1 s1 hh).mono k1.1)
     all_goals (obtain ⟨rfl, rfl, rfl⟩ := hh; exact k1)
  refine ⟨keep fuel fr s h, fun ι w0 X a w hn hf hs => ?_⟩
  refine wp_loop_n (fun m a' w' => ∃ κ fr s, ι.le κ ∧ FR κ w0 fr a' ∧ SR κ w0 (s.view X) s.next w' ∧ a'.tmps.size = a.tmps.size ∧ a'.defers = a.defers ∧ loopN (acode call fuel x1) m fr s = some (x, fr', s')) ?_
   (n := fuel) ⟨ι, fr, s, IM.le_refl _, hf, hs, rfl, rfl, h⟩
  rintro m a1 w1 ⟨κ, fr, s, l1, l2, l3, l4, l5, hh⟩
  cases m with
  | zero => simp [loopN] at hh
  | succ m =>
   simp only [loopN] at hh
   cases hr : acode call fuel x1 fr s with
   | none => simp [hr] at hh
   | some r =>
    obtain ⟨x', fr1, s1⟩ := r
    obtain ⟨_, k2⟩ := ih fr s x' fr1 s1 hr
    refine wp_mono (k2 κ w0 X a1 w1 (by omega) l2 l3) ?_
    rintro e a2 w2 ⟨rfl, hA⟩
    have hA2 := hA.mono l1 l4 l5
    cases x' <;> simp [hr] at hh
    case nrm =>
     obtain ⟨μ, q1, q2, q3, q4, q5⟩ := hA2
     exact ⟨m, Nat.lt_succ_self _, μ, fr1, s1, q1, q2, q3, q4, q5, hh⟩
    all_goals (obtain ⟨rfl, rfl, rfl⟩ := hh; exact ⟨rfl, hA2⟩)
 | scope c ih =>
  intro ac h
  simp only [compC] at h
  cases h1 : compC P n sub c with
  | none => simp [h1] at h
  | some x1 =>
   simp only [h1] at h
   cases hgo : hasGoto c with
   | none =>
    simp [hgo] at h
    subst h
    intro fr s x fr' s' h
    simp only [acode] at h
    cases hr : acode call fuel x1 fr s with
    | none => simp [hr] at h
    | some r =>
     obtain ⟨x', fr1, s1⟩ := r
     obtain ⟨k1, k2⟩ := ih x1 h1 fr s x' fr1 s1 hr
     cases x' <;> simp [hr] at h
     all_goals
      obtain ⟨rfl, rfl, rfl⟩ := h
      refine ⟨k1, fun ι w0 X a w hn hf hs => wp_scope_straight (wp_mono (k2 ι w0 X a w hn hf hs) ?_)⟩
      rintro e a' w' ⟨rfl, hA⟩
      exact ⟨rfl, hA⟩
   | some l =>
    simp only [hgo] at h
    cases hfl : findLabel c l with
    | none => simp [hfl] at h
    | some rest =>
     simp only [hfl] at h
     obtain ⟨x2, h2, rfl⟩ := map_some h
     intro fr s x fr' s' h
     simp only [acode] at h
     cases hr : acode call fuel x1 fr s with
     | none => simp [hr] at h
     | some r =>
      obtain ⟨x', fr1, s1⟩ := r
      obtain ⟨k1, k2⟩ := ih x1 h1 fr s x' fr1 s1 hr
      cases x' with
      | goto j =>
       simp only [hr] at h
       obtain ⟨hj, h⟩ := bif_some h
       have := Nat.eq_of_beq_eq_true hj
       subst this
       cases hr2 : acode call fuel x2 fr1 s1 with
       | none => simp [hr2] at h
       | some r =>
        obtain ⟨x'', fr2, s2⟩ := r
        obtain ⟨m1, m2⟩ := hsub rest x2 h2 fr1 s1 x'' fr2 s2 hr2
        have hx : x'' = x ∧ fr2 = fr' ∧ s2 = s' ∧ ∀ q, x'' ≠ .goto q := by
         cases x'' <;> simp [hr2] at h
         all_goals (obtain ⟨rfl, rfl, rfl⟩ := h; exact ⟨rfl, rfl, rfl, by simp⟩)
        obtain ⟨rfl, rfl, rfl, hng⟩ := hx
        refine ⟨k1.trans (m1.mono k1.1), fun ι w0 X a w hn hf hs => ?_⟩
        refine wp_scope_jumps j (fun a' w' => After ι w0 X a fr1 s1 a' w') (fun _ _ => 0) hfl (wp_mono (k2 ι w0 X a w hn hf hs) ?_) ?_
        ·rintro e a' w' ⟨rfl, hA⟩
         exact ⟨rfl, hA⟩
        ·rintro a' w' ⟨κ, l1, l2, l3, l4, l5⟩
         refine wp_mono (m2 κ w0 X a' w' (by omega) l2 l3) ?_
         rintro e a2 w2 ⟨rfl, hA⟩
         have hA2 := hA.mono l1 l4 l5
         cases x'' with
         | goto q => exact absurd rfl (hng q)
         | nrm => exact ⟨rfl, hA2⟩
         | ext q => exact ⟨rfl, hA2⟩
         | ret => exact ⟨rfl, hA2⟩
      | nrm =>
       simp [hr] at h
       obtain ⟨rfl, rfl, rfl⟩ := h
       refine ⟨k1, fun ι w0 X a w hn hf hs => ?_⟩
       refine wp_scope_jumps l (fun a' w' => False) (fun _ _ => 0) hfl (wp_mono (k2 ι w0 X a w hn hf hs) ?_) (fun _ _ hh => hh.elim)
       rintro e a' w' ⟨rfl, hA⟩
       exact ⟨rfl, hA⟩
      | ext q =>
       simp [hr] at h
       obtain ⟨rfl, rfl, rfl⟩ := h
       refine ⟨k1, fun ι w0 X a w hn hf hs => ?_⟩
       refine wp_scope_jumps l (fun a' w' => False) (fun _ _ => 0) hfl (wp_mono (k2 ι w0 X a w hn hf hs) ?_) (fun _ _ hh => hh.elim)
       rintro e a' w' ⟨rfl, hA⟩
       exact ⟨rfl, hA⟩
      | ret =>
       simp [hr] at h
       obtain ⟨rfl, rfl, rfl⟩ := h
       refine ⟨k1, fun ι w0 X a w hn hf hs => ?_⟩
       refine wp_scope_jumps l (fun a' w' => False) (fun _ _ => 0) hfl (wp_mono (k2 ι w0 X a w hn hf hs) ?_) (fun _ _ hh => hh.elim)
       rintro e a' w' ⟨rfl, hA⟩
       exact ⟨rfl, hA⟩
 | rangeFunc f ps a b => intro ac h; simp [compC] at h
 | refuse why => intro ac h; simp [compC] at h
end
end Go.Abs
