/- What changes memory: appends and copies. -/
import Derived.Test.YtiiajdfjnamfcaaGreatAbsEff
set_option autoImplicit false
set_option linter.unusedSimpArgs false
set_option linter.unusedVariables false
namespace Go.Abs
open Go Go.RowKit
section
variable {P : Program} {w : World} {ι : IM} {w0 : World} {X : Nat → Option AObj} {s : St} {nx : Nat} {fr : Fr} {a : Act}
def notInt (P : Program) (ts : Array TypeId) : Prop := match ts[1]? with
 | none => True
 | some u => ∃ ty, P.underlying u = some ty ∧ ∀ k, ty ≠ .int k
theorem append_in {ts : Array TypeId} {T t e : TypeId} {sz n sLen sCap : Nat} {base : Option Addr} {x' : Value} {new : Array Value} {w' : World} (ht : ts[0]? = some t) (hu : P.underlying t = some (.slice e)) (hs : sizeT P e = some sz) (hz : notInt P ts)
  (hl : (Builtin.lenOf x').run P w = .ok n w) (hn : (Builtin.firstCells sz n x').run P w = .ok new w) (hle : sLen + n ≤ sCap)
  (hst : match base with | some ad => (storeCells (ad.add (sLen * sz)) new.toList).run P w = .ok () w' | none => w' = w) :
  (Builtin.append_ ts T #[.slice base sLen sCap, x']).run P w = .ok (.slice base (sLen + n) sCap) w' := by
 unfold Builtin.append_
 unfold notInt at hz
 cases h1 : ts[1]? with
 | none =>
  simp only [ht, h1, List.getElem?_toArray, List.getElem?_cons_zero, List.getElem?_cons_succ, Sem.run_bind, run_underlying hu, Result.andThen_ok, sizeT_run hs, Sem.run_pure, Bool.false_eq_true, if_false, hl, hle, if_true, Bool.not_false, hn]
  cases base with
  | none => simp only at hst; subst hst; rfl
  | some ad => simp only at hst; simp only [hst, Sem.run_bind, Result.andThen_ok, Sem.run_pure]
 | some u =>
  rw [h1] at hz
  obtain ⟨ty, hty, hni⟩ := hz
  have hm : (match ty with | .int _ => true | _ => false) = false := by
   cases ty <;> first | rfl | exact absurd rfl (hni _)
  simp only [ht, h1, List.getElem?_toArray, List.getElem?_cons_zero, List.getElem?_cons_succ, Sem.run_bind, run_underlying hu, run_underlying hty, Result.andThen_ok, sizeT_run hs, Sem.run_pure, hm, Bool.false_eq_true, if_false, hl, hle, if_true, Bool.not_false, hn]
  cases base with
  | none => simp only at hst; subst hst; rfl
  | some ad => simp only at hst; simp only [hst, Sem.run_bind, Result.andThen_ok, Sem.run_pure]
theorem cap_fit {need cap by' : Nat} (h : need * (by' + 1) ≤ lim) (hb : by' ≤ 1048576) (hc : cap < need) : ¬ (Builtin.nextslicecap need cap * by' > 2 ^ 48) := by
 have g1 : ∀ (r c : Nat), c ≤ 2 * need → Builtin.growBy need r c ≤ 2 * need + 192 := by
  intro r
  induction r with
  | zero => intro c hc; simp [Builtin.growBy]; omega
  | succ r ih =>
   intro c hc
   simp only [Builtin.growBy]
   split
   ·omega
   ·rename_i hlt
    by_cases hh : c + (c + 768) / 4 ≤ 2 * need
    ·exact ih _ hh
    ·have : c + (c + 768) / 4 ≥ need := by omega
     cases r with
     | zero => simp [Builtin.growBy]; omega
     | succ r => simp only [Builtin.growBy]; rw [if_pos this]; omega
 have g2 : Builtin.nextslicecap need cap ≤ 2 * need + 192 := by
  unfold Builtin.nextslicecap
  split
  ·omega
  ·split
   ·omega
   ·exact g1 4 cap (by omega)
 have g3 : need * by' + need ≤ lim := by rw [← Nat.mul_succ]; exact h
 have g4 : Builtin.nextslicecap need cap * by' ≤ (2 * need + 192) * by' := Nat.mul_le_mul_right _ g2
 have g5 : (2 * need + 192) * by' = 2 * (need * by') + 192 * by' := by rw [Nat.add_mul, Nat.mul_assoc]
 simp [lim] at g3
 omega
theorem append_grow {ts : Array TypeId} {T t e : TypeId} {sz n sLen sCap by' : Nat} {base : Option Addr} {x' : Value} {new old : Array Value} {zs : List AV} (ht : ts[0]? = some t) (hu : P.underlying t = some (.slice e)) (hs : sizeT P e = some sz) (hz : notInt P ts)
  (hb : bytesT P e = some by') (hzs : zerosT P e = some zs) (hb2 : by' ≤ 1048576) (hfit : (sLen + n) * (by' + 1) ≤ lim)
  (hl : (Builtin.lenOf x').run P w = .ok n w) (hn : ∀ w1 : World, w1.heap = w.heap → w1.os = w.os → w1.tape = w.tape → w1.output = w.output → (Builtin.firstCells sz n x').run P w1 = .ok new w1) (ho : ∀ w1 : World, w1.heap = w.heap → w1.os = w.os → w1.tape = w.tape → w1.output = w.output → (Builtin.firstCells sz sLen (.slice base sLen sCap)).run P w1 = .ok old w1) (hgt : ¬ sLen + n ≤ sCap) :
  ∃ C rest w', sLen + n ≤ C ∧ (Builtin.append_ ts T #[.slice base sLen sCap, x']).run P w = .ok (.slice (some ⟨w.heap.size, 0, none⟩) (sLen + n) C) w' ∧ Pushed w w' (.cells (old ++ new ++ rest) e) ∧ rest.size = (C - (sLen + n)) * sz ∧ one rest.toList := by
 obtain ⟨z, n', c1, c2, c3, c4, c5⟩ := zerosT_run (w := w) (ι := fun _ _ => none) (w0 := w) hzs
 have c1w : ∀ w1 : World, (zeroValue e).run P w1 = .ok z w1 := by
  intro w1
  obtain ⟨z2, _, q1, _⟩ := zerosT_run (w := w1) (ι := fun _ _ => none) (w0 := w1) hzs
  unfold zerosT zeroT at hzs
  cases hi : P.info? e with
  | none => simp [hi] at hzs
  | some i =>
   cases hzz : i.zero with
   | none => simp [hi, hzz] at hzs
   | some v =>
    simp [zeroValue, run_typeInfo w hi, hzz] at c1
    simp [zeroValue, run_typeInfo w1 hi, hzz, c1]
 rw [hs] at c2
 cases c2
 have hzl : z.cells.size = sz := by have := relL_length c4; simp at this; omega
 obtain ⟨inf, i1, i2⟩ := bytesT_run (w := w) hb
 have i1w : ∀ w1 : World, (typeInfo e).run P w1 = .ok inf w1 := by
  intro w1
  unfold bytesT at hb
  cases hi : P.info? e with
  | none => simp [hi] at hb
  | some i => simp [typeInfo, hi] at i1 ⊢; exact i1
 have hcap := cap_fit hfit hb2 (Nat.lt_of_not_le hgt)
 have hneed : ¬ (((sLen + n : Nat) : Int) > IntKind.i64.max) := by
  have : sLen + n ≤ lim := Nat.le_trans (Nat.le_mul_of_pos_right _ (by omega)) hfit
  simp only [IntKind.max, IntKind.signed, IntKind.bits, lim] at this ⊢
  simp
  omega
 obtain ⟨C, hC, w1, g1, g2, g3, g4, g5⟩ : ∃ C, sLen + n ≤ C ∧ ∃ w1 : World, (choose (.appendCap (sLen + n) sCap e)).run P w = .ok C w1 ∧ w1.heap = w.heap ∧ w1.os = w.os ∧ w1.tape = w.tape ∧ w1.output = w.output := by
  refine ⟨sLen + n + w.tape w.drawn (.appendCap (sLen + n) sCap e) % (2 ^ 63 - (sLen + n)), by omega, { w with drawn := w.drawn + 1 }, ?_, rfl, rfl, rfl, rfl⟩
  rw [run_choose]
  simp [Question.forced, Question.cut]
 refine ⟨C, Builtin.zeroCells z.cells (C - (sLen + n)), { w1 with heap := w1.heap.push (.cells (old ++ new ++ Builtin.zeroCells z.cells (C - (sLen + n))) e) }, hC, ?_, ⟨by rw [g2], g3, g4, g5⟩, ?_, ?_⟩
 ·unfold Builtin.append_
  unfold notInt at hz
  cases h1 : ts[1]? with
  | none =>
   simp only [ht, h1, List.getElem?_toArray, List.getElem?_cons_zero, List.getElem?_cons_succ, Sem.run_bind, run_underlying hu, Result.andThen_ok, sizeT_run hs, Sem.run_pure, Bool.false_eq_true, if_false, hl, hgt, Bool.not_false, if_true,
    i1, i1w, i2, hneed, false_and, hcap, g1, run_askRoom, hn w1 g2 g3 g4 g5, ho w1 g2 g3 g4 g5, c1w]
   rw [newRow_run]
   simp only [Result.andThen_ok, Sem.run_pure, g2]
  | some u =>
   rw [h1] at hz
   obtain ⟨ty, hty, hni⟩ := hz
   have hm : (match ty with | .int _ => true | _ => false) = false := by
    cases ty <;> first | rfl | exact absurd rfl (hni _)
   simp only [ht, h1, List.getElem?_toArray, List.getElem?_cons_zero, List.getElem?_cons_succ, Sem.run_bind, run_underlying hu, run_underlying hty, Result.andThen_ok, sizeT_run hs, Sem.run_pure, hm, Bool.false_eq_true, if_false, hl, hgt, Bool.not_false, if_true,
    i1, i1w, i2, hneed, false_and, hcap, g1, run_askRoom, hn w1 g2 g3 g4 g5, ho w1 g2 g3 g4 g5, c1w]
   rw [newRow_run]
   simp only [Result.andThen_ok, Sem.run_pure, g2]
 ·simp [Builtin.zeroCells, hzl]
 ·intro v hv
  simp [Builtin.zeroCells] at hv
  obtain ⟨i, hi, rfl⟩ := hv
  by_cases hz0 : z.cells.size = 0
  ·rw [hz0] at hi; simp at hi
  ·have hlt := Nat.mod_lt i (show 0 < z.cells.size by omega)
   apply c5
   rw [getElem!_pos z.cells _ hlt]
   simp
end
end Go.Abs
