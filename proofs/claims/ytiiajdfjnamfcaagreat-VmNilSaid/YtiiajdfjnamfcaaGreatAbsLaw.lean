/- A law's row, out of what the evaluator tells of the law. -/
import Derived.Test.YtiiajdfjnamfcaaGreatAbsArg
set_option autoImplicit false
set_option linter.unusedSimpArgs false
set_option linter.unusedVariables false
namespace Go.Abs
open Go Go.RowKit Go.ChangeShapes Go.WideShapes
def okArgs : List (Bool × List Sh) → List AV → Prop
 | [], xs => xs = []
 | s :: r, xs => ∃ x ys, xs = x :: ys ∧ okA s.1 s.2 x ∧ okArgs r ys
section
variable {H : Type} {enc : TypeId × Value → H} {P : Program}
theorem args_open {W : World} {base : Nat} : ∀ {specs : List (Bool × List Sh)} {ts : List TypeId} {vs : List Value} {ds : List (DataW H)} {ps : List MemPlace}, ts.map (fun t => (aggT P t, shs P 8 t)) = specs.map (fun s => (some s.1, some s.2)) →
  (∀ (j : Nat) t v, ts[j]? = some t → vs[j]? = some v → Value.okWide P W .any base t v) → DataW.TrodAll enc P W 0 (fun _ => true) true ts vs ds ps → ∃ xs, relL ι0 W xs vs ∧ okArgs specs xs ∧ ds.length = ts.length
 | specs, [], vs, ds, ps, hs, hv, hA => by
  obtain ⟨rfl, rfl, rfl⟩ := trodAll_nil hA
  cases specs with
  | nil => exact ⟨[], by simp [relL], by simp [okArgs], rfl⟩
  | cons s r => simp at hs
 | specs, t :: ts, vs, ds, ps, hs, hv, hA => by
  obtain ⟨v, vs', d, ds', p, q, rfl, rfl, rfl, h1, h2⟩ := trodAll_cons hA
  cases specs with
  | nil => simp at hs
  | cons s r =>
   simp only [List.map_cons, List.cons.injEq, Prod.mk.injEq] at hs
   obtain ⟨⟨hs1, hs2⟩, hs3⟩ := hs
   obtain ⟨x, rx, ox⟩ := arg_open hs2 hs1 (hv 0 t v rfl rfl) h1
   obtain ⟨xs, rxs, oxs, hl⟩ := args_open (specs := r) hs3 (fun j t' v' h3 h4 => hv (j + 1) t' v' (by simpa using h3) (by simpa using h4)) h2
   exact ⟨x :: xs, by simp only [relL]; exact ⟨v, vs', rfl, rx, rxs⟩, by simp only [okArgs]; exact ⟨x, xs, rfl, ox, oxs⟩, by simp [hl]⟩
end
end Go.Abs
