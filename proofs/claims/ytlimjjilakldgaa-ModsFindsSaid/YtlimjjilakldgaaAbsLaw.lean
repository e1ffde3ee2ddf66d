/- A law's row, out of what the evaluator tells of the law. -/
import Derived.Test.YtlimjjilakldgaaAbsArg
set_option autoImplicit false
set_option linter.unusedSimpArgs false
set_option linter.unusedVariables false
namespace Go.Abs
open Go Go.RowKit Go.ChangeShapes Go.WideShapes

def okArgs : List (Bool × List Sh) → List AV → Prop
  | [], xs => xs = []
  | s :: r, xs => ∃ x ys, xs = x :: ys ∧ okA s.1 s.2 x ∧ okArgs r ys

section
variable {H : Type} {enc : TypeId × Value → H} {P : Program}

theorem args_open {W : World} {base : Nat} : ∀ {specs : List (Bool × List Sh)} {ts : List TypeId} {vs : List Value} {ds : List (DataW H)} {ps : List MemPlace}, ts.map (fun t => (aggT P t, shs P 8 t)) = specs.map (fun s => (some s.1, some s.2)) →
    (∀ (j : Nat) t v, ts[j]? = some t → vs[j]? = some v → Value.okWide P W .any base t v) → DataW.TrodAll enc P W 0 (fun _ => true) true ts vs ds ps → ∃ xs, relL ι0 W xs vs ∧ okArgs specs xs ∧ ds.length = ts.length
  | specs, [], vs, ds, ps, hs, hv, hA => by
    obtain ⟨rfl, rfl, rfl⟩ := trodAll_nil hA
    cases specs with
    | nil => exact ⟨[], by simp [relL], by simp [okArgs], rfl⟩
    | cons s r => simp at hs
  | specs, t :: ts, vs, ds, ps, hs, hv, hA => by
    obtain ⟨v, vs', d, ds', p, q, rfl, rfl, rfl, h1, h2⟩ := trodAll_cons hA
    cases specs with
    | nil => simp at hs
    | cons s r =>
      simp only [List.map_cons, List.cons.injEq, Prod.mk.injEq] at hs
      obtain ⟨⟨hs1, hs2⟩, hs3⟩ := hs
      obtain ⟨x, rx, ox⟩ := arg_open hs2 hs1 (hv 0 t v rfl rfl) h1
      obtain ⟨xs, rxs, oxs, hl⟩ := args_open (specs := r) hs3 (fun j t' v' h3 h4 => hv (j + 1) t' v' (by simpa using h3) (by simpa using h4)) h2
      exact ⟨x :: xs, by simp only [relL]; exact ⟨v, vs', rfl, rx, rxs⟩, by simp only [okArgs]; exact ⟨x, xs, rfl, ox, oxs⟩, by simp [hl]⟩

/-- THE CONTRACT THAT A ROW ASKS. -/
theorem law_contract_of {f : FuncId} {g : List AV → St → Option (AV × St)} (hg : SoundF P f g) {fn : Func} {s : ChangeSpec} {handsOn fresh apart : Bool} (hl : laidOutB P = true) (hv : s.vars = []) (hp : (fn.params.toList.all fun t => P.readableRec t && decide (t < P.types.size)) = true)
    {rt : TypeId} (hr : fn.resultTypes = #[rt]) (hu : P.underlying rt = some .bool) (hs : ∀ ds : List (DataW H), ds.length = fn.params.toList.length → s.fn H (ds ++ []) = { results := [.lit (.bool true)], args := ds })
    {specs : List (Bool × List Sh)} (hspec : fn.params.toList.map (fun t => (aggT P t, shs P 8 t)) = specs.map (fun s => (some s.1, some s.2))) (told : ∀ xs, okArgs specs xs → ans (g xs ⟨.e, 0⟩) = some (.bool true))
    (W : World) (base : Nat) (args : Array Value) (ds gs : List (DataW H)) (before : List MemPlace) (hval : ∀ (j : Nat) t v, fn.params[j]? = some t → args[j]? = some v → Value.okWide P W .any base t v)
    (hW : DataW.Whole enc P fn.params.toList s.vars apart W args.toList ds gs before) : Calls P f args W fun e W' => ∃ v, e = .returned v ∧ s.post enc P fn apart fresh handsOn false W args v W' := by
  have hW2 := hW
  obtain ⟨p, q, hA, hV, rfl, hfz, hnd⟩ := hW
  rw [hv] at hV
  obtain ⟨rfl, rfl⟩ := trodVars_none hV
  obtain ⟨xs, rx, ox, hlen⟩ := args_open hspec (fun j t v h1 h2 => hval j t v (by simpa using h1) (by simpa using h2)) hA
  obtain ⟨s', h⟩ := ans_some (told xs ox)
  refine (law_true hg h rx).mono ?_
  rintro e W' ⟨rfl, hb⟩
  exact ⟨_, rfl, law_post hl hv hp hr hu (hs ds hlen) hW2 hb⟩

theorem law_contract {g : CallF} (hg : Sound P g) {f : FuncId} {fn : Func} {s : ChangeSpec} {handsOn fresh apart : Bool} (hl : laidOutB P = true) (hv : s.vars = []) (hp : (fn.params.toList.all fun t => P.readableRec t && decide (t < P.types.size)) = true)
    {rt : TypeId} (hr : fn.resultTypes = #[rt]) (hu : P.underlying rt = some .bool) (hs : ∀ ds : List (DataW H), ds.length = fn.params.toList.length → s.fn H (ds ++ []) = { results := [.lit (.bool true)], args := ds })
    {specs : List (Bool × List Sh)} (hspec : fn.params.toList.map (fun t => (aggT P t, shs P 8 t)) = specs.map (fun s => (some s.1, some s.2))) (told : ∀ xs, okArgs specs xs → ans (g f xs ⟨.e, 0⟩) = some (.bool true))
    (W : World) (base : Nat) (args : Array Value) (ds gs : List (DataW H)) (before : List MemPlace) (hval : ∀ (j : Nat) t v, fn.params[j]? = some t → args[j]? = some v → Value.okWide P W .any base t v)
    (hW : DataW.Whole enc P fn.params.toList s.vars apart W args.toList ds gs before) : Calls P f args W fun e W' => ∃ v, e = .returned v ∧ s.post enc P fn apart fresh handsOn false W args v W' :=
  law_contract_of (hg.at f) hl hv hp hr hu hs hspec told W base args ds gs before hval hW
end
end Go.Abs
