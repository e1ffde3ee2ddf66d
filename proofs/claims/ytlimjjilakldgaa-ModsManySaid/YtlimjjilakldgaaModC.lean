/- Contracts: the known cases answer true. -/
import Derived.Test.YtlimjjilakldgaaModB
set_option autoImplicit false
set_option maxRecDepth 100000
set_option linter.unusedVariables false
set_option linter.unusedSimpArgs false
namespace Go.Proofs.Ytlimjjilakldgaa
open Go Go.Abs
/-! Contracts of calls as stand-ins of the evaluator. -/
open Classical in
theorem PT.det {f : FuncId} {args : List AV} {v : AV} (h : PT Try.prog false f args v) (ha : args.all flatV = true) (hv : flatV v = true) (s : St) : MDet Try.prog f args s v s := by
  obtain ⟨w, s1, h1, _, _, _, _, rfl⟩ := h ⟨.e, 0⟩ ⟨by simp [idsM], by simp⟩
  have hg : SoundF Try.prog f (fun a t => if a = args ∧ t = ⟨.e, 0⟩ then some (w, s1) else none) := by
    intro a t v' s' e
    dsimp only at e
    split at e
    · rename_i h2
      obtain ⟨rfl, rfl⟩ := h2
      cases e
      exact h1
    · cases e
  refine ⟨h1.1, Keeps.refl _ _, ?_⟩
  intro ι w0 X w' args' hs hr
  refine (start_calls hg (if_pos ⟨rfl, rfl⟩) (W := w') (args' := args') (flat_relL ha hr)).mono ?_
  rintro e w2 ⟨v', κ, rfl, r1, r2⟩
  exact ⟨v', ι, rfl, IM.le_refl _, flat_rel hv r1, SR_below hs r2⟩
def g42 : List AV → St → Option (AV × St)
  | [.str [x]], s => bif Nat.beq x 109 then some (.bool true, s) else bif Nat.beq x 102 then some (.bool true, s) else bif Nat.beq x 103 then some (.bool true, s) else none
  | [.str []], s => some (.bool false, s)
  | _, _ => none
theorem g42_sound : SoundF Try.prog 42 g42 := by
  intro args s v s' h
  unfold g42 at h
  split at h
  · rename_i x
    cases e : Nat.beq x 109 with
    | true =>
      rw [e] at h; cases h
      rw [Nat.eq_of_beq_eq_true e]
      exact PT.det (v := .bool true) (name17 (s := [109]) ⟨by decide, by decide⟩) rfl rfl s
    | false =>
      cases e2 : Nat.beq x 102 with
      | true =>
        rw [e, e2] at h; cases h
        rw [Nat.eq_of_beq_eq_true e2]
        exact PT.det (v := .bool true) (name17 (s := [102]) ⟨by decide, by decide⟩) rfl rfl s
      | false =>
        cases e3 : Nat.beq x 103 with
        | true =>
          rw [e, e2, e3] at h; cases h
          rw [Nat.eq_of_beq_eq_true e3]
          exact PT.det (v := .bool true) (name17 (s := [103]) ⟨by decide, by decide⟩) rfl rfl s
        | false => rw [e, e2, e3] at h; cases h
  · cases h
    exact PT.det (v := .bool false) (name17 (s := []) ⟨by decide, by decide⟩) rfl rfl s
  · cases h
theorem plain42 : Sound Try.prog (acall (comp Try.prog) (single 42 g42) 60) := acall_ok mixed (single_sound g42_sound) 60
set_option maxRecDepth 1000000 in
theorem known8_run : ans (acall (comp Try.prog) (single 42 g42) 60 8 [] ⟨.e, 0⟩) = some (.bool true) := by kernel_rfl
theorem known8 : PT Try.prog false 8 [] (.bool true) := PT.run plain42 known8_run rfl rfl
end Go.Proofs.Ytlimjjilakldgaa
